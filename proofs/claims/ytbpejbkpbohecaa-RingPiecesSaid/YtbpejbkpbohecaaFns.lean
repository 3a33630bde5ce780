/- The lifted forms of this seat's functions, printed by a program; each is met by the kernel. -/
import Derived.Test.YtbpejbkpbohecaaLift
import Derived.Test.YtbpejbkpbohecaaProg
set_option linter.unusedVariables false
namespace Go.Proofs.Ytbpejbkpbohecaa
open Go
-- F3 subway/subwaylaw07.RingPlays
def F3 (most1 : Int) (l2p : Option Addr) (l2n : Nat) (l2c : Nat) (w3 : World) (R : Value → World → Prop) : Prop :=
  CallR Try.prog 9 #[] w3 fun v4 w5 =>
  AsB v4 fun x6 =>
  CallR Try.prog 10 #[(Value.int .i64 most1)] w5 fun v7 w8 =>
  AsP v7 fun x9 =>
  CallR Try.prog 11 #[(Value.int .i64 most1)] w8 fun v10 w11 =>
  AsP v10 fun x12 =>
  Bif (isNone' x9) (
  Bif (!(isNone' x9)) (
  R (Value.bool x6) w11) (
  R (Value.bool false) w11)) (
  CallR Try.prog 12 #[(Value.slice l2p l2n l2c)] w11 fun v13 w14 =>
  AsB v13 fun x15 =>
  Bif x15 (
  Bif (!(isNone' x9)) (
  R (Value.bool x6) w14) (
  R (Value.bool false) w14)) (
  Lp fun I16 mu17 =>
  I16 [(Value.int .i64 0)] w14 ∧
  ∀ (i18 : Int), ∀ w19, I16 [(Value.int .i64 i18)] w19 →
  Bif (decide (i18 < (l2n : Int))) (
  IxP l2p l2n i18 3 fun a20 =>
  LdI .i64 (Addr.add a20 0) w19 fun x21 =>
  Jn fun J22 => (
  Bif (x21 == 2) (
  IxP l2p l2n i18 3 fun a23 =>
  LdI .i64 (Addr.add a23 2) w19 fun x24 =>
  CallR Try.prog 13 #[(Value.pointer x9), (Value.int .i64 x24)] w19 fun v25 w26 =>
  AsL v25 fun x27p x27n x27c =>
  IxP l2p l2n i18 3 fun a28 =>
  LdI .i64 (Addr.add a28 2) w26 fun x29 =>
  CallR Try.prog 14 #[(Value.pointer x12), (Value.int .i64 x29)] w26 fun v30 w31 =>
  AsL v30 fun x32p x32n x32c =>
  Run Try.prog (convert 29 9 (Value.slice x27p x27n x27c)) w31 fun v33 w34 =>
  AsS v33 fun x35 =>
  Run Try.prog (convert 29 9 (Value.slice x32p x32n x32c)) w34 fun v36 w37 =>
  AsS v36 fun x38 =>
  Bif (!(ByteArray.toList x35 == ByteArray.toList x38)) (
  R (Value.bool false) w37) (
  J22 [] w37)) (
  IxP l2p l2n i18 3 fun a39 =>
  LdL (Addr.add a39 1) w19 fun x40p x40n x40c =>
  CallR Try.prog 15 #[(Value.pointer x9), (Value.slice x40p x40n x40c)] w19 fun v41 w42 =>
  AsI .i64 v41 fun x43 =>
  IxP l2p l2n i18 3 fun a44 =>
  LdL (Addr.add a44 1) w42 fun x45p x45n x45c =>
  CallR Try.prog 16 #[(Value.pointer x12), (Value.slice x45p x45n x45c)] w42 fun v46 w47 =>
  AsI .i64 v46 fun x48 =>
  Bif (x43 != x48) (
  R (Value.bool false) w47) (
  J22 [] w47))) ∧
  ∀ w49, J22 [] w49 →
  ∃ (C50 : Cls), Cls.p C50 [] w49 ∧
  NilP x12 fun a51 =>
  ∃ (x52 : Int), Qt C50 (Value.int .i64 x52) (fun w53 K54 =>
  CallR Try.prog 17 #[(Value.pointer x9)] w53 fun v55 w56 =>
  AsI .i64 v55 fun x57 =>
  K54 (Value.int .i64 x57) w56) ∧
  ∃ (x58p : Option Addr) (x58n : Nat) (x58c : Nat), Qt C50 (Value.slice x58p x58n x58c) (fun w59 K60 =>
  LdL (Addr.add a51 0) w59 fun x61p x61n x61c =>
  K60 (Value.slice x61p x61n x61c) w59) ∧
  Bif (x52 != (x58n : Int)) (
  ∀ G62 w63, Cls.p C50 G62 w63 →
  R (Value.bool false) w63) (
  NilP x12 fun a64 =>
  NilP x12 fun a65 =>
  ∃ (x66 : Int), Qt C50 (Value.int .i64 x66) (fun w67 K68 =>
  CallR Try.prog 18 #[(Value.pointer x9)] w67 fun v69 w70 =>
  AsI .i64 v69 fun x71 =>
  K68 (Value.int .i64 x71) w70) ∧
  ∃ (x72 : Int), Qt C50 (Value.int .i64 x72) (fun w73 K74 =>
  LdI .i64 (Addr.add a64 1) w73 fun x75 =>
  K74 (Value.int .i64 x75) w73) ∧
  ∃ (x76p : Option Addr) (x76n : Nat) (x76c : Nat), Qt C50 (Value.slice x76p x76n x76c) (fun w77 K78 =>
  LdL (Addr.add a65 0) w77 fun x79p x79n x79c =>
  K78 (Value.slice x79p x79n x79c) w77) ∧
  Bif (x66 != (IntKind.wrap .i64 (x72 - (x76n : Int)))) (
  ∀ G80 w81, Cls.p C50 G80 w81 →
  R (Value.bool false) w81) (
  NilP x12 fun a82 =>
  ∃ (x83p : Option Addr) (x83n : Nat) (x83c : Nat), Qt C50 (Value.slice x83p x83n x83c) (fun w84 K85 =>
  LdL (Addr.add a82 0) w84 fun x86p x86n x86c =>
  K85 (Value.slice x86p x86n x86c) w84) ∧
  ∃ (x87 : ByteArray), Qt C50 (Value.string x87) (fun w88 K89 =>
  Run Try.prog (convert 29 9 (Value.slice x83p x83n x83c)) w88 fun v90 w91 =>
  AsS v90 fun x92 =>
  K89 (Value.string x92) w91) ∧
  ∃ (D94 : Value → Cls), (∀ G95 w96, Cls.p C50 G95 w96 →
  CallR Try.prog 19 #[(Value.pointer x9)] w96 fun v97 w98 =>
  AsL v97 fun x99p x99n x99c =>
  isR [.b .slice] (Value.slice x99p x99n x99c) ∧ Cls.p (D94 (Value.slice x99p x99n x99c)) G95 w98) ∧
  ∀ (x93p : Option Addr) (x93n : Nat) (x93c : Nat), (Qt (D94 (Value.slice x93p x93n x93c)) (Value.string x87) (fun w100 K101 =>
  Run Try.prog (convert 29 9 (Value.slice x83p x83n x83c)) w100 fun v102 w103 =>
  AsS v102 fun x104 =>
  K101 (Value.string x104) w103) ∧
  Qt (D94 (Value.slice x93p x93n x93c)) (Value.slice x83p x83n x83c) (fun w105 K106 =>
  LdL (Addr.add a82 0) w105 fun x107p x107n x107c =>
  K106 (Value.slice x107p x107n x107c) w105)) ∧
  ∃ (x108 : ByteArray), Qt (D94 (Value.slice x93p x93n x93c)) (Value.string x108) (fun w109 K110 =>
  Run Try.prog (convert 29 9 (Value.slice x93p x93n x93c)) w109 fun v111 w112 =>
  AsS v111 fun x113 =>
  K110 (Value.string x113) w112) ∧
  ∀ G114 w115, Cls.p (D94 (Value.slice x93p x93n x93c)) G114 w115 →
  Bif (!(ByteArray.toList x108 == ByteArray.toList x87)) (
  R (Value.bool false) w115) (
  I16 [(Value.int .i64 (IntKind.wrap .i64 (i18 + 1)))] w115 ∧ mu17 [(Value.int .i64 (IntKind.wrap .i64 (i18 + 1)))] w115 < mu17 [(Value.int .i64 i18)] w19)))) (
  R (Value.bool x6) w19)))
theorem F3_eq (most1 : Int) (l2p : Option Addr) (l2n : Nat) (l2c : Nat) (w3 : World) (R : Value → World → Prop) : liftF Try.prog 3 (.step .nil .nil (.step .nil .nil (.step .nil .nil (.step .nil .nil (.step .nil .nil (.step .nil .nil (.step .nil .nil (.step (.loop [(8, .b (.int .i64))] (.step .nil .nil (.step .nil .nil (.step (.step .nil .nil (.join 1 [] .nil (.draw [(0, false), (2, false), (3, false), (4, false), (1, false), (5, false), (6, false), (7, false), (8, false), (9, false), (11, false), (12, false), (13, false), (15, false), (16, false), (17, false), (10, false), (14, false), (18, false), (19, false), (20, false), (21, false), (22, false), (23, false), (24, false), (27, false), (28, false), (29, false), (30, false), (31, false), (25, true), (26, false), (32, false), (33, false)] .nil))) .nil .nil)))) .nil .nil)))))))) [(Value.int .i64 most1), (Value.slice l2p l2n l2c)] w3 R = F3 most1 l2p l2n l2c w3 R := by kernel_rfl
theorem F3_of {most1 : Int} {l2p : Option Addr} {l2n : Nat} {l2c : Nat} {w3 : World} {R : Value → World → Prop} (h : F3 most1 l2p l2n l2c w3 R) : CallR Try.prog 3 #[(Value.int .i64 most1), (Value.slice l2p l2n l2c)] w3 R := callR_of_lift _ ((F3_eq most1 l2p l2n l2c w3 R).mpr h)

-- F4 subway/subwaylaw07.RingOrder
def F4 (most1 : Int) (l2p : Option Addr) (l2n : Nat) (l2c : Nat) (w3 : World) (R : Value → World → Prop) : Prop :=
  CallR Try.prog 9 #[] w3 fun v4 w5 =>
  AsB v4 fun x6 =>
  CallR Try.prog 10 #[(Value.int .i64 (IntKind.wrap .i64 most1))] w5 fun v7 w8 =>
  AsP v7 fun x9 =>
  Bif (isNone' x9) (
  Bif (!(isNone' x9)) (
  R (Value.bool x6) w8) (
  R (Value.bool false) w8)) (
  CallR Try.prog 12 #[(Value.slice l2p l2n l2c)] w8 fun v10 w11 =>
  AsB v10 fun x12 =>
  Bif x12 (
  Bif (!(isNone' x9)) (
  R (Value.bool x6) w11) (
  R (Value.bool false) w11)) (
  Lp fun I13 mu14 =>
  I13 [(Value.string ⟨#[]⟩), (Value.string ⟨#[]⟩), (Value.int .i64 0)] w11 ∧
  ∀ (inv15 : ByteArray), ∀ (out16 : ByteArray), ∀ (i17 : Int), ∀ w18, I13 [(Value.string inv15), (Value.string out16), (Value.int .i64 i17)] w18 →
  Bif (decide (i17 < (l2n : Int))) (
  IxP l2p l2n i17 3 fun a19 =>
  LdI .i64 (Addr.add a19 0) w18 fun x20 =>
  Bif (x20 == 2) (
  IxP l2p l2n i17 3 fun a21 =>
  LdI .i64 (Addr.add a21 2) w18 fun x22 =>
  CallR Try.prog 13 #[(Value.pointer x9), (Value.int .i64 x22)] w18 fun v23 w24 =>
  AsL v23 fun x25p x25n x25c =>
  Run Try.prog (convert 29 9 (Value.slice x25p x25n x25c)) w24 fun v26 w27 =>
  AsS v26 fun x28 =>
  CatK out16 x28 (
  I13 [(Value.string inv15), (Value.string (out16 ++ x28)), (Value.int .i64 (IntKind.wrap .i64 (i17 + 1)))] w27 ∧ mu14 [(Value.string inv15), (Value.string (out16 ++ x28)), (Value.int .i64 (IntKind.wrap .i64 (i17 + 1)))] w27 < mu14 [(Value.string inv15), (Value.string out16), (Value.int .i64 i17)] w18)) (
  IxP l2p l2n i17 3 fun a29 =>
  LdL (Addr.add a29 1) w18 fun x30p x30n x30c =>
  CallR Try.prog 15 #[(Value.pointer x9), (Value.slice x30p x30n x30c)] w18 fun v31 w32 =>
  AsI .i64 v31 fun x33 =>
  Bif (decide (x33 < 0)) (
  R (Value.bool false) w32) (
  IxP l2p l2n i17 3 fun a34 =>
  LdL (Addr.add a34 1) w32 fun x35p x35n x35c =>
  Bif (decide (x33 > (x35n : Int))) (
  R (Value.bool false) w32) (
  IxP l2p l2n i17 3 fun a36 =>
  LdL (Addr.add a36 1) w32 fun x37p x37n x37c =>
  SlP x37p x37n x37c 1 0 x33 fun x38p x38n x38c =>
  Run Try.prog (convert 29 9 (Value.slice x38p x38n x38c)) w32 fun v39 w40 =>
  AsS v39 fun x41 =>
  CatK inv15 x41 (
  I13 [(Value.string (inv15 ++ x41)), (Value.string out16), (Value.int .i64 (IntKind.wrap .i64 (i17 + 1)))] w40 ∧ mu14 [(Value.string (inv15 ++ x41)), (Value.string out16), (Value.int .i64 (IntKind.wrap .i64 (i17 + 1)))] w40 < mu14 [(Value.string inv15), (Value.string out16), (Value.int .i64 i17)] w18))))) (
  Bif x6 (
  CallR Try.prog 19 #[(Value.pointer x9)] w18 fun v42 w43 =>
  AsL v42 fun x44p x44n x44c =>
  Run Try.prog (convert 29 9 (Value.slice x44p x44n x44c)) w43 fun v45 w46 =>
  AsS v45 fun x47 =>
  CatK out16 x47 (
  R (Value.bool (ByteArray.toList (out16 ++ x47) == ByteArray.toList inv15)) w46)) (
  R (Value.bool false) w18))))
theorem F4_eq (most1 : Int) (l2p : Option Addr) (l2n : Nat) (l2c : Nat) (w3 : World) (R : Value → World → Prop) : liftF Try.prog 4 (.step .nil .nil (.step .nil .nil (.step .nil .nil (.step .nil .nil (.step .nil .nil (.step .nil .nil (.step .nil .nil (.step .nil .nil (.step (.loop [(7, .b .str), (8, .b .str), (9, .b (.int .i64))] .nil) .nil .nil))))))))) [(Value.int .u8 most1), (Value.slice l2p l2n l2c)] w3 R = F4 most1 l2p l2n l2c w3 R := by kernel_rfl
theorem F4_of {most1 : Int} {l2p : Option Addr} {l2n : Nat} {l2c : Nat} {w3 : World} {R : Value → World → Prop} (h : F4 most1 l2p l2n l2c w3 R) : CallR Try.prog 4 #[(Value.int .u8 most1), (Value.slice l2p l2n l2c)] w3 R := callR_of_lift _ ((F4_eq most1 l2p l2n l2c w3 R).mpr h)

-- F5 subway/subwaylaw07.RingBound
def F5 (most1 : Int) (l2p : Option Addr) (l2n : Nat) (l2c : Nat) (w3 : World) (R : Value → World → Prop) : Prop :=
  CallR Try.prog 9 #[] w3 fun v4 w5 =>
  AsB v4 fun x6 =>
  CallR Try.prog 10 #[(Value.int .i64 (IntKind.wrap .i64 most1))] w5 fun v7 w8 =>
  AsP v7 fun x9 =>
  Bif (isNone' x9) (
  Bif (!(isNone' x9)) (
  R (Value.bool x6) w8) (
  R (Value.bool false) w8)) (
  CallR Try.prog 12 #[(Value.slice l2p l2n l2c)] w8 fun v10 w11 =>
  AsB v10 fun x12 =>
  Bif x12 (
  Bif (!(isNone' x9)) (
  R (Value.bool x6) w11) (
  R (Value.bool false) w11)) (
  Lp fun I13 mu14 =>
  I13 [(Value.int .i64 0)] w11 ∧
  ∀ (i15 : Int), ∀ w16, I13 [(Value.int .i64 i15)] w16 →
  Bif (decide (i15 < (l2n : Int))) (
  CallR Try.prog 17 #[(Value.pointer x9)] w16 fun v17 w18 =>
  AsI .i64 v17 fun x19 =>
  CallR Try.prog 18 #[(Value.pointer x9)] w18 fun v20 w21 =>
  AsI .i64 v20 fun x22 =>
  Bif ((IntKind.wrap .i64 (x19 + x22)) != (IntKind.wrap .i64 most1)) (
  R (Value.bool false) w21) (
  IxP l2p l2n i15 3 fun a23 =>
  LdI .i64 (Addr.add a23 0) w21 fun x24 =>
  Bif (x24 == 2) (
  IxP l2p l2n i15 3 fun a25 =>
  LdI .i64 (Addr.add a25 2) w21 fun x26 =>
  CallR Try.prog 13 #[(Value.pointer x9), (Value.int .i64 x26)] w21 fun v27 w28 =>
  AsL v27 fun x29p x29n x29c =>
  IxP l2p l2n i15 3 fun a30 =>
  LdI .i64 (Addr.add a30 2) w28 fun x31 =>
  Bif ((x29n : Int) != (if x19 < (if 0 > x31 then 0 else x31) then x19 else (if 0 > x31 then 0 else x31))) (
  R (Value.bool false) w28) (
  CallR Try.prog 17 #[(Value.pointer x9)] w28 fun v32 w33 =>
  AsI .i64 v32 fun x34 =>
  Bif (x34 != (IntKind.wrap .i64 (x19 - (x29n : Int)))) (
  R (Value.bool false) w33) (
  I13 [(Value.int .i64 (IntKind.wrap .i64 (i15 + 1)))] w33 ∧ mu14 [(Value.int .i64 (IntKind.wrap .i64 (i15 + 1)))] w33 < mu14 [(Value.int .i64 i15)] w16))) (
  IxP l2p l2n i15 3 fun a35 =>
  LdL (Addr.add a35 1) w21 fun x36p x36n x36c =>
  CallR Try.prog 15 #[(Value.pointer x9), (Value.slice x36p x36n x36c)] w21 fun v37 w38 =>
  AsI .i64 v37 fun x39 =>
  IxP l2p l2n i15 3 fun a40 =>
  LdL (Addr.add a40 1) w38 fun x41p x41n x41c =>
  Bif (x39 != (if x22 < (x41n : Int) then x22 else (x41n : Int))) (
  R (Value.bool false) w38) (
  CallR Try.prog 17 #[(Value.pointer x9)] w38 fun v42 w43 =>
  AsI .i64 v42 fun x44 =>
  Bif (x44 != (IntKind.wrap .i64 (x19 + x39))) (
  R (Value.bool false) w43) (
  I13 [(Value.int .i64 (IntKind.wrap .i64 (i15 + 1)))] w43 ∧ mu14 [(Value.int .i64 (IntKind.wrap .i64 (i15 + 1)))] w43 < mu14 [(Value.int .i64 i15)] w16))))) (
  Bif x6 (
  CallR Try.prog 17 #[(Value.pointer x9)] w16 fun v45 w46 =>
  AsI .i64 v45 fun x47 =>
  R (Value.bool (decide (x47 ≤ (IntKind.wrap .i64 most1)))) w46) (
  R (Value.bool false) w16))))
theorem F5_eq (most1 : Int) (l2p : Option Addr) (l2n : Nat) (l2c : Nat) (w3 : World) (R : Value → World → Prop) : liftF Try.prog 5 (.step .nil .nil (.step .nil .nil (.step .nil .nil (.step .nil .nil (.step .nil .nil (.step .nil .nil (.step (.loop [(7, .b (.int .i64))] .nil) .nil .nil))))))) [(Value.int .u8 most1), (Value.slice l2p l2n l2c)] w3 R = F5 most1 l2p l2n l2c w3 R := by kernel_rfl
theorem F5_of {most1 : Int} {l2p : Option Addr} {l2n : Nat} {l2c : Nat} {w3 : World} {R : Value → World → Prop} (h : F5 most1 l2p l2n l2c w3 R) : CallR Try.prog 5 #[(Value.int .u8 most1), (Value.slice l2p l2n l2c)] w3 R := callR_of_lift _ ((F5_eq most1 l2p l2n l2c w3 R).mpr h)

-- F6 subway/subwaylaw07.RingOwn
def F6 (b1p : Option Addr) (b1n : Nat) (b1c : Nat) (c2 : Int) (w3 : World) (R : Value → World → Prop) : Prop :=
  CallR Try.prog 9 #[] w3 fun v4 w5 =>
  AsB v4 fun x6 =>
  CallR Try.prog 10 #[(Value.int .i64 100)] w5 fun v7 w8 =>
  AsP v7 fun x9 =>
  Bif (isNone' x9) (
  Bif (!(isNone' x9)) (
  R (Value.bool x6) w8) (
  R (Value.bool false) w8)) (
  Bif (decide ((b1n : Int) > 100)) (
  Bif (!(isNone' x9)) (
  R (Value.bool x6) w8) (
  R (Value.bool false) w8)) (
  NewC #[] 5 w8 fun b10 w11 =>
  Run Try.prog (Builtin.append_ #[29, 29] 29 #[(Value.slice (some ⟨b10, 0, none⟩) 0 0), (Value.slice b1p b1n b1c)]) w11 fun v12 w13 =>
  AsL v12 fun x14p x14n x14c =>
  CallR Try.prog 15 #[(Value.pointer x9), (Value.slice x14p x14n x14c)] w13 fun v15 w16 =>
  AsI .i64 v15 fun x17 =>
  Lp fun I18 mu19 =>
  I18 [(Value.int .i64 0)] w16 ∧
  ∀ (i20 : Int), ∀ w21, I18 [(Value.int .i64 i20)] w21 →
  Bif (decide (i20 < (x14n : Int))) (
  IxP x14p x14n i20 1 fun a22 =>
  St1 a22 (Value.int .u8 c2) w21 fun w23 =>
  I18 [(Value.int .i64 (IntKind.wrap .i64 (i20 + 1)))] w23 ∧ mu19 [(Value.int .i64 (IntKind.wrap .i64 (i20 + 1)))] w23 < mu19 [(Value.int .i64 i20)] w21) (
  CallR Try.prog 19 #[(Value.pointer x9)] w21 fun v24 w25 =>
  AsL v24 fun x26p x26n x26c =>
  Lp fun I27 mu28 =>
  I27 [(Value.int .i64 0)] w25 ∧
  ∀ (i29 : Int), ∀ w30, I27 [(Value.int .i64 i29)] w30 →
  Bif (decide (i29 < (x26n : Int))) (
  IxP x26p x26n i29 1 fun a31 =>
  St1 a31 (Value.int .u8 c2) w30 fun w32 =>
  I27 [(Value.int .i64 (IntKind.wrap .i64 (i29 + 1)))] w32 ∧ mu28 [(Value.int .i64 (IntKind.wrap .i64 (i29 + 1)))] w32 < mu28 [(Value.int .i64 i29)] w30) (
  ∃ (C33 : Cls), Cls.p C33 [] w30 ∧
  Bif x6 (
  ∃ (x34 : ByteArray), Qt C33 (Value.string x34) (fun w35 K36 =>
  Run Try.prog (convert 29 9 (Value.slice b1p b1n b1c)) w35 fun v37 w38 =>
  AsS v37 fun x39 =>
  K36 (Value.string x39) w38) ∧
  ∃ (D41 : Value → Cls), (∀ G42 w43, Cls.p C33 G42 w43 →
  CallR Try.prog 13 #[(Value.pointer x9), (Value.int .i64 100)] w43 fun v44 w45 =>
  AsL v44 fun x46p x46n x46c =>
  isR [.b .slice] (Value.slice x46p x46n x46c) ∧ Cls.p (D41 (Value.slice x46p x46n x46c)) G42 w45) ∧
  ∀ (x40p : Option Addr) (x40n : Nat) (x40c : Nat), (Qt (D41 (Value.slice x40p x40n x40c)) (Value.string x34) (fun w47 K48 =>
  Run Try.prog (convert 29 9 (Value.slice b1p b1n b1c)) w47 fun v49 w50 =>
  AsS v49 fun x51 =>
  K48 (Value.string x51) w50)) ∧
  ∃ (x52 : ByteArray), Qt (D41 (Value.slice x40p x40n x40c)) (Value.string x52) (fun w53 K54 =>
  Run Try.prog (convert 29 9 (Value.slice x40p x40n x40c)) w53 fun v55 w56 =>
  AsS v55 fun x57 =>
  K54 (Value.string x57) w56) ∧
  ∀ G58 w59, Cls.p (D41 (Value.slice x40p x40n x40c)) G58 w59 →
  R (Value.bool (ByteArray.toList x52 == ByteArray.toList x34)) w59) (
  ∀ G60 w61, Cls.p C33 G60 w61 →
  R (Value.bool false) w61)))))
theorem F6_eq (b1p : Option Addr) (b1n : Nat) (b1c : Nat) (c2 : Int) (w3 : World) (R : Value → World → Prop) : liftF Try.prog 6 (.step .nil .nil (.step .nil .nil (.step .nil .nil (.step .nil .nil (.step .nil .nil (.step .nil .nil (.step .nil .nil (.step .nil .nil (.step (.loop [(8, .b (.int .i64))] .nil) .nil (.step .nil .nil (.step .nil .nil (.step (.loop [(10, .b (.int .i64))] .nil) .nil (.draw [(0, false), (1, false), (2, false), (5, false), (6, false), (3, true), (4, false), (7, false), (8, false), (9, false)] .nil))))))))))))) [(Value.slice b1p b1n b1c), (Value.int .u8 c2)] w3 R = F6 b1p b1n b1c c2 w3 R := by kernel_rfl
theorem F6_of {b1p : Option Addr} {b1n : Nat} {b1c : Nat} {c2 : Int} {w3 : World} {R : Value → World → Prop} (h : F6 b1p b1n b1c c2 w3 R) : CallR Try.prog 6 #[(Value.slice b1p b1n b1c), (Value.int .u8 c2)] w3 R := callR_of_lift _ ((F6_eq b1p b1n b1c c2 w3 R).mpr h)

-- F7 subway/subwaylaw07.RingPieces
def F7 (most1 : Int) (b2p : Option Addr) (b2n : Nat) (b2c : Nat) (cuts3p : Option Addr) (cuts3n : Nat) (cuts3c : Nat) (w4 : World) (R : Value → World → Prop) : Prop :=
  CallR Try.prog 9 #[] w4 fun v5 w6 =>
  AsB v5 fun x7 =>
  CallR Try.prog 10 #[(Value.int .i64 (IntKind.wrap .i64 most1))] w6 fun v8 w9 =>
  AsP v8 fun x10 =>
  CallR Try.prog 10 #[(Value.int .i64 (IntKind.wrap .i64 most1))] w9 fun v11 w12 =>
  AsP v11 fun x13 =>
  Bif (isNone' x10) (
  Bif (!(isNone' x10)) (
  Bif (!(isNone' x13)) (
  R (Value.bool x7) w12) (
  R (Value.bool false) w12)) (
  R (Value.bool false) w12)) (
  Bif (isNone' x13) (
  Bif (!(isNone' x10)) (
  Bif (!(isNone' x13)) (
  R (Value.bool x7) w12) (
  R (Value.bool false) w12)) (
  R (Value.bool false) w12)) (
  Bif (decide ((b2n : Int) > 3000)) (
  Bif (!(isNone' x10)) (
  Bif (!(isNone' x13)) (
  R (Value.bool x7) w12) (
  R (Value.bool false) w12)) (
  R (Value.bool false) w12)) (
  Bif (decide ((cuts3n : Int) > 300)) (
  Bif (!(isNone' x10)) (
  Bif (!(isNone' x13)) (
  R (Value.bool x7) w12) (
  R (Value.bool false) w12)) (
  R (Value.bool false) w12)) (
  CallR Try.prog 15 #[(Value.pointer x10), (Value.slice b2p b2n b2c)] w12 fun v14 w15 =>
  AsI .i64 v14 fun x16 =>
  Lp fun I17 mu18 =>
  I17 [(Value.int .i64 0), (Value.int .i64 0), (Value.int .i64 0)] w15 ∧
  ∀ (k19 : Int), ∀ (atv20 : Int), ∀ (i21 : Int), ∀ w22, I17 [(Value.int .i64 k19), (Value.int .i64 atv20), (Value.int .i64 i21)] w22 →
  Bif (decide (i21 ≤ (cuts3n : Int))) (
  Jn fun J23 => (
  Bif (decide (i21 < (cuts3n : Int))) (
  IxP cuts3p cuts3n i21 1 fun a24 =>
  LdI .u8 a24 w22 fun x25 =>
  J23 [(Value.int .i64 (if (IntKind.wrap .i64 ((b2n : Int) - atv20)) < (IntKind.wrap .i64 x25) then (IntKind.wrap .i64 ((b2n : Int) - atv20)) else (IntKind.wrap .i64 x25)))] w22) (
  J23 [(Value.int .i64 (IntKind.wrap .i64 ((b2n : Int) - atv20)))] w22)) ∧
  ∀ (m26 : Int), ∀ w27, J23 [(Value.int .i64 m26)] w27 →
  SlP b2p b2n b2c 1 atv20 (IntKind.wrap .i64 (atv20 + m26)) fun x28p x28n x28c =>
  CallR Try.prog 15 #[(Value.pointer x13), (Value.slice x28p x28n x28c)] w27 fun v29 w30 =>
  AsI .i64 v29 fun x31 =>
  I17 [(Value.int .i64 (IntKind.wrap .i64 (k19 + x31))), (Value.int .i64 (IntKind.wrap .i64 (atv20 + m26))), (Value.int .i64 (IntKind.wrap .i64 (i21 + 1)))] w30 ∧ mu18 [(Value.int .i64 (IntKind.wrap .i64 (k19 + x31))), (Value.int .i64 (IntKind.wrap .i64 (atv20 + m26))), (Value.int .i64 (IntKind.wrap .i64 (i21 + 1)))] w30 < mu18 [(Value.int .i64 k19), (Value.int .i64 atv20), (Value.int .i64 i21)] w22) (
  Lp fun I32 mu33 =>
  I32 [(Value.string ⟨#[]⟩), (Value.int .i64 0)] w22 ∧
  ∀ (out34 : ByteArray), ∀ (i35 : Int), ∀ w36, I32 [(Value.string out34), (Value.int .i64 i35)] w36 →
  Bif (decide (i35 < (cuts3n : Int))) (
  IxP cuts3p cuts3n i35 1 fun a37 =>
  LdI .u8 a37 w36 fun x38 =>
  CallR Try.prog 13 #[(Value.pointer x13), (Value.int .i64 (IntKind.wrap .i64 x38))] w36 fun v39 w40 =>
  AsL v39 fun x41p x41n x41c =>
  Run Try.prog (convert 29 9 (Value.slice x41p x41n x41c)) w40 fun v42 w43 =>
  AsS v42 fun x44 =>
  CatK out34 x44 (
  I32 [(Value.string (out34 ++ x44)), (Value.int .i64 (IntKind.wrap .i64 (i35 + 1)))] w43 ∧ mu33 [(Value.string (out34 ++ x44)), (Value.int .i64 (IntKind.wrap .i64 (i35 + 1)))] w43 < mu33 [(Value.string out34), (Value.int .i64 i35)] w36)) (
  CallR Try.prog 13 #[(Value.pointer x13), (Value.int .i64 3000)] w36 fun v45 w46 =>
  AsL v45 fun x47p x47n x47c =>
  Run Try.prog (convert 29 9 (Value.slice x47p x47n x47c)) w46 fun v48 w49 =>
  AsS v48 fun x50 =>
  CatK out34 x50 (
  Bif x7 (
  Bif (x16 == k19) (
  CallR Try.prog 13 #[(Value.pointer x10), (Value.int .i64 3000)] w49 fun v51 w52 =>
  AsL v51 fun x53p x53n x53c =>
  Run Try.prog (convert 29 9 (Value.slice x53p x53n x53c)) w52 fun v54 w55 =>
  AsS v54 fun x56 =>
  R (Value.bool (ByteArray.toList x56 == ByteArray.toList (out34 ++ x50))) w55) (
  R (Value.bool false) w49)) (
  R (Value.bool false) w49))))))))
theorem F7_eq (most1 : Int) (b2p : Option Addr) (b2n : Nat) (b2c : Nat) (cuts3p : Option Addr) (cuts3n : Nat) (cuts3c : Nat) (w4 : World) (R : Value → World → Prop) : liftF Try.prog 7 (.step .nil .nil (.step .nil .nil (.step .nil .nil (.step .nil .nil (.step .nil .nil (.step .nil .nil (.step .nil .nil (.step .nil .nil (.step .nil .nil (.step .nil .nil (.step (.loop [(11, .b (.int .i64)), (12, .b (.int .i64)), (13, .b (.int .i64))] (.step .nil .nil (.step .nil .nil (.step (.step .nil .nil (.step .nil .nil (.join 1 [(14, .b (.int .i64))] .nil .nil))) .nil .nil)))) .nil (.step .nil .nil (.step .nil .nil (.step (.loop [(15, .b .str), (16, .b (.int .i64))] .nil) .nil .nil)))))))))))))) [(Value.int .u8 most1), (Value.slice b2p b2n b2c), (Value.slice cuts3p cuts3n cuts3c)] w4 R = F7 most1 b2p b2n b2c cuts3p cuts3n cuts3c w4 R := by kernel_rfl
theorem F7_of {most1 : Int} {b2p : Option Addr} {b2n : Nat} {b2c : Nat} {cuts3p : Option Addr} {cuts3n : Nat} {cuts3c : Nat} {w4 : World} {R : Value → World → Prop} (h : F7 most1 b2p b2n b2c cuts3p cuts3n cuts3c w4 R) : CallR Try.prog 7 #[(Value.int .u8 most1), (Value.slice b2p b2n b2c), (Value.slice cuts3p cuts3n cuts3c)] w4 R := callR_of_lift _ ((F7_eq most1 b2p b2n b2c cuts3p cuts3n cuts3c w4 R).mpr h)

-- F8 subway/subwaylaw07.RingLooks
def F8 (most1 : Int) (l2p : Option Addr) (l2n : Nat) (l2c : Nat) (w3 : World) (R : Value → World → Prop) : Prop :=
  CallR Try.prog 9 #[] w3 fun v4 w5 =>
  AsB v4 fun x6 =>
  CallR Try.prog 10 #[(Value.int .i64 (IntKind.wrap .i64 most1))] w5 fun v7 w8 =>
  AsP v7 fun x9 =>
  CallR Try.prog 10 #[(Value.int .i64 (IntKind.wrap .i64 most1))] w8 fun v10 w11 =>
  AsP v10 fun x12 =>
  Bif (isNone' x9) (
  Bif (!(isNone' x9)) (
  Bif (!(isNone' x12)) (
  R (Value.bool x6) w11) (
  R (Value.bool false) w11)) (
  R (Value.bool false) w11)) (
  Bif (isNone' x12) (
  Bif (!(isNone' x9)) (
  Bif (!(isNone' x12)) (
  R (Value.bool x6) w11) (
  R (Value.bool false) w11)) (
  R (Value.bool false) w11)) (
  CallR Try.prog 12 #[(Value.slice l2p l2n l2c)] w11 fun v13 w14 =>
  AsB v13 fun x15 =>
  Bif x15 (
  Bif (!(isNone' x9)) (
  Bif (!(isNone' x12)) (
  R (Value.bool x6) w14) (
  R (Value.bool false) w14)) (
  R (Value.bool false) w14)) (
  Lp fun I16 mu17 =>
  I16 [(Value.int .i64 0)] w14 ∧
  ∀ (i18 : Int), ∀ w19, I16 [(Value.int .i64 i18)] w19 →
  Bif (decide (i18 < (l2n : Int))) (
  CallR Try.prog 19 #[(Value.pointer x9)] w19 fun v20 w21 =>
  AsL v20 fun x22p x22n x22c =>
  Run Try.prog (convert 29 9 (Value.slice x22p x22n x22c)) w21 fun v23 w24 =>
  AsS v23 fun x25 =>
  CallR Try.prog 19 #[(Value.pointer x9)] w24 fun v26 w27 =>
  AsL v26 fun x28p x28n x28c =>
  Run Try.prog (convert 29 9 (Value.slice x28p x28n x28c)) w27 fun v29 w30 =>
  AsS v29 fun x31 =>
  Bif (!(ByteArray.toList x25 == ByteArray.toList x31)) (
  R (Value.bool false) w30) (
  CallR Try.prog 17 #[(Value.pointer x9)] w30 fun v32 w33 =>
  AsI .i64 v32 fun x34 =>
  Bif ((x25.size : Int) != x34) (
  R (Value.bool false) w33) (
  IxP l2p l2n i18 3 fun a35 =>
  LdI .i64 (Addr.add a35 0) w33 fun x36 =>
  Bif (x36 == 2) (
  ∃ (C37 : Cls), Cls.p C37 [] w33 ∧
  IxP l2p l2n i18 3 fun a38 =>
  IxP l2p l2n i18 3 fun a39 =>
  ∃ (x40 : Int), Qt C37 (Value.int .i64 x40) (fun w41 K42 =>
  LdI .i64 (Addr.add a38 2) w41 fun x43 =>
  K42 (Value.int .i64 x43) w41) ∧
  ∃ (x44 : Int), Qt C37 (Value.int .i64 x44) (fun w45 K46 =>
  LdI .i64 (Addr.add a39 2) w45 fun x47 =>
  K46 (Value.int .i64 x47) w45) ∧
  ∃ (D49 : Value → Cls), (∀ G50 w51, Cls.p C37 G50 w51 →
  CallR Try.prog 13 #[(Value.pointer x9), (Value.int .i64 x40)] w51 fun v52 w53 =>
  AsL v52 fun x54p x54n x54c =>
  isR [.b .slice] (Value.slice x54p x54n x54c) ∧ Cls.p (D49 (Value.slice x54p x54n x54c)) G50 w53) ∧
  ∀ (x48p : Option Addr) (x48n : Nat) (x48c : Nat), (Qt (D49 (Value.slice x48p x48n x48c)) (Value.int .i64 x44) (fun w55 K56 =>
  LdI .i64 (Addr.add a39 2) w55 fun x57 =>
  K56 (Value.int .i64 x57) w55)) ∧
  ∃ (x58 : ByteArray), Qt (D49 (Value.slice x48p x48n x48c)) (Value.string x58) (fun w59 K60 =>
  Run Try.prog (convert 29 9 (Value.slice x48p x48n x48c)) w59 fun v61 w62 =>
  AsS v61 fun x63 =>
  K60 (Value.string x63) w62) ∧
  ∃ (D65 : Value → Cls), (∀ G66 w67, Cls.p (D49 (Value.slice x48p x48n x48c)) G66 w67 →
  CallR Try.prog 13 #[(Value.pointer x12), (Value.int .i64 x44)] w67 fun v68 w69 =>
  AsL v68 fun x70p x70n x70c =>
  isR [.b .slice] (Value.slice x70p x70n x70c) ∧ Cls.p (D65 (Value.slice x70p x70n x70c)) G66 w69) ∧
  ∀ (x64p : Option Addr) (x64n : Nat) (x64c : Nat), (Qt (D65 (Value.slice x64p x64n x64c)) (Value.string x58) (fun w71 K72 =>
  Run Try.prog (convert 29 9 (Value.slice x48p x48n x48c)) w71 fun v73 w74 =>
  AsS v73 fun x75 =>
  K72 (Value.string x75) w74)) ∧
  ∃ (x76 : ByteArray), Qt (D65 (Value.slice x64p x64n x64c)) (Value.string x76) (fun w77 K78 =>
  Run Try.prog (convert 29 9 (Value.slice x64p x64n x64c)) w77 fun v79 w80 =>
  AsS v79 fun x81 =>
  K78 (Value.string x81) w80) ∧
  ∀ G82 w83, Cls.p (D65 (Value.slice x64p x64n x64c)) G82 w83 →
  Bif (!(ByteArray.toList x58 == ByteArray.toList x76)) (
  R (Value.bool false) w83) (
  I16 [(Value.int .i64 (IntKind.wrap .i64 (i18 + 1)))] w83 ∧ mu17 [(Value.int .i64 (IntKind.wrap .i64 (i18 + 1)))] w83 < mu17 [(Value.int .i64 i18)] w19)) (
  ∃ (C84 : Cls), Cls.p C84 [] w33 ∧
  IxP l2p l2n i18 3 fun a85 =>
  IxP l2p l2n i18 3 fun a86 =>
  ∃ (x87p : Option Addr) (x87n : Nat) (x87c : Nat), Qt C84 (Value.slice x87p x87n x87c) (fun w88 K89 =>
  LdL (Addr.add a85 1) w88 fun x90p x90n x90c =>
  K89 (Value.slice x90p x90n x90c) w88) ∧
  ∃ (x91p : Option Addr) (x91n : Nat) (x91c : Nat), Qt C84 (Value.slice x91p x91n x91c) (fun w92 K93 =>
  LdL (Addr.add a86 1) w92 fun x94p x94n x94c =>
  K93 (Value.slice x94p x94n x94c) w92) ∧
  ∃ (D96 : Value → Cls), (∀ G97 w98, Cls.p C84 G97 w98 →
  CallR Try.prog 15 #[(Value.pointer x9), (Value.slice x87p x87n x87c)] w98 fun v99 w100 =>
  AsI .i64 v99 fun x101 =>
  isR [.b (.int .i64)] (Value.int .i64 x101) ∧ Cls.p (D96 (Value.int .i64 x101)) G97 w100) ∧
  ∀ (x95 : Int), (Qt (D96 (Value.int .i64 x95)) (Value.slice x91p x91n x91c) (fun w102 K103 =>
  LdL (Addr.add a86 1) w102 fun x104p x104n x104c =>
  K103 (Value.slice x104p x104n x104c) w102)) ∧
  ∃ (D106 : Value → Cls), (∀ G107 w108, Cls.p (D96 (Value.int .i64 x95)) G107 w108 →
  CallR Try.prog 15 #[(Value.pointer x12), (Value.slice x91p x91n x91c)] w108 fun v109 w110 =>
  AsI .i64 v109 fun x111 =>
  isR [.b (.int .i64)] (Value.int .i64 x111) ∧ Cls.p (D106 (Value.int .i64 x111)) G107 w110) ∧
  ∀ (x105 : Int), (True) ∧
  ∀ G112 w113, Cls.p (D106 (Value.int .i64 x105)) G112 w113 →
  Bif (x95 != x105) (
  R (Value.bool false) w113) (
  I16 [(Value.int .i64 (IntKind.wrap .i64 (i18 + 1)))] w113 ∧ mu17 [(Value.int .i64 (IntKind.wrap .i64 (i18 + 1)))] w113 < mu17 [(Value.int .i64 i18)] w19))))) (
  ∃ (C114 : Cls), Cls.p C114 [] w19 ∧
  Bif x6 (
  ∃ (D116 : Value → Cls), (∀ G117 w118, Cls.p C114 G117 w118 →
  CallR Try.prog 19 #[(Value.pointer x9)] w118 fun v119 w120 =>
  AsL v119 fun x121p x121n x121c =>
  isR [.b .slice] (Value.slice x121p x121n x121c) ∧ Cls.p (D116 (Value.slice x121p x121n x121c)) G117 w120) ∧
  ∀ (x115p : Option Addr) (x115n : Nat) (x115c : Nat), (True) ∧
  ∃ (x122 : ByteArray), Qt (D116 (Value.slice x115p x115n x115c)) (Value.string x122) (fun w123 K124 =>
  Run Try.prog (convert 29 9 (Value.slice x115p x115n x115c)) w123 fun v125 w126 =>
  AsS v125 fun x127 =>
  K124 (Value.string x127) w126) ∧
  ∃ (D129 : Value → Cls), (∀ G130 w131, Cls.p (D116 (Value.slice x115p x115n x115c)) G130 w131 →
  CallR Try.prog 19 #[(Value.pointer x12)] w131 fun v132 w133 =>
  AsL v132 fun x134p x134n x134c =>
  isR [.b .slice] (Value.slice x134p x134n x134c) ∧ Cls.p (D129 (Value.slice x134p x134n x134c)) G130 w133) ∧
  ∀ (x128p : Option Addr) (x128n : Nat) (x128c : Nat), (Qt (D129 (Value.slice x128p x128n x128c)) (Value.string x122) (fun w135 K136 =>
  Run Try.prog (convert 29 9 (Value.slice x115p x115n x115c)) w135 fun v137 w138 =>
  AsS v137 fun x139 =>
  K136 (Value.string x139) w138)) ∧
  ∃ (x140 : ByteArray), Qt (D129 (Value.slice x128p x128n x128c)) (Value.string x140) (fun w141 K142 =>
  Run Try.prog (convert 29 9 (Value.slice x128p x128n x128c)) w141 fun v143 w144 =>
  AsS v143 fun x145 =>
  K142 (Value.string x145) w144) ∧
  ∀ G146 w147, Cls.p (D129 (Value.slice x128p x128n x128c)) G146 w147 →
  R (Value.bool (ByteArray.toList x122 == ByteArray.toList x140)) w147) (
  ∀ G148 w149, Cls.p C114 G148 w149 →
  R (Value.bool false) w149)))))
theorem F8_eq (most1 : Int) (l2p : Option Addr) (l2n : Nat) (l2c : Nat) (w3 : World) (R : Value → World → Prop) : liftF Try.prog 8 (.step .nil .nil (.step .nil .nil (.step .nil .nil (.step .nil .nil (.step .nil .nil (.step .nil .nil (.step .nil .nil (.step (.loop [(8, .b (.int .i64))] (.step .nil .nil (.step .nil .nil (.step (.step .nil .nil (.step .nil .nil (.step .nil .nil (.step .nil .nil (.step (.draw [(0, false), (1, false), (2, false), (3, false), (4, false), (8, false), (9, false), (10, false), (11, false), (12, false), (5, false), (13, false), (6, true), (7, false), (14, true), (15, false), (16, false)] .nil) (.draw [(0, false), (1, false), (2, false), (3, false), (4, false), (7, false), (8, false), (9, false), (10, false), (11, false), (5, false), (12, false), (6, true), (13, true), (14, false)] .nil) .nil))))) .nil .nil)))) .nil (.draw [(0, false), (1, false), (2, false), (5, false), (3, true), (4, false), (6, true), (7, false), (8, false), (9, false), (10, false)] .nil))))))))) [(Value.int .u8 most1), (Value.slice l2p l2n l2c)] w3 R = F8 most1 l2p l2n l2c w3 R := by kernel_rfl
theorem F8_of {most1 : Int} {l2p : Option Addr} {l2n : Nat} {l2c : Nat} {w3 : World} {R : Value → World → Prop} (h : F8 most1 l2p l2n l2c w3 R) : CallR Try.prog 8 #[(Value.int .u8 most1), (Value.slice l2p l2n l2c)] w3 R := callR_of_lift _ ((F8_eq most1 l2p l2n l2c w3 R).mpr h)

-- F9 subway/subwaylaw07.head
def F9  (w1 : World) (R : Value → World → Prop) : Prop :=
  CallR Try.prog 10 #[(Value.int .i64 3)] w1 fun v2 w3 =>
  AsP v2 fun x4 =>
  Bif (isNone' x4) (
  R (Value.bool false) w3) (
  NewC #[(Value.int .u8 97), (Value.int .u8 98), (Value.int .u8 99), (Value.int .u8 100)] 5 w3 fun b5 w6 =>
  Run Try.prog (convert 29 29 (Value.slice (some ⟨b5, 0, none⟩) 4 4)) w6 fun v7 w8 =>
  AsL v7 fun x9p x9n x9c =>
  CallR Try.prog 15 #[(Value.pointer x4), (Value.slice x9p x9n x9c)] w8 fun v10 w11 =>
  AsI .i64 v10 fun x12 =>
  CallR Try.prog 13 #[(Value.pointer x4), (Value.int .i64 2)] w11 fun v13 w14 =>
  AsL v13 fun x15p x15n x15c =>
  NewC #[(Value.int .u8 120), (Value.int .u8 121), (Value.int .u8 122)] 5 w14 fun b16 w17 =>
  Run Try.prog (convert 29 29 (Value.slice (some ⟨b16, 0, none⟩) 3 3)) w17 fun v18 w19 =>
  AsL v18 fun x20p x20n x20c =>
  CallR Try.prog 15 #[(Value.pointer x4), (Value.slice x20p x20n x20c)] w19 fun v21 w22 =>
  AsI .i64 v21 fun x23 =>
  Bif (x12 == 3) (
  Run Try.prog (convert 29 9 (Value.slice x15p x15n x15c)) w22 fun v24 w25 =>
  AsS v24 fun x26 =>
  Bif (ByteArray.toList x26 == ByteArray.toList ⟨#[97, 98]⟩) (
  Bif (x23 == 2) (
  CallR Try.prog 19 #[(Value.pointer x4)] w25 fun v27 w28 =>
  AsL v27 fun x29p x29n x29c =>
  Run Try.prog (convert 29 9 (Value.slice x29p x29n x29c)) w28 fun v30 w31 =>
  AsS v30 fun x32 =>
  Bif (ByteArray.toList x32 == ByteArray.toList ⟨#[99, 120, 121]⟩) (
  CallR Try.prog 17 #[(Value.pointer x4)] w31 fun v33 w34 =>
  AsI .i64 v33 fun x35 =>
  Bif (x35 == 3) (
  CallR Try.prog 18 #[(Value.pointer x4)] w34 fun v36 w37 =>
  AsI .i64 v36 fun x38 =>
  Bif (x38 == 0) (
  CallR Try.prog 13 #[(Value.pointer x4), (Value.int .i64 9)] w37 fun v39 w40 =>
  AsL v39 fun x41p x41n x41c =>
  Run Try.prog (convert 29 9 (Value.slice x41p x41n x41c)) w40 fun v42 w43 =>
  AsS v42 fun x44 =>
  Bif (ByteArray.toList x44 == ByteArray.toList ⟨#[99, 120, 121]⟩) (
  CallR Try.prog 18 #[(Value.pointer x4)] w43 fun v45 w46 =>
  AsI .i64 v45 fun x47 =>
  R (Value.bool (x47 == 3)) w46) (
  R (Value.bool false) w43)) (
  R (Value.bool false) w37)) (
  R (Value.bool false) w34)) (
  R (Value.bool false) w31)) (
  R (Value.bool false) w25)) (
  R (Value.bool false) w25)) (
  R (Value.bool false) w22))
theorem F9_eq  (w1 : World) (R : Value → World → Prop) : liftF Try.prog 9 .nil [] w1 R = F9  w1 R := by kernel_rfl
theorem F9_of  {w1 : World} {R : Value → World → Prop} (h : F9  w1 R) : CallR Try.prog 9 #[] w1 R := callR_of_lift _ ((F9_eq  w1 R).mpr h)

-- F10 subway/ring.New
def F10 (most1 : Int) (w2 : World) (R : Value → World → Prop) : Prop :=
  MkS (#[(Value.int .u8 0)]) 1 1 5 (if 65536 < (if 0 > most1 then 0 else most1) then 65536 else (if 0 > most1 then 0 else most1)) (if 65536 < (if 0 > most1 then 0 else most1) then 65536 else (if 0 > most1 then 0 else most1)) w2 fun b3 w4 =>
  NewC #[(Value.slice (some ⟨b3, 0, none⟩) (Int.toNat (if 65536 < (if 0 > most1 then 0 else most1) then 65536 else (if 0 > most1 then 0 else most1))) (Int.toNat (if 65536 < (if 0 > most1 then 0 else most1) then 65536 else (if 0 > most1 then 0 else most1)))), (Value.int .i64 0), (Value.int .i64 0)] 43 w4 fun b5 w6 =>
  R (Value.pointer (some ⟨b5, 0, none⟩)) w6
theorem F10_eq (most1 : Int) (w2 : World) (R : Value → World → Prop) : liftF Try.prog 10 .nil [(Value.int .i64 most1)] w2 R = F10 most1 w2 R := by kernel_rfl
theorem F10_of {most1 : Int} {w2 : World} {R : Value → World → Prop} (h : F10 most1 w2 R) : CallR Try.prog 10 #[(Value.int .i64 most1)] w2 R := callR_of_lift _ ((F10_eq most1 w2 R).mpr h)

-- F11 subway/subwayref07.New
def F11 (most1 : Int) (w2 : World) (R : Value → World → Prop) : Prop :=
  NewC #[(Value.slice none 0 0), (Value.int .i64 (if 65536 < (if 0 > most1 then 0 else most1) then 65536 else (if 0 > most1 then 0 else most1)))] 36 w2 fun b3 w4 =>
  R (Value.pointer (some ⟨b3, 0, none⟩)) w4
theorem F11_eq (most1 : Int) (w2 : World) (R : Value → World → Prop) : liftF Try.prog 11 .nil [(Value.int .i64 most1)] w2 R = F11 most1 w2 R := by kernel_rfl
theorem F11_of {most1 : Int} {w2 : World} {R : Value → World → Prop} (h : F11 most1 w2 R) : CallR Try.prog 11 #[(Value.int .i64 most1)] w2 R := callR_of_lift _ ((F11_eq most1 w2 R).mpr h)

-- F12 subway/subwaylaw07.Great
def F12 (l1p : Option Addr) (l1n : Nat) (l1c : Nat) (w2 : World) (R : Value → World → Prop) : Prop :=
  Jn fun J3 => (
  Lp fun I4 mu5 =>
  I4 [(Value.int .i64 (l1n : Int)), (Value.int .i64 0)] w2 ∧
  ∀ (n6 : Int), ∀ (i7 : Int), ∀ w8, I4 [(Value.int .i64 n6), (Value.int .i64 i7)] w8 →
  Bif (decide (i7 < (l1n : Int))) (
  Bif (decide (n6 < 30000)) (
  IxP l1p l1n i7 3 fun a9 =>
  LdL (Addr.add a9 1) w8 fun x10p x10n x10c =>
  I4 [(Value.int .i64 (IntKind.wrap .i64 (n6 + (if 30000 < (x10n : Int) then 30000 else (x10n : Int))))), (Value.int .i64 (IntKind.wrap .i64 (i7 + 1)))] w8 ∧ mu5 [(Value.int .i64 (IntKind.wrap .i64 (n6 + (if 30000 < (x10n : Int) then 30000 else (x10n : Int))))), (Value.int .i64 (IntKind.wrap .i64 (i7 + 1)))] w8 < mu5 [(Value.int .i64 n6), (Value.int .i64 i7)] w8) (
  J3 [(Value.int .i64 n6)] w8)) (
  J3 [(Value.int .i64 n6)] w8)) ∧
  ∀ (n11 : Int), ∀ w12, J3 [(Value.int .i64 n11)] w12 →
  Bif (decide (n11 ≥ 30000)) (
  R (Value.bool true) w12) (
  R (Value.bool (decide ((l1n : Int) > 400))) w12)
theorem F12_eq (l1p : Option Addr) (l1n : Nat) (l1c : Nat) (w2 : World) (R : Value → World → Prop) : liftF Try.prog 12 (.step .nil .nil (.step .nil .nil (.step .nil .nil (.join 1 [(3, .b (.int .i64))] (.step (.loop [(3, .b (.int .i64)), (4, .b (.int .i64))] .nil) .nil .nil) .nil)))) [(Value.slice l1p l1n l1c)] w2 R = F12 l1p l1n l1c w2 R := by kernel_rfl
theorem F12_of {l1p : Option Addr} {l1n : Nat} {l1c : Nat} {w2 : World} {R : Value → World → Prop} (h : F12 l1p l1n l1c w2 R) : CallR Try.prog 12 #[(Value.slice l1p l1n l1c)] w2 R := callR_of_lift _ ((F12_eq l1p l1n l1c w2 R).mpr h)

-- F13 (*subway/ring.Ring).Take
def F13 (r1 : Option Addr) (n2 : Int) (w3 : World) (R : Value → World → Prop) : Prop :=
  NilP r1 fun a4 =>
  LdI .i64 (Addr.add a4 2) w3 fun x5 =>
  CallR Try.prog 20 #[(Value.pointer r1), (Value.int .i64 (if x5 < (if 0 > n2 then 0 else n2) then x5 else (if 0 > n2 then 0 else n2)))] w3 fun v6 w7 =>
  AsL v6 fun x8p x8n x8c =>
  NilP r1 fun a9 =>
  LdI .i64 (Addr.add a9 2) w7 fun x10 =>
  NilP r1 fun a11 =>
  St1 (Addr.add a11 2) (Value.int .i64 (IntKind.wrap .i64 (x10 - (if x5 < (if 0 > n2 then 0 else n2) then x5 else (if 0 > n2 then 0 else n2))))) w7 fun w12 =>
  NilP r1 fun a13 =>
  LdI .i64 (Addr.add a13 1) w12 fun x14 =>
  NilP r1 fun a15 =>
  St1 (Addr.add a15 1) (Value.int .i64 (IntKind.wrap .i64 (x14 + (if x5 < (if 0 > n2 then 0 else n2) then x5 else (if 0 > n2 then 0 else n2))))) w12 fun w16 =>
  ∃ (C17 : Cls), Cls.p C17 [] w16 ∧
  NilP r1 fun a18 =>
  NilP r1 fun a19 =>
  ∃ (x20 : Int), Qt C17 (Value.int .i64 x20) (fun w21 K22 =>
  LdI .i64 (Addr.add a18 1) w21 fun x23 =>
  K22 (Value.int .i64 x23) w21) ∧
  ∃ (x24p : Option Addr) (x24n : Nat) (x24c : Nat), Qt C17 (Value.slice x24p x24n x24c) (fun w25 K26 =>
  LdL (Addr.add a19 0) w25 fun x27p x27n x27c =>
  K26 (Value.slice x27p x27n x27c) w25) ∧
  ∀ G28 w29, Cls.p C17 G28 w29 →
  Bif (decide (x20 ≥ (x24n : Int))) (
  ∃ (C30 : Cls), Cls.p C30 [] w29 ∧
  NilP r1 fun a31 =>
  NilP r1 fun a32 =>
  ∃ (x33 : Int), Qt C30 (Value.int .i64 x33) (fun w34 K35 =>
  LdI .i64 (Addr.add a31 1) w34 fun x36 =>
  K35 (Value.int .i64 x36) w34) ∧
  ∃ (x37p : Option Addr) (x37n : Nat) (x37c : Nat), Qt C30 (Value.slice x37p x37n x37c) (fun w38 K39 =>
  LdL (Addr.add a32 0) w38 fun x40p x40n x40c =>
  K39 (Value.slice x40p x40n x40c) w38) ∧
  NilP r1 fun a41 =>
  ∃ (D42 : Value → Cls), (∀ G43 w44, Cls.p C30 G43 w44 →
  St1 (Addr.add a41 1) (Value.int .i64 (IntKind.wrap .i64 (x33 - (x37n : Int)))) w44 fun w45 =>
  isR [] (Value.tuple #[]) ∧ Cls.p (D42 (Value.tuple #[])) G43 w45) ∧
  (True) ∧
  ∀ G46 w47, Cls.p (D42 (Value.tuple #[])) G46 w47 →
  R (Value.slice x8p x8n x8c) w47) (
  R (Value.slice x8p x8n x8c) w29)
theorem F13_eq (r1 : Option Addr) (n2 : Int) (w3 : World) (R : Value → World → Prop) : liftF Try.prog 13 (.step .nil .nil (.step .nil .nil (.step .nil .nil (.step .nil .nil (.step .nil .nil (.draw [(0, false), (1, false), (2, false), (4, false), (5, false), (6, false), (3, false), (7, false), (8, false), (9, false)] (.step (.draw [(0, false), (1, false), (2, false), (4, false), (5, false), (6, false), (3, false), (7, false), (8, false), (9, false), (10, false), (11, false), (12, true)] .nil) .nil .nil))))))) [(Value.pointer r1), (Value.int .i64 n2)] w3 R = F13 r1 n2 w3 R := by kernel_rfl
theorem F13_of {r1 : Option Addr} {n2 : Int} {w3 : World} {R : Value → World → Prop} (h : F13 r1 n2 w3 R) : CallR Try.prog 13 #[(Value.pointer r1), (Value.int .i64 n2)] w3 R := callR_of_lift _ ((F13_eq r1 n2 w3 R).mpr h)

-- F14 (*subway/subwayref07.Ring).Take
def F14 (r1 : Option Addr) (n2 : Int) (w3 : World) (R : Value → World → Prop) : Prop :=
  NilP r1 fun a4 =>
  LdL (Addr.add a4 0) w3 fun x5p x5n x5c =>
  NewC #[] 5 w3 fun b6 w7 =>
  NilP r1 fun a8 =>
  LdL (Addr.add a8 0) w7 fun x9p x9n x9c =>
  SlP x9p x9n x9c 1 0 (if (x5n : Int) < (if 0 > n2 then 0 else n2) then (x5n : Int) else (if 0 > n2 then 0 else n2)) fun x10p x10n x10c =>
  Run Try.prog (Builtin.append_ #[29, 29] 29 #[(Value.slice (some ⟨b6, 0, none⟩) 0 0), (Value.slice x10p x10n x10c)]) w7 fun v11 w12 =>
  AsL v11 fun x13p x13n x13c =>
  NewC #[] 5 w12 fun b14 w15 =>
  NilP r1 fun a16 =>
  LdL (Addr.add a16 0) w15 fun x17p x17n x17c =>
  SlP x17p x17n x17c 1 (if (x5n : Int) < (if 0 > n2 then 0 else n2) then (x5n : Int) else (if 0 > n2 then 0 else n2)) (x17n : Int) fun x18p x18n x18c =>
  Run Try.prog (Builtin.append_ #[29, 29] 29 #[(Value.slice (some ⟨b14, 0, none⟩) 0 0), (Value.slice x18p x18n x18c)]) w15 fun v19 w20 =>
  AsL v19 fun x21p x21n x21c =>
  NilP r1 fun a22 =>
  St1 (Addr.add a22 0) (Value.slice x21p x21n x21c) w20 fun w23 =>
  R (Value.slice x13p x13n x13c) w23
theorem F14_eq (r1 : Option Addr) (n2 : Int) (w3 : World) (R : Value → World → Prop) : liftF Try.prog 14 .nil [(Value.pointer r1), (Value.int .i64 n2)] w3 R = F14 r1 n2 w3 R := by kernel_rfl
theorem F14_of {r1 : Option Addr} {n2 : Int} {w3 : World} {R : Value → World → Prop} (h : F14 r1 n2 w3 R) : CallR Try.prog 14 #[(Value.pointer r1), (Value.int .i64 n2)] w3 R := callR_of_lift _ ((F14_eq r1 n2 w3 R).mpr h)

-- F15 (*subway/ring.Ring).Add
def F15 (r1 : Option Addr) (b2p : Option Addr) (b2n : Nat) (b2c : Nat) (w3 : World) (R : Value → World → Prop) : Prop :=
  ∃ (C4 : Cls), Cls.p C4 [] w3 ∧
  NilP r1 fun a5 =>
  NilP r1 fun a6 =>
  ∃ (x7 : Int), Qt C4 (Value.int .i64 x7) (fun w8 K9 =>
  LdI .i64 (Addr.add a5 1) w8 fun x10 =>
  K9 (Value.int .i64 x10) w8) ∧
  ∃ (x11 : Int), Qt C4 (Value.int .i64 x11) (fun w12 K13 =>
  LdI .i64 (Addr.add a6 2) w12 fun x14 =>
  K13 (Value.int .i64 x14) w12) ∧
  ∃ (x15 : Int), Qt C4 (Value.int .i64 x15) (fun w16 K17 =>
  CallR Try.prog 18 #[(Value.pointer r1)] w16 fun v18 w19 =>
  AsI .i64 v18 fun x20 =>
  K17 (Value.int .i64 x20) w19) ∧
  ∃ (D23 : Value → Cls), (∀ G24 w25, Cls.p C4 G24 w25 →
  CallR Try.prog 21 #[(Value.pointer r1), (Value.int .i64 (IntKind.wrap .i64 (x7 + x11))), (Value.int .i64 (if x15 < (b2n : Int) then x15 else (b2n : Int)))] w25 fun v26 w27 =>
  ∃ (x28p : Option Addr) (x28n : Nat) (x28c : Nat), ∃ (x29p : Option Addr) (x29n : Nat) (x29c : Nat), v26 = (Value.tuple #[(Value.slice x28p x28n x28c), (Value.slice x29p x29n x29c)]) ∧
  isR [.b .slice, .b .slice] (Value.tuple #[(Value.slice x28p x28n x28c), (Value.slice x29p x29n x29c)]) ∧ Cls.p (D23 (Value.tuple #[(Value.slice x28p x28n x28c), (Value.slice x29p x29n x29c)])) G24 w27) ∧
  ∀ (x21p : Option Addr) (x21n : Nat) (x21c : Nat), ∀ (x22p : Option Addr) (x22n : Nat) (x22c : Nat), (True) ∧
  ∀ G30 w31, Cls.p (D23 (Value.tuple #[(Value.slice x21p x21n x21c), (Value.slice x22p x22n x22c)])) G30 w31 →
  Run Try.prog (Builtin.copy_ #[29, 29] 3 #[(Value.slice x21p x21n x21c), (Value.slice b2p b2n b2c)]) w31 fun v32 w33 =>
  AsI .i64 v32 fun x34 =>
  SlP b2p b2n b2c 1 x34 (b2n : Int) fun x35p x35n x35c =>
  Run Try.prog (Builtin.copy_ #[29, 29] 3 #[(Value.slice x22p x22n x22c), (Value.slice x35p x35n x35c)]) w33 fun v36 w37 =>
  AsI .i64 v36 fun x38 =>
  NilP r1 fun a39 =>
  LdI .i64 (Addr.add a39 2) w37 fun x40 =>
  NilP r1 fun a41 =>
  St1 (Addr.add a41 2) (Value.int .i64 (IntKind.wrap .i64 (x40 + (IntKind.wrap .i64 (x34 + x38))))) w37 fun w42 =>
  R (Value.int .i64 (IntKind.wrap .i64 (x34 + x38))) w42
theorem F15_eq (r1 : Option Addr) (b2p : Option Addr) (b2n : Nat) (b2c : Nat) (w3 : World) (R : Value → World → Prop) : liftF Try.prog 15 (.step .nil .nil (.draw [(0, false), (1, false), (2, false), (3, false), (5, false), (6, false), (7, false), (10, false), (11, false), (12, false), (4, false), (8, false), (9, false), (13, false), (14, false), (15, true), (16, false), (17, false), (18, false), (19, false), (20, false)] .nil)) [(Value.pointer r1), (Value.slice b2p b2n b2c)] w3 R = F15 r1 b2p b2n b2c w3 R := by kernel_rfl
theorem F15_of {r1 : Option Addr} {b2p : Option Addr} {b2n : Nat} {b2c : Nat} {w3 : World} {R : Value → World → Prop} (h : F15 r1 b2p b2n b2c w3 R) : CallR Try.prog 15 #[(Value.pointer r1), (Value.slice b2p b2n b2c)] w3 R := callR_of_lift _ ((F15_eq r1 b2p b2n b2c w3 R).mpr h)

-- F16 (*subway/subwayref07.Ring).Add
def F16 (r1 : Option Addr) (b2p : Option Addr) (b2n : Nat) (b2c : Nat) (w3 : World) (R : Value → World → Prop) : Prop :=
  ∃ (C4 : Cls), Cls.p C4 [] w3 ∧
  NilP r1 fun a5 =>
  NilP r1 fun a6 =>
  ∃ (x7 : Int), Qt C4 (Value.int .i64 x7) (fun w8 K9 =>
  LdI .i64 (Addr.add a5 1) w8 fun x10 =>
  K9 (Value.int .i64 x10) w8) ∧
  ∃ (x11p : Option Addr) (x11n : Nat) (x11c : Nat), Qt C4 (Value.slice x11p x11n x11c) (fun w12 K13 =>
  LdL (Addr.add a6 0) w12 fun x14p x14n x14c =>
  K13 (Value.slice x14p x14n x14c) w12) ∧
  ∀ G15 w16, Cls.p C4 G15 w16 →
  ∃ (C17 : Cls), Cls.p C17 [] w16 ∧
  NilP r1 fun a18 =>
  SlP b2p b2n b2c 1 0 (if (IntKind.wrap .i64 (x7 - (x11n : Int))) < (b2n : Int) then (IntKind.wrap .i64 (x7 - (x11n : Int))) else (b2n : Int)) fun x19p x19n x19c =>
  ∃ (x20p : Option Addr) (x20n : Nat) (x20c : Nat), Qt C17 (Value.slice x20p x20n x20c) (fun w21 K22 =>
  LdL (Addr.add a18 0) w21 fun x23p x23n x23c =>
  K22 (Value.slice x23p x23n x23c) w21) ∧
  ∀ b24 : Nat,
  ∃ (D26 : Value → Cls), (∀ G27 w28, Cls.p (Cls.push C17 (b24, .cells #[] 5)) G27 w28 →
  Run Try.prog (Builtin.append_ #[29, 29] 29 #[(Value.slice (some ⟨b24, 0, none⟩) 0 0), (Value.slice x20p x20n x20c)]) w28 fun v29 w30 =>
  AsL v29 fun x31p x31n x31c =>
  isR [.b .slice] (Value.slice x31p x31n x31c) ∧ Cls.p (D26 (Value.slice x31p x31n x31c)) G27 w30) ∧
  ∀ (x25p : Option Addr) (x25n : Nat) (x25c : Nat), (True) ∧
  ∃ (D33 : Value → Cls), (∀ G34 w35, Cls.p (D26 (Value.slice x25p x25n x25c)) G34 w35 →
  Run Try.prog (Builtin.append_ #[29, 29] 29 #[(Value.slice x25p x25n x25c), (Value.slice x19p x19n x19c)]) w35 fun v36 w37 =>
  AsL v36 fun x38p x38n x38c =>
  isR [.b .slice] (Value.slice x38p x38n x38c) ∧ Cls.p (D33 (Value.slice x38p x38n x38c)) G34 w37) ∧
  ∀ (x32p : Option Addr) (x32n : Nat) (x32c : Nat), (True) ∧
  NilP r1 fun a39 =>
  ∃ (D40 : Value → Cls), (∀ G41 w42, Cls.p (D33 (Value.slice x32p x32n x32c)) G41 w42 →
  St1 (Addr.add a39 0) (Value.slice x32p x32n x32c) w42 fun w43 =>
  isR [] (Value.tuple #[]) ∧ Cls.p (D40 (Value.tuple #[])) G41 w43) ∧
  (True) ∧
  ∀ G44 w45, Cls.p (D40 (Value.tuple #[])) G44 w45 →
  R (Value.int .i64 (if (IntKind.wrap .i64 (x7 - (x11n : Int))) < (b2n : Int) then (IntKind.wrap .i64 (x7 - (x11n : Int))) else (b2n : Int))) w45
theorem F16_eq (r1 : Option Addr) (b2p : Option Addr) (b2n : Nat) (b2c : Nat) (w3 : World) (R : Value → World → Prop) : liftF Try.prog 16 (.step .nil .nil (.draw [(0, false), (1, false), (2, false), (3, false), (4, false), (6, false), (7, false), (8, false), (5, false), (9, false), (10, false), (11, false), (12, false), (13, false)] (.draw [(0, false), (2, false), (3, false), (4, false), (7, false), (8, false), (9, false), (5, false), (1, false), (6, true), (10, true), (11, false), (12, false), (13, true)] .nil))) [(Value.pointer r1), (Value.slice b2p b2n b2c)] w3 R = F16 r1 b2p b2n b2c w3 R := by kernel_rfl
theorem F16_of {r1 : Option Addr} {b2p : Option Addr} {b2n : Nat} {b2c : Nat} {w3 : World} {R : Value → World → Prop} (h : F16 r1 b2p b2n b2c w3 R) : CallR Try.prog 16 #[(Value.pointer r1), (Value.slice b2p b2n b2c)] w3 R := callR_of_lift _ ((F16_eq r1 b2p b2n b2c w3 R).mpr h)

-- F17 (*subway/ring.Ring).Many
def F17 (r1 : Option Addr) (w2 : World) (R : Value → World → Prop) : Prop :=
  NilP r1 fun a3 =>
  LdI .i64 (Addr.add a3 2) w2 fun x4 =>
  R (Value.int .i64 x4) w2
theorem F17_eq (r1 : Option Addr) (w2 : World) (R : Value → World → Prop) : liftF Try.prog 17 .nil [(Value.pointer r1)] w2 R = F17 r1 w2 R := by kernel_rfl
theorem F17_of {r1 : Option Addr} {w2 : World} {R : Value → World → Prop} (h : F17 r1 w2 R) : CallR Try.prog 17 #[(Value.pointer r1)] w2 R := callR_of_lift _ ((F17_eq r1 w2 R).mpr h)

-- F18 (*subway/ring.Ring).Room
def F18 (r1 : Option Addr) (w2 : World) (R : Value → World → Prop) : Prop :=
  ∃ (C3 : Cls), Cls.p C3 [] w2 ∧
  NilP r1 fun a4 =>
  NilP r1 fun a5 =>
  ∃ (x6p : Option Addr) (x6n : Nat) (x6c : Nat), Qt C3 (Value.slice x6p x6n x6c) (fun w7 K8 =>
  LdL (Addr.add a4 0) w7 fun x9p x9n x9c =>
  K8 (Value.slice x9p x9n x9c) w7) ∧
  ∃ (x10 : Int), Qt C3 (Value.int .i64 x10) (fun w11 K12 =>
  LdI .i64 (Addr.add a5 2) w11 fun x13 =>
  K12 (Value.int .i64 x13) w11) ∧
  ∀ G14 w15, Cls.p C3 G14 w15 →
  R (Value.int .i64 (IntKind.wrap .i64 ((x6n : Int) - x10))) w15
theorem F18_eq (r1 : Option Addr) (w2 : World) (R : Value → World → Prop) : liftF Try.prog 18 (.step .nil .nil (.draw [(0, false), (1, false), (2, false), (5, false), (6, false), (7, false), (3, false), (4, false), (8, false), (9, false), (10, false)] .nil)) [(Value.pointer r1)] w2 R = F18 r1 w2 R := by kernel_rfl
theorem F18_of {r1 : Option Addr} {w2 : World} {R : Value → World → Prop} (h : F18 r1 w2 R) : CallR Try.prog 18 #[(Value.pointer r1)] w2 R := callR_of_lift _ ((F18_eq r1 w2 R).mpr h)

-- F19 (*subway/ring.Ring).Look
def F19 (r1 : Option Addr) (w2 : World) (R : Value → World → Prop) : Prop :=
  NilP r1 fun a3 =>
  LdI .i64 (Addr.add a3 2) w2 fun x4 =>
  CallR Try.prog 20 #[(Value.pointer r1), (Value.int .i64 x4)] w2 fun v5 w6 =>
  AsL v5 fun x7p x7n x7c =>
  R (Value.slice x7p x7n x7c) w6
theorem F19_eq (r1 : Option Addr) (w2 : World) (R : Value → World → Prop) : liftF Try.prog 19 .nil [(Value.pointer r1)] w2 R = F19 r1 w2 R := by kernel_rfl
theorem F19_of {r1 : Option Addr} {w2 : World} {R : Value → World → Prop} (h : F19 r1 w2 R) : CallR Try.prog 19 #[(Value.pointer r1)] w2 R := callR_of_lift _ ((F19_eq r1 w2 R).mpr h)

-- F20 (*subway/ring.Ring).first
def F20 (r1 : Option Addr) (n2 : Int) (w3 : World) (R : Value → World → Prop) : Prop :=
  NilP r1 fun a4 =>
  LdI .i64 (Addr.add a4 1) w3 fun x5 =>
  CallR Try.prog 21 #[(Value.pointer r1), (Value.int .i64 x5), (Value.int .i64 n2)] w3 fun v6 w7 =>
  ∃ (x8p : Option Addr) (x8n : Nat) (x8c : Nat), ∃ (x9p : Option Addr) (x9n : Nat) (x9c : Nat), v6 = (Value.tuple #[(Value.slice x8p x8n x8c), (Value.slice x9p x9n x9c)]) ∧
  MkS (#[(Value.int .u8 0)]) 1 1 5 n2 n2 w7 fun b10 w11 =>
  Run Try.prog (Builtin.copy_ #[29, 29] 3 #[(Value.slice (some ⟨b10, 0, none⟩) (Int.toNat n2) (Int.toNat n2)), (Value.slice x8p x8n x8c)]) w11 fun v12 w13 =>
  AsI .i64 v12 fun x14 =>
  SlP (some ⟨b10, 0, none⟩) (Int.toNat n2) (Int.toNat n2) 1 x14 ((Int.toNat n2) : Int) fun x15p x15n x15c =>
  Run Try.prog (Builtin.copy_ #[29, 29] 3 #[(Value.slice x15p x15n x15c), (Value.slice x9p x9n x9c)]) w13 fun v16 w17 =>
  AsI .i64 v16 fun x18 =>
  R (Value.slice (some ⟨b10, 0, none⟩) (Int.toNat n2) (Int.toNat n2)) w17
theorem F20_eq (r1 : Option Addr) (n2 : Int) (w3 : World) (R : Value → World → Prop) : liftF Try.prog 20 .nil [(Value.pointer r1), (Value.int .i64 n2)] w3 R = F20 r1 n2 w3 R := by kernel_rfl
theorem F20_of {r1 : Option Addr} {n2 : Int} {w3 : World} {R : Value → World → Prop} (h : F20 r1 n2 w3 R) : CallR Try.prog 20 #[(Value.pointer r1), (Value.int .i64 n2)] w3 R := callR_of_lift _ ((F20_eq r1 n2 w3 R).mpr h)

-- F21 (*subway/ring.Ring).parts
def F21 (r1 : Option Addr) (atv2 : Int) (n3 : Int) (w4 : World) (R : Value → World → Prop) : Prop :=
  NilP r1 fun a5 =>
  LdL (Addr.add a5 0) w4 fun x6p x6n x6c =>
  Bif ((x6n : Int) == 0) (
  R (Value.tuple #[(Value.slice none 0 0), (Value.slice none 0 0)]) w4) (
  NilP r1 fun a7 =>
  LdL (Addr.add a7 0) w4 fun x8p x8n x8c =>
  DivK (x8n : Int) (
  NilP r1 fun a9 =>
  LdL (Addr.add a9 0) w4 fun x10p x10n x10c =>
  ∃ (C11 : Cls), Cls.p C11 [] w4 ∧
  NilP r1 fun a12 =>
  NilP r1 fun a13 =>
  ∃ (x14p : Option Addr) (x14n : Nat) (x14c : Nat), Qt C11 (Value.slice x14p x14n x14c) (fun w15 K16 =>
  LdL (Addr.add a12 0) w15 fun x17p x17n x17c =>
  K16 (Value.slice x17p x17n x17c) w15) ∧
  SlP x14p x14n x14c 1 (Int.tmod atv2 (x8n : Int)) (IntKind.wrap .i64 ((Int.tmod atv2 (x8n : Int)) + (if (IntKind.wrap .i64 ((x10n : Int) - (Int.tmod atv2 (x8n : Int)))) < n3 then (IntKind.wrap .i64 ((x10n : Int) - (Int.tmod atv2 (x8n : Int)))) else n3))) fun x18p x18n x18c =>
  ∃ (x19p : Option Addr) (x19n : Nat) (x19c : Nat), Qt C11 (Value.slice x19p x19n x19c) (fun w20 K21 =>
  LdL (Addr.add a13 0) w20 fun x22p x22n x22c =>
  K21 (Value.slice x22p x22n x22c) w20) ∧
  SlP x19p x19n x19c 1 0 (IntKind.wrap .i64 (n3 - (if (IntKind.wrap .i64 ((x10n : Int) - (Int.tmod atv2 (x8n : Int)))) < n3 then (IntKind.wrap .i64 ((x10n : Int) - (Int.tmod atv2 (x8n : Int)))) else n3))) fun x23p x23n x23c =>
  ∀ G24 w25, Cls.p C11 G24 w25 →
  R (Value.tuple #[(Value.slice x18p x18n x18c), (Value.slice x23p x23n x23c)]) w25))
theorem F21_eq (r1 : Option Addr) (atv2 : Int) (n3 : Int) (w4 : World) (R : Value → World → Prop) : liftF Try.prog 21 (.step .nil .nil (.step .nil .nil (.step .nil .nil (.step .nil .nil (.step .nil .nil (.draw [(0, false), (1, false), (2, false), (4, false), (5, false), (6, false), (7, false), (9, false), (10, false), (11, false), (13, false), (14, false), (15, false), (3, false), (8, false), (17, false), (12, false), (16, false), (18, false)] .nil)))))) [(Value.pointer r1), (Value.int .i64 atv2), (Value.int .i64 n3)] w4 R = F21 r1 atv2 n3 w4 R := by kernel_rfl
theorem F21_of {r1 : Option Addr} {atv2 : Int} {n3 : Int} {w4 : World} {R : Value → World → Prop} (h : F21 r1 atv2 n3 w4 R) : CallR Try.prog 21 #[(Value.pointer r1), (Value.int .i64 atv2), (Value.int .i64 n3)] w4 R := callR_of_lift _ ((F21_eq r1 atv2 n3 w4 R).mpr h)

end Go.Proofs.Ytbpejbkpbohecaa
