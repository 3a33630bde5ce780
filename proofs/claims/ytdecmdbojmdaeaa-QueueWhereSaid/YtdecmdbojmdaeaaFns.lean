/- The lifted forms of this seat's functions, printed by a program; each is met by the kernel. -/
import Derived.Test.YtdecmdbojmdaeaaLift
import Derived.Test.YtdecmdbojmdaeaaProg
set_option linter.unusedVariables false
namespace Go.Proofs.Ytdecmdbojmdaeaa
open Go
-- F3 subway/subwaylaw14.QueuePlays
def F3 (l1p : Option Addr) (l1n : Nat) (l1c : Nat) (w2 : World) (R : Value → World → Prop) : Prop :=
  CallR Try.prog 9 #[] w2 fun v3 w4 =>
  AsB v3 fun x5 =>
  CallR Try.prog 10 #[] w4 fun v6 w7 =>
  AsP v6 fun x8 =>
  CallR Try.prog 11 #[] w7 fun v9 w10 =>
  AsP v9 fun x11 =>
  Bif (isNone' x8) (
  Bif (!(isNone' x8)) (
  R (Value.bool x5) w10) (
  R (Value.bool false) w10)) (
  CallR Try.prog 12 #[(Value.slice l1p l1n l1c)] w10 fun v12 w13 =>
  AsB v12 fun x14 =>
  Bif x14 (
  Bif (!(isNone' x8)) (
  R (Value.bool x5) w13) (
  R (Value.bool false) w13)) (
  Lp fun I15 mu16 =>
  I15 [(Value.int .i64 0)] w13 ∧
  ∀ (i17 : Int), ∀ w18, I15 [(Value.int .i64 i17)] w18 →
  Bif (decide (i17 < (l1n : Int))) (
  IxP l1p l1n i17 3 fun a19 =>
  LdI .i64 (Addr.add a19 0) w18 fun x20 =>
  LdS (Addr.add a19 1) w18 fun x21 =>
  LdI .i64 (Addr.add a19 2) w18 fun x22 =>
  NewC #[(Value.int .i64 0), (Value.string ⟨#[]⟩), (Value.int .i64 0)] 30 w18 fun b23 w24 =>
  St1 (Addr.add ⟨b23, 0, none⟩ 0) (Value.int .i64 x20) w24 fun w25 =>
  St1 (Addr.add ⟨b23, 0, none⟩ 1) (Value.string x21) w25 fun w26 =>
  St1 (Addr.add ⟨b23, 0, none⟩ 2) (Value.int .i64 x22) w26 fun w27 =>
  LdI .i64 (Addr.add ⟨b23, 0, none⟩ 0) w27 fun x28 =>
  Jn fun J29 => (
  Bif (x28 == 3) (
  LdS (Addr.add ⟨b23, 0, none⟩ 1) w27 fun x30 =>
  CallR Try.prog 13 #[(Value.pointer x8), (Value.string x30)] w27 fun v31 w32 =>
  ∃ (x33 : Int), ∃ (x34 : Bool), v31 = (Value.tuple #[(Value.int .i64 x33), (Value.bool x34)]) ∧
  LdS (Addr.add ⟨b23, 0, none⟩ 1) w32 fun x35 =>
  CallR Try.prog 14 #[(Value.pointer x11), (Value.string x35)] w32 fun v36 w37 =>
  ∃ (x38 : Int), ∃ (x39 : Bool), v36 = (Value.tuple #[(Value.int .i64 x38), (Value.bool x39)]) ∧
  Bif (x33 != x38) (
  R (Value.bool false) w37) (
  Bif (!(x34 == x39)) (
  R (Value.bool false) w37) (
  J29 [] w37))) (
  Bif (x28 == 4) (
  LdI .i64 (Addr.add ⟨b23, 0, none⟩ 2) w27 fun x40 =>
  CallR Try.prog 15 #[(Value.pointer x8), (Value.int .i64 x40)] w27 fun v41 w42 =>
  AsB v41 fun x43 =>
  LdI .i64 (Addr.add ⟨b23, 0, none⟩ 2) w42 fun x44 =>
  CallR Try.prog 16 #[(Value.pointer x11), (Value.int .i64 x44)] w42 fun v45 w46 =>
  AsB v45 fun x47 =>
  Bif (!(x43 == x47)) (
  R (Value.bool false) w46) (
  J29 [] w46)) (
  LdS (Addr.add ⟨b23, 0, none⟩ 1) w27 fun x48 =>
  LdI .i64 (Addr.add ⟨b23, 0, none⟩ 2) w27 fun x49 =>
  CallR Try.prog 17 #[(Value.pointer x8), (Value.string x48), (Value.int .i64 x49)] w27 fun v50 w51 =>
  AsI .i64 v50 fun x52 =>
  LdS (Addr.add ⟨b23, 0, none⟩ 1) w51 fun x53 =>
  LdI .i64 (Addr.add ⟨b23, 0, none⟩ 2) w51 fun x54 =>
  CallR Try.prog 18 #[(Value.pointer x11), (Value.string x53), (Value.int .i64 x54)] w51 fun v55 w56 =>
  AsI .i64 v55 fun x57 =>
  Bif (x52 != x57) (
  R (Value.bool false) w56) (
  J29 [] w56)))) ∧
  ∀ w58, J29 [] w58 →
  LdI .i64 (Addr.add ⟨b23, 0, none⟩ 2) w58 fun x59 =>
  CallR Try.prog 19 #[(Value.pointer x8), (Value.int .i64 x59)] w58 fun v60 w61 =>
  ∃ (x62 : ByteArray), ∃ (x63 : Bool), v60 = (Value.tuple #[(Value.string x62), (Value.bool x63)]) ∧
  LdI .i64 (Addr.add ⟨b23, 0, none⟩ 2) w61 fun x64 =>
  CallR Try.prog 20 #[(Value.pointer x11), (Value.int .i64 x64)] w61 fun v65 w66 =>
  ∃ (x67 : ByteArray), ∃ (x68 : Bool), v65 = (Value.tuple #[(Value.string x67), (Value.bool x68)]) ∧
  ∃ (C69 : Cls), Cls.p C69 [] w66 ∧
  Bif (!(ByteArray.toList x62 == ByteArray.toList x67)) (
  ∀ G70 w71, Cls.p C69 G70 w71 →
  R (Value.bool false) w71) (
  Bif (!(x63 == x68)) (
  ∀ G72 w73, Cls.p C69 G72 w73 →
  R (Value.bool false) w73) (
  NilP x11 fun a74 =>
  ∃ (x75p : Option Addr) (x75n : Nat) (x75c : Nat), Qt C69 (Value.slice x75p x75n x75c) (fun w76 K77 =>
  LdL (Addr.add a74 0) w76 fun x78p x78n x78c =>
  K77 (Value.slice x78p x78n x78c) w76) ∧
  Ef C69 (fun w82 K81 =>
  CallR Try.prog 21 #[(Value.pointer x8)] w82 fun v84 w85 =>
  AsI .i64 v84 fun x86 =>
  K81 (Value.int .i64 x86) w85) fun v83 D80 =>
  AsI .i64 v83 fun x87 =>
  (Qt D80 (Value.slice x75p x75n x75c) (fun w88 K89 =>
  LdL (Addr.add a74 0) w88 fun x90p x90n x90c =>
  K89 (Value.slice x90p x90n x90c) w88)) ∧
  Bif (x87 != (x75n : Int)) (
  ∀ G91 w92, Cls.p D80 G91 w92 →
  R (Value.bool false) w92) (
  ∃ (x93 : ByteArray), Qt D80 (Value.string x93) (fun w94 K95 =>
  LdS (Addr.add ⟨b23, 0, none⟩ 1) w94 fun x96 =>
  K95 (Value.string x96) w94) ∧
  ∃ (x97 : ByteArray), Qt D80 (Value.string x97) (fun w98 K99 =>
  LdS (Addr.add ⟨b23, 0, none⟩ 1) w98 fun x100 =>
  K99 (Value.string x100) w98) ∧
  Ef D80 (fun w104 K103 =>
  CallR Try.prog 23 #[(Value.pointer x8), (Value.string x93)] w104 fun v106 w107 =>
  AsL v106 fun x108p x108n x108c =>
  K103 (Value.slice x108p x108n x108c) w107) fun v105 D102 =>
  AsL v105 fun x109p x109n x109c =>
  (Qt D102 (Value.string x97) (fun w110 K111 =>
  LdS (Addr.add ⟨b23, 0, none⟩ 1) w110 fun x112 =>
  K111 (Value.string x112) w110)) ∧
  Ef D102 (fun w116 K115 =>
  CallR Try.prog 24 #[(Value.pointer x11), (Value.string x97)] w116 fun v118 w119 =>
  AsL v118 fun x120p x120n x120c =>
  K115 (Value.slice x120p x120n x120c) w119) fun v117 D114 =>
  AsL v117 fun x121p x121n x121c =>
  (True) ∧
  Ef D114 (fun w125 K124 =>
  CallR Try.prog 22 #[(Value.slice x109p x109n x109c), (Value.slice x121p x121n x121c)] w125 fun v127 w128 =>
  AsB v127 fun x129 =>
  K124 (Value.bool x129) w128) fun v126 D123 =>
  AsB v126 fun x130 =>
  (True) ∧
  ∀ G131 w132, Cls.p D123 G131 w132 →
  Bif (!x130) (
  R (Value.bool false) w132) (
  I15 [(Value.int .i64 (IntKind.wrap .i64 (i17 + 1)))] w132 ∧ mu16 [(Value.int .i64 (IntKind.wrap .i64 (i17 + 1)))] w132 < mu16 [(Value.int .i64 i17)] w18))))) (
  R (Value.bool x5) w18)))
theorem F3_eq (l1p : Option Addr) (l1n : Nat) (l1c : Nat) (w2 : World) (R : Value → World → Prop) : liftF Try.prog 3 (.step .nil .nil (.step .nil .nil (.step .nil .nil (.step .nil .nil (.step .nil .nil (.step .nil .nil (.step .nil .nil (.step (.loop [(6, .b (.int .i64))] (.step .nil .nil (.step .nil .nil (.step (.step .nil .nil (.step .nil .nil (.join 1 [] .nil (.step .nil .nil (.step .nil .nil (.draw [(0, false), (1, false), (2, false), (3, false), (4, false), (5, false), (6, false), (7, false), (8, false), (9, false), (11, false), (12, false), (13, false), (14, false), (15, false), (10, true), (16, false), (17, false), (18, false), (19, false), (20, false), (23, false), (24, false), (21, false), (25, false), (22, true), (26, true), (27, true), (28, false), (29, false)] .nil)))))) .nil .nil)))) .nil .nil)))))))) [(Value.slice l1p l1n l1c)] w2 R = F3 l1p l1n l1c w2 R := by kernel_rfl
theorem F3_of {l1p : Option Addr} {l1n : Nat} {l1c : Nat} {w2 : World} {R : Value → World → Prop} (h : F3 l1p l1n l1c w2 R) : CallR Try.prog 3 #[(Value.slice l1p l1n l1c)] w2 R := callR_of_lift _ ((F3_eq l1p l1n l1c w2 R).mpr h)

-- F4 subway/subwaylaw14.QueueOrder
def F4 (l1p : Option Addr) (l1n : Nat) (l1c : Nat) (name2 : ByteArray) (w3 : World) (R : Value → World → Prop) : Prop :=
  CallR Try.prog 9 #[] w3 fun v4 w5 =>
  AsB v4 fun x6 =>
  CallR Try.prog 10 #[] w5 fun v7 w8 =>
  AsP v7 fun x9 =>
  Bif (isNone' x9) (
  Bif (!(isNone' x9)) (
  R (Value.bool x6) w8) (
  R (Value.bool false) w8)) (
  CallR Try.prog 12 #[(Value.slice l1p l1n l1c)] w8 fun v10 w11 =>
  AsB v10 fun x12 =>
  Bif x12 (
  Bif (!(isNone' x9)) (
  R (Value.bool x6) w11) (
  R (Value.bool false) w11)) (
  Lp fun I13 mu14 =>
  I13 [(Value.slice none 0 0), (Value.int .i64 0)] w11 ∧
  ∀ (row15p : Option Addr) (row15n : Nat) (row15c : Nat), ∀ (i16 : Int), ∀ w17, I13 [(Value.slice row15p row15n row15c), (Value.int .i64 i16)] w17 →
  Bif (decide (i16 < (l1n : Int))) (
  IxP l1p l1n i16 3 fun a18 =>
  LdI .i64 (Addr.add a18 0) w17 fun x19 =>
  LdS (Addr.add a18 1) w17 fun x20 =>
  LdI .i64 (Addr.add a18 2) w17 fun x21 =>
  NewC #[(Value.int .i64 0), (Value.string ⟨#[]⟩), (Value.int .i64 0)] 30 w17 fun b22 w23 =>
  St1 (Addr.add ⟨b22, 0, none⟩ 0) (Value.int .i64 x19) w23 fun w24 =>
  St1 (Addr.add ⟨b22, 0, none⟩ 1) (Value.string x20) w24 fun w25 =>
  St1 (Addr.add ⟨b22, 0, none⟩ 2) (Value.int .i64 x21) w25 fun w26 =>
  LdI .i64 (Addr.add ⟨b22, 0, none⟩ 0) w26 fun x27 =>
  Bif (x27 == 3) (
  LdS (Addr.add ⟨b22, 0, none⟩ 1) w26 fun x28 =>
  CallR Try.prog 13 #[(Value.pointer x9), (Value.string x28)] w26 fun v29 w30 =>
  ∃ (x31 : Int), ∃ (x32 : Bool), v29 = (Value.tuple #[(Value.int .i64 x31), (Value.bool x32)]) ∧
  Jn fun J33 => (
  LdS (Addr.add ⟨b22, 0, none⟩ 1) w30 fun x34 =>
  Bif (ByteArray.toList x34 == ByteArray.toList name2) (
  Bif (!(x32 == (decide ((row15n : Int) > 0)))) (
  R (Value.bool false) w30) (
  Bif x32 (
  LdS (Addr.add ⟨b22, 0, none⟩ 1) w30 fun x35 =>
  Bif (ByteArray.toList x35 == ByteArray.toList name2) (
  IxP row15p row15n 0 1 fun a36 =>
  LdI .i64 a36 w30 fun x37 =>
  Bif (x31 != x37) (
  R (Value.bool false) w30) (
  J33 [] w30)) (
  J33 [] w30)) (
  J33 [] w30))) (
  Bif x32 (
  LdS (Addr.add ⟨b22, 0, none⟩ 1) w30 fun x38 =>
  Bif (ByteArray.toList x38 == ByteArray.toList name2) (
  IxP row15p row15n 0 1 fun a39 =>
  LdI .i64 a39 w30 fun x40 =>
  Bif (x31 != x40) (
  R (Value.bool false) w30) (
  J33 [] w30)) (
  J33 [] w30)) (
  J33 [] w30))) ∧
  ∀ w41, J33 [] w41 →
  Bif x32 (
  LdS (Addr.add ⟨b22, 0, none⟩ 1) w41 fun x42 =>
  Bif (ByteArray.toList x42 == ByteArray.toList name2) (
  NewC #[] 3 w41 fun b43 w44 =>
  SlP row15p row15n row15c 1 1 (row15n : Int) fun x45p x45n x45c =>
  Run Try.prog (Builtin.append_ #[43, 43] 43 #[(Value.slice (some ⟨b43, 0, none⟩) 0 0), (Value.slice x45p x45n x45c)]) w44 fun v46 w47 =>
  AsL v46 fun x48p x48n x48c =>
  I13 [(Value.slice x48p x48n x48c), (Value.int .i64 (IntKind.wrap .i64 (i16 + 1)))] w47 ∧ mu14 [(Value.slice x48p x48n x48c), (Value.int .i64 (IntKind.wrap .i64 (i16 + 1)))] w47 < mu14 [(Value.slice row15p row15n row15c), (Value.int .i64 i16)] w17) (
  I13 [(Value.slice row15p row15n row15c), (Value.int .i64 (IntKind.wrap .i64 (i16 + 1)))] w41 ∧ mu14 [(Value.slice row15p row15n row15c), (Value.int .i64 (IntKind.wrap .i64 (i16 + 1)))] w41 < mu14 [(Value.slice row15p row15n row15c), (Value.int .i64 i16)] w17)) (
  I13 [(Value.slice row15p row15n row15c), (Value.int .i64 (IntKind.wrap .i64 (i16 + 1)))] w41 ∧ mu14 [(Value.slice row15p row15n row15c), (Value.int .i64 (IntKind.wrap .i64 (i16 + 1)))] w41 < mu14 [(Value.slice row15p row15n row15c), (Value.int .i64 i16)] w17)) (
  LdI .i64 (Addr.add ⟨b22, 0, none⟩ 0) w26 fun x49 =>
  Bif (x49 == 4) (
  LdI .i64 (Addr.add ⟨b22, 0, none⟩ 2) w26 fun x50 =>
  CallR Try.prog 19 #[(Value.pointer x9), (Value.int .i64 x50)] w26 fun v51 w52 =>
  ∃ (x53 : ByteArray), ∃ (x54 : Bool), v51 = (Value.tuple #[(Value.string x53), (Value.bool x54)]) ∧
  LdI .i64 (Addr.add ⟨b22, 0, none⟩ 2) w52 fun x55 =>
  CallR Try.prog 15 #[(Value.pointer x9), (Value.int .i64 x55)] w52 fun v56 w57 =>
  AsB v56 fun x58 =>
  Bif (!(x58 == x54)) (
  R (Value.bool false) w57) (
  Bif x54 (
  Bif (ByteArray.toList x53 == ByteArray.toList name2) (
  LdI .i64 (Addr.add ⟨b22, 0, none⟩ 2) w57 fun x59 =>
  CallR Try.prog 25 #[(Value.slice row15p row15n row15c), (Value.int .i64 x59)] w57 fun v60 w61 =>
  AsL v60 fun x62p x62n x62c =>
  I13 [(Value.slice x62p x62n x62c), (Value.int .i64 (IntKind.wrap .i64 (i16 + 1)))] w61 ∧ mu14 [(Value.slice x62p x62n x62c), (Value.int .i64 (IntKind.wrap .i64 (i16 + 1)))] w61 < mu14 [(Value.slice row15p row15n row15c), (Value.int .i64 i16)] w17) (
  I13 [(Value.slice row15p row15n row15c), (Value.int .i64 (IntKind.wrap .i64 (i16 + 1)))] w57 ∧ mu14 [(Value.slice row15p row15n row15c), (Value.int .i64 (IntKind.wrap .i64 (i16 + 1)))] w57 < mu14 [(Value.slice row15p row15n row15c), (Value.int .i64 i16)] w17)) (
  I13 [(Value.slice row15p row15n row15c), (Value.int .i64 (IntKind.wrap .i64 (i16 + 1)))] w57 ∧ mu14 [(Value.slice row15p row15n row15c), (Value.int .i64 (IntKind.wrap .i64 (i16 + 1)))] w57 < mu14 [(Value.slice row15p row15n row15c), (Value.int .i64 i16)] w17))) (
  LdS (Addr.add ⟨b22, 0, none⟩ 1) w26 fun x63 =>
  LdI .i64 (Addr.add ⟨b22, 0, none⟩ 2) w26 fun x64 =>
  CallR Try.prog 17 #[(Value.pointer x9), (Value.string x63), (Value.int .i64 x64)] w26 fun v65 w66 =>
  AsI .i64 v65 fun x67 =>
  Bif (x67 == 0) (
  LdS (Addr.add ⟨b22, 0, none⟩ 1) w66 fun x68 =>
  Bif (ByteArray.toList x68 == ByteArray.toList name2) (
  LdI .i64 (Addr.add ⟨b22, 0, none⟩ 2) w66 fun x69 =>
  NewC #[(Value.int .i64 x69)] 3 w66 fun b70 w71 =>
  Run Try.prog (Builtin.append_ #[43, 43] 43 #[(Value.slice row15p row15n row15c), (Value.slice (some ⟨b70, 0, none⟩) 1 1)]) w71 fun v72 w73 =>
  AsL v72 fun x74p x74n x74c =>
  I13 [(Value.slice x74p x74n x74c), (Value.int .i64 (IntKind.wrap .i64 (i16 + 1)))] w73 ∧ mu14 [(Value.slice x74p x74n x74c), (Value.int .i64 (IntKind.wrap .i64 (i16 + 1)))] w73 < mu14 [(Value.slice row15p row15n row15c), (Value.int .i64 i16)] w17) (
  I13 [(Value.slice row15p row15n row15c), (Value.int .i64 (IntKind.wrap .i64 (i16 + 1)))] w66 ∧ mu14 [(Value.slice row15p row15n row15c), (Value.int .i64 (IntKind.wrap .i64 (i16 + 1)))] w66 < mu14 [(Value.slice row15p row15n row15c), (Value.int .i64 i16)] w17)) (
  I13 [(Value.slice row15p row15n row15c), (Value.int .i64 (IntKind.wrap .i64 (i16 + 1)))] w66 ∧ mu14 [(Value.slice row15p row15n row15c), (Value.int .i64 (IntKind.wrap .i64 (i16 + 1)))] w66 < mu14 [(Value.slice row15p row15n row15c), (Value.int .i64 i16)] w17)))) (
  Bif x6 (
  CallR Try.prog 23 #[(Value.pointer x9), (Value.string name2)] w17 fun v75 w76 =>
  AsL v75 fun x77p x77n x77c =>
  CallR Try.prog 22 #[(Value.slice x77p x77n x77c), (Value.slice row15p row15n row15c)] w76 fun v78 w79 =>
  AsB v78 fun x80 =>
  R (Value.bool x80) w79) (
  R (Value.bool false) w17))))
theorem F4_eq (l1p : Option Addr) (l1n : Nat) (l1c : Nat) (name2 : ByteArray) (w3 : World) (R : Value → World → Prop) : liftF Try.prog 4 (.step .nil .nil (.step .nil .nil (.step .nil .nil (.step .nil .nil (.step .nil .nil (.step .nil .nil (.step .nil .nil (.step (.loop [(7, .b .slice), (8, .b (.int .i64))] (.step .nil .nil (.step .nil .nil (.step (.step .nil .nil (.step .nil .nil (.step (.step .nil .nil (.join 2 [] .nil .nil)) .nil .nil))) .nil .nil)))) .nil .nil)))))))) [(Value.slice l1p l1n l1c), (Value.string name2)] w3 R = F4 l1p l1n l1c name2 w3 R := by kernel_rfl
theorem F4_of {l1p : Option Addr} {l1n : Nat} {l1c : Nat} {name2 : ByteArray} {w3 : World} {R : Value → World → Prop} (h : F4 l1p l1n l1c name2 w3 R) : CallR Try.prog 4 #[(Value.slice l1p l1n l1c), (Value.string name2)] w3 R := callR_of_lift _ ((F4_eq l1p l1n l1c name2 w3 R).mpr h)

-- F5 subway/subwaylaw14.QueueBounds
def F5 (l1p : Option Addr) (l1n : Nat) (l1c : Nat) (w2 : World) (R : Value → World → Prop) : Prop :=
  CallR Try.prog 9 #[] w2 fun v3 w4 =>
  AsB v3 fun x5 =>
  CallR Try.prog 10 #[] w4 fun v6 w7 =>
  AsP v6 fun x8 =>
  Bif (isNone' x8) (
  Bif (!(isNone' x8)) (
  R (Value.bool x5) w7) (
  R (Value.bool false) w7)) (
  CallR Try.prog 12 #[(Value.slice l1p l1n l1c)] w7 fun v9 w10 =>
  AsB v9 fun x11 =>
  Bif x11 (
  Bif (!(isNone' x8)) (
  R (Value.bool x5) w10) (
  R (Value.bool false) w10)) (
  Lp fun I12 mu13 =>
  I12 [(Value.int .i64 0)] w10 ∧
  ∀ (i14 : Int), ∀ w15, I12 [(Value.int .i64 i14)] w15 →
  Bif (decide (i14 < (l1n : Int))) (
  IxP l1p l1n i14 3 fun a16 =>
  LdI .i64 (Addr.add a16 0) w15 fun x17 =>
  LdS (Addr.add a16 1) w15 fun x18 =>
  LdI .i64 (Addr.add a16 2) w15 fun x19 =>
  NewC #[(Value.int .i64 0), (Value.string ⟨#[]⟩), (Value.int .i64 0)] 30 w15 fun b20 w21 =>
  St1 (Addr.add ⟨b20, 0, none⟩ 0) (Value.int .i64 x17) w21 fun w22 =>
  St1 (Addr.add ⟨b20, 0, none⟩ 1) (Value.string x18) w22 fun w23 =>
  St1 (Addr.add ⟨b20, 0, none⟩ 2) (Value.int .i64 x19) w23 fun w24 =>
  CallR Try.prog 21 #[(Value.pointer x8)] w24 fun v25 w26 =>
  AsI .i64 v25 fun x27 =>
  LdS (Addr.add ⟨b20, 0, none⟩ 1) w26 fun x28 =>
  CallR Try.prog 23 #[(Value.pointer x8), (Value.string x28)] w26 fun v29 w30 =>
  AsL v29 fun x31p x31n x31c =>
  LdI .i64 (Addr.add ⟨b20, 0, none⟩ 0) w30 fun x32 =>
  Jn fun J33 => (
  Bif (x32 == 3) (
  LdS (Addr.add ⟨b20, 0, none⟩ 1) w30 fun x34 =>
  CallR Try.prog 13 #[(Value.pointer x8), (Value.string x34)] w30 fun v35 w36 =>
  ∃ (x37 : Int), ∃ (x38 : Bool), v35 = (Value.tuple #[(Value.int .i64 x37), (Value.bool x38)]) ∧
  J33 [] w36) (
  LdI .i64 (Addr.add ⟨b20, 0, none⟩ 0) w30 fun x39 =>
  Bif (x39 == 4) (
  LdI .i64 (Addr.add ⟨b20, 0, none⟩ 2) w30 fun x40 =>
  CallR Try.prog 15 #[(Value.pointer x8), (Value.int .i64 x40)] w30 fun v41 w42 =>
  AsB v41 fun x43 =>
  J33 [] w42) (
  LdI .i64 (Addr.add ⟨b20, 0, none⟩ 2) w30 fun x44 =>
  CallR Try.prog 19 #[(Value.pointer x8), (Value.int .i64 x44)] w30 fun v45 w46 =>
  ∃ (x47 : ByteArray), ∃ (x48 : Bool), v45 = (Value.tuple #[(Value.string x47), (Value.bool x48)]) ∧
  LdS (Addr.add ⟨b20, 0, none⟩ 1) w46 fun x49 =>
  LdI .i64 (Addr.add ⟨b20, 0, none⟩ 2) w46 fun x50 =>
  CallR Try.prog 17 #[(Value.pointer x8), (Value.string x49), (Value.int .i64 x50)] w46 fun v51 w52 =>
  AsI .i64 v51 fun x53 =>
  Jn fun J54 => (
  Bif ((x31n : Int) == 8) (
  J54 [(Value.bool true)] w52) (
  J54 [(Value.bool (x27 == 64))] w52)) ∧
  ∀ (full55 : Bool), ∀ w56, J54 [(Value.bool full55)] w56 →
  Bif (!((x53 == 4) == x48)) (
  R (Value.bool false) w56) (
  Bif (!x48) (
  Bif (!((x53 == 2) == full55)) (
  R (Value.bool false) w56) (
  Bif (x53 != 0) (
  LdS (Addr.add ⟨b20, 0, none⟩ 1) w56 fun x57 =>
  CallR Try.prog 23 #[(Value.pointer x8), (Value.string x57)] w56 fun v58 w59 =>
  AsL v58 fun x60p x60n x60c =>
  CallR Try.prog 22 #[(Value.slice x60p x60n x60c), (Value.slice x31p x31n x31c)] w59 fun v61 w62 =>
  AsB v61 fun x63 =>
  Bif (!x63) (
  R (Value.bool false) w62) (
  CallR Try.prog 21 #[(Value.pointer x8)] w62 fun v64 w65 =>
  AsI .i64 v64 fun x66 =>
  Bif (x66 != x27) (
  Bif (x53 != 0) (
  R (Value.bool false) w65) (
  J33 [] w65)) (
  J33 [] w65))) (
  CallR Try.prog 21 #[(Value.pointer x8)] w56 fun v67 w68 =>
  AsI .i64 v67 fun x69 =>
  Bif (x69 != x27) (
  Bif (x53 != 0) (
  R (Value.bool false) w68) (
  J33 [] w68)) (
  J33 [] w68)))) (
  Bif (!((x53 == 2) == false)) (
  R (Value.bool false) w56) (
  Bif (x53 != 0) (
  LdS (Addr.add ⟨b20, 0, none⟩ 1) w56 fun x70 =>
  CallR Try.prog 23 #[(Value.pointer x8), (Value.string x70)] w56 fun v71 w72 =>
  AsL v71 fun x73p x73n x73c =>
  CallR Try.prog 22 #[(Value.slice x73p x73n x73c), (Value.slice x31p x31n x31c)] w72 fun v74 w75 =>
  AsB v74 fun x76 =>
  Bif (!x76) (
  R (Value.bool false) w75) (
  CallR Try.prog 21 #[(Value.pointer x8)] w75 fun v77 w78 =>
  AsI .i64 v77 fun x79 =>
  Bif (x79 != x27) (
  Bif (x53 != 0) (
  R (Value.bool false) w78) (
  J33 [] w78)) (
  J33 [] w78))) (
  CallR Try.prog 21 #[(Value.pointer x8)] w56 fun v80 w81 =>
  AsI .i64 v80 fun x82 =>
  Bif (x82 != x27) (
  Bif (x53 != 0) (
  R (Value.bool false) w81) (
  J33 [] w81)) (
  J33 [] w81)))))))) ∧
  ∀ w83, J33 [] w83 →
  LdS (Addr.add ⟨b20, 0, none⟩ 1) w83 fun x84 =>
  CallR Try.prog 23 #[(Value.pointer x8), (Value.string x84)] w83 fun v85 w86 =>
  AsL v85 fun x87p x87n x87c =>
  Lp fun I88 mu89 =>
  I88 [(Value.int .i64 0)] w86 ∧
  ∀ (k90 : Int), ∀ w91, I88 [(Value.int .i64 k90)] w91 →
  Bif (decide (k90 < (x87n : Int))) (
  Lp fun I92 mu93 =>
  I92 [(Value.int .i64 0)] w91 ∧
  ∀ (j94 : Int), ∀ w95, I92 [(Value.int .i64 j94)] w95 →
  Bif (decide (j94 < k90)) (
  ∃ (C96 : Cls), Cls.p C96 [] w95 ∧
  IxP x87p x87n j94 1 fun a97 =>
  IxP x87p x87n k90 1 fun a98 =>
  ∃ (x99 : Int), Qt C96 (Value.int .i64 x99) (fun w100 K101 =>
  LdI .i64 a97 w100 fun x102 =>
  K101 (Value.int .i64 x102) w100) ∧
  ∃ (x103 : Int), Qt C96 (Value.int .i64 x103) (fun w104 K105 =>
  LdI .i64 a98 w104 fun x106 =>
  K105 (Value.int .i64 x106) w104) ∧
  ∀ G107 w108, Cls.p C96 G107 w108 →
  Bif (x99 == x103) (
  R (Value.bool false) w108) (
  I92 [(Value.int .i64 (IntKind.wrap .i64 (j94 + 1)))] w108 ∧ mu93 [(Value.int .i64 (IntKind.wrap .i64 (j94 + 1)))] w108 < mu93 [(Value.int .i64 j94)] w95)) (
  I88 [(Value.int .i64 (IntKind.wrap .i64 (k90 + 1)))] w95 ∧ mu89 [(Value.int .i64 (IntKind.wrap .i64 (k90 + 1)))] w95 < mu89 [(Value.int .i64 k90)] w91)) (
  Bif (decide ((x87n : Int) > 8)) (
  R (Value.bool false) w91) (
  CallR Try.prog 21 #[(Value.pointer x8)] w91 fun v109 w110 =>
  AsI .i64 v109 fun x111 =>
  Bif (decide (x111 > 64)) (
  R (Value.bool false) w110) (
  I12 [(Value.int .i64 (IntKind.wrap .i64 (i14 + 1)))] w110 ∧ mu13 [(Value.int .i64 (IntKind.wrap .i64 (i14 + 1)))] w110 < mu13 [(Value.int .i64 i14)] w15)))) (
  R (Value.bool x5) w15)))
theorem F5_eq (l1p : Option Addr) (l1n : Nat) (l1c : Nat) (w2 : World) (R : Value → World → Prop) : liftF Try.prog 5 (.step .nil .nil (.step .nil .nil (.step .nil .nil (.step .nil .nil (.step .nil .nil (.step .nil .nil (.step (.loop [(5, .b (.int .i64))] (.step .nil .nil (.step .nil .nil (.step (.step .nil .nil (.step .nil .nil (.step .nil .nil (.step .nil .nil (.join 1 [] (.step .nil (.step .nil .nil (.step .nil (.step .nil .nil (.step .nil .nil (.join 1 [(12, .b .bool)] .nil .nil))) .nil)) .nil) (.step .nil .nil (.step .nil .nil (.step (.loop [(14, .b (.int .i64))] (.step .nil .nil (.step .nil .nil (.step (.step .nil .nil (.step (.loop [(15, .b (.int .i64))] (.step .nil .nil (.step .nil .nil (.step (.draw [(0, false), (1, false), (2, false), (4, false), (5, false), (6, false), (3, false), (7, false), (8, false)] .nil) .nil .nil)))) .nil .nil)) .nil .nil)))) .nil .nil)))))))) .nil .nil)))) .nil .nil))))))) [(Value.slice l1p l1n l1c)] w2 R = F5 l1p l1n l1c w2 R := by kernel_rfl
theorem F5_of {l1p : Option Addr} {l1n : Nat} {l1c : Nat} {w2 : World} {R : Value → World → Prop} (h : F5 l1p l1n l1c w2 R) : CallR Try.prog 5 #[(Value.slice l1p l1n l1c)] w2 R := callR_of_lift _ ((F5_eq l1p l1n l1c w2 R).mpr h)

-- F6 subway/subwaylaw14.QueueApart
def F6 (l1p : Option Addr) (l1n : Nat) (l1c : Nat) (name2 : ByteArray) (w3 : World) (R : Value → World → Prop) : Prop :=
  CallR Try.prog 9 #[] w3 fun v4 w5 =>
  AsB v4 fun x6 =>
  CallR Try.prog 10 #[] w5 fun v7 w8 =>
  AsP v7 fun x9 =>
  CallR Try.prog 10 #[] w8 fun v10 w11 =>
  AsP v10 fun x12 =>
  Bif (isNone' x9) (
  Bif (!(isNone' x9)) (
  Bif (!(isNone' x12)) (
  R (Value.bool x6) w11) (
  R (Value.bool false) w11)) (
  R (Value.bool false) w11)) (
  Bif (isNone' x12) (
  Bif (!(isNone' x9)) (
  Bif (!(isNone' x12)) (
  R (Value.bool x6) w11) (
  R (Value.bool false) w11)) (
  R (Value.bool false) w11)) (
  CallR Try.prog 12 #[(Value.slice l1p l1n l1c)] w11 fun v13 w14 =>
  AsB v13 fun x15 =>
  Bif x15 (
  Bif (!(isNone' x9)) (
  Bif (!(isNone' x12)) (
  R (Value.bool x6) w14) (
  R (Value.bool false) w14)) (
  R (Value.bool false) w14)) (
  Bif (decide ((l1n : Int) > 60)) (
  Bif (!(isNone' x9)) (
  Bif (!(isNone' x12)) (
  R (Value.bool x6) w14) (
  R (Value.bool false) w14)) (
  R (Value.bool false) w14)) (
  Lp fun I16 mu17 =>
  I16 [(Value.int .i64 0)] w14 ∧
  ∀ (i18 : Int), ∀ w19, I16 [(Value.int .i64 i18)] w19 →
  Bif (decide (i18 < (l1n : Int))) (
  IxP l1p l1n i18 3 fun a20 =>
  LdI .i64 (Addr.add a20 0) w19 fun x21 =>
  LdS (Addr.add a20 1) w19 fun x22 =>
  LdI .i64 (Addr.add a20 2) w19 fun x23 =>
  NewC #[(Value.int .i64 0), (Value.string ⟨#[]⟩), (Value.int .i64 0)] 30 w19 fun b24 w25 =>
  St1 (Addr.add ⟨b24, 0, none⟩ 0) (Value.int .i64 x21) w25 fun w26 =>
  St1 (Addr.add ⟨b24, 0, none⟩ 1) (Value.string x22) w26 fun w27 =>
  St1 (Addr.add ⟨b24, 0, none⟩ 2) (Value.int .i64 x23) w27 fun w28 =>
  LdS (Addr.add ⟨b24, 0, none⟩ 1) w28 fun x29 =>
  LdI .i64 (Addr.add ⟨b24, 0, none⟩ 2) w28 fun x30 =>
  DivK 1000 (
  St1 (Addr.add ⟨b24, 0, none⟩ 2) (Value.int .i64 (IntKind.wrap .i64 (2 * (Int.tmod x30 1000)))) w28 fun w31 =>
  Jn fun J32 => (
  Bif (!(ByteArray.toList x29 == ByteArray.toList name2)) (
  LdI .i64 (Addr.add ⟨b24, 0, none⟩ 2) w31 fun x33 =>
  St1 (Addr.add ⟨b24, 0, none⟩ 2) (Value.int .i64 (IntKind.wrap .i64 (x33 + 1))) w31 fun w34 =>
  J32 [] w34) (
  J32 [] w31)) ∧
  ∀ w35, J32 [] w35 →
  LdI .i64 (Addr.add ⟨b24, 0, none⟩ 0) w35 fun x36 =>
  Jn fun J37 => (
  Bif (x36 == 3) (
  LdS (Addr.add ⟨b24, 0, none⟩ 1) w35 fun x38 =>
  CallR Try.prog 13 #[(Value.pointer x9), (Value.string x38)] w35 fun v39 w40 =>
  ∃ (x41 : Int), ∃ (x42 : Bool), v39 = (Value.tuple #[(Value.int .i64 x41), (Value.bool x42)]) ∧
  Bif (ByteArray.toList x29 == ByteArray.toList name2) (
  LdS (Addr.add ⟨b24, 0, none⟩ 1) w40 fun x43 =>
  CallR Try.prog 13 #[(Value.pointer x12), (Value.string x43)] w40 fun v44 w45 =>
  ∃ (x46 : Int), ∃ (x47 : Bool), v44 = (Value.tuple #[(Value.int .i64 x46), (Value.bool x47)]) ∧
  Bif (x41 != x46) (
  R (Value.bool false) w45) (
  Bif (!(x42 == x47)) (
  R (Value.bool false) w45) (
  J37 [] w45))) (
  J37 [] w40)) (
  LdI .i64 (Addr.add ⟨b24, 0, none⟩ 0) w35 fun x48 =>
  Bif (x48 == 4) (
  LdI .i64 (Addr.add ⟨b24, 0, none⟩ 2) w35 fun x49 =>
  CallR Try.prog 15 #[(Value.pointer x9), (Value.int .i64 x49)] w35 fun v50 w51 =>
  AsB v50 fun x52 =>
  Bif (ByteArray.toList x29 == ByteArray.toList name2) (
  LdI .i64 (Addr.add ⟨b24, 0, none⟩ 2) w51 fun x53 =>
  CallR Try.prog 15 #[(Value.pointer x12), (Value.int .i64 x53)] w51 fun v54 w55 =>
  AsB v54 fun x56 =>
  Bif (!(x52 == x56)) (
  R (Value.bool false) w55) (
  J37 [] w55)) (
  J37 [] w51)) (
  LdS (Addr.add ⟨b24, 0, none⟩ 1) w35 fun x57 =>
  LdI .i64 (Addr.add ⟨b24, 0, none⟩ 2) w35 fun x58 =>
  CallR Try.prog 17 #[(Value.pointer x9), (Value.string x57), (Value.int .i64 x58)] w35 fun v59 w60 =>
  AsI .i64 v59 fun x61 =>
  Bif (ByteArray.toList x29 == ByteArray.toList name2) (
  LdS (Addr.add ⟨b24, 0, none⟩ 1) w60 fun x62 =>
  LdI .i64 (Addr.add ⟨b24, 0, none⟩ 2) w60 fun x63 =>
  CallR Try.prog 17 #[(Value.pointer x12), (Value.string x62), (Value.int .i64 x63)] w60 fun v64 w65 =>
  AsI .i64 v64 fun x66 =>
  Bif (x61 != x66) (
  R (Value.bool false) w65) (
  J37 [] w65)) (
  J37 [] w60)))) ∧
  ∀ w67, J37 [] w67 →
  CallR Try.prog 23 #[(Value.pointer x9), (Value.string name2)] w67 fun v68 w69 =>
  AsL v68 fun x70p x70n x70c =>
  CallR Try.prog 23 #[(Value.pointer x12), (Value.string name2)] w69 fun v71 w72 =>
  AsL v71 fun x73p x73n x73c =>
  CallR Try.prog 22 #[(Value.slice x70p x70n x70c), (Value.slice x73p x73n x73c)] w72 fun v74 w75 =>
  AsB v74 fun x76 =>
  Bif (!x76) (
  R (Value.bool false) w75) (
  I16 [(Value.int .i64 (IntKind.wrap .i64 (i18 + 1)))] w75 ∧ mu17 [(Value.int .i64 (IntKind.wrap .i64 (i18 + 1)))] w75 < mu17 [(Value.int .i64 i18)] w19))) (
  R (Value.bool x6) w19)))))
theorem F6_eq (l1p : Option Addr) (l1n : Nat) (l1c : Nat) (name2 : ByteArray) (w3 : World) (R : Value → World → Prop) : liftF Try.prog 6 (.step .nil .nil (.step .nil .nil (.step .nil .nil (.step .nil .nil (.step .nil .nil (.step .nil .nil (.step .nil .nil (.step (.loop [(8, .b (.int .i64))] (.step .nil .nil (.step .nil .nil (.step (.step .nil .nil (.step .nil .nil (.step .nil .nil (.step .nil .nil (.join 1 [] .nil (.step .nil .nil (.join 1 [] .nil .nil))))))) .nil .nil)))) .nil .nil)))))))) [(Value.slice l1p l1n l1c), (Value.string name2)] w3 R = F6 l1p l1n l1c name2 w3 R := by kernel_rfl
theorem F6_of {l1p : Option Addr} {l1n : Nat} {l1c : Nat} {name2 : ByteArray} {w3 : World} {R : Value → World → Prop} (h : F6 l1p l1n l1c name2 w3 R) : CallR Try.prog 6 #[(Value.slice l1p l1n l1c), (Value.string name2)] w3 R := callR_of_lift _ ((F6_eq l1p l1n l1c name2 w3 R).mpr h)

-- F7 subway/subwaylaw14.QueueWhere
def F7 (l1p : Option Addr) (l1n : Nat) (l1c : Nat) (w2 : World) (R : Value → World → Prop) : Prop :=
  CallR Try.prog 9 #[] w2 fun v3 w4 =>
  AsB v3 fun x5 =>
  CallR Try.prog 10 #[] w4 fun v6 w7 =>
  AsP v6 fun x8 =>
  Bif (isNone' x8) (
  Bif (!(isNone' x8)) (
  R (Value.bool x5) w7) (
  R (Value.bool false) w7)) (
  CallR Try.prog 12 #[(Value.slice l1p l1n l1c)] w7 fun v9 w10 =>
  AsB v9 fun x11 =>
  Bif x11 (
  Bif (!(isNone' x8)) (
  R (Value.bool x5) w10) (
  R (Value.bool false) w10)) (
  Lp fun I12 mu13 =>
  I12 [(Value.slice none 0 0), (Value.slice none 0 0), (Value.int .i64 0)] w10 ∧
  ∀ (ids14p : Option Addr) (ids14n : Nat) (ids14c : Nat), ∀ (names15p : Option Addr) (names15n : Nat) (names15c : Nat), ∀ (i16 : Int), ∀ w17, I12 [(Value.slice ids14p ids14n ids14c), (Value.slice names15p names15n names15c), (Value.int .i64 i16)] w17 →
  Bif (decide (i16 < (l1n : Int))) (
  IxP l1p l1n i16 3 fun a18 =>
  LdI .i64 (Addr.add a18 0) w17 fun x19 =>
  LdS (Addr.add a18 1) w17 fun x20 =>
  LdI .i64 (Addr.add a18 2) w17 fun x21 =>
  NewC #[(Value.int .i64 0), (Value.string ⟨#[]⟩), (Value.int .i64 0)] 30 w17 fun b22 w23 =>
  St1 (Addr.add ⟨b22, 0, none⟩ 0) (Value.int .i64 x19) w23 fun w24 =>
  St1 (Addr.add ⟨b22, 0, none⟩ 1) (Value.string x20) w24 fun w25 =>
  St1 (Addr.add ⟨b22, 0, none⟩ 2) (Value.int .i64 x21) w25 fun w26 =>
  LdI .i64 (Addr.add ⟨b22, 0, none⟩ 0) w26 fun x27 =>
  Jn fun J28 => (
  Bif (x27 == 3) (
  LdS (Addr.add ⟨b22, 0, none⟩ 1) w26 fun x29 =>
  CallR Try.prog 13 #[(Value.pointer x8), (Value.string x29)] w26 fun v30 w31 =>
  ∃ (x32 : Int), ∃ (x33 : Bool), v30 = (Value.tuple #[(Value.int .i64 x32), (Value.bool x33)]) ∧
  J28 [(Value.slice ids14p ids14n ids14c), (Value.slice names15p names15n names15c), (Value.int .i64 x32), (Value.bool x33)] w31) (
  LdI .i64 (Addr.add ⟨b22, 0, none⟩ 0) w26 fun x34 =>
  Bif (x34 == 4) (
  LdI .i64 (Addr.add ⟨b22, 0, none⟩ 2) w26 fun x35 =>
  CallR Try.prog 15 #[(Value.pointer x8), (Value.int .i64 x35)] w26 fun v36 w37 =>
  AsB v36 fun x38 =>
  LdI .i64 (Addr.add ⟨b22, 0, none⟩ 2) w37 fun x39 =>
  J28 [(Value.slice ids14p ids14n ids14c), (Value.slice names15p names15n names15c), (Value.int .i64 x39), (Value.bool x38)] w37) (
  LdS (Addr.add ⟨b22, 0, none⟩ 1) w26 fun x40 =>
  LdI .i64 (Addr.add ⟨b22, 0, none⟩ 2) w26 fun x41 =>
  CallR Try.prog 17 #[(Value.pointer x8), (Value.string x40), (Value.int .i64 x41)] w26 fun v42 w43 =>
  AsI .i64 v42 fun x44 =>
  Bif (x44 == 0) (
  LdI .i64 (Addr.add ⟨b22, 0, none⟩ 2) w43 fun x45 =>
  NewC #[(Value.int .i64 x45)] 3 w43 fun b46 w47 =>
  Run Try.prog (Builtin.append_ #[43, 43] 43 #[(Value.slice ids14p ids14n ids14c), (Value.slice (some ⟨b46, 0, none⟩) 1 1)]) w47 fun v48 w49 =>
  AsL v48 fun x50p x50n x50c =>
  LdS (Addr.add ⟨b22, 0, none⟩ 1) w49 fun x51 =>
  NewC #[(Value.string x51)] 9 w49 fun b52 w53 =>
  Run Try.prog (Builtin.append_ #[47, 47] 47 #[(Value.slice names15p names15n names15c), (Value.slice (some ⟨b52, 0, none⟩) 1 1)]) w53 fun v54 w55 =>
  AsL v54 fun x56p x56n x56c =>
  J28 [(Value.slice x50p x50n x50c), (Value.slice x56p x56n x56c), (Value.int .i64 0), (Value.bool false)] w55) (
  J28 [(Value.slice ids14p ids14n ids14c), (Value.slice names15p names15n names15c), (Value.int .i64 0), (Value.bool false)] w43)))) ∧
  ∀ (ids57p : Option Addr) (ids57n : Nat) (ids57c : Nat), ∀ (names58p : Option Addr) (names58n : Nat) (names58c : Nat), ∀ (gone59 : Int), ∀ (isv60 : Bool), ∀ w61, J28 [(Value.slice ids57p ids57n ids57c), (Value.slice names58p names58n names58c), (Value.int .i64 gone59), (Value.bool isv60)] w61 →
  Jn fun J62 => (
  Lp fun I63 mu64 =>
  I63 [(Value.slice ids57p ids57n ids57c), (Value.slice names58p names58n names58c), (Value.int .i64 (IntKind.wrap .i64 ((ids57n : Int) - 1)))] w61 ∧
  ∀ (ids65p : Option Addr) (ids65n : Nat) (ids65c : Nat), ∀ (names66p : Option Addr) (names66n : Nat) (names66c : Nat), ∀ (k67 : Int), ∀ w68, I63 [(Value.slice ids65p ids65n ids65c), (Value.slice names66p names66n names66c), (Value.int .i64 k67)] w68 →
  Bif isv60 (
  Bif (decide (k67 ≥ 0)) (
  IxP ids65p ids65n k67 1 fun a69 =>
  LdI .i64 a69 w68 fun x70 =>
  Bif (x70 == gone59) (
  ∃ (C71 : Cls), Cls.p C71 [] w68 ∧
  SlP ids65p ids65n ids65c 1 0 k67 fun x72p x72n x72c =>
  SlP ids65p ids65n ids65c 1 (IntKind.wrap .i64 (k67 + 1)) (ids65n : Int) fun x73p x73n x73c =>
  ∀ b74 : Nat,
  Ef (Cls.push C71 (b74, .cells #[] 3)) (fun w78 K77 =>
  Run Try.prog (Builtin.append_ #[43, 43] 43 #[(Value.slice (some ⟨b74, 0, none⟩) 0 0), (Value.slice x72p x72n x72c)]) w78 fun v80 w81 =>
  AsL v80 fun x82p x82n x82c =>
  K77 (Value.slice x82p x82n x82c) w81) fun v79 D76 =>
  AsL v79 fun x83p x83n x83c =>
  (True) ∧
  Ef D76 (fun w87 K86 =>
  Run Try.prog (Builtin.append_ #[43, 43] 43 #[(Value.slice x83p x83n x83c), (Value.slice x73p x73n x73c)]) w87 fun v89 w90 =>
  AsL v89 fun x91p x91n x91c =>
  K86 (Value.slice x91p x91n x91c) w90) fun v88 D85 =>
  AsL v88 fun x92p x92n x92c =>
  (True) ∧
  ∀ G93 w94, Cls.p D85 G93 w94 →
  ∃ (C95 : Cls), Cls.p C95 [] w94 ∧
  SlP names66p names66n names66c 1 0 k67 fun x96p x96n x96c =>
  SlP names66p names66n names66c 1 (IntKind.wrap .i64 (k67 + 1)) (names66n : Int) fun x97p x97n x97c =>
  ∀ b98 : Nat,
  Ef (Cls.push C95 (b98, .cells #[] 9)) (fun w102 K101 =>
  Run Try.prog (Builtin.append_ #[47, 47] 47 #[(Value.slice (some ⟨b98, 0, none⟩) 0 0), (Value.slice x96p x96n x96c)]) w102 fun v104 w105 =>
  AsL v104 fun x106p x106n x106c =>
  K101 (Value.slice x106p x106n x106c) w105) fun v103 D100 =>
  AsL v103 fun x107p x107n x107c =>
  (True) ∧
  Ef D100 (fun w111 K110 =>
  Run Try.prog (Builtin.append_ #[47, 47] 47 #[(Value.slice x107p x107n x107c), (Value.slice x97p x97n x97c)]) w111 fun v113 w114 =>
  AsL v113 fun x115p x115n x115c =>
  K110 (Value.slice x115p x115n x115c) w114) fun v112 D109 =>
  AsL v112 fun x116p x116n x116c =>
  (True) ∧
  ∀ G117 w118, Cls.p D109 G117 w118 →
  I63 [(Value.slice x92p x92n x92c), (Value.slice x116p x116n x116c), (Value.int .i64 (IntKind.wrap .i64 (k67 - 1)))] w118 ∧ mu64 [(Value.slice x92p x92n x92c), (Value.slice x116p x116n x116c), (Value.int .i64 (IntKind.wrap .i64 (k67 - 1)))] w118 < mu64 [(Value.slice ids65p ids65n ids65c), (Value.slice names66p names66n names66c), (Value.int .i64 k67)] w68) (
  I63 [(Value.slice ids65p ids65n ids65c), (Value.slice names66p names66n names66c), (Value.int .i64 (IntKind.wrap .i64 (k67 - 1)))] w68 ∧ mu64 [(Value.slice ids65p ids65n ids65c), (Value.slice names66p names66n names66c), (Value.int .i64 (IntKind.wrap .i64 (k67 - 1)))] w68 < mu64 [(Value.slice ids65p ids65n ids65c), (Value.slice names66p names66n names66c), (Value.int .i64 k67)] w68)) (
  J62 [(Value.slice ids65p ids65n ids65c), (Value.slice names66p names66n names66c)] w68)) (
  J62 [(Value.slice ids65p ids65n ids65c), (Value.slice names66p names66n names66c)] w68)) ∧
  ∀ (ids119p : Option Addr) (ids119n : Nat) (ids119c : Nat), ∀ (names120p : Option Addr) (names120n : Nat) (names120c : Nat), ∀ w121, J62 [(Value.slice ids119p ids119n ids119c), (Value.slice names120p names120n names120c)] w121 →
  CallR Try.prog 21 #[(Value.pointer x8)] w121 fun v122 w123 =>
  AsI .i64 v122 fun x124 =>
  Bif (x124 != (ids119n : Int)) (
  R (Value.bool false) w123) (
  I12 [(Value.slice ids119p ids119n ids119c), (Value.slice names120p names120n names120c), (Value.int .i64 (IntKind.wrap .i64 (i16 + 1)))] w123 ∧ mu13 [(Value.slice ids119p ids119n ids119c), (Value.slice names120p names120n names120c), (Value.int .i64 (IntKind.wrap .i64 (i16 + 1)))] w123 < mu13 [(Value.slice ids14p ids14n ids14c), (Value.slice names15p names15n names15c), (Value.int .i64 i16)] w17)) (
  Lp fun I125 mu126 =>
  I125 [(Value.int .i64 0)] w17 ∧
  ∀ (i127 : Int), ∀ w128, I125 [(Value.int .i64 i127)] w128 →
  Bif (decide (i127 < (ids14n : Int))) (
  IxP ids14p ids14n i127 1 fun a129 =>
  LdI .i64 a129 w128 fun x130 =>
  CallR Try.prog 19 #[(Value.pointer x8), (Value.int .i64 x130)] w128 fun v131 w132 =>
  ∃ (x133 : ByteArray), ∃ (x134 : Bool), v131 = (Value.tuple #[(Value.string x133), (Value.bool x134)]) ∧
  Bif (!x134) (
  R (Value.bool false) w132) (
  IxP names15p names15n i127 1 fun a135 =>
  LdS a135 w132 fun x136 =>
  Bif (!(ByteArray.toList x133 == ByteArray.toList x136)) (
  R (Value.bool false) w132) (
  I125 [(Value.int .i64 (IntKind.wrap .i64 (i127 + 1)))] w132 ∧ mu126 [(Value.int .i64 (IntKind.wrap .i64 (i127 + 1)))] w132 < mu126 [(Value.int .i64 i127)] w128))) (
  R (Value.bool x5) w128))))
theorem F7_eq (l1p : Option Addr) (l1n : Nat) (l1c : Nat) (w2 : World) (R : Value → World → Prop) : liftF Try.prog 7 (.step .nil .nil (.step .nil .nil (.step .nil .nil (.step .nil .nil (.step .nil .nil (.step .nil .nil (.step .nil .nil (.step .nil .nil (.step (.loop [(5, .b .slice), (6, .b .slice), (7, .b (.int .i64))] (.step .nil .nil (.step .nil .nil (.step (.step .nil .nil (.step .nil .nil (.step .nil .nil (.step .nil .nil (.join 1 [(5, .b .slice), (6, .b .slice), (9, .b (.int .i64)), (10, .b .bool)] .nil (.step .nil .nil (.join 1 [(5, .b .slice), (6, .b .slice)] (.step (.loop [(5, .b .slice), (6, .b .slice), (13, .b (.int .i64))] (.step .nil .nil (.step .nil .nil (.step (.step .nil .nil (.step (.draw [(1, false), (2, false), (3, false), (5, false), (6, false), (7, false), (8, false), (0, false), (4, true), (9, true), (10, false)] (.draw [(1, false), (2, false), (3, false), (5, false), (6, false), (7, false), (8, false), (0, false), (4, true), (9, true), (10, false)] .nil)) .nil .nil)) .nil .nil)))) .nil .nil) .nil))))))) .nil .nil)))) .nil (.step .nil .nil (.step (.loop [(14, .b (.int .i64))] .nil) .nil .nil))))))))))) [(Value.slice l1p l1n l1c)] w2 R = F7 l1p l1n l1c w2 R := by kernel_rfl
theorem F7_of {l1p : Option Addr} {l1n : Nat} {l1c : Nat} {w2 : World} {R : Value → World → Prop} (h : F7 l1p l1n l1c w2 R) : CallR Try.prog 7 #[(Value.slice l1p l1n l1c)] w2 R := callR_of_lift _ ((F7_eq l1p l1n l1c w2 R).mpr h)

-- F8 subway/subwaylaw14.QueueDrain
def F8 (l1p : Option Addr) (l1n : Nat) (l1c : Nat) (name2 : ByteArray) (w3 : World) (R : Value → World → Prop) : Prop :=
  CallR Try.prog 9 #[] w3 fun v4 w5 =>
  AsB v4 fun x6 =>
  CallR Try.prog 10 #[] w5 fun v7 w8 =>
  AsP v7 fun x9 =>
  Bif (isNone' x9) (
  Bif (!(isNone' x9)) (
  R (Value.bool x6) w8) (
  R (Value.bool false) w8)) (
  CallR Try.prog 12 #[(Value.slice l1p l1n l1c)] w8 fun v10 w11 =>
  AsB v10 fun x12 =>
  Bif x12 (
  Bif (!(isNone' x9)) (
  R (Value.bool x6) w11) (
  R (Value.bool false) w11)) (
  Lp fun I13 mu14 =>
  I13 [(Value.int .i64 0)] w11 ∧
  ∀ (i15 : Int), ∀ w16, I13 [(Value.int .i64 i15)] w16 →
  Bif (decide (i15 < (l1n : Int))) (
  IxP l1p l1n i15 3 fun a17 =>
  LdI .i64 (Addr.add a17 0) w16 fun x18 =>
  Bif (x18 == 4) (
  IxP l1p l1n i15 3 fun a19 =>
  LdI .i64 (Addr.add a19 2) w16 fun x20 =>
  CallR Try.prog 15 #[(Value.pointer x9), (Value.int .i64 x20)] w16 fun v21 w22 =>
  AsB v21 fun x23 =>
  I13 [(Value.int .i64 (IntKind.wrap .i64 (i15 + 1)))] w22 ∧ mu14 [(Value.int .i64 (IntKind.wrap .i64 (i15 + 1)))] w22 < mu14 [(Value.int .i64 i15)] w16) (
  ∃ (C24 : Cls), Cls.p C24 [] w16 ∧
  IxP l1p l1n i15 3 fun a25 =>
  IxP l1p l1n i15 3 fun a26 =>
  ∃ (x27 : ByteArray), Qt C24 (Value.string x27) (fun w28 K29 =>
  LdS (Addr.add a25 1) w28 fun x30 =>
  K29 (Value.string x30) w28) ∧
  ∃ (x31 : Int), Qt C24 (Value.int .i64 x31) (fun w32 K33 =>
  LdI .i64 (Addr.add a26 2) w32 fun x34 =>
  K33 (Value.int .i64 x34) w32) ∧
  Ef C24 (fun w38 K37 =>
  CallR Try.prog 17 #[(Value.pointer x9), (Value.string x27), (Value.int .i64 x31)] w38 fun v40 w41 =>
  AsI .i64 v40 fun x42 =>
  K37 (Value.int .i64 x42) w41) fun v39 D36 =>
  AsI .i64 v39 fun x43 =>
  (True) ∧
  ∀ G44 w45, Cls.p D36 G44 w45 →
  I13 [(Value.int .i64 (IntKind.wrap .i64 (i15 + 1)))] w45 ∧ mu14 [(Value.int .i64 (IntKind.wrap .i64 (i15 + 1)))] w45 < mu14 [(Value.int .i64 i15)] w16)) (
  CallR Try.prog 23 #[(Value.pointer x9), (Value.string name2)] w16 fun v46 w47 =>
  AsL v46 fun x48p x48n x48c =>
  CallR Try.prog 21 #[(Value.pointer x9)] w47 fun v49 w50 =>
  AsI .i64 v49 fun x51 =>
  Lp fun I52 mu53 =>
  I52 [(Value.int .i64 0)] w50 ∧
  ∀ (i54 : Int), ∀ w55, I52 [(Value.int .i64 i54)] w55 →
  Bif (decide (i54 < (x48n : Int))) (
  CallR Try.prog 13 #[(Value.pointer x9), (Value.string name2)] w55 fun v56 w57 =>
  ∃ (x58 : Int), ∃ (x59 : Bool), v56 = (Value.tuple #[(Value.int .i64 x58), (Value.bool x59)]) ∧
  Bif (!x59) (
  R (Value.bool false) w57) (
  IxP x48p x48n i54 1 fun a60 =>
  LdI .i64 a60 w57 fun x61 =>
  Bif (x58 != x61) (
  R (Value.bool false) w57) (
  I52 [(Value.int .i64 (IntKind.wrap .i64 (i54 + 1)))] w57 ∧ mu53 [(Value.int .i64 (IntKind.wrap .i64 (i54 + 1)))] w57 < mu53 [(Value.int .i64 i54)] w55))) (
  CallR Try.prog 13 #[(Value.pointer x9), (Value.string name2)] w55 fun v62 w63 =>
  ∃ (x64 : Int), ∃ (x65 : Bool), v62 = (Value.tuple #[(Value.int .i64 x64), (Value.bool x65)]) ∧
  Bif x6 (
  Bif (!x65) (
  CallR Try.prog 23 #[(Value.pointer x9), (Value.string name2)] w63 fun v66 w67 =>
  AsL v66 fun x68p x68n x68c =>
  Bif ((x68n : Int) == 0) (
  CallR Try.prog 21 #[(Value.pointer x9)] w67 fun v69 w70 =>
  AsI .i64 v69 fun x71 =>
  Bif (x71 == (IntKind.wrap .i64 (x51 - (x48n : Int)))) (
  R (Value.bool (decide ((x48n : Int) ≤ 8))) w70) (
  R (Value.bool false) w70)) (
  R (Value.bool false) w67)) (
  R (Value.bool false) w63)) (
  R (Value.bool false) w63)))))
theorem F8_eq (l1p : Option Addr) (l1n : Nat) (l1c : Nat) (name2 : ByteArray) (w3 : World) (R : Value → World → Prop) : liftF Try.prog 8 (.step .nil .nil (.step .nil .nil (.step .nil .nil (.step .nil .nil (.step .nil .nil (.step .nil .nil (.step (.loop [(7, .b (.int .i64))] (.step .nil .nil (.step .nil .nil (.step (.step .nil .nil (.step .nil (.draw [(0, false), (1, false), (2, false), (3, false), (4, false), (6, false), (7, false), (8, false), (9, false), (5, false), (10, false), (11, true)] .nil) .nil)) .nil .nil)))) .nil (.step .nil .nil (.step .nil .nil (.step .nil .nil (.step (.loop [(10, .b (.int .i64))] .nil) .nil .nil))))))))))) [(Value.slice l1p l1n l1c), (Value.string name2)] w3 R = F8 l1p l1n l1c name2 w3 R := by kernel_rfl
theorem F8_of {l1p : Option Addr} {l1n : Nat} {l1c : Nat} {name2 : ByteArray} {w3 : World} {R : Value → World → Prop} (h : F8 l1p l1n l1c name2 w3 R) : CallR Try.prog 8 #[(Value.slice l1p l1n l1c), (Value.string name2)] w3 R := callR_of_lift _ ((F8_eq l1p l1n l1c name2 w3 R).mpr h)

-- F9 subway/subwaylaw14.head
def F9  (w1 : World) (R : Value → World → Prop) : Prop :=
  CallR Try.prog 10 #[] w1 fun v2 w3 =>
  AsP v2 fun x4 =>
  Bif (isNone' x4) (
  R (Value.bool false) w3) (
  CallR Try.prog 17 #[(Value.pointer x4), (Value.string ⟨#[119, 101, 98]⟩), (Value.int .i64 1)] w3 fun v5 w6 =>
  AsI .i64 v5 fun x7 =>
  CallR Try.prog 17 #[(Value.pointer x4), (Value.string ⟨#[119, 101, 98]⟩), (Value.int .i64 2)] w6 fun v8 w9 =>
  AsI .i64 v8 fun x10 =>
  CallR Try.prog 17 #[(Value.pointer x4), (Value.string ⟨#[102, 116, 112]⟩), (Value.int .i64 1)] w9 fun v11 w12 =>
  AsI .i64 v11 fun x13 =>
  CallR Try.prog 17 #[(Value.pointer x4), (Value.string ⟨#[102, 116, 112]⟩), (Value.int .i64 3)] w12 fun v14 w15 =>
  AsI .i64 v14 fun x16 =>
  CallR Try.prog 19 #[(Value.pointer x4), (Value.int .i64 3)] w15 fun v17 w18 =>
  ∃ (x19 : ByteArray), ∃ (x20 : Bool), v17 = (Value.tuple #[(Value.string x19), (Value.bool x20)]) ∧
  CallR Try.prog 15 #[(Value.pointer x4), (Value.int .i64 1)] w18 fun v21 w22 =>
  AsB v21 fun x23 =>
  CallR Try.prog 13 #[(Value.pointer x4), (Value.string ⟨#[119, 101, 98]⟩)] w22 fun v24 w25 =>
  ∃ (x26 : Int), ∃ (x27 : Bool), v24 = (Value.tuple #[(Value.int .i64 x26), (Value.bool x27)]) ∧
  CallR Try.prog 13 #[(Value.pointer x4), (Value.string ⟨#[119, 101, 98]⟩)] w25 fun v28 w29 =>
  ∃ (x30 : Int), ∃ (x31 : Bool), v28 = (Value.tuple #[(Value.int .i64 x30), (Value.bool x31)]) ∧
  Bif (x7 == 0) (
  Bif (x10 == 0) (
  Bif (x13 == 4) (
  Bif (x16 == 0) (
  Bif (ByteArray.toList x19 == ByteArray.toList ⟨#[102, 116, 112]⟩) (
  Bif x20 (
  Bif x23 (
  Bif (x26 == 2) (
  Bif x27 (
  Bif (!x31) (
  CallR Try.prog 21 #[(Value.pointer x4)] w29 fun v32 w33 =>
  AsI .i64 v32 fun x34 =>
  Bif (x34 == 1) (
  CallR Try.prog 23 #[(Value.pointer x4), (Value.string ⟨#[102, 116, 112]⟩)] w33 fun v35 w36 =>
  AsL v35 fun x37p x37n x37c =>
  R (Value.bool ((x37n : Int) == 1)) w36) (
  R (Value.bool false) w33)) (
  R (Value.bool false) w29)) (
  R (Value.bool false) w29)) (
  R (Value.bool false) w29)) (
  R (Value.bool false) w29)) (
  R (Value.bool false) w29)) (
  R (Value.bool false) w29)) (
  R (Value.bool false) w29)) (
  R (Value.bool false) w29)) (
  R (Value.bool false) w29)) (
  R (Value.bool false) w29))
theorem F9_eq  (w1 : World) (R : Value → World → Prop) : liftF Try.prog 9 .nil [] w1 R = F9  w1 R := by kernel_rfl
theorem F9_of  {w1 : World} {R : Value → World → Prop} (h : F9  w1 R) : CallR Try.prog 9 #[] w1 R := callR_of_lift _ ((F9_eq  w1 R).mpr h)

-- F10 subway/queue.New
def F10  (w1 : World) (R : Value → World → Prop) : Prop :=
  NewM w1 fun m2 w3 =>
  NewM w3 fun m4 w5 =>
  NewC #[(Value.map (some m2)), (Value.map (some m4))] 51 w5 fun b6 w7 =>
  R (Value.pointer (some ⟨b6, 0, none⟩)) w7
theorem F10_eq  (w1 : World) (R : Value → World → Prop) : liftF Try.prog 10 .nil [] w1 R = F10  w1 R := by kernel_rfl
theorem F10_of  {w1 : World} {R : Value → World → Prop} (h : F10  w1 R) : CallR Try.prog 10 #[] w1 R := callR_of_lift _ ((F10_eq  w1 R).mpr h)

-- F11 subway/subwayref14.New
def F11  (w1 : World) (R : Value → World → Prop) : Prop :=
  NewC #[(Value.slice none 0 0)] 41 w1 fun b2 w3 =>
  R (Value.pointer (some ⟨b2, 0, none⟩)) w3
theorem F11_eq  (w1 : World) (R : Value → World → Prop) : liftF Try.prog 11 .nil [] w1 R = F11  w1 R := by kernel_rfl
theorem F11_of  {w1 : World} {R : Value → World → Prop} (h : F11  w1 R) : CallR Try.prog 11 #[] w1 R := callR_of_lift _ ((F11_eq  w1 R).mpr h)

-- F12 subway/subwaylaw14.great
def F12 (l1p : Option Addr) (l1n : Nat) (l1c : Nat) (w2 : World) (R : Value → World → Prop) : Prop :=
  Lp fun I3 mu4 =>
  I3 [(Value.int .i64 0)] w2 ∧
  ∀ (i5 : Int), ∀ w6, I3 [(Value.int .i64 i5)] w6 →
  Bif (decide (i5 < (l1n : Int))) (
  Bif (decide (i5 < 600)) (
  IxP l1p l1n i5 3 fun a7 =>
  LdS (Addr.add a7 1) w6 fun x8 =>
  Bif (decide ((x8.size : Int) > 1000)) (
  R (Value.bool true) w6) (
  I3 [(Value.int .i64 (IntKind.wrap .i64 (i5 + 1)))] w6 ∧ mu4 [(Value.int .i64 (IntKind.wrap .i64 (i5 + 1)))] w6 < mu4 [(Value.int .i64 i5)] w6)) (
  R (Value.bool (decide ((l1n : Int) > 400))) w6)) (
  R (Value.bool (decide ((l1n : Int) > 400))) w6)
theorem F12_eq (l1p : Option Addr) (l1n : Nat) (l1c : Nat) (w2 : World) (R : Value → World → Prop) : liftF Try.prog 12 (.step .nil .nil (.step .nil .nil (.step (.loop [(3, .b (.int .i64))] .nil) .nil .nil))) [(Value.slice l1p l1n l1c)] w2 R = F12 l1p l1n l1c w2 R := by kernel_rfl
theorem F12_of {l1p : Option Addr} {l1n : Nat} {l1c : Nat} {w2 : World} {R : Value → World → Prop} (h : F12 l1p l1n l1c w2 R) : CallR Try.prog 12 #[(Value.slice l1p l1n l1c)] w2 R := callR_of_lift _ ((F12_eq l1p l1n l1c w2 R).mpr h)

-- F13 (*subway/queue.Queue).Take
def F13 (q1 : Option Addr) (name2 : ByteArray) (w3 : World) (R : Value → World → Prop) : Prop :=
  NilP q1 fun a4 =>
  LdM (Addr.add a4 0) w3 fun x5 =>
  Run Try.prog (Instr.lookup 48 (Value.map x5) (Value.string name2) false) w3 fun v6 w7 =>
  AsL v6 fun x8p x8n x8c =>
  Bif ((x8n : Int) == 0) (
  R (Value.tuple #[(Value.int .i64 0), (Value.bool false)]) w7) (
  IxP x8p x8n 0 1 fun a9 =>
  LdI .i64 a9 w7 fun x10 =>
  CallR Try.prog 15 #[(Value.pointer q1), (Value.int .i64 x10)] w7 fun v11 w12 =>
  AsB v11 fun x13 =>
  IxP x8p x8n 0 1 fun a14 =>
  LdI .i64 a14 w12 fun x15 =>
  R (Value.tuple #[(Value.int .i64 x15), (Value.bool true)]) w12)
theorem F13_eq (q1 : Option Addr) (name2 : ByteArray) (w3 : World) (R : Value → World → Prop) : liftF Try.prog 13 .nil [(Value.pointer q1), (Value.string name2)] w3 R = F13 q1 name2 w3 R := by kernel_rfl
theorem F13_of {q1 : Option Addr} {name2 : ByteArray} {w3 : World} {R : Value → World → Prop} (h : F13 q1 name2 w3 R) : CallR Try.prog 13 #[(Value.pointer q1), (Value.string name2)] w3 R := callR_of_lift _ ((F13_eq q1 name2 w3 R).mpr h)

-- F14 (*subway/subwayref14.Queue).Take
def F14 (q1 : Option Addr) (name2 : ByteArray) (w3 : World) (R : Value → World → Prop) : Prop :=
  CallR Try.prog 24 #[(Value.pointer q1), (Value.string name2)] w3 fun v4 w5 =>
  AsL v4 fun x6p x6n x6c =>
  Bif ((x6n : Int) == 0) (
  R (Value.tuple #[(Value.int .i64 0), (Value.bool false)]) w5) (
  IxP x6p x6n 0 1 fun a7 =>
  LdI .i64 a7 w5 fun x8 =>
  CallR Try.prog 16 #[(Value.pointer q1), (Value.int .i64 x8)] w5 fun v9 w10 =>
  AsB v9 fun x11 =>
  IxP x6p x6n 0 1 fun a12 =>
  LdI .i64 a12 w10 fun x13 =>
  R (Value.tuple #[(Value.int .i64 x13), (Value.bool true)]) w10)
theorem F14_eq (q1 : Option Addr) (name2 : ByteArray) (w3 : World) (R : Value → World → Prop) : liftF Try.prog 14 .nil [(Value.pointer q1), (Value.string name2)] w3 R = F14 q1 name2 w3 R := by kernel_rfl
theorem F14_of {q1 : Option Addr} {name2 : ByteArray} {w3 : World} {R : Value → World → Prop} (h : F14 q1 name2 w3 R) : CallR Try.prog 14 #[(Value.pointer q1), (Value.string name2)] w3 R := callR_of_lift _ ((F14_eq q1 name2 w3 R).mpr h)

-- F15 (*subway/queue.Queue).Drop
def F15 (q1 : Option Addr) (id2 : Int) (w3 : World) (R : Value → World → Prop) : Prop :=
  NilP q1 fun a4 =>
  LdM (Addr.add a4 1) w3 fun x5 =>
  Run Try.prog (Instr.lookup 49 (Value.map x5) (Value.int .i64 id2) true) w3 fun v6 w7 =>
  ∃ (x8 : ByteArray), ∃ (x9 : Bool), v6 = (Value.tuple #[(Value.string x8), (Value.bool x9)]) ∧
  Bif (!x9) (
  R (Value.bool false) w7) (
  NilP q1 fun a10 =>
  LdM (Addr.add a10 1) w7 fun x11 =>
  Run Try.prog (Builtin.delete_ #[49, 3] 0 #[(Value.map x11), (Value.int .i64 id2)]) w7 fun v12 w13 =>
  NilP q1 fun a14 =>
  LdM (Addr.add a14 0) w13 fun x15 =>
  Run Try.prog (Instr.lookup 48 (Value.map x15) (Value.string x8) false) w13 fun v16 w17 =>
  AsL v16 fun x18p x18n x18c =>
  Lp fun I19 mu20 =>
  I19 [(Value.slice none 0 0), (Value.int .i64 0)] w17 ∧
  ∀ (left21p : Option Addr) (left21n : Nat) (left21c : Nat), ∀ (x22 : Int), ∀ w23, I19 [(Value.slice left21p left21n left21c), (Value.int .i64 x22)] w23 →
  Bif (decide (x22 < (x18n : Int))) (
  IxP x18p x18n x22 1 fun a24 =>
  LdI .i64 a24 w23 fun x25 =>
  Bif (x25 != id2) (
  NewC #[(Value.int .i64 x25)] 3 w23 fun b26 w27 =>
  Run Try.prog (Builtin.append_ #[43, 43] 43 #[(Value.slice left21p left21n left21c), (Value.slice (some ⟨b26, 0, none⟩) 1 1)]) w27 fun v28 w29 =>
  AsL v28 fun x30p x30n x30c =>
  I19 [(Value.slice x30p x30n x30c), (Value.int .i64 (IntKind.wrap .i64 (x22 + 1)))] w29 ∧ mu20 [(Value.slice x30p x30n x30c), (Value.int .i64 (IntKind.wrap .i64 (x22 + 1)))] w29 < mu20 [(Value.slice left21p left21n left21c), (Value.int .i64 x22)] w23) (
  I19 [(Value.slice left21p left21n left21c), (Value.int .i64 (IntKind.wrap .i64 (x22 + 1)))] w23 ∧ mu20 [(Value.slice left21p left21n left21c), (Value.int .i64 (IntKind.wrap .i64 (x22 + 1)))] w23 < mu20 [(Value.slice left21p left21n left21c), (Value.int .i64 x22)] w23)) (
  NilP q1 fun a31 =>
  LdM (Addr.add a31 0) w23 fun x32 =>
  RunU Try.prog (Instr.mapUpdate 48 (Value.map x32) (Value.string x8) (Value.slice left21p left21n left21c)) w23 fun w33 =>
  Bif ((left21n : Int) == 0) (
  NilP q1 fun a34 =>
  LdM (Addr.add a34 0) w33 fun x35 =>
  Run Try.prog (Builtin.delete_ #[48, 9] 0 #[(Value.map x35), (Value.string x8)]) w33 fun v36 w37 =>
  R (Value.bool true) w37) (
  R (Value.bool true) w33)))
theorem F15_eq (q1 : Option Addr) (id2 : Int) (w3 : World) (R : Value → World → Prop) : liftF Try.prog 15 (.step .nil .nil (.step .nil .nil (.step .nil .nil (.step .nil .nil (.step .nil .nil (.step .nil .nil (.step .nil .nil (.step (.loop [(7, .b .slice), (33, .b (.int .i64))] .nil) .nil .nil)))))))) [(Value.pointer q1), (Value.int .i64 id2)] w3 R = F15 q1 id2 w3 R := by kernel_rfl
theorem F15_of {q1 : Option Addr} {id2 : Int} {w3 : World} {R : Value → World → Prop} (h : F15 q1 id2 w3 R) : CallR Try.prog 15 #[(Value.pointer q1), (Value.int .i64 id2)] w3 R := callR_of_lift _ ((F15_eq q1 id2 w3 R).mpr h)

-- F16 (*subway/subwayref14.Queue).Drop
def F16 (q1 : Option Addr) (id2 : Int) (w3 : World) (R : Value → World → Prop) : Prop :=
  CallR Try.prog 20 #[(Value.pointer q1), (Value.int .i64 id2)] w3 fun v4 w5 =>
  ∃ (x6 : ByteArray), ∃ (x7 : Bool), v4 = (Value.tuple #[(Value.string x6), (Value.bool x7)]) ∧
  Lp fun I8 mu9 =>
  I8 [(Value.slice none 0 0), (Value.int .i64 0)] w5 ∧
  ∀ (out10p : Option Addr) (out10n : Nat) (out10c : Nat), ∀ (i11 : Int), ∀ w12, I8 [(Value.slice out10p out10n out10c), (Value.int .i64 i11)] w12 →
  NilP q1 fun a13 =>
  LdL (Addr.add a13 0) w12 fun x14p x14n x14c =>
  Bif (decide (i11 < (x14n : Int))) (
  NilP q1 fun a15 =>
  LdL (Addr.add a15 0) w12 fun x16p x16n x16c =>
  IxP x16p x16n i11 2 fun a17 =>
  LdI .i64 (Addr.add a17 1) w12 fun x18 =>
  Bif (x18 != id2) (
  NilP q1 fun a19 =>
  LdL (Addr.add a19 0) w12 fun x20p x20n x20c =>
  IxP x20p x20n i11 2 fun a21 =>
  LdS (Addr.add a21 0) w12 fun x22 =>
  LdI .i64 (Addr.add a21 1) w12 fun x23 =>
  NewC #[(Value.string x22), (Value.int .i64 x23)] 53 w12 fun b24 w25 =>
  Run Try.prog (Builtin.append_ #[39, 39] 39 #[(Value.slice out10p out10n out10c), (Value.slice (some ⟨b24, 0, none⟩) 1 1)]) w25 fun v26 w27 =>
  AsL v26 fun x28p x28n x28c =>
  I8 [(Value.slice x28p x28n x28c), (Value.int .i64 (IntKind.wrap .i64 (i11 + 1)))] w27 ∧ mu9 [(Value.slice x28p x28n x28c), (Value.int .i64 (IntKind.wrap .i64 (i11 + 1)))] w27 < mu9 [(Value.slice out10p out10n out10c), (Value.int .i64 i11)] w12) (
  I8 [(Value.slice out10p out10n out10c), (Value.int .i64 (IntKind.wrap .i64 (i11 + 1)))] w12 ∧ mu9 [(Value.slice out10p out10n out10c), (Value.int .i64 (IntKind.wrap .i64 (i11 + 1)))] w12 < mu9 [(Value.slice out10p out10n out10c), (Value.int .i64 i11)] w12)) (
  NilP q1 fun a29 =>
  St1 (Addr.add a29 0) (Value.slice out10p out10n out10c) w12 fun w30 =>
  R (Value.bool x7) w30)
theorem F16_eq (q1 : Option Addr) (id2 : Int) (w3 : World) (R : Value → World → Prop) : liftF Try.prog 16 (.step .nil .nil (.step .nil .nil (.step .nil .nil (.step .nil .nil (.step (.loop [(7, .b .slice), (8, .b (.int .i64))] .nil) .nil .nil))))) [(Value.pointer q1), (Value.int .i64 id2)] w3 R = F16 q1 id2 w3 R := by kernel_rfl
theorem F16_of {q1 : Option Addr} {id2 : Int} {w3 : World} {R : Value → World → Prop} (h : F16 q1 id2 w3 R) : CallR Try.prog 16 #[(Value.pointer q1), (Value.int .i64 id2)] w3 R := callR_of_lift _ ((F16_eq q1 id2 w3 R).mpr h)

-- F17 (*subway/queue.Queue).Put
def F17 (q1 : Option Addr) (name2 : ByteArray) (id3 : Int) (w4 : World) (R : Value → World → Prop) : Prop :=
  NilP q1 fun a5 =>
  LdM (Addr.add a5 1) w4 fun x6 =>
  Run Try.prog (Instr.lookup 49 (Value.map x6) (Value.int .i64 id3) true) w4 fun v7 w8 =>
  ∃ (x9 : ByteArray), ∃ (x10 : Bool), v7 = (Value.tuple #[(Value.string x9), (Value.bool x10)]) ∧
  Bif x10 (
  R (Value.int .i64 4) w8) (
  NilP q1 fun a11 =>
  LdM (Addr.add a11 0) w8 fun x12 =>
  Run Try.prog (Instr.lookup 48 (Value.map x12) (Value.string name2) false) w8 fun v13 w14 =>
  AsL v13 fun x15p x15n x15c =>
  Bif ((x15n : Int) == 8) (
  R (Value.int .i64 2) w14) (
  CallR Try.prog 21 #[(Value.pointer q1)] w14 fun v16 w17 =>
  AsI .i64 v16 fun x18 =>
  Bif (x18 == 64) (
  R (Value.int .i64 2) w17) (
  ∃ (C19 : Cls), Cls.p C19 [] w17 ∧
  NilP q1 fun a20 =>
  NilP q1 fun a21 =>
  ∃ (x22 : Option Nat), Qt C19 (Value.map x22) (fun w23 K24 =>
  LdM (Addr.add a20 0) w23 fun x25 =>
  K24 (Value.map x25) w23) ∧
  ∃ (x26 : Option Nat), Qt C19 (Value.map x26) (fun w27 K28 =>
  LdM (Addr.add a21 0) w27 fun x29 =>
  K28 (Value.map x29) w27) ∧
  ∃ (x30p : Option Addr) (x30n : Nat) (x30c : Nat), Qt C19 (Value.slice x30p x30n x30c) (fun w31 K32 =>
  Run Try.prog (Instr.lookup 48 (Value.map x26) (Value.string name2) false) w31 fun v33 w34 =>
  AsL v33 fun x35p x35n x35c =>
  K32 (Value.slice x35p x35n x35c) w34) ∧
  ∀ b36 : Nat,
  Ef (Cls.push C19 (b36, .cells #[(Value.int .i64 id3)] 3)) (fun w40 K39 =>
  Run Try.prog (Builtin.append_ #[43, 43] 43 #[(Value.slice x30p x30n x30c), (Value.slice (some ⟨b36, 0, none⟩) 1 1)]) w40 fun v42 w43 =>
  AsL v42 fun x44p x44n x44c =>
  K39 (Value.slice x44p x44n x44c) w43) fun v41 D38 =>
  AsL v41 fun x45p x45n x45c =>
  (Qt D38 (Value.map x22) (fun w46 K47 =>
  LdM (Addr.add a20 0) w46 fun x48 =>
  K47 (Value.map x48) w46)) ∧
  Ef D38 (fun w51 K50 =>
  RunU Try.prog (Instr.mapUpdate 48 (Value.map x22) (Value.string name2) (Value.slice x45p x45n x45c)) w51 fun w53 =>
  K50 (Value.tuple #[]) w53) fun v52 D49 =>
  v52 = (Value.tuple #[]) ∧
  (True) ∧
  ∀ G54 w55, Cls.p D49 G54 w55 →
  NilP q1 fun a56 =>
  LdM (Addr.add a56 1) w55 fun x57 =>
  RunU Try.prog (Instr.mapUpdate 49 (Value.map x57) (Value.int .i64 id3) (Value.string name2)) w55 fun w58 =>
  R (Value.int .i64 0) w58)))
theorem F17_eq (q1 : Option Addr) (name2 : ByteArray) (id3 : Int) (w4 : World) (R : Value → World → Prop) : liftF Try.prog 17 (.step .nil .nil (.step .nil .nil (.step .nil .nil (.step .nil .nil (.step .nil .nil (.step .nil .nil (.draw [(0, false), (1, false), (2, false), (4, false), (5, false), (6, false), (7, false), (9, false), (11, false), (3, false), (8, false), (10, false), (12, false), (13, true), (14, true)] .nil))))))) [(Value.pointer q1), (Value.string name2), (Value.int .i64 id3)] w4 R = F17 q1 name2 id3 w4 R := by kernel_rfl
theorem F17_of {q1 : Option Addr} {name2 : ByteArray} {id3 : Int} {w4 : World} {R : Value → World → Prop} (h : F17 q1 name2 id3 w4 R) : CallR Try.prog 17 #[(Value.pointer q1), (Value.string name2), (Value.int .i64 id3)] w4 R := callR_of_lift _ ((F17_eq q1 name2 id3 w4 R).mpr h)

-- F18 (*subway/subwayref14.Queue).Put
def F18 (q1 : Option Addr) (name2 : ByteArray) (id3 : Int) (w4 : World) (R : Value → World → Prop) : Prop :=
  CallR Try.prog 20 #[(Value.pointer q1), (Value.int .i64 id3)] w4 fun v5 w6 =>
  ∃ (x7 : ByteArray), ∃ (x8 : Bool), v5 = (Value.tuple #[(Value.string x7), (Value.bool x8)]) ∧
  Bif x8 (
  R (Value.int .i64 4) w6) (
  CallR Try.prog 24 #[(Value.pointer q1), (Value.string name2)] w6 fun v9 w10 =>
  AsL v9 fun x11p x11n x11c =>
  Bif (decide ((x11n : Int) ≥ 8)) (
  R (Value.int .i64 2) w10) (
  NilP q1 fun a12 =>
  LdL (Addr.add a12 0) w10 fun x13p x13n x13c =>
  Bif (decide ((x13n : Int) ≥ 64)) (
  R (Value.int .i64 2) w10) (
  NilP q1 fun a14 =>
  LdL (Addr.add a14 0) w10 fun x15p x15n x15c =>
  NewC #[(Value.string name2), (Value.int .i64 id3)] 53 w10 fun b16 w17 =>
  Run Try.prog (Builtin.append_ #[39, 39] 39 #[(Value.slice x15p x15n x15c), (Value.slice (some ⟨b16, 0, none⟩) 1 1)]) w17 fun v18 w19 =>
  AsL v18 fun x20p x20n x20c =>
  NilP q1 fun a21 =>
  St1 (Addr.add a21 0) (Value.slice x20p x20n x20c) w19 fun w22 =>
  R (Value.int .i64 0) w22)))
theorem F18_eq (q1 : Option Addr) (name2 : ByteArray) (id3 : Int) (w4 : World) (R : Value → World → Prop) : liftF Try.prog 18 .nil [(Value.pointer q1), (Value.string name2), (Value.int .i64 id3)] w4 R = F18 q1 name2 id3 w4 R := by kernel_rfl
theorem F18_of {q1 : Option Addr} {name2 : ByteArray} {id3 : Int} {w4 : World} {R : Value → World → Prop} (h : F18 q1 name2 id3 w4 R) : CallR Try.prog 18 #[(Value.pointer q1), (Value.string name2), (Value.int .i64 id3)] w4 R := callR_of_lift _ ((F18_eq q1 name2 id3 w4 R).mpr h)

-- F19 (*subway/queue.Queue).Where
def F19 (q1 : Option Addr) (id2 : Int) (w3 : World) (R : Value → World → Prop) : Prop :=
  NilP q1 fun a4 =>
  LdM (Addr.add a4 1) w3 fun x5 =>
  Run Try.prog (Instr.lookup 49 (Value.map x5) (Value.int .i64 id2) true) w3 fun v6 w7 =>
  ∃ (x8 : ByteArray), ∃ (x9 : Bool), v6 = (Value.tuple #[(Value.string x8), (Value.bool x9)]) ∧
  R (Value.tuple #[(Value.string x8), (Value.bool x9)]) w7
theorem F19_eq (q1 : Option Addr) (id2 : Int) (w3 : World) (R : Value → World → Prop) : liftF Try.prog 19 .nil [(Value.pointer q1), (Value.int .i64 id2)] w3 R = F19 q1 id2 w3 R := by kernel_rfl
theorem F19_of {q1 : Option Addr} {id2 : Int} {w3 : World} {R : Value → World → Prop} (h : F19 q1 id2 w3 R) : CallR Try.prog 19 #[(Value.pointer q1), (Value.int .i64 id2)] w3 R := callR_of_lift _ ((F19_eq q1 id2 w3 R).mpr h)

-- F20 (*subway/subwayref14.Queue).Where
def F20 (q1 : Option Addr) (id2 : Int) (w3 : World) (R : Value → World → Prop) : Prop :=
  Lp fun I4 mu5 =>
  I4 [(Value.int .i64 0)] w3 ∧
  ∀ (i6 : Int), ∀ w7, I4 [(Value.int .i64 i6)] w7 →
  NilP q1 fun a8 =>
  LdL (Addr.add a8 0) w7 fun x9p x9n x9c =>
  Bif (decide (i6 < (x9n : Int))) (
  NilP q1 fun a10 =>
  LdL (Addr.add a10 0) w7 fun x11p x11n x11c =>
  IxP x11p x11n i6 2 fun a12 =>
  LdI .i64 (Addr.add a12 1) w7 fun x13 =>
  Bif (x13 == id2) (
  NilP q1 fun a14 =>
  LdL (Addr.add a14 0) w7 fun x15p x15n x15c =>
  IxP x15p x15n i6 2 fun a16 =>
  LdS (Addr.add a16 0) w7 fun x17 =>
  R (Value.tuple #[(Value.string x17), (Value.bool true)]) w7) (
  I4 [(Value.int .i64 (IntKind.wrap .i64 (i6 + 1)))] w7 ∧ mu5 [(Value.int .i64 (IntKind.wrap .i64 (i6 + 1)))] w7 < mu5 [(Value.int .i64 i6)] w7)) (
  R (Value.tuple #[(Value.string ⟨#[]⟩), (Value.bool false)]) w7)
theorem F20_eq (q1 : Option Addr) (id2 : Int) (w3 : World) (R : Value → World → Prop) : liftF Try.prog 20 (.step .nil .nil (.step .nil .nil (.step (.loop [(6, .b (.int .i64))] .nil) .nil .nil))) [(Value.pointer q1), (Value.int .i64 id2)] w3 R = F20 q1 id2 w3 R := by kernel_rfl
theorem F20_of {q1 : Option Addr} {id2 : Int} {w3 : World} {R : Value → World → Prop} (h : F20 q1 id2 w3 R) : CallR Try.prog 20 #[(Value.pointer q1), (Value.int .i64 id2)] w3 R := callR_of_lift _ ((F20_eq q1 id2 w3 R).mpr h)

-- F21 (*subway/queue.Queue).Many
def F21 (q1 : Option Addr) (w2 : World) (R : Value → World → Prop) : Prop :=
  NilP q1 fun a3 =>
  LdM (Addr.add a3 0) w2 fun x4 =>
  Run Try.prog (Instr.range 48 (Value.map x4)) w2 fun it5 w6 =>
  Lp fun I7 mu8 =>
  I7 [(Value.int .i64 0)] w6 ∧
  ∀ (n9 : Int), ∀ w10, I7 [(Value.int .i64 n9)] w10 →
  NextK Try.prog (Instr.next it5 false 0) w10 (fun w11 =>
  R (Value.int .i64 n9) w11) fun kx13 ex14 w12 =>
  Run Try.prog (Instr.entry it5) w12 fun u15 w16 =>
  ∃ (x17 : Value), ∃ (x18p : Option Addr) (x18n : Nat) (x18c : Nat), u15 = (Value.tuple #[x17, (Value.slice x18p x18n x18c)]) ∧
  I7 [(Value.int .i64 (IntKind.wrap .i64 (n9 + (x18n : Int))))] w16 ∧ mu8 [(Value.int .i64 (IntKind.wrap .i64 (n9 + (x18n : Int))))] w16 < mu8 [(Value.int .i64 n9)] w10
theorem F21_eq (q1 : Option Addr) (w2 : World) (R : Value → World → Prop) : liftF Try.prog 21 (.step .nil .nil (.step .nil .nil (.step .nil .nil (.step (.loop [(3, .b (.int .i64))] .nil) .nil .nil)))) [(Value.pointer q1)] w2 R = F21 q1 w2 R := by kernel_rfl
theorem F21_of {q1 : Option Addr} {w2 : World} {R : Value → World → Prop} (h : F21 q1 w2 R) : CallR Try.prog 21 #[(Value.pointer q1)] w2 R := callR_of_lift _ ((F21_eq q1 w2 R).mpr h)

-- F22 subway/subwayref08.Same
def F22 (a1p : Option Addr) (a1n : Nat) (a1c : Nat) (b2p : Option Addr) (b2n : Nat) (b2c : Nat) (w3 : World) (R : Value → World → Prop) : Prop :=
  Bif ((a1n : Int) != (b2n : Int)) (
  R (Value.bool false) w3) (
  Lp fun I4 mu5 =>
  I4 [(Value.int .i64 0)] w3 ∧
  ∀ (i6 : Int), ∀ w7, I4 [(Value.int .i64 i6)] w7 →
  Bif (decide (i6 < (a1n : Int))) (
  ∃ (C8 : Cls), Cls.p C8 [] w7 ∧
  IxP a1p a1n i6 1 fun a9 =>
  IxP b2p b2n i6 1 fun a10 =>
  ∃ (x11 : Int), Qt C8 (Value.int .i64 x11) (fun w12 K13 =>
  LdI .i64 a9 w12 fun x14 =>
  K13 (Value.int .i64 x14) w12) ∧
  ∃ (x15 : Int), Qt C8 (Value.int .i64 x15) (fun w16 K17 =>
  LdI .i64 a10 w16 fun x18 =>
  K17 (Value.int .i64 x18) w16) ∧
  ∀ G19 w20, Cls.p C8 G19 w20 →
  Bif (x11 != x15) (
  R (Value.bool false) w20) (
  I4 [(Value.int .i64 (IntKind.wrap .i64 (i6 + 1)))] w20 ∧ mu5 [(Value.int .i64 (IntKind.wrap .i64 (i6 + 1)))] w20 < mu5 [(Value.int .i64 i6)] w7)) (
  R (Value.bool true) w7))
theorem F22_eq (a1p : Option Addr) (a1n : Nat) (a1c : Nat) (b2p : Option Addr) (b2n : Nat) (b2c : Nat) (w3 : World) (R : Value → World → Prop) : liftF Try.prog 22 (.step .nil .nil (.step .nil .nil (.step .nil .nil (.step .nil .nil (.step (.loop [(5, .b (.int .i64))] (.step .nil .nil (.step .nil .nil (.step (.draw [(0, false), (1, false), (2, false), (4, false), (5, false), (6, false), (3, false), (7, false), (8, false)] .nil) .nil .nil)))) .nil .nil))))) [(Value.slice a1p a1n a1c), (Value.slice b2p b2n b2c)] w3 R = F22 a1p a1n a1c b2p b2n b2c w3 R := by kernel_rfl
theorem F22_of {a1p : Option Addr} {a1n : Nat} {a1c : Nat} {b2p : Option Addr} {b2n : Nat} {b2c : Nat} {w3 : World} {R : Value → World → Prop} (h : F22 a1p a1n a1c b2p b2n b2c w3 R) : CallR Try.prog 22 #[(Value.slice a1p a1n a1c), (Value.slice b2p b2n b2c)] w3 R := callR_of_lift _ ((F22_eq a1p a1n a1c b2p b2n b2c w3 R).mpr h)

-- F23 (*subway/queue.Queue).List
def F23 (q1 : Option Addr) (name2 : ByteArray) (w3 : World) (R : Value → World → Prop) : Prop :=
  NilP q1 fun a4 =>
  LdM (Addr.add a4 0) w3 fun x5 =>
  Run Try.prog (Instr.lookup 48 (Value.map x5) (Value.string name2) false) w3 fun v6 w7 =>
  AsL v6 fun x8p x8n x8c =>
  CallR Try.prog 26 #[(Value.slice x8p x8n x8c)] w7 fun v9 w10 =>
  AsL v9 fun x11p x11n x11c =>
  R (Value.slice x11p x11n x11c) w10
theorem F23_eq (q1 : Option Addr) (name2 : ByteArray) (w3 : World) (R : Value → World → Prop) : liftF Try.prog 23 .nil [(Value.pointer q1), (Value.string name2)] w3 R = F23 q1 name2 w3 R := by kernel_rfl
theorem F23_of {q1 : Option Addr} {name2 : ByteArray} {w3 : World} {R : Value → World → Prop} (h : F23 q1 name2 w3 R) : CallR Try.prog 23 #[(Value.pointer q1), (Value.string name2)] w3 R := callR_of_lift _ ((F23_eq q1 name2 w3 R).mpr h)

-- F24 (*subway/subwayref14.Queue).List
def F24 (q1 : Option Addr) (name2 : ByteArray) (w3 : World) (R : Value → World → Prop) : Prop :=
  Lp fun I4 mu5 =>
  I4 [(Value.slice none 0 0), (Value.int .i64 0)] w3 ∧
  ∀ (out6p : Option Addr) (out6n : Nat) (out6c : Nat), ∀ (i7 : Int), ∀ w8, I4 [(Value.slice out6p out6n out6c), (Value.int .i64 i7)] w8 →
  NilP q1 fun a9 =>
  LdL (Addr.add a9 0) w8 fun x10p x10n x10c =>
  Bif (decide (i7 < (x10n : Int))) (
  NilP q1 fun a11 =>
  LdL (Addr.add a11 0) w8 fun x12p x12n x12c =>
  IxP x12p x12n i7 2 fun a13 =>
  LdS (Addr.add a13 0) w8 fun x14 =>
  Bif (ByteArray.toList x14 == ByteArray.toList name2) (
  NilP q1 fun a15 =>
  LdL (Addr.add a15 0) w8 fun x16p x16n x16c =>
  IxP x16p x16n i7 2 fun a17 =>
  LdI .i64 (Addr.add a17 1) w8 fun x18 =>
  NewC #[(Value.int .i64 x18)] 3 w8 fun b19 w20 =>
  Run Try.prog (Builtin.append_ #[43, 43] 43 #[(Value.slice out6p out6n out6c), (Value.slice (some ⟨b19, 0, none⟩) 1 1)]) w20 fun v21 w22 =>
  AsL v21 fun x23p x23n x23c =>
  I4 [(Value.slice x23p x23n x23c), (Value.int .i64 (IntKind.wrap .i64 (i7 + 1)))] w22 ∧ mu5 [(Value.slice x23p x23n x23c), (Value.int .i64 (IntKind.wrap .i64 (i7 + 1)))] w22 < mu5 [(Value.slice out6p out6n out6c), (Value.int .i64 i7)] w8) (
  I4 [(Value.slice out6p out6n out6c), (Value.int .i64 (IntKind.wrap .i64 (i7 + 1)))] w8 ∧ mu5 [(Value.slice out6p out6n out6c), (Value.int .i64 (IntKind.wrap .i64 (i7 + 1)))] w8 < mu5 [(Value.slice out6p out6n out6c), (Value.int .i64 i7)] w8)) (
  R (Value.slice out6p out6n out6c) w8)
theorem F24_eq (q1 : Option Addr) (name2 : ByteArray) (w3 : World) (R : Value → World → Prop) : liftF Try.prog 24 (.step .nil .nil (.step .nil .nil (.step .nil .nil (.step (.loop [(5, .b .slice), (6, .b (.int .i64))] .nil) .nil .nil)))) [(Value.pointer q1), (Value.string name2)] w3 R = F24 q1 name2 w3 R := by kernel_rfl
theorem F24_of {q1 : Option Addr} {name2 : ByteArray} {w3 : World} {R : Value → World → Prop} (h : F24 q1 name2 w3 R) : CallR Try.prog 24 #[(Value.pointer q1), (Value.string name2)] w3 R := callR_of_lift _ ((F24_eq q1 name2 w3 R).mpr h)

-- F25 subway/subwaylaw14.without
def F25 (l1p : Option Addr) (l1n : Nat) (l1c : Nat) (n2 : Int) (w3 : World) (R : Value → World → Prop) : Prop :=
  Lp fun I4 mu5 =>
  I4 [(Value.slice none 0 0), (Value.int .i64 0)] w3 ∧
  ∀ (out6p : Option Addr) (out6n : Nat) (out6c : Nat), ∀ (i7 : Int), ∀ w8, I4 [(Value.slice out6p out6n out6c), (Value.int .i64 i7)] w8 →
  Bif (decide (i7 < (l1n : Int))) (
  IxP l1p l1n i7 1 fun a9 =>
  LdI .i64 a9 w8 fun x10 =>
  Bif (x10 != n2) (
  IxP l1p l1n i7 1 fun a11 =>
  LdI .i64 a11 w8 fun x12 =>
  NewC #[(Value.int .i64 x12)] 3 w8 fun b13 w14 =>
  Run Try.prog (Builtin.append_ #[43, 43] 43 #[(Value.slice out6p out6n out6c), (Value.slice (some ⟨b13, 0, none⟩) 1 1)]) w14 fun v15 w16 =>
  AsL v15 fun x17p x17n x17c =>
  I4 [(Value.slice x17p x17n x17c), (Value.int .i64 (IntKind.wrap .i64 (i7 + 1)))] w16 ∧ mu5 [(Value.slice x17p x17n x17c), (Value.int .i64 (IntKind.wrap .i64 (i7 + 1)))] w16 < mu5 [(Value.slice out6p out6n out6c), (Value.int .i64 i7)] w8) (
  I4 [(Value.slice out6p out6n out6c), (Value.int .i64 (IntKind.wrap .i64 (i7 + 1)))] w8 ∧ mu5 [(Value.slice out6p out6n out6c), (Value.int .i64 (IntKind.wrap .i64 (i7 + 1)))] w8 < mu5 [(Value.slice out6p out6n out6c), (Value.int .i64 i7)] w8)) (
  R (Value.slice out6p out6n out6c) w8)
theorem F25_eq (l1p : Option Addr) (l1n : Nat) (l1c : Nat) (n2 : Int) (w3 : World) (R : Value → World → Prop) : liftF Try.prog 25 (.step .nil .nil (.step .nil .nil (.step .nil .nil (.step (.loop [(5, .b .slice), (6, .b (.int .i64))] .nil) .nil .nil)))) [(Value.slice l1p l1n l1c), (Value.int .i64 n2)] w3 R = F25 l1p l1n l1c n2 w3 R := by kernel_rfl
theorem F25_of {l1p : Option Addr} {l1n : Nat} {l1c : Nat} {n2 : Int} {w3 : World} {R : Value → World → Prop} (h : F25 l1p l1n l1c n2 w3 R) : CallR Try.prog 25 #[(Value.slice l1p l1n l1c), (Value.int .i64 n2)] w3 R := callR_of_lift _ ((F25_eq l1p l1n l1c n2 w3 R).mpr h)

-- F26 slices.Clone[[]int,int]
def F26 (s1p : Option Addr) (s1n : Nat) (s1c : Nat) (w2 : World) (R : Value → World → Prop) : Prop :=
  Bif (isNone' s1p) (
  R (Value.slice none 0 0) w2) (
  NewC #[] 3 w2 fun b3 w4 =>
  Run Try.prog (Builtin.append_ #[43, 43] 43 #[(Value.slice (some ⟨b3, 0, none⟩) 0 0), (Value.slice s1p s1n s1c)]) w4 fun v5 w6 =>
  AsL v5 fun x7p x7n x7c =>
  R (Value.slice x7p x7n x7c) w6)
theorem F26_eq (s1p : Option Addr) (s1n : Nat) (s1c : Nat) (w2 : World) (R : Value → World → Prop) : liftF Try.prog 26 .nil [(Value.slice s1p s1n s1c)] w2 R = F26 s1p s1n s1c w2 R := by kernel_rfl
theorem F26_of {s1p : Option Addr} {s1n : Nat} {s1c : Nat} {w2 : World} {R : Value → World → Prop} (h : F26 s1p s1n s1c w2 R) : CallR Try.prog 26 #[(Value.slice s1p s1n s1c)] w2 R := callR_of_lift _ ((F26_eq s1p s1n s1c w2 R).mpr h)

end Go.Proofs.Ytdecmdbojmdaeaa
