/- The lifted forms of this seat's functions, printed by a program; each is met by the kernel. -/
import Derived.Test.YtneilmoiahphkaaLift
import Derived.Test.YtneilmoiahphkaaProg
set_option linter.unusedVariables false
namespace Go.Proofs.Ytneilmoiahphkaa
open Go
-- F3 subway/subwaylaw17.PumpOrder
def F3 (most1 : Int) (l2p : Option Addr) (l2n : Nat) (l2c : Nat) (w3 : World) (R : Value → World → Prop) : Prop :=
  CallR Try.prog 10 #[] w3 fun v4 w5 =>
  AsB v4 fun x6 =>
  CallR Try.prog 11 #[(Value.int .i64 (IntKind.wrap .i64 most1))] w5 fun v7 w8 =>
  AsP v7 fun x9 =>
  Bif (isNone' x9) (
  Bif (!(isNone' x9)) (
  R (Value.bool x6) w8) (
  R (Value.bool false) w8)) (
  CallR Try.prog 12 #[(Value.slice l2p l2n l2c)] w8 fun v10 w11 =>
  AsB v10 fun x12 =>
  Bif x12 (
  Bif (!(isNone' x9)) (
  R (Value.bool x6) w11) (
  R (Value.bool false) w11)) (
  NewC #[(Value.string ⟨#[]⟩), (Value.string ⟨#[]⟩)] 9 w11 fun b13 w14 =>
  NewC #[(Value.string ⟨#[]⟩), (Value.string ⟨#[]⟩)] 9 w14 fun b15 w16 =>
  Lp fun I17 mu18 =>
  I17 [(Value.int .i64 0)] w16 ∧
  ∀ (i19 : Int), ∀ w20, I17 [(Value.int .i64 i19)] w20 →
  Bif (decide (i19 < (l2n : Int))) (
  IxP l2p l2n i19 4 fun a21 =>
  LdI .i64 (Addr.add a21 0) w20 fun x22 =>
  LdI .i64 (Addr.add a21 1) w20 fun x23 =>
  LdL (Addr.add a21 2) w20 fun x24p x24n x24c =>
  LdI .i64 (Addr.add a21 3) w20 fun x25 =>
  NewC #[(Value.int .i64 0), (Value.int .i64 0), (Value.slice none 0 0), (Value.int .i64 0)] 30 w20 fun b26 w27 =>
  St1 (Addr.add ⟨b26, 0, none⟩ 0) (Value.int .i64 x22) w27 fun w28 =>
  St1 (Addr.add ⟨b26, 0, none⟩ 1) (Value.int .i64 x23) w28 fun w29 =>
  St1 (Addr.add ⟨b26, 0, none⟩ 2) (Value.slice x24p x24n x24c) w29 fun w30 =>
  St1 (Addr.add ⟨b26, 0, none⟩ 3) (Value.int .i64 x25) w30 fun w31 =>
  Jn fun J32 => (
  LdI .i64 (Addr.add ⟨b26, 0, none⟩ 1) w31 fun x33 =>
  Bif (x33 != 0) (
  LdI .i64 (Addr.add ⟨b26, 0, none⟩ 1) w31 fun x34 =>
  Bif (x34 != 1) (
  I17 [(Value.int .i64 (IntKind.wrap .i64 (i19 + 1)))] w31 ∧ mu18 [(Value.int .i64 (IntKind.wrap .i64 (i19 + 1)))] w31 < mu18 [(Value.int .i64 i19)] w20) (
  LdI .i64 (Addr.add ⟨b26, 0, none⟩ 0) w31 fun x35 =>
  Bif (x35 == 4) (
  I17 [(Value.int .i64 (IntKind.wrap .i64 (i19 + 1)))] w31 ∧ mu18 [(Value.int .i64 (IntKind.wrap .i64 (i19 + 1)))] w31 < mu18 [(Value.int .i64 i19)] w20) (
  J32 [] w31))) (
  LdI .i64 (Addr.add ⟨b26, 0, none⟩ 0) w31 fun x36 =>
  Bif (x36 == 4) (
  I17 [(Value.int .i64 (IntKind.wrap .i64 (i19 + 1)))] w31 ∧ mu18 [(Value.int .i64 (IntKind.wrap .i64 (i19 + 1)))] w31 < mu18 [(Value.int .i64 i19)] w20) (
  J32 [] w31))) ∧
  ∀ w37, J32 [] w37 →
  LdI .i64 (Addr.add ⟨b26, 0, none⟩ 0) w37 fun x38 =>
  Jn fun J39 => (
  Bif (x38 == 2) (
  LdI .i64 (Addr.add ⟨b26, 0, none⟩ 1) w37 fun x40 =>
  LdI .i64 (Addr.add ⟨b26, 0, none⟩ 3) w37 fun x41 =>
  CallR Try.prog 13 #[(Value.pointer x9), (Value.int .i64 x40), (Value.int .i64 x41)] w37 fun v42 w43 =>
  ∃ (x44p : Option Addr) (x44n : Nat) (x44c : Nat), ∃ (x45 : Bool), v42 = (Value.tuple #[(Value.slice x44p x44n x44c), (Value.bool x45)]) ∧
  ∃ (C46 : Cls), Cls.p C46 [] w43 ∧
  ∃ (x47 : Int), Qt C46 (Value.int .i64 x47) (fun w48 K49 =>
  LdI .i64 (Addr.add ⟨b26, 0, none⟩ 1) w48 fun x50 =>
  K49 (Value.int .i64 x50) w48) ∧
  ∃ (x51 : Int), Qt C46 (Value.int .i64 x51) (fun w52 K53 =>
  LdI .i64 (Addr.add ⟨b26, 0, none⟩ 1) w52 fun x54 =>
  K53 (Value.int .i64 x54) w52) ∧
  IxP (some ⟨b15, 0, none⟩) 2 x51 1 fun a55 =>
  ∃ (x56 : ByteArray), Qt C46 (Value.string x56) (fun w57 K58 =>
  LdS a55 w57 fun x59 =>
  K58 (Value.string x59) w57) ∧
  ∃ (x60 : ByteArray), Qt C46 (Value.string x60) (fun w61 K62 =>
  Run Try.prog (convert 28 9 (Value.slice x44p x44n x44c)) w61 fun v63 w64 =>
  AsS v63 fun x65 =>
  K62 (Value.string x65) w64) ∧
  CatK x56 x60 (
  IxP (some ⟨b15, 0, none⟩) 2 x47 1 fun a66 =>
  ∃ (D67 : Value → Cls), (∀ G68 w69, Cls.p C46 G68 w69 →
  St1 a66 (Value.string (x56 ++ x60)) w69 fun w70 =>
  isR [] (Value.tuple #[]) ∧ Cls.p (D67 (Value.tuple #[])) G68 w70) ∧
  (True) ∧
  ∀ G71 w72, Cls.p (D67 (Value.tuple #[])) G71 w72 →
  J39 [] w72)) (
  LdI .i64 (Addr.add ⟨b26, 0, none⟩ 0) w37 fun x73 =>
  Bif (x73 == 3) (
  LdI .i64 (Addr.add ⟨b26, 0, none⟩ 1) w37 fun x74 =>
  CallR Try.prog 14 #[(Value.pointer x9), (Value.int .i64 x74)] w37 fun v75 w76 =>
  AsB v75 fun x77 =>
  J39 [] w76) (
  LdI .i64 (Addr.add ⟨b26, 0, none⟩ 1) w37 fun x78 =>
  LdL (Addr.add ⟨b26, 0, none⟩ 2) w37 fun x79p x79n x79c =>
  CallR Try.prog 15 #[(Value.pointer x9), (Value.int .i64 x78), (Value.slice x79p x79n x79c)] w37 fun v80 w81 =>
  AsI .i64 v80 fun x82 =>
  Bif (decide (x82 < 0)) (
  R (Value.bool false) w81) (
  LdL (Addr.add ⟨b26, 0, none⟩ 2) w81 fun x83p x83n x83c =>
  Bif (decide (x82 > (x83n : Int))) (
  R (Value.bool false) w81) (
  ∃ (C84 : Cls), Cls.p C84 [] w81 ∧
  ∃ (x85 : Int), Qt C84 (Value.int .i64 x85) (fun w86 K87 =>
  LdI .i64 (Addr.add ⟨b26, 0, none⟩ 1) w86 fun x88 =>
  K87 (Value.int .i64 x88) w86) ∧
  ∃ (x89 : Int), Qt C84 (Value.int .i64 x89) (fun w90 K91 =>
  LdI .i64 (Addr.add ⟨b26, 0, none⟩ 1) w90 fun x92 =>
  K91 (Value.int .i64 x92) w90) ∧
  IxP (some ⟨b13, 0, none⟩) 2 x89 1 fun a93 =>
  ∃ (x94 : ByteArray), Qt C84 (Value.string x94) (fun w95 K96 =>
  LdS a93 w95 fun x97 =>
  K96 (Value.string x97) w95) ∧
  ∃ (x98p : Option Addr) (x98n : Nat) (x98c : Nat), Qt C84 (Value.slice x98p x98n x98c) (fun w99 K100 =>
  LdL (Addr.add ⟨b26, 0, none⟩ 2) w99 fun x101p x101n x101c =>
  K100 (Value.slice x101p x101n x101c) w99) ∧
  SlP x98p x98n x98c 1 0 x82 fun x102p x102n x102c =>
  ∃ (x103 : ByteArray), Qt C84 (Value.string x103) (fun w104 K105 =>
  Run Try.prog (convert 28 9 (Value.slice x102p x102n x102c)) w104 fun v106 w107 =>
  AsS v106 fun x108 =>
  K105 (Value.string x108) w107) ∧
  CatK x94 x103 (
  IxP (some ⟨b13, 0, none⟩) 2 x85 1 fun a109 =>
  ∃ (D110 : Value → Cls), (∀ G111 w112, Cls.p C84 G111 w112 →
  St1 a109 (Value.string (x94 ++ x103)) w112 fun w113 =>
  isR [] (Value.tuple #[]) ∧ Cls.p (D110 (Value.tuple #[])) G111 w113) ∧
  (True) ∧
  ∀ G114 w115, Cls.p (D110 (Value.tuple #[])) G114 w115 →
  J39 [] w115)))))) ∧
  ∀ w116, J39 [] w116 →
  Lp fun I117 mu118 =>
  I117 [(Value.int .i64 0)] w116 ∧
  ∀ (s119 : Int), ∀ w120, I117 [(Value.int .i64 s119)] w120 →
  Bif (decide (s119 < 2)) (
  IxP (some ⟨b13, 0, none⟩) 2 (IntKind.wrap .i64 (1 - s119)) 1 fun a121 =>
  LdS a121 w120 fun x122 =>
  IxP (some ⟨b15, 0, none⟩) 2 s119 1 fun a123 =>
  LdS a123 w120 fun x124 =>
  Bif (decide ((x124.size : Int) > (x122.size : Int))) (
  R (Value.bool false) w120) (
  SlS x122 0 (x124.size : Int) fun x125 =>
  Bif (!(ByteArray.toList x125 == ByteArray.toList x124)) (
  R (Value.bool false) w120) (
  CallR Try.prog 16 #[(Value.pointer x9), (Value.int .i64 s119)] w120 fun v126 w127 =>
  AsI .i64 v126 fun x128 =>
  Bif (x128 != (IntKind.wrap .i64 ((x122.size : Int) - (x124.size : Int)))) (
  R (Value.bool false) w127) (
  CallR Try.prog 16 #[(Value.pointer x9), (Value.int .i64 s119)] w127 fun v129 w130 =>
  AsI .i64 v129 fun x131 =>
  Bif (decide (x131 > (IntKind.wrap .i64 most1))) (
  R (Value.bool false) w130) (
  CallR Try.prog 17 #[(Value.pointer x9), (Value.int .i64 s119)] w130 fun v132 w133 =>
  AsI .i64 v132 fun x134 =>
  Bif (x134 != (x124.size : Int)) (
  R (Value.bool false) w133) (
  I117 [(Value.int .i64 (IntKind.wrap .i64 (s119 + 1)))] w133 ∧ mu118 [(Value.int .i64 (IntKind.wrap .i64 (s119 + 1)))] w133 < mu118 [(Value.int .i64 s119)] w120)))))) (
  I17 [(Value.int .i64 (IntKind.wrap .i64 (i19 + 1)))] w120 ∧ mu18 [(Value.int .i64 (IntKind.wrap .i64 (i19 + 1)))] w120 < mu18 [(Value.int .i64 i19)] w20)) (
  R (Value.bool x6) w20)))
theorem F3_eq (most1 : Int) (l2p : Option Addr) (l2n : Nat) (l2c : Nat) (w3 : World) (R : Value → World → Prop) : liftF Try.prog 3 (.step .nil .nil (.step .nil .nil (.step .nil .nil (.step .nil .nil (.step .nil .nil (.step .nil .nil (.step .nil .nil (.step .nil .nil (.step (.loop [(9, .b (.int .i64))] (.step .nil .nil (.step .nil .nil (.step (.step .nil .nil (.join 2 [] .nil (.step .nil .nil (.join 1 [] (.step (.step .nil .nil (.draw [(0, false), (1, false), (3, false), (4, false), (8, false), (2, false), (5, false), (6, false), (7, false), (9, false), (10, false), (11, false), (12, true)] .nil)) (.step .nil .nil (.step .nil (.step .nil .nil (.step .nil .nil (.step .nil .nil (.draw [(0, false), (1, false), (3, false), (4, false), (8, false), (10, false), (2, false), (5, false), (6, false), (7, false), (9, false), (11, false), (12, false), (13, false), (14, false), (15, true)] .nil)))) .nil)) .nil) (.step .nil .nil (.step (.loop [(14, .b (.int .i64))] .nil) .nil .nil)))))) .nil .nil)))) .nil .nil))))))))) [(Value.int .u8 most1), (Value.slice l2p l2n l2c)] w3 R = F3 most1 l2p l2n l2c w3 R := by kernel_rfl
theorem F3_of {most1 : Int} {l2p : Option Addr} {l2n : Nat} {l2c : Nat} {w3 : World} {R : Value → World → Prop} (h : F3 most1 l2p l2n l2c w3 R) : CallR Try.prog 3 #[(Value.int .u8 most1), (Value.slice l2p l2n l2c)] w3 R := callR_of_lift _ ((F3_eq most1 l2p l2n l2c w3 R).mpr h)

-- F4 subway/subwaylaw17.PumpApart
def F4 (most1 : Int) (l2p : Option Addr) (l2n : Nat) (l2c : Nat) (w3 : World) (R : Value → World → Prop) : Prop :=
  CallR Try.prog 10 #[] w3 fun v4 w5 =>
  AsB v4 fun x6 =>
  CallR Try.prog 11 #[(Value.int .i64 (IntKind.wrap .i64 most1))] w5 fun v7 w8 =>
  AsP v7 fun x9 =>
  CallR Try.prog 11 #[(Value.int .i64 (IntKind.wrap .i64 most1))] w8 fun v10 w11 =>
  AsP v10 fun x12 =>
  Bif (isNone' x9) (
  Bif (!(isNone' x9)) (
  Bif (!(isNone' x12)) (
  R (Value.bool x6) w11) (
  R (Value.bool false) w11)) (
  R (Value.bool false) w11)) (
  Bif (isNone' x12) (
  Bif (!(isNone' x9)) (
  Bif (!(isNone' x12)) (
  R (Value.bool x6) w11) (
  R (Value.bool false) w11)) (
  R (Value.bool false) w11)) (
  CallR Try.prog 12 #[(Value.slice l2p l2n l2c)] w11 fun v13 w14 =>
  AsB v13 fun x15 =>
  Bif x15 (
  Bif (!(isNone' x9)) (
  Bif (!(isNone' x12)) (
  R (Value.bool x6) w14) (
  R (Value.bool false) w14)) (
  R (Value.bool false) w14)) (
  Lp fun I16 mu17 =>
  I16 [(Value.int .i64 0)] w14 ∧
  ∀ (i18 : Int), ∀ w19, I16 [(Value.int .i64 i18)] w19 →
  Bif (decide (i18 < (l2n : Int))) (
  IxP l2p l2n i18 4 fun a20 =>
  LdI .i64 (Addr.add a20 0) w19 fun x21 =>
  LdI .i64 (Addr.add a20 1) w19 fun x22 =>
  LdL (Addr.add a20 2) w19 fun x23p x23n x23c =>
  LdI .i64 (Addr.add a20 3) w19 fun x24 =>
  NewC #[(Value.int .i64 0), (Value.int .i64 0), (Value.slice none 0 0), (Value.int .i64 0)] 30 w19 fun b25 w26 =>
  St1 (Addr.add ⟨b25, 0, none⟩ 0) (Value.int .i64 x21) w26 fun w27 =>
  St1 (Addr.add ⟨b25, 0, none⟩ 1) (Value.int .i64 x22) w27 fun w28 =>
  St1 (Addr.add ⟨b25, 0, none⟩ 2) (Value.slice x23p x23n x23c) w28 fun w29 =>
  St1 (Addr.add ⟨b25, 0, none⟩ 3) (Value.int .i64 x24) w29 fun w30 =>
  Jn fun J31 => (
  LdI .i64 (Addr.add ⟨b25, 0, none⟩ 1) w30 fun x32 =>
  Bif (x32 != 0) (
  LdI .i64 (Addr.add ⟨b25, 0, none⟩ 1) w30 fun x33 =>
  Bif (x33 != 1) (
  I16 [(Value.int .i64 (IntKind.wrap .i64 (i18 + 1)))] w30 ∧ mu17 [(Value.int .i64 (IntKind.wrap .i64 (i18 + 1)))] w30 < mu17 [(Value.int .i64 i18)] w19) (
  LdI .i64 (Addr.add ⟨b25, 0, none⟩ 0) w30 fun x34 =>
  Bif (x34 == 4) (
  I16 [(Value.int .i64 (IntKind.wrap .i64 (i18 + 1)))] w30 ∧ mu17 [(Value.int .i64 (IntKind.wrap .i64 (i18 + 1)))] w30 < mu17 [(Value.int .i64 i18)] w19) (
  J31 [] w30))) (
  LdI .i64 (Addr.add ⟨b25, 0, none⟩ 0) w30 fun x35 =>
  Bif (x35 == 4) (
  I16 [(Value.int .i64 (IntKind.wrap .i64 (i18 + 1)))] w30 ∧ mu17 [(Value.int .i64 (IntKind.wrap .i64 (i18 + 1)))] w30 < mu17 [(Value.int .i64 i18)] w19) (
  J31 [] w30))) ∧
  ∀ w36, J31 [] w36 →
  Jn fun J37 => (
  LdI .i64 (Addr.add ⟨b25, 0, none⟩ 0) w36 fun x38 =>
  Bif (x38 == 2) (
  LdI .i64 (Addr.add ⟨b25, 0, none⟩ 1) w36 fun x39 =>
  Bif (x39 == 1) (
  J37 [(Value.bool true)] w36) (
  LdI .i64 (Addr.add ⟨b25, 0, none⟩ 0) w36 fun x40 =>
  Bif (x40 != 2) (
  LdI .i64 (Addr.add ⟨b25, 0, none⟩ 1) w36 fun x41 =>
  J37 [(Value.bool (x41 == 0))] w36) (
  J37 [(Value.bool false)] w36))) (
  LdI .i64 (Addr.add ⟨b25, 0, none⟩ 0) w36 fun x42 =>
  Bif (x42 != 2) (
  LdI .i64 (Addr.add ⟨b25, 0, none⟩ 1) w36 fun x43 =>
  J37 [(Value.bool (x43 == 0))] w36) (
  J37 [(Value.bool false)] w36))) ∧
  ∀ (own44 : Bool), ∀ w45, J37 [(Value.bool own44)] w45 →
  LdI .i64 (Addr.add ⟨b25, 0, none⟩ 0) w45 fun x46 =>
  Jn fun J47 => (
  Bif (x46 == 2) (
  LdI .i64 (Addr.add ⟨b25, 0, none⟩ 1) w45 fun x48 =>
  LdI .i64 (Addr.add ⟨b25, 0, none⟩ 3) w45 fun x49 =>
  CallR Try.prog 13 #[(Value.pointer x9), (Value.int .i64 x48), (Value.int .i64 x49)] w45 fun v50 w51 =>
  ∃ (x52p : Option Addr) (x52n : Nat) (x52c : Nat), ∃ (x53 : Bool), v50 = (Value.tuple #[(Value.slice x52p x52n x52c), (Value.bool x53)]) ∧
  Bif own44 (
  LdI .i64 (Addr.add ⟨b25, 0, none⟩ 1) w51 fun x54 =>
  LdI .i64 (Addr.add ⟨b25, 0, none⟩ 3) w51 fun x55 =>
  CallR Try.prog 13 #[(Value.pointer x12), (Value.int .i64 x54), (Value.int .i64 x55)] w51 fun v56 w57 =>
  ∃ (x58p : Option Addr) (x58n : Nat) (x58c : Nat), ∃ (x59 : Bool), v56 = (Value.tuple #[(Value.slice x58p x58n x58c), (Value.bool x59)]) ∧
  Run Try.prog (convert 28 9 (Value.slice x52p x52n x52c)) w57 fun v60 w61 =>
  AsS v60 fun x62 =>
  Run Try.prog (convert 28 9 (Value.slice x58p x58n x58c)) w61 fun v63 w64 =>
  AsS v63 fun x65 =>
  Bif (!(ByteArray.toList x62 == ByteArray.toList x65)) (
  R (Value.bool false) w64) (
  Bif (!(x53 == x59)) (
  R (Value.bool false) w64) (
  J47 [] w64))) (
  J47 [] w51)) (
  LdI .i64 (Addr.add ⟨b25, 0, none⟩ 0) w45 fun x66 =>
  Bif (x66 == 3) (
  LdI .i64 (Addr.add ⟨b25, 0, none⟩ 1) w45 fun x67 =>
  CallR Try.prog 14 #[(Value.pointer x9), (Value.int .i64 x67)] w45 fun v68 w69 =>
  AsB v68 fun x70 =>
  Bif own44 (
  LdI .i64 (Addr.add ⟨b25, 0, none⟩ 1) w69 fun x71 =>
  CallR Try.prog 14 #[(Value.pointer x12), (Value.int .i64 x71)] w69 fun v72 w73 =>
  AsB v72 fun x74 =>
  Bif (!(x70 == x74)) (
  R (Value.bool false) w73) (
  J47 [] w73)) (
  J47 [] w69)) (
  LdI .i64 (Addr.add ⟨b25, 0, none⟩ 1) w45 fun x75 =>
  LdL (Addr.add ⟨b25, 0, none⟩ 2) w45 fun x76p x76n x76c =>
  CallR Try.prog 15 #[(Value.pointer x9), (Value.int .i64 x75), (Value.slice x76p x76n x76c)] w45 fun v77 w78 =>
  AsI .i64 v77 fun x79 =>
  Bif own44 (
  LdI .i64 (Addr.add ⟨b25, 0, none⟩ 1) w78 fun x80 =>
  LdL (Addr.add ⟨b25, 0, none⟩ 2) w78 fun x81p x81n x81c =>
  CallR Try.prog 15 #[(Value.pointer x12), (Value.int .i64 x80), (Value.slice x81p x81n x81c)] w78 fun v82 w83 =>
  AsI .i64 v82 fun x84 =>
  Bif (x79 != x84) (
  R (Value.bool false) w83) (
  J47 [] w83)) (
  J47 [] w78)))) ∧
  ∀ w85, J47 [] w85 →
  CallR Try.prog 16 #[(Value.pointer x9), (Value.int .i64 1)] w85 fun v86 w87 =>
  AsI .i64 v86 fun x88 =>
  CallR Try.prog 16 #[(Value.pointer x12), (Value.int .i64 1)] w87 fun v89 w90 =>
  AsI .i64 v89 fun x91 =>
  Bif (x88 != x91) (
  R (Value.bool false) w90) (
  CallR Try.prog 18 #[(Value.pointer x9), (Value.int .i64 0)] w90 fun v92 w93 =>
  AsI .i64 v92 fun x94 =>
  CallR Try.prog 18 #[(Value.pointer x12), (Value.int .i64 0)] w93 fun v95 w96 =>
  AsI .i64 v95 fun x97 =>
  Bif (x94 != x97) (
  R (Value.bool false) w96) (
  CallR Try.prog 17 #[(Value.pointer x9), (Value.int .i64 1)] w96 fun v98 w99 =>
  AsI .i64 v98 fun x100 =>
  CallR Try.prog 17 #[(Value.pointer x12), (Value.int .i64 1)] w99 fun v101 w102 =>
  AsI .i64 v101 fun x103 =>
  Bif (x100 != x103) (
  R (Value.bool false) w102) (
  I16 [(Value.int .i64 (IntKind.wrap .i64 (i18 + 1)))] w102 ∧ mu17 [(Value.int .i64 (IntKind.wrap .i64 (i18 + 1)))] w102 < mu17 [(Value.int .i64 i18)] w19)))) (
  R (Value.bool x6) w19))))
theorem F4_eq (most1 : Int) (l2p : Option Addr) (l2n : Nat) (l2c : Nat) (w3 : World) (R : Value → World → Prop) : liftF Try.prog 4 (.step .nil .nil (.step .nil .nil (.step .nil .nil (.step .nil .nil (.step .nil .nil (.step .nil .nil (.step .nil .nil (.step (.loop [(8, .b (.int .i64))] (.step .nil .nil (.step .nil .nil (.step (.step .nil .nil (.join 2 [] .nil (.join 1 [(10, .b .bool)] .nil (.step .nil .nil (.join 1 [] .nil .nil))))) .nil .nil)))) .nil .nil)))))))) [(Value.int .u8 most1), (Value.slice l2p l2n l2c)] w3 R = F4 most1 l2p l2n l2c w3 R := by kernel_rfl
theorem F4_of {most1 : Int} {l2p : Option Addr} {l2n : Nat} {l2c : Nat} {w3 : World} {R : Value → World → Prop} (h : F4 most1 l2p l2n l2c w3 R) : CallR Try.prog 4 #[(Value.int .u8 most1), (Value.slice l2p l2n l2c)] w3 R := callR_of_lift _ ((F4_eq most1 l2p l2n l2c w3 R).mpr h)

-- F5 subway/subwaylaw17.PumpPieces
def F5 (most1 : Int) (b2p : Option Addr) (b2n : Nat) (b2c : Nat) (inv3p : Option Addr) (inv3n : Nat) (inv3c : Nat) (out4p : Option Addr) (out4n : Nat) (out4c : Nat) (w5 : World) (R : Value → World → Prop) : Prop :=
  CallR Try.prog 10 #[] w5 fun v6 w7 =>
  AsB v6 fun x8 =>
  CallR Try.prog 11 #[(Value.int .i64 (IntKind.wrap .i64 most1))] w7 fun v9 w10 =>
  AsP v9 fun x11 =>
  CallR Try.prog 11 #[(Value.int .i64 (IntKind.wrap .i64 most1))] w10 fun v12 w13 =>
  AsP v12 fun x14 =>
  Bif (isNone' x11) (
  Bif (!(isNone' x11)) (
  Bif (!(isNone' x14)) (
  R (Value.bool x8) w13) (
  R (Value.bool false) w13)) (
  R (Value.bool false) w13)) (
  Bif (isNone' x14) (
  Bif (!(isNone' x11)) (
  Bif (!(isNone' x14)) (
  R (Value.bool x8) w13) (
  R (Value.bool false) w13)) (
  R (Value.bool false) w13)) (
  Bif (decide ((b2n : Int) > (IntKind.wrap .i64 most1))) (
  Bif (!(isNone' x11)) (
  Bif (!(isNone' x14)) (
  R (Value.bool x8) w13) (
  R (Value.bool false) w13)) (
  R (Value.bool false) w13)) (
  Bif (decide ((inv3n : Int) > 300)) (
  Bif (!(isNone' x11)) (
  Bif (!(isNone' x14)) (
  R (Value.bool x8) w13) (
  R (Value.bool false) w13)) (
  R (Value.bool false) w13)) (
  Bif (decide ((out4n : Int) > 300)) (
  Bif (!(isNone' x11)) (
  Bif (!(isNone' x14)) (
  R (Value.bool x8) w13) (
  R (Value.bool false) w13)) (
  R (Value.bool false) w13)) (
  CallR Try.prog 15 #[(Value.pointer x11), (Value.int .i64 0), (Value.slice b2p b2n b2c)] w13 fun v15 w16 =>
  AsI .i64 v15 fun x17 =>
  CallR Try.prog 14 #[(Value.pointer x11), (Value.int .i64 0)] w16 fun v18 w19 =>
  AsB v18 fun x20 =>
  CallR Try.prog 13 #[(Value.pointer x11), (Value.int .i64 1), (Value.int .i64 (b2n : Int))] w19 fun v21 w22 =>
  ∃ (x23p : Option Addr) (x23n : Nat) (x23c : Nat), ∃ (x24 : Bool), v21 = (Value.tuple #[(Value.slice x23p x23n x23c), (Value.bool x24)]) ∧
  Lp fun I25 mu26 =>
  I25 [(Value.int .i64 0), (Value.int .i64 0)] w22 ∧
  ∀ (atv27 : Int), ∀ (i28 : Int), ∀ w29, I25 [(Value.int .i64 atv27), (Value.int .i64 i28)] w29 →
  Bif (decide (i28 ≤ (inv3n : Int))) (
  Jn fun J30 => (
  Bif (decide (i28 < (inv3n : Int))) (
  IxP inv3p inv3n i28 1 fun a31 =>
  LdI .u8 a31 w29 fun x32 =>
  J30 [(Value.int .i64 (if (IntKind.wrap .i64 ((b2n : Int) - atv27)) < (IntKind.wrap .i64 x32) then (IntKind.wrap .i64 ((b2n : Int) - atv27)) else (IntKind.wrap .i64 x32)))] w29) (
  J30 [(Value.int .i64 (IntKind.wrap .i64 ((b2n : Int) - atv27)))] w29)) ∧
  ∀ (m33 : Int), ∀ w34, J30 [(Value.int .i64 m33)] w34 →
  SlP b2p b2n b2c 1 atv27 (IntKind.wrap .i64 (atv27 + m33)) fun x35p x35n x35c =>
  CallR Try.prog 15 #[(Value.pointer x14), (Value.int .i64 0), (Value.slice x35p x35n x35c)] w34 fun v36 w37 =>
  AsI .i64 v36 fun x38 =>
  Bif (x38 != m33) (
  R (Value.bool false) w37) (
  I25 [(Value.int .i64 (IntKind.wrap .i64 (atv27 + m33))), (Value.int .i64 (IntKind.wrap .i64 (i28 + 1)))] w37 ∧ mu26 [(Value.int .i64 (IntKind.wrap .i64 (atv27 + m33))), (Value.int .i64 (IntKind.wrap .i64 (i28 + 1)))] w37 < mu26 [(Value.int .i64 atv27), (Value.int .i64 i28)] w29)) (
  CallR Try.prog 14 #[(Value.pointer x14), (Value.int .i64 0)] w29 fun v39 w40 =>
  AsB v39 fun x41 =>
  Lp fun I42 mu43 =>
  I42 [(Value.string ⟨#[]⟩), (Value.int .i64 0), (Value.int .i64 0)] w40 ∧
  ∀ (got44 : ByteArray), ∀ (ends45 : Int), ∀ (i46 : Int), ∀ w47, I42 [(Value.string got44), (Value.int .i64 ends45), (Value.int .i64 i46)] w47 →
  Bif (decide (i46 ≤ (out4n : Int))) (
  Jn fun J48 => (
  Bif (decide (i46 < (out4n : Int))) (
  IxP out4p out4n i46 1 fun a49 =>
  LdI .u8 a49 w47 fun x50 =>
  J48 [(Value.int .i64 (IntKind.wrap .i64 x50))] w47) (
  J48 [(Value.int .i64 300)] w47)) ∧
  ∀ (m51 : Int), ∀ w52, J48 [(Value.int .i64 m51)] w52 →
  CallR Try.prog 13 #[(Value.pointer x14), (Value.int .i64 1), (Value.int .i64 m51)] w52 fun v53 w54 =>
  ∃ (x55p : Option Addr) (x55n : Nat) (x55c : Nat), ∃ (x56 : Bool), v53 = (Value.tuple #[(Value.slice x55p x55n x55c), (Value.bool x56)]) ∧
  Run Try.prog (convert 28 9 (Value.slice x55p x55n x55c)) w54 fun v57 w58 =>
  AsS v57 fun x59 =>
  CatK got44 x59 (
  Bif x56 (
  I42 [(Value.string (got44 ++ x59)), (Value.int .i64 (IntKind.wrap .i64 (ends45 + 1))), (Value.int .i64 (IntKind.wrap .i64 (i46 + 1)))] w58 ∧ mu43 [(Value.string (got44 ++ x59)), (Value.int .i64 (IntKind.wrap .i64 (ends45 + 1))), (Value.int .i64 (IntKind.wrap .i64 (i46 + 1)))] w58 < mu43 [(Value.string got44), (Value.int .i64 ends45), (Value.int .i64 i46)] w47) (
  I42 [(Value.string (got44 ++ x59)), (Value.int .i64 ends45), (Value.int .i64 (IntKind.wrap .i64 (i46 + 1)))] w58 ∧ mu43 [(Value.string (got44 ++ x59)), (Value.int .i64 ends45), (Value.int .i64 (IntKind.wrap .i64 (i46 + 1)))] w58 < mu43 [(Value.string got44), (Value.int .i64 ends45), (Value.int .i64 i46)] w47))) (
  Bif x8 (
  Bif (x17 == (b2n : Int)) (
  Run Try.prog (convert 28 9 (Value.slice x23p x23n x23c)) w47 fun v60 w61 =>
  AsS v60 fun x62 =>
  Run Try.prog (convert 28 9 (Value.slice b2p b2n b2c)) w61 fun v63 w64 =>
  AsS v63 fun x65 =>
  Bif (ByteArray.toList x62 == ByteArray.toList x65) (
  Bif x24 (
  Run Try.prog (convert 28 9 (Value.slice b2p b2n b2c)) w64 fun v66 w67 =>
  AsS v66 fun x68 =>
  Bif (ByteArray.toList got44 == ByteArray.toList x68) (
  R (Value.bool (ends45 == 1)) w67) (
  R (Value.bool false) w67)) (
  R (Value.bool false) w64)) (
  R (Value.bool false) w64)) (
  R (Value.bool false) w47)) (
  R (Value.bool false) w47))))))))
theorem F5_eq (most1 : Int) (b2p : Option Addr) (b2n : Nat) (b2c : Nat) (inv3p : Option Addr) (inv3n : Nat) (inv3c : Nat) (out4p : Option Addr) (out4n : Nat) (out4c : Nat) (w5 : World) (R : Value → World → Prop) : liftF Try.prog 5 (.step .nil .nil (.step .nil .nil (.step .nil .nil (.step .nil .nil (.step .nil .nil (.step .nil .nil (.step .nil .nil (.step .nil .nil (.step .nil .nil (.step .nil .nil (.step .nil .nil (.step (.loop [(15, .b (.int .i64)), (16, .b (.int .i64))] (.step .nil .nil (.step .nil .nil (.step (.step .nil .nil (.step .nil .nil (.join 1 [(17, .b (.int .i64))] .nil .nil))) .nil .nil)))) .nil (.step .nil .nil (.step .nil .nil (.step .nil .nil (.step .nil .nil (.step (.loop [(18, .b .str), (19, .b (.int .i64)), (20, .b (.int .i64))] (.step .nil .nil (.step .nil .nil (.step (.step .nil .nil (.step .nil .nil (.join 1 [(21, .b (.int .i64))] .nil .nil))) .nil .nil)))) .nil .nil))))))))))))))))) [(Value.int .u8 most1), (Value.slice b2p b2n b2c), (Value.slice inv3p inv3n inv3c), (Value.slice out4p out4n out4c)] w5 R = F5 most1 b2p b2n b2c inv3p inv3n inv3c out4p out4n out4c w5 R := by kernel_rfl
theorem F5_of {most1 : Int} {b2p : Option Addr} {b2n : Nat} {b2c : Nat} {inv3p : Option Addr} {inv3n : Nat} {inv3c : Nat} {out4p : Option Addr} {out4n : Nat} {out4c : Nat} {w5 : World} {R : Value → World → Prop} (h : F5 most1 b2p b2n b2c inv3p inv3n inv3c out4p out4n out4c w5 R) : CallR Try.prog 5 #[(Value.int .u8 most1), (Value.slice b2p b2n b2c), (Value.slice inv3p inv3n inv3c), (Value.slice out4p out4n out4c)] w5 R := callR_of_lift _ ((F5_eq most1 b2p b2n b2c inv3p inv3n inv3c out4p out4n out4c w5 R).mpr h)

-- F6 subway/subwaylaw17.PumpSums
def F6 (most1 : Int) (l2p : Option Addr) (l2n : Nat) (l2c : Nat) (w3 : World) (R : Value → World → Prop) : Prop :=
  CallR Try.prog 10 #[] w3 fun v4 w5 =>
  AsB v4 fun x6 =>
  CallR Try.prog 11 #[(Value.int .i64 (IntKind.wrap .i64 most1))] w5 fun v7 w8 =>
  AsP v7 fun x9 =>
  Bif (isNone' x9) (
  Bif (!(isNone' x9)) (
  R (Value.bool x6) w8) (
  R (Value.bool false) w8)) (
  CallR Try.prog 12 #[(Value.slice l2p l2n l2c)] w8 fun v10 w11 =>
  AsB v10 fun x12 =>
  Bif x12 (
  Bif (!(isNone' x9)) (
  R (Value.bool x6) w11) (
  R (Value.bool false) w11)) (
  NewC #[(Value.int .i64 0), (Value.int .i64 0)] 3 w11 fun b13 w14 =>
  NewC #[(Value.bool false), (Value.bool false)] 4 w14 fun b15 w16 =>
  Lp fun I17 mu18 =>
  I17 [(Value.int .i64 0)] w16 ∧
  ∀ (i19 : Int), ∀ w20, I17 [(Value.int .i64 i19)] w20 →
  Bif (decide (i19 < (l2n : Int))) (
  IxP l2p l2n i19 4 fun a21 =>
  LdI .i64 (Addr.add a21 0) w20 fun x22 =>
  LdI .i64 (Addr.add a21 1) w20 fun x23 =>
  LdL (Addr.add a21 2) w20 fun x24p x24n x24c =>
  LdI .i64 (Addr.add a21 3) w20 fun x25 =>
  NewC #[(Value.int .i64 0), (Value.int .i64 0), (Value.slice none 0 0), (Value.int .i64 0)] 30 w20 fun b26 w27 =>
  St1 (Addr.add ⟨b26, 0, none⟩ 0) (Value.int .i64 x22) w27 fun w28 =>
  St1 (Addr.add ⟨b26, 0, none⟩ 1) (Value.int .i64 x23) w28 fun w29 =>
  St1 (Addr.add ⟨b26, 0, none⟩ 2) (Value.slice x24p x24n x24c) w29 fun w30 =>
  St1 (Addr.add ⟨b26, 0, none⟩ 3) (Value.int .i64 x25) w30 fun w31 =>
  Jn fun J32 => (
  LdI .i64 (Addr.add ⟨b26, 0, none⟩ 1) w31 fun x33 =>
  Bif (x33 != 0) (
  LdI .i64 (Addr.add ⟨b26, 0, none⟩ 1) w31 fun x34 =>
  Bif (x34 != 1) (
  I17 [(Value.int .i64 (IntKind.wrap .i64 (i19 + 1)))] w31 ∧ mu18 [(Value.int .i64 (IntKind.wrap .i64 (i19 + 1)))] w31 < mu18 [(Value.int .i64 i19)] w20) (
  LdI .i64 (Addr.add ⟨b26, 0, none⟩ 0) w31 fun x35 =>
  Bif (x35 == 4) (
  I17 [(Value.int .i64 (IntKind.wrap .i64 (i19 + 1)))] w31 ∧ mu18 [(Value.int .i64 (IntKind.wrap .i64 (i19 + 1)))] w31 < mu18 [(Value.int .i64 i19)] w20) (
  J32 [] w31))) (
  LdI .i64 (Addr.add ⟨b26, 0, none⟩ 0) w31 fun x36 =>
  Bif (x36 == 4) (
  I17 [(Value.int .i64 (IntKind.wrap .i64 (i19 + 1)))] w31 ∧ mu18 [(Value.int .i64 (IntKind.wrap .i64 (i19 + 1)))] w31 < mu18 [(Value.int .i64 i19)] w20) (
  J32 [] w31))) ∧
  ∀ w37, J32 [] w37 →
  LdI .i64 (Addr.add ⟨b26, 0, none⟩ 0) w37 fun x38 =>
  Jn fun J39 => (
  Bif (x38 == 2) (
  LdI .i64 (Addr.add ⟨b26, 0, none⟩ 1) w37 fun x40 =>
  LdI .i64 (Addr.add ⟨b26, 0, none⟩ 3) w37 fun x41 =>
  CallR Try.prog 13 #[(Value.pointer x9), (Value.int .i64 x40), (Value.int .i64 x41)] w37 fun v42 w43 =>
  ∃ (x44p : Option Addr) (x44n : Nat) (x44c : Nat), ∃ (x45 : Bool), v42 = (Value.tuple #[(Value.slice x44p x44n x44c), (Value.bool x45)]) ∧
  J39 [] w43) (
  LdI .i64 (Addr.add ⟨b26, 0, none⟩ 0) w37 fun x46 =>
  Bif (x46 == 3) (
  LdI .i64 (Addr.add ⟨b26, 0, none⟩ 1) w37 fun x47 =>
  CallR Try.prog 14 #[(Value.pointer x9), (Value.int .i64 x47)] w37 fun v48 w49 =>
  AsB v48 fun x50 =>
  LdI .i64 (Addr.add ⟨b26, 0, none⟩ 1) w49 fun x51 =>
  IxP (some ⟨b15, 0, none⟩) 2 x51 1 fun a52 =>
  St1 a52 (Value.bool true) w49 fun w53 =>
  J39 [] w53) (
  ∃ (C54 : Cls), Cls.p C54 [] w37 ∧
  ∃ (x55 : Int), Qt C54 (Value.int .i64 x55) (fun w56 K57 =>
  LdI .i64 (Addr.add ⟨b26, 0, none⟩ 1) w56 fun x58 =>
  K57 (Value.int .i64 x58) w56) ∧
  ∃ (x59 : Int), Qt C54 (Value.int .i64 x59) (fun w60 K61 =>
  LdI .i64 (Addr.add ⟨b26, 0, none⟩ 1) w60 fun x62 =>
  K61 (Value.int .i64 x62) w60) ∧
  IxP (some ⟨b13, 0, none⟩) 2 x59 1 fun a63 =>
  ∃ (x64 : Int), Qt C54 (Value.int .i64 x64) (fun w65 K66 =>
  LdI .i64 a63 w65 fun x67 =>
  K66 (Value.int .i64 x67) w65) ∧
  ∃ (x68 : Int), Qt C54 (Value.int .i64 x68) (fun w69 K70 =>
  LdI .i64 (Addr.add ⟨b26, 0, none⟩ 1) w69 fun x71 =>
  K70 (Value.int .i64 x71) w69) ∧
  ∃ (x72p : Option Addr) (x72n : Nat) (x72c : Nat), Qt C54 (Value.slice x72p x72n x72c) (fun w73 K74 =>
  LdL (Addr.add ⟨b26, 0, none⟩ 2) w73 fun x75p x75n x75c =>
  K74 (Value.slice x75p x75n x75c) w73) ∧
  ∃ (D77 : Value → Cls), (∀ G78 w79, Cls.p C54 G78 w79 →
  CallR Try.prog 15 #[(Value.pointer x9), (Value.int .i64 x68), (Value.slice x72p x72n x72c)] w79 fun v80 w81 =>
  AsI .i64 v80 fun x82 =>
  isR [.b (.int .i64)] (Value.int .i64 x82) ∧ Cls.p (D77 (Value.int .i64 x82)) G78 w81) ∧
  ∀ (x76 : Int), (Qt (D77 (Value.int .i64 x76)) (Value.int .i64 x64) (fun w83 K84 =>
  LdI .i64 a63 w83 fun x85 =>
  K84 (Value.int .i64 x85) w83) ∧
  Qt (D77 (Value.int .i64 x76)) (Value.int .i64 x59) (fun w86 K87 =>
  LdI .i64 (Addr.add ⟨b26, 0, none⟩ 1) w86 fun x88 =>
  K87 (Value.int .i64 x88) w86) ∧
  Qt (D77 (Value.int .i64 x76)) (Value.int .i64 x55) (fun w89 K90 =>
  LdI .i64 (Addr.add ⟨b26, 0, none⟩ 1) w89 fun x91 =>
  K90 (Value.int .i64 x91) w89)) ∧
  IxP (some ⟨b13, 0, none⟩) 2 x55 1 fun a92 =>
  ∃ (D93 : Value → Cls), (∀ G94 w95, Cls.p (D77 (Value.int .i64 x76)) G94 w95 →
  St1 a92 (Value.int .i64 (IntKind.wrap .i64 (x64 + x76))) w95 fun w96 =>
  isR [] (Value.tuple #[]) ∧ Cls.p (D93 (Value.tuple #[])) G94 w96) ∧
  (True) ∧
  ∀ G97 w98, Cls.p (D93 (Value.tuple #[])) G97 w98 →
  J39 [] w98))) ∧
  ∀ w99, J39 [] w99 →
  Lp fun I100 mu101 =>
  I100 [(Value.int .i64 0)] w99 ∧
  ∀ (s102 : Int), ∀ w103, I100 [(Value.int .i64 s102)] w103 →
  Bif (decide (s102 < 2)) (
  ∃ (C104 : Cls), Cls.p C104 [] w103 ∧
  IxP (some ⟨b13, 0, none⟩) 2 s102 1 fun a105 =>
  ∃ (x106 : Int), Qt C104 (Value.int .i64 x106) (fun w107 K108 =>
  LdI .i64 a105 w107 fun x109 =>
  K108 (Value.int .i64 x109) w107) ∧
  ∃ (D111 : Value → Cls), (∀ G112 w113, Cls.p C104 G112 w113 →
  CallR Try.prog 17 #[(Value.pointer x9), (Value.int .i64 (IntKind.wrap .i64 (1 - s102)))] w113 fun v114 w115 =>
  AsI .i64 v114 fun x116 =>
  isR [.b (.int .i64)] (Value.int .i64 x116) ∧ Cls.p (D111 (Value.int .i64 x116)) G112 w115) ∧
  ∀ (x110 : Int), (Qt (D111 (Value.int .i64 x110)) (Value.int .i64 x106) (fun w117 K118 =>
  LdI .i64 a105 w117 fun x119 =>
  K118 (Value.int .i64 x119) w117)) ∧
  ∃ (D121 : Value → Cls), (∀ G122 w123, Cls.p (D111 (Value.int .i64 x110)) G122 w123 →
  CallR Try.prog 16 #[(Value.pointer x9), (Value.int .i64 (IntKind.wrap .i64 (1 - s102)))] w123 fun v124 w125 =>
  AsI .i64 v124 fun x126 =>
  isR [.b (.int .i64)] (Value.int .i64 x126) ∧ Cls.p (D121 (Value.int .i64 x126)) G122 w125) ∧
  ∀ (x120 : Int), (Qt (D121 (Value.int .i64 x120)) (Value.int .i64 x106) (fun w127 K128 =>
  LdI .i64 a105 w127 fun x129 =>
  K128 (Value.int .i64 x129) w127)) ∧
  Bif ((IntKind.wrap .i64 (x110 + x120)) != x106) (
  ∀ G130 w131, Cls.p (D121 (Value.int .i64 x120)) G130 w131 →
  R (Value.bool false) w131) (
  IxP (some ⟨b15, 0, none⟩) 2 s102 1 fun a132 =>
  ∃ (x133 : Bool), Qt (D121 (Value.int .i64 x120)) (Value.bool x133) (fun w134 K135 =>
  LdB a132 w134 fun x136 =>
  K135 (Value.bool x136) w134) ∧
  Bif (!x133) (
  ∃ (D138 : Value → Cls), (∀ G139 w140, Cls.p (D121 (Value.int .i64 x120)) G139 w140 →
  CallR Try.prog 18 #[(Value.pointer x9), (Value.int .i64 s102)] w140 fun v141 w142 =>
  AsI .i64 v141 fun x143 =>
  isR [.b (.int .i64)] (Value.int .i64 x143) ∧ Cls.p (D138 (Value.int .i64 x143)) G139 w142) ∧
  ∀ (x137 : Int), (True) ∧
  ∃ (D145 : Value → Cls), (∀ G146 w147, Cls.p (D138 (Value.int .i64 x137)) G146 w147 →
  CallR Try.prog 16 #[(Value.pointer x9), (Value.int .i64 (IntKind.wrap .i64 (1 - s102)))] w147 fun v148 w149 =>
  AsI .i64 v148 fun x150 =>
  isR [.b (.int .i64)] (Value.int .i64 x150) ∧ Cls.p (D145 (Value.int .i64 x150)) G146 w149) ∧
  ∀ (x144 : Int), (True) ∧
  Bif (x137 != (IntKind.wrap .i64 ((IntKind.wrap .i64 most1) - x144))) (
  ∀ G151 w152, Cls.p (D145 (Value.int .i64 x144)) G151 w152 →
  R (Value.bool false) w152) (
  IxP (some ⟨b15, 0, none⟩) 2 s102 1 fun a153 =>
  ∃ (x154 : Bool), Qt (D145 (Value.int .i64 x144)) (Value.bool x154) (fun w155 K156 =>
  LdB a153 w155 fun x157 =>
  K156 (Value.bool x157) w155) ∧
  Bif x154 (
  ∃ (D159 : Value → Cls), (∀ G160 w161, Cls.p (D145 (Value.int .i64 x144)) G160 w161 →
  CallR Try.prog 18 #[(Value.pointer x9), (Value.int .i64 s102)] w161 fun v162 w163 =>
  AsI .i64 v162 fun x164 =>
  isR [.b (.int .i64)] (Value.int .i64 x164) ∧ Cls.p (D159 (Value.int .i64 x164)) G160 w163) ∧
  ∀ (x158 : Int), (True) ∧
  ∀ G165 w166, Cls.p (D159 (Value.int .i64 x158)) G165 w166 →
  Bif (x158 != 0) (
  R (Value.bool false) w166) (
  I100 [(Value.int .i64 (IntKind.wrap .i64 (s102 + 1)))] w166 ∧ mu101 [(Value.int .i64 (IntKind.wrap .i64 (s102 + 1)))] w166 < mu101 [(Value.int .i64 s102)] w103)) (
  ∀ G167 w168, Cls.p (D145 (Value.int .i64 x144)) G167 w168 →
  I100 [(Value.int .i64 (IntKind.wrap .i64 (s102 + 1)))] w168 ∧ mu101 [(Value.int .i64 (IntKind.wrap .i64 (s102 + 1)))] w168 < mu101 [(Value.int .i64 s102)] w103))) (
  IxP (some ⟨b15, 0, none⟩) 2 s102 1 fun a169 =>
  ∃ (x170 : Bool), Qt (D121 (Value.int .i64 x120)) (Value.bool x170) (fun w171 K172 =>
  LdB a169 w171 fun x173 =>
  K172 (Value.bool x173) w171) ∧
  Bif x170 (
  ∃ (D175 : Value → Cls), (∀ G176 w177, Cls.p (D121 (Value.int .i64 x120)) G176 w177 →
  CallR Try.prog 18 #[(Value.pointer x9), (Value.int .i64 s102)] w177 fun v178 w179 =>
  AsI .i64 v178 fun x180 =>
  isR [.b (.int .i64)] (Value.int .i64 x180) ∧ Cls.p (D175 (Value.int .i64 x180)) G176 w179) ∧
  ∀ (x174 : Int), (True) ∧
  ∀ G181 w182, Cls.p (D175 (Value.int .i64 x174)) G181 w182 →
  Bif (x174 != 0) (
  R (Value.bool false) w182) (
  I100 [(Value.int .i64 (IntKind.wrap .i64 (s102 + 1)))] w182 ∧ mu101 [(Value.int .i64 (IntKind.wrap .i64 (s102 + 1)))] w182 < mu101 [(Value.int .i64 s102)] w103)) (
  ∀ G183 w184, Cls.p (D121 (Value.int .i64 x120)) G183 w184 →
  I100 [(Value.int .i64 (IntKind.wrap .i64 (s102 + 1)))] w184 ∧ mu101 [(Value.int .i64 (IntKind.wrap .i64 (s102 + 1)))] w184 < mu101 [(Value.int .i64 s102)] w103)))) (
  I17 [(Value.int .i64 (IntKind.wrap .i64 (i19 + 1)))] w103 ∧ mu18 [(Value.int .i64 (IntKind.wrap .i64 (i19 + 1)))] w103 < mu18 [(Value.int .i64 i19)] w20)) (
  R (Value.bool x6) w20)))
theorem F6_eq (most1 : Int) (l2p : Option Addr) (l2n : Nat) (l2c : Nat) (w3 : World) (R : Value → World → Prop) : liftF Try.prog 6 (.step .nil .nil (.step .nil .nil (.step .nil .nil (.step .nil .nil (.step .nil .nil (.step .nil .nil (.step .nil .nil (.step .nil .nil (.step (.loop [(9, .b (.int .i64))] (.step .nil .nil (.step .nil .nil (.step (.step .nil .nil (.join 2 [] .nil (.step .nil .nil (.join 1 [] (.step .nil (.step .nil .nil (.step .nil (.draw [(0, false), (1, false), (3, false), (4, false), (8, false), (9, false), (11, false), (2, false), (5, false), (6, false), (7, false), (10, false), (12, false), (13, true), (14, false), (15, false), (16, true)] .nil) .nil)) .nil) (.step .nil .nil (.step (.loop [(11, .b (.int .i64))] (.step .nil .nil (.step .nil .nil (.step (.draw [(0, false), (1, false), (2, false), (4, false), (5, false), (6, false), (9, false), (10, false), (11, false), (12, false), (3, true), (7, true), (8, false), (13, false), (14, false), (15, false), (16, false), (17, false), (18, false), (19, false), (20, false), (21, false), (22, false), (24, false), (25, false), (26, false), (27, false), (28, false), (23, true), (29, true), (30, false), (31, false), (32, false), (33, false), (34, false), (35, false), (36, false), (37, false), (38, false), (39, false), (40, false), (41, false), (42, true), (43, false), (44, false), (45, false)] .nil) .nil .nil)))) .nil .nil)))))) .nil .nil)))) .nil .nil))))))))) [(Value.int .u8 most1), (Value.slice l2p l2n l2c)] w3 R = F6 most1 l2p l2n l2c w3 R := by kernel_rfl
theorem F6_of {most1 : Int} {l2p : Option Addr} {l2n : Nat} {l2c : Nat} {w3 : World} {R : Value → World → Prop} (h : F6 most1 l2p l2n l2c w3 R) : CallR Try.prog 6 #[(Value.int .u8 most1), (Value.slice l2p l2n l2c)] w3 R := callR_of_lift _ ((F6_eq most1 l2p l2n l2c w3 R).mpr h)

-- F7 subway/subwaylaw17.PumpPlays
def F7 (most1 : Int) (l2p : Option Addr) (l2n : Nat) (l2c : Nat) (w3 : World) (R : Value → World → Prop) : Prop :=
  CallR Try.prog 10 #[] w3 fun v4 w5 =>
  AsB v4 fun x6 =>
  CallR Try.prog 11 #[(Value.int .i64 most1)] w5 fun v7 w8 =>
  AsP v7 fun x9 =>
  CallR Try.prog 19 #[(Value.int .i64 most1)] w8 fun v10 w11 =>
  AsP v10 fun x12 =>
  Bif (isNone' x9) (
  Bif (!(isNone' x9)) (
  R (Value.bool x6) w11) (
  R (Value.bool false) w11)) (
  CallR Try.prog 12 #[(Value.slice l2p l2n l2c)] w11 fun v13 w14 =>
  AsB v13 fun x15 =>
  Bif x15 (
  Bif (!(isNone' x9)) (
  R (Value.bool x6) w14) (
  R (Value.bool false) w14)) (
  Lp fun I16 mu17 =>
  I16 [(Value.int .i64 0)] w14 ∧
  ∀ (i18 : Int), ∀ w19, I16 [(Value.int .i64 i18)] w19 →
  Bif (decide (i18 < (l2n : Int))) (
  IxP l2p l2n i18 4 fun a20 =>
  LdI .i64 (Addr.add a20 0) w19 fun x21 =>
  LdI .i64 (Addr.add a20 1) w19 fun x22 =>
  LdL (Addr.add a20 2) w19 fun x23p x23n x23c =>
  LdI .i64 (Addr.add a20 3) w19 fun x24 =>
  NewC #[(Value.int .i64 0), (Value.int .i64 0), (Value.slice none 0 0), (Value.int .i64 0)] 30 w19 fun b25 w26 =>
  St1 (Addr.add ⟨b25, 0, none⟩ 0) (Value.int .i64 x21) w26 fun w27 =>
  St1 (Addr.add ⟨b25, 0, none⟩ 1) (Value.int .i64 x22) w27 fun w28 =>
  St1 (Addr.add ⟨b25, 0, none⟩ 2) (Value.slice x23p x23n x23c) w28 fun w29 =>
  St1 (Addr.add ⟨b25, 0, none⟩ 3) (Value.int .i64 x24) w29 fun w30 =>
  LdI .i64 (Addr.add ⟨b25, 0, none⟩ 0) w30 fun x31 =>
  Jn fun J32 => (
  Bif (x31 == 2) (
  LdI .i64 (Addr.add ⟨b25, 0, none⟩ 1) w30 fun x33 =>
  LdI .i64 (Addr.add ⟨b25, 0, none⟩ 3) w30 fun x34 =>
  CallR Try.prog 13 #[(Value.pointer x9), (Value.int .i64 x33), (Value.int .i64 x34)] w30 fun v35 w36 =>
  ∃ (x37p : Option Addr) (x37n : Nat) (x37c : Nat), ∃ (x38 : Bool), v35 = (Value.tuple #[(Value.slice x37p x37n x37c), (Value.bool x38)]) ∧
  LdI .i64 (Addr.add ⟨b25, 0, none⟩ 1) w36 fun x39 =>
  LdI .i64 (Addr.add ⟨b25, 0, none⟩ 3) w36 fun x40 =>
  CallR Try.prog 20 #[(Value.pointer x12), (Value.int .i64 x39), (Value.int .i64 x40)] w36 fun v41 w42 =>
  ∃ (x43p : Option Addr) (x43n : Nat) (x43c : Nat), ∃ (x44 : Bool), v41 = (Value.tuple #[(Value.slice x43p x43n x43c), (Value.bool x44)]) ∧
  Run Try.prog (convert 28 9 (Value.slice x37p x37n x37c)) w42 fun v45 w46 =>
  AsS v45 fun x47 =>
  Run Try.prog (convert 28 9 (Value.slice x43p x43n x43c)) w46 fun v48 w49 =>
  AsS v48 fun x50 =>
  Bif (!(ByteArray.toList x47 == ByteArray.toList x50)) (
  R (Value.bool false) w49) (
  Bif (!(x38 == x44)) (
  R (Value.bool false) w49) (
  J32 [] w49))) (
  Bif (x31 == 3) (
  LdI .i64 (Addr.add ⟨b25, 0, none⟩ 1) w30 fun x51 =>
  CallR Try.prog 14 #[(Value.pointer x9), (Value.int .i64 x51)] w30 fun v52 w53 =>
  AsB v52 fun x54 =>
  LdI .i64 (Addr.add ⟨b25, 0, none⟩ 1) w53 fun x55 =>
  CallR Try.prog 21 #[(Value.pointer x12), (Value.int .i64 x55)] w53 fun v56 w57 =>
  AsB v56 fun x58 =>
  Bif (!(x54 == x58)) (
  R (Value.bool false) w57) (
  J32 [] w57)) (
  Bif (x31 == 4) (
  CallR Try.prog 22 #[(Value.pointer x9)] w30 fun v59 w60 =>
  v59 = (Value.tuple #[]) ∧
  CallR Try.prog 23 #[(Value.pointer x12)] w60 fun v61 w62 =>
  v61 = (Value.tuple #[]) ∧
  J32 [] w62) (
  LdI .i64 (Addr.add ⟨b25, 0, none⟩ 1) w30 fun x63 =>
  LdL (Addr.add ⟨b25, 0, none⟩ 2) w30 fun x64p x64n x64c =>
  CallR Try.prog 15 #[(Value.pointer x9), (Value.int .i64 x63), (Value.slice x64p x64n x64c)] w30 fun v65 w66 =>
  AsI .i64 v65 fun x67 =>
  LdI .i64 (Addr.add ⟨b25, 0, none⟩ 1) w66 fun x68 =>
  LdL (Addr.add ⟨b25, 0, none⟩ 2) w66 fun x69p x69n x69c =>
  CallR Try.prog 24 #[(Value.pointer x12), (Value.int .i64 x68), (Value.slice x69p x69n x69c)] w66 fun v70 w71 =>
  AsI .i64 v70 fun x72 =>
  Bif (x67 != x72) (
  R (Value.bool false) w71) (
  J32 [] w71))))) ∧
  ∀ w73, J32 [] w73 →
  Lp fun I74 mu75 =>
  I74 [(Value.int .i64 (-1))] w73 ∧
  ∀ (s76 : Int), ∀ w77, I74 [(Value.int .i64 s76)] w77 →
  Bif (decide (s76 < 3)) (
  CallR Try.prog 16 #[(Value.pointer x9), (Value.int .i64 s76)] w77 fun v78 w79 =>
  AsI .i64 v78 fun x80 =>
  CallR Try.prog 25 #[(Value.pointer x12), (Value.int .i64 s76)] w79 fun v81 w82 =>
  AsI .i64 v81 fun x83 =>
  Bif (x80 != x83) (
  R (Value.bool false) w82) (
  CallR Try.prog 18 #[(Value.pointer x9), (Value.int .i64 s76)] w82 fun v84 w85 =>
  AsI .i64 v84 fun x86 =>
  CallR Try.prog 26 #[(Value.pointer x12), (Value.int .i64 s76)] w85 fun v87 w88 =>
  AsI .i64 v87 fun x89 =>
  Bif (x86 != x89) (
  R (Value.bool false) w88) (
  CallR Try.prog 17 #[(Value.pointer x9), (Value.int .i64 s76)] w88 fun v90 w91 =>
  AsI .i64 v90 fun x92 =>
  CallR Try.prog 27 #[(Value.pointer x12), (Value.int .i64 s76)] w91 fun v93 w94 =>
  AsI .i64 v93 fun x95 =>
  Bif (x92 != x95) (
  R (Value.bool false) w94) (
  CallR Try.prog 28 #[(Value.pointer x9)] w94 fun v96 w97 =>
  AsB v96 fun x98 =>
  CallR Try.prog 29 #[(Value.pointer x12)] w97 fun v99 w100 =>
  AsB v99 fun x101 =>
  Bif (!(x98 == x101)) (
  R (Value.bool false) w100) (
  I74 [(Value.int .i64 (IntKind.wrap .i64 (s76 + 1)))] w100 ∧ mu75 [(Value.int .i64 (IntKind.wrap .i64 (s76 + 1)))] w100 < mu75 [(Value.int .i64 s76)] w77))))) (
  I16 [(Value.int .i64 (IntKind.wrap .i64 (i18 + 1)))] w77 ∧ mu17 [(Value.int .i64 (IntKind.wrap .i64 (i18 + 1)))] w77 < mu17 [(Value.int .i64 i18)] w19)) (
  R (Value.bool x6) w19)))
theorem F7_eq (most1 : Int) (l2p : Option Addr) (l2n : Nat) (l2c : Nat) (w3 : World) (R : Value → World → Prop) : liftF Try.prog 7 (.step .nil .nil (.step .nil .nil (.step .nil .nil (.step .nil .nil (.step .nil .nil (.step .nil .nil (.step .nil .nil (.step (.loop [(8, .b (.int .i64))] (.step .nil .nil (.step .nil .nil (.step (.step .nil .nil (.step .nil .nil (.join 1 [] .nil (.step .nil .nil (.step (.loop [(18, .b (.int .i64))] .nil) .nil .nil))))) .nil .nil)))) .nil .nil)))))))) [(Value.int .i64 most1), (Value.slice l2p l2n l2c)] w3 R = F7 most1 l2p l2n l2c w3 R := by kernel_rfl
theorem F7_of {most1 : Int} {l2p : Option Addr} {l2n : Nat} {l2c : Nat} {w3 : World} {R : Value → World → Prop} (h : F7 most1 l2p l2n l2c w3 R) : CallR Try.prog 7 #[(Value.int .i64 most1), (Value.slice l2p l2n l2c)] w3 R := callR_of_lift _ ((F7_eq most1 l2p l2n l2c w3 R).mpr h)

-- F8 subway/subwaylaw17.PumpEnd
def F8 (most1 : Int) (l2p : Option Addr) (l2n : Nat) (l2c : Nat) (w3 : World) (R : Value → World → Prop) : Prop :=
  CallR Try.prog 10 #[] w3 fun v4 w5 =>
  AsB v4 fun x6 =>
  CallR Try.prog 11 #[(Value.int .i64 (IntKind.wrap .i64 most1))] w5 fun v7 w8 =>
  AsP v7 fun x9 =>
  Bif (isNone' x9) (
  Bif (!(isNone' x9)) (
  R (Value.bool x6) w8) (
  R (Value.bool false) w8)) (
  CallR Try.prog 12 #[(Value.slice l2p l2n l2c)] w8 fun v10 w11 =>
  AsB v10 fun x12 =>
  Bif x12 (
  Bif (!(isNone' x9)) (
  R (Value.bool x6) w11) (
  R (Value.bool false) w11)) (
  NewC #[(Value.bool false), (Value.bool false)] 4 w11 fun b13 w14 =>
  NewC #[(Value.bool false), (Value.bool false)] 4 w14 fun b15 w16 =>
  Lp fun I17 mu18 =>
  I17 [(Value.bool false), (Value.int .i64 0)] w16 ∧
  ∀ (broken19 : Bool), ∀ (i20 : Int), ∀ w21, I17 [(Value.bool broken19), (Value.int .i64 i20)] w21 →
  Bif (decide (i20 < (l2n : Int))) (
  IxP l2p l2n i20 4 fun a22 =>
  LdI .i64 (Addr.add a22 0) w21 fun x23 =>
  LdI .i64 (Addr.add a22 1) w21 fun x24 =>
  LdL (Addr.add a22 2) w21 fun x25p x25n x25c =>
  LdI .i64 (Addr.add a22 3) w21 fun x26 =>
  NewC #[(Value.int .i64 0), (Value.int .i64 0), (Value.slice none 0 0), (Value.int .i64 0)] 30 w21 fun b27 w28 =>
  St1 (Addr.add ⟨b27, 0, none⟩ 0) (Value.int .i64 x23) w28 fun w29 =>
  St1 (Addr.add ⟨b27, 0, none⟩ 1) (Value.int .i64 x24) w29 fun w30 =>
  St1 (Addr.add ⟨b27, 0, none⟩ 2) (Value.slice x25p x25n x25c) w30 fun w31 =>
  St1 (Addr.add ⟨b27, 0, none⟩ 3) (Value.int .i64 x26) w31 fun w32 =>
  Jn fun J33 => (
  LdI .i64 (Addr.add ⟨b27, 0, none⟩ 1) w32 fun x34 =>
  Bif (x34 != 0) (
  LdI .i64 (Addr.add ⟨b27, 0, none⟩ 1) w32 fun x35 =>
  Bif (x35 != 1) (
  I17 [(Value.bool broken19), (Value.int .i64 (IntKind.wrap .i64 (i20 + 1)))] w32 ∧ mu18 [(Value.bool broken19), (Value.int .i64 (IntKind.wrap .i64 (i20 + 1)))] w32 < mu18 [(Value.bool broken19), (Value.int .i64 i20)] w21) (
  J33 [] w32)) (
  J33 [] w32)) ∧
  ∀ w36, J33 [] w36 →
  LdI .i64 (Addr.add ⟨b27, 0, none⟩ 0) w36 fun x37 =>
  Jn fun J38 => (
  Bif (x37 == 2) (
  LdI .i64 (Addr.add ⟨b27, 0, none⟩ 1) w36 fun x39 =>
  LdI .i64 (Addr.add ⟨b27, 0, none⟩ 3) w36 fun x40 =>
  CallR Try.prog 13 #[(Value.pointer x9), (Value.int .i64 x39), (Value.int .i64 x40)] w36 fun v41 w42 =>
  ∃ (x43p : Option Addr) (x43n : Nat) (x43c : Nat), ∃ (x44 : Bool), v41 = (Value.tuple #[(Value.slice x43p x43n x43c), (Value.bool x44)]) ∧
  Jn fun J45 => (
  Bif broken19 (
  Bif x44 (
  R (Value.bool false) w42) (
  Bif (decide ((x43n : Int) > 0)) (
  R (Value.bool false) w42) (
  LdI .i64 (Addr.add ⟨b27, 0, none⟩ 1) w42 fun x46 =>
  IxP (some ⟨b13, 0, none⟩) 2 x46 1 fun a47 =>
  LdB a47 w42 fun x48 =>
  Bif x48 (
  Bif x44 (
  R (Value.bool false) w42) (
  Bif (decide ((x43n : Int) > 0)) (
  R (Value.bool false) w42) (
  Bif x44 (
  LdI .i64 (Addr.add ⟨b27, 0, none⟩ 1) w42 fun x49 =>
  IxP (some ⟨b15, 0, none⟩) 2 (IntKind.wrap .i64 (1 - x49)) 1 fun a50 =>
  LdB a50 w42 fun x51 =>
  Bif (!x51) (
  R (Value.bool false) w42) (
  LdI .i64 (Addr.add ⟨b27, 0, none⟩ 1) w42 fun x52 =>
  CallR Try.prog 16 #[(Value.pointer x9), (Value.int .i64 x52)] w42 fun v53 w54 =>
  AsI .i64 v53 fun x55 =>
  Bif (decide (x55 > 0)) (
  R (Value.bool false) w54) (
  J45 [] w54))) (
  J45 [] w42)))) (
  Bif x44 (
  LdI .i64 (Addr.add ⟨b27, 0, none⟩ 1) w42 fun x56 =>
  IxP (some ⟨b15, 0, none⟩) 2 (IntKind.wrap .i64 (1 - x56)) 1 fun a57 =>
  LdB a57 w42 fun x58 =>
  Bif (!x58) (
  R (Value.bool false) w42) (
  LdI .i64 (Addr.add ⟨b27, 0, none⟩ 1) w42 fun x59 =>
  CallR Try.prog 16 #[(Value.pointer x9), (Value.int .i64 x59)] w42 fun v60 w61 =>
  AsI .i64 v60 fun x62 =>
  Bif (decide (x62 > 0)) (
  R (Value.bool false) w61) (
  J45 [] w61))) (
  J45 [] w42))))) (
  LdI .i64 (Addr.add ⟨b27, 0, none⟩ 1) w42 fun x63 =>
  IxP (some ⟨b13, 0, none⟩) 2 x63 1 fun a64 =>
  LdB a64 w42 fun x65 =>
  Bif x65 (
  Bif x44 (
  R (Value.bool false) w42) (
  Bif (decide ((x43n : Int) > 0)) (
  R (Value.bool false) w42) (
  Bif x44 (
  LdI .i64 (Addr.add ⟨b27, 0, none⟩ 1) w42 fun x66 =>
  IxP (some ⟨b15, 0, none⟩) 2 (IntKind.wrap .i64 (1 - x66)) 1 fun a67 =>
  LdB a67 w42 fun x68 =>
  Bif (!x68) (
  R (Value.bool false) w42) (
  LdI .i64 (Addr.add ⟨b27, 0, none⟩ 1) w42 fun x69 =>
  CallR Try.prog 16 #[(Value.pointer x9), (Value.int .i64 x69)] w42 fun v70 w71 =>
  AsI .i64 v70 fun x72 =>
  Bif (decide (x72 > 0)) (
  R (Value.bool false) w71) (
  J45 [] w71))) (
  J45 [] w42)))) (
  Bif x44 (
  LdI .i64 (Addr.add ⟨b27, 0, none⟩ 1) w42 fun x73 =>
  IxP (some ⟨b15, 0, none⟩) 2 (IntKind.wrap .i64 (1 - x73)) 1 fun a74 =>
  LdB a74 w42 fun x75 =>
  Bif (!x75) (
  R (Value.bool false) w42) (
  LdI .i64 (Addr.add ⟨b27, 0, none⟩ 1) w42 fun x76 =>
  CallR Try.prog 16 #[(Value.pointer x9), (Value.int .i64 x76)] w42 fun v77 w78 =>
  AsI .i64 v77 fun x79 =>
  Bif (decide (x79 > 0)) (
  R (Value.bool false) w78) (
  J45 [] w78))) (
  J45 [] w42)))) ∧
  ∀ w80, J45 [] w80 →
  ∃ (C81 : Cls), Cls.p C81 [] w80 ∧
  ∃ (x82 : Int), Qt C81 (Value.int .i64 x82) (fun w83 K84 =>
  LdI .i64 (Addr.add ⟨b27, 0, none⟩ 1) w83 fun x85 =>
  K84 (Value.int .i64 x85) w83) ∧
  ∃ (x86 : Int), Qt C81 (Value.int .i64 x86) (fun w87 K88 =>
  LdI .i64 (Addr.add ⟨b27, 0, none⟩ 1) w87 fun x89 =>
  K88 (Value.int .i64 x89) w87) ∧
  IxP (some ⟨b13, 0, none⟩) 2 x86 1 fun a90 =>
  ∃ (x91 : Bool), Qt C81 (Value.bool x91) (fun w92 K93 =>
  LdB a90 w92 fun x94 =>
  K93 (Value.bool x94) w92) ∧
  Bif x91 (
  IxP (some ⟨b13, 0, none⟩) 2 x82 1 fun a95 =>
  ∃ (D96 : Value → Cls), (∀ G97 w98, Cls.p C81 G97 w98 →
  St1 a95 (Value.bool true) w98 fun w99 =>
  isR [] (Value.tuple #[]) ∧ Cls.p (D96 (Value.tuple #[])) G97 w99) ∧
  (True) ∧
  ∀ G100 w101, Cls.p (D96 (Value.tuple #[])) G100 w101 →
  J38 [(Value.bool broken19)] w101) (
  IxP (some ⟨b13, 0, none⟩) 2 x82 1 fun a102 =>
  ∃ (D103 : Value → Cls), (∀ G104 w105, Cls.p C81 G104 w105 →
  St1 a102 (Value.bool x44) w105 fun w106 =>
  isR [] (Value.tuple #[]) ∧ Cls.p (D103 (Value.tuple #[])) G104 w106) ∧
  (True) ∧
  ∀ G107 w108, Cls.p (D103 (Value.tuple #[])) G107 w108 →
  J38 [(Value.bool broken19)] w108)) (
  LdI .i64 (Addr.add ⟨b27, 0, none⟩ 0) w36 fun x109 =>
  Bif (x109 == 3) (
  LdI .i64 (Addr.add ⟨b27, 0, none⟩ 1) w36 fun x110 =>
  CallR Try.prog 14 #[(Value.pointer x9), (Value.int .i64 x110)] w36 fun v111 w112 =>
  AsB v111 fun x113 =>
  Jn fun J114 => (
  LdI .i64 (Addr.add ⟨b27, 0, none⟩ 1) w112 fun x115 =>
  IxP (some ⟨b15, 0, none⟩) 2 x115 1 fun a116 =>
  LdB a116 w112 fun x117 =>
  Bif (!x117) (
  Bif (!(x113 == (!broken19))) (
  R (Value.bool false) w112) (
  J114 [] w112)) (
  Bif (!(x113 == false)) (
  R (Value.bool false) w112) (
  J114 [] w112))) ∧
  ∀ w118, J114 [] w118 →
  ∃ (C119 : Cls), Cls.p C119 [] w118 ∧
  ∃ (x120 : Int), Qt C119 (Value.int .i64 x120) (fun w121 K122 =>
  LdI .i64 (Addr.add ⟨b27, 0, none⟩ 1) w121 fun x123 =>
  K122 (Value.int .i64 x123) w121) ∧
  ∃ (x124 : Int), Qt C119 (Value.int .i64 x124) (fun w125 K126 =>
  LdI .i64 (Addr.add ⟨b27, 0, none⟩ 1) w125 fun x127 =>
  K126 (Value.int .i64 x127) w125) ∧
  IxP (some ⟨b15, 0, none⟩) 2 x124 1 fun a128 =>
  ∃ (x129 : Bool), Qt C119 (Value.bool x129) (fun w130 K131 =>
  LdB a128 w130 fun x132 =>
  K131 (Value.bool x132) w130) ∧
  Bif x129 (
  IxP (some ⟨b15, 0, none⟩) 2 x120 1 fun a133 =>
  ∃ (D134 : Value → Cls), (∀ G135 w136, Cls.p C119 G135 w136 →
  St1 a133 (Value.bool true) w136 fun w137 =>
  isR [] (Value.tuple #[]) ∧ Cls.p (D134 (Value.tuple #[])) G135 w137) ∧
  (True) ∧
  ∀ G138 w139, Cls.p (D134 (Value.tuple #[])) G138 w139 →
  J38 [(Value.bool broken19)] w139) (
  IxP (some ⟨b15, 0, none⟩) 2 x120 1 fun a140 =>
  ∃ (D141 : Value → Cls), (∀ G142 w143, Cls.p C119 G142 w143 →
  St1 a140 (Value.bool x113) w143 fun w144 =>
  isR [] (Value.tuple #[]) ∧ Cls.p (D141 (Value.tuple #[])) G142 w144) ∧
  (True) ∧
  ∀ G145 w146, Cls.p (D141 (Value.tuple #[])) G145 w146 →
  J38 [(Value.bool broken19)] w146)) (
  LdI .i64 (Addr.add ⟨b27, 0, none⟩ 0) w36 fun x147 =>
  Bif (x147 == 4) (
  CallR Try.prog 22 #[(Value.pointer x9)] w36 fun v148 w149 =>
  v148 = (Value.tuple #[]) ∧
  J38 [(Value.bool true)] w149) (
  LdI .i64 (Addr.add ⟨b27, 0, none⟩ 1) w36 fun x150 =>
  LdL (Addr.add ⟨b27, 0, none⟩ 2) w36 fun x151p x151n x151c =>
  CallR Try.prog 15 #[(Value.pointer x9), (Value.int .i64 x150), (Value.slice x151p x151n x151c)] w36 fun v152 w153 =>
  AsI .i64 v152 fun x154 =>
  Bif (decide (x154 > 0)) (
  LdI .i64 (Addr.add ⟨b27, 0, none⟩ 1) w153 fun x155 =>
  IxP (some ⟨b15, 0, none⟩) 2 x155 1 fun a156 =>
  LdB a156 w153 fun x157 =>
  Bif x157 (
  R (Value.bool false) w153) (
  Bif broken19 (
  R (Value.bool false) w153) (
  J38 [(Value.bool broken19)] w153))) (
  J38 [(Value.bool broken19)] w153))))) ∧
  ∀ (broken158 : Bool), ∀ w159, J38 [(Value.bool broken158)] w159 →
  CallR Try.prog 28 #[(Value.pointer x9)] w159 fun v160 w161 =>
  AsB v160 fun x162 =>
  Bif broken158 (
  Bif (!(x162 == true)) (
  R (Value.bool false) w161) (
  I17 [(Value.bool broken158), (Value.int .i64 (IntKind.wrap .i64 (i20 + 1)))] w161 ∧ mu18 [(Value.bool broken158), (Value.int .i64 (IntKind.wrap .i64 (i20 + 1)))] w161 < mu18 [(Value.bool broken19), (Value.int .i64 i20)] w21)) (
  IxP (some ⟨b13, 0, none⟩) 2 0 1 fun a163 =>
  LdB a163 w161 fun x164 =>
  Bif x164 (
  IxP (some ⟨b13, 0, none⟩) 2 1 1 fun a165 =>
  LdB a165 w161 fun x166 =>
  Bif (!(x162 == x166)) (
  R (Value.bool false) w161) (
  I17 [(Value.bool broken158), (Value.int .i64 (IntKind.wrap .i64 (i20 + 1)))] w161 ∧ mu18 [(Value.bool broken158), (Value.int .i64 (IntKind.wrap .i64 (i20 + 1)))] w161 < mu18 [(Value.bool broken19), (Value.int .i64 i20)] w21)) (
  Bif (!(x162 == false)) (
  R (Value.bool false) w161) (
  I17 [(Value.bool broken158), (Value.int .i64 (IntKind.wrap .i64 (i20 + 1)))] w161 ∧ mu18 [(Value.bool broken158), (Value.int .i64 (IntKind.wrap .i64 (i20 + 1)))] w161 < mu18 [(Value.bool broken19), (Value.int .i64 i20)] w21)))) (
  R (Value.bool x6) w21)))
theorem F8_eq (most1 : Int) (l2p : Option Addr) (l2n : Nat) (l2c : Nat) (w3 : World) (R : Value → World → Prop) : liftF Try.prog 8 (.step .nil .nil (.step .nil .nil (.step .nil .nil (.step .nil .nil (.step .nil .nil (.step .nil .nil (.step .nil .nil (.step .nil .nil (.step .nil .nil (.step (.loop [(9, .b .bool), (10, .b (.int .i64))] (.step .nil .nil (.step .nil .nil (.step (.step .nil .nil (.join 2 [] .nil (.step .nil .nil (.join 1 [(9, .b .bool)] (.step (.step .nil .nil (.join 2 [] .nil (.draw [(0, false), (1, false), (3, false), (4, false), (2, false), (5, false), (6, false), (7, false), (8, false), (9, false), (10, false), (11, false), (12, true)] .nil))) (.step .nil .nil (.step (.step .nil .nil (.join 2 [] .nil (.draw [(0, false), (1, false), (3, false), (4, false), (2, false), (5, false), (6, false), (7, false), (8, false), (9, false), (10, false), (11, false), (12, true)] .nil))) .nil .nil)) .nil) .nil)))) .nil .nil)))) .nil .nil)))))))))) [(Value.int .u8 most1), (Value.slice l2p l2n l2c)] w3 R = F8 most1 l2p l2n l2c w3 R := by kernel_rfl
theorem F8_of {most1 : Int} {l2p : Option Addr} {l2n : Nat} {l2c : Nat} {w3 : World} {R : Value → World → Prop} (h : F8 most1 l2p l2n l2c w3 R) : CallR Try.prog 8 #[(Value.int .u8 most1), (Value.slice l2p l2n l2c)] w3 R := callR_of_lift _ ((F8_eq most1 l2p l2n l2c w3 R).mpr h)

-- F9 subway/subwaylaw17.PumpBreak
def F9 (most1 : Int) (l2p : Option Addr) (l2n : Nat) (l2c : Nat) (more3p : Option Addr) (more3n : Nat) (more3c : Nat) (w4 : World) (R : Value → World → Prop) : Prop :=
  CallR Try.prog 10 #[] w4 fun v5 w6 =>
  AsB v5 fun x7 =>
  CallR Try.prog 11 #[(Value.int .i64 (IntKind.wrap .i64 most1))] w6 fun v8 w9 =>
  AsP v8 fun x10 =>
  Bif (isNone' x10) (
  Bif (!(isNone' x10)) (
  R (Value.bool x7) w9) (
  R (Value.bool false) w9)) (
  CallR Try.prog 12 #[(Value.slice l2p l2n l2c)] w9 fun v11 w12 =>
  AsB v11 fun x13 =>
  Bif x13 (
  Bif (!(isNone' x10)) (
  R (Value.bool x7) w12) (
  R (Value.bool false) w12)) (
  CallR Try.prog 12 #[(Value.slice more3p more3n more3c)] w12 fun v14 w15 =>
  AsB v14 fun x16 =>
  Bif x16 (
  Bif (!(isNone' x10)) (
  R (Value.bool x7) w15) (
  R (Value.bool false) w15)) (
  Lp fun I17 mu18 =>
  I17 [(Value.int .i64 0)] w15 ∧
  ∀ (i19 : Int), ∀ w20, I17 [(Value.int .i64 i19)] w20 →
  Bif (decide (i19 < (l2n : Int))) (
  IxP l2p l2n i19 4 fun a21 =>
  LdI .i64 (Addr.add a21 0) w20 fun x22 =>
  Bif (x22 == 2) (
  ∃ (C23 : Cls), Cls.p C23 [] w20 ∧
  IxP l2p l2n i19 4 fun a24 =>
  IxP l2p l2n i19 4 fun a25 =>
  ∃ (x26 : Int), Qt C23 (Value.int .i64 x26) (fun w27 K28 =>
  LdI .i64 (Addr.add a24 1) w27 fun x29 =>
  K28 (Value.int .i64 x29) w27) ∧
  ∃ (x30 : Int), Qt C23 (Value.int .i64 x30) (fun w31 K32 =>
  LdI .i64 (Addr.add a25 3) w31 fun x33 =>
  K32 (Value.int .i64 x33) w31) ∧
  ∃ (D36 : Value → Cls), (∀ G37 w38, Cls.p C23 G37 w38 →
  CallR Try.prog 13 #[(Value.pointer x10), (Value.int .i64 x26), (Value.int .i64 x30)] w38 fun v39 w40 =>
  ∃ (x41p : Option Addr) (x41n : Nat) (x41c : Nat), ∃ (x42 : Bool), v39 = (Value.tuple #[(Value.slice x41p x41n x41c), (Value.bool x42)]) ∧
  isR [.b .slice, .b .bool] (Value.tuple #[(Value.slice x41p x41n x41c), (Value.bool x42)]) ∧ Cls.p (D36 (Value.tuple #[(Value.slice x41p x41n x41c), (Value.bool x42)])) G37 w40) ∧
  ∀ (x34p : Option Addr) (x34n : Nat) (x34c : Nat), ∀ (x35 : Bool), (True) ∧
  ∀ G43 w44, Cls.p (D36 (Value.tuple #[(Value.slice x34p x34n x34c), (Value.bool x35)])) G43 w44 →
  I17 [(Value.int .i64 (IntKind.wrap .i64 (i19 + 1)))] w44 ∧ mu18 [(Value.int .i64 (IntKind.wrap .i64 (i19 + 1)))] w44 < mu18 [(Value.int .i64 i19)] w20) (
  ∃ (C45 : Cls), Cls.p C45 [] w20 ∧
  IxP l2p l2n i19 4 fun a46 =>
  IxP l2p l2n i19 4 fun a47 =>
  ∃ (x48 : Int), Qt C45 (Value.int .i64 x48) (fun w49 K50 =>
  LdI .i64 (Addr.add a46 1) w49 fun x51 =>
  K50 (Value.int .i64 x51) w49) ∧
  ∃ (x52p : Option Addr) (x52n : Nat) (x52c : Nat), Qt C45 (Value.slice x52p x52n x52c) (fun w53 K54 =>
  LdL (Addr.add a47 2) w53 fun x55p x55n x55c =>
  K54 (Value.slice x55p x55n x55c) w53) ∧
  ∃ (D57 : Value → Cls), (∀ G58 w59, Cls.p C45 G58 w59 →
  CallR Try.prog 15 #[(Value.pointer x10), (Value.int .i64 x48), (Value.slice x52p x52n x52c)] w59 fun v60 w61 =>
  AsI .i64 v60 fun x62 =>
  isR [.b (.int .i64)] (Value.int .i64 x62) ∧ Cls.p (D57 (Value.int .i64 x62)) G58 w61) ∧
  ∀ (x56 : Int), (True) ∧
  ∀ G63 w64, Cls.p (D57 (Value.int .i64 x56)) G63 w64 →
  I17 [(Value.int .i64 (IntKind.wrap .i64 (i19 + 1)))] w64 ∧ mu18 [(Value.int .i64 (IntKind.wrap .i64 (i19 + 1)))] w64 < mu18 [(Value.int .i64 i19)] w20)) (
  CallR Try.prog 17 #[(Value.pointer x10), (Value.int .i64 0)] w20 fun v65 w66 =>
  AsI .i64 v65 fun x67 =>
  CallR Try.prog 17 #[(Value.pointer x10), (Value.int .i64 1)] w66 fun v68 w69 =>
  AsI .i64 v68 fun x70 =>
  CallR Try.prog 22 #[(Value.pointer x10)] w69 fun v71 w72 =>
  v71 = (Value.tuple #[]) ∧
  Lp fun I73 mu74 =>
  I73 [(Value.int .i64 0)] w72 ∧
  ∀ (i75 : Int), ∀ w76, I73 [(Value.int .i64 i75)] w76 →
  Bif (decide (i75 < (more3n : Int))) (
  IxP more3p more3n i75 4 fun a77 =>
  LdI .i64 (Addr.add a77 0) w76 fun x78 =>
  LdI .i64 (Addr.add a77 1) w76 fun x79 =>
  LdL (Addr.add a77 2) w76 fun x80p x80n x80c =>
  LdI .i64 (Addr.add a77 3) w76 fun x81 =>
  NewC #[(Value.int .i64 0), (Value.int .i64 0), (Value.slice none 0 0), (Value.int .i64 0)] 30 w76 fun b82 w83 =>
  St1 (Addr.add ⟨b82, 0, none⟩ 0) (Value.int .i64 x78) w83 fun w84 =>
  St1 (Addr.add ⟨b82, 0, none⟩ 1) (Value.int .i64 x79) w84 fun w85 =>
  St1 (Addr.add ⟨b82, 0, none⟩ 2) (Value.slice x80p x80n x80c) w85 fun w86 =>
  St1 (Addr.add ⟨b82, 0, none⟩ 3) (Value.int .i64 x81) w86 fun w87 =>
  LdI .i64 (Addr.add ⟨b82, 0, none⟩ 1) w87 fun x88 =>
  LdI .i64 (Addr.add ⟨b82, 0, none⟩ 3) w87 fun x89 =>
  CallR Try.prog 13 #[(Value.pointer x10), (Value.int .i64 x88), (Value.int .i64 x89)] w87 fun v90 w91 =>
  ∃ (x92p : Option Addr) (x92n : Nat) (x92c : Nat), ∃ (x93 : Bool), v90 = (Value.tuple #[(Value.slice x92p x92n x92c), (Value.bool x93)]) ∧
  LdI .i64 (Addr.add ⟨b82, 0, none⟩ 1) w91 fun x94 =>
  LdL (Addr.add ⟨b82, 0, none⟩ 2) w91 fun x95p x95n x95c =>
  CallR Try.prog 15 #[(Value.pointer x10), (Value.int .i64 x94), (Value.slice x95p x95n x95c)] w91 fun v96 w97 =>
  AsI .i64 v96 fun x98 =>
  Bif (x98 != 0) (
  R (Value.bool false) w97) (
  Bif (decide ((x92n : Int) > 0)) (
  R (Value.bool false) w97) (
  Bif x93 (
  R (Value.bool false) w97) (
  LdI .i64 (Addr.add ⟨b82, 0, none⟩ 1) w97 fun x99 =>
  CallR Try.prog 14 #[(Value.pointer x10), (Value.int .i64 x99)] w97 fun v100 w101 =>
  AsB v100 fun x102 =>
  Bif x102 (
  R (Value.bool false) w101) (
  LdI .i64 (Addr.add ⟨b82, 0, none⟩ 1) w101 fun x103 =>
  CallR Try.prog 16 #[(Value.pointer x10), (Value.int .i64 x103)] w101 fun v104 w105 =>
  AsI .i64 v104 fun x106 =>
  Bif (x106 != 0) (
  R (Value.bool false) w105) (
  LdI .i64 (Addr.add ⟨b82, 0, none⟩ 1) w105 fun x107 =>
  CallR Try.prog 18 #[(Value.pointer x10), (Value.int .i64 x107)] w105 fun v108 w109 =>
  AsI .i64 v108 fun x110 =>
  Bif (x110 != 0) (
  R (Value.bool false) w109) (
  I73 [(Value.int .i64 (IntKind.wrap .i64 (i75 + 1)))] w109 ∧ mu74 [(Value.int .i64 (IntKind.wrap .i64 (i75 + 1)))] w109 < mu74 [(Value.int .i64 i75)] w76))))))) (
  Bif x7 (
  CallR Try.prog 28 #[(Value.pointer x10)] w76 fun v111 w112 =>
  AsB v111 fun x113 =>
  Bif x113 (
  CallR Try.prog 17 #[(Value.pointer x10), (Value.int .i64 0)] w112 fun v114 w115 =>
  AsI .i64 v114 fun x116 =>
  Bif (x116 == x67) (
  CallR Try.prog 17 #[(Value.pointer x10), (Value.int .i64 1)] w115 fun v117 w118 =>
  AsI .i64 v117 fun x119 =>
  Bif (x119 == x70) (
  CallR Try.prog 16 #[(Value.pointer x10), (Value.int .i64 0)] w118 fun v120 w121 =>
  AsI .i64 v120 fun x122 =>
  Bif (x122 == 0) (
  CallR Try.prog 16 #[(Value.pointer x10), (Value.int .i64 1)] w121 fun v123 w124 =>
  AsI .i64 v123 fun x125 =>
  R (Value.bool (x125 == 0)) w124) (
  R (Value.bool false) w121)) (
  R (Value.bool false) w118)) (
  R (Value.bool false) w115)) (
  R (Value.bool false) w112)) (
  R (Value.bool false) w76))))))
theorem F9_eq (most1 : Int) (l2p : Option Addr) (l2n : Nat) (l2c : Nat) (more3p : Option Addr) (more3n : Nat) (more3c : Nat) (w4 : World) (R : Value → World → Prop) : liftF Try.prog 9 (.step .nil .nil (.step .nil .nil (.step .nil .nil (.step .nil .nil (.step .nil .nil (.step .nil .nil (.step (.loop [(9, .b (.int .i64))] (.step .nil .nil (.step .nil .nil (.step (.step .nil .nil (.step (.draw [(0, false), (1, false), (2, false), (3, false), (4, false), (6, false), (7, false), (8, false), (9, false), (5, false), (10, false), (11, true)] .nil) (.draw [(0, false), (1, false), (2, false), (3, false), (4, false), (6, false), (7, false), (8, false), (9, false), (5, false), (10, false), (11, true)] .nil) .nil)) .nil .nil)))) .nil (.step .nil .nil (.step .nil .nil (.step .nil .nil (.step .nil .nil (.step (.loop [(12, .b (.int .i64))] .nil) .nil .nil)))))))))))) [(Value.int .u8 most1), (Value.slice l2p l2n l2c), (Value.slice more3p more3n more3c)] w4 R = F9 most1 l2p l2n l2c more3p more3n more3c w4 R := by kernel_rfl
theorem F9_of {most1 : Int} {l2p : Option Addr} {l2n : Nat} {l2c : Nat} {more3p : Option Addr} {more3n : Nat} {more3c : Nat} {w4 : World} {R : Value → World → Prop} (h : F9 most1 l2p l2n l2c more3p more3n more3c w4 R) : CallR Try.prog 9 #[(Value.int .u8 most1), (Value.slice l2p l2n l2c), (Value.slice more3p more3n more3c)] w4 R := callR_of_lift _ ((F9_eq most1 l2p l2n l2c more3p more3n more3c w4 R).mpr h)

-- F10 subway/subwaylaw17.head
def F10  (w1 : World) (R : Value → World → Prop) : Prop :=
  CallR Try.prog 11 #[(Value.int .i64 3)] w1 fun v2 w3 =>
  AsP v2 fun x4 =>
  Bif (isNone' x4) (
  R (Value.bool false) w3) (
  NewC #[(Value.int .u8 97), (Value.int .u8 98), (Value.int .u8 99), (Value.int .u8 100)] 5 w3 fun b5 w6 =>
  Run Try.prog (convert 28 28 (Value.slice (some ⟨b5, 0, none⟩) 4 4)) w6 fun v7 w8 =>
  AsL v7 fun x9p x9n x9c =>
  CallR Try.prog 15 #[(Value.pointer x4), (Value.int .i64 0), (Value.slice x9p x9n x9c)] w8 fun v10 w11 =>
  AsI .i64 v10 fun x12 =>
  CallR Try.prog 14 #[(Value.pointer x4), (Value.int .i64 0)] w11 fun v13 w14 =>
  AsB v13 fun x15 =>
  NewC #[(Value.int .u8 120)] 5 w14 fun b16 w17 =>
  Run Try.prog (convert 28 28 (Value.slice (some ⟨b16, 0, none⟩) 1 1)) w17 fun v18 w19 =>
  AsL v18 fun x20p x20n x20c =>
  CallR Try.prog 15 #[(Value.pointer x4), (Value.int .i64 0), (Value.slice x20p x20n x20c)] w19 fun v21 w22 =>
  AsI .i64 v21 fun x23 =>
  CallR Try.prog 13 #[(Value.pointer x4), (Value.int .i64 1), (Value.int .i64 2)] w22 fun v24 w25 =>
  ∃ (x26p : Option Addr) (x26n : Nat) (x26c : Nat), ∃ (x27 : Bool), v24 = (Value.tuple #[(Value.slice x26p x26n x26c), (Value.bool x27)]) ∧
  CallR Try.prog 13 #[(Value.pointer x4), (Value.int .i64 1), (Value.int .i64 9)] w25 fun v28 w29 =>
  ∃ (x30p : Option Addr) (x30n : Nat) (x30c : Nat), ∃ (x31 : Bool), v28 = (Value.tuple #[(Value.slice x30p x30n x30c), (Value.bool x31)]) ∧
  CallR Try.prog 13 #[(Value.pointer x4), (Value.int .i64 1), (Value.int .i64 9)] w29 fun v32 w33 =>
  ∃ (x34p : Option Addr) (x34n : Nat) (x34c : Nat), ∃ (x35 : Bool), v32 = (Value.tuple #[(Value.slice x34p x34n x34c), (Value.bool x35)]) ∧
  NewC #[(Value.int .u8 113)] 5 w33 fun b36 w37 =>
  Run Try.prog (convert 28 28 (Value.slice (some ⟨b36, 0, none⟩) 1 1)) w37 fun v38 w39 =>
  AsL v38 fun x40p x40n x40c =>
  CallR Try.prog 15 #[(Value.pointer x4), (Value.int .i64 1), (Value.slice x40p x40n x40c)] w39 fun v41 w42 =>
  AsI .i64 v41 fun x43 =>
  CallR Try.prog 13 #[(Value.pointer x4), (Value.int .i64 0), (Value.int .i64 1)] w42 fun v44 w45 =>
  ∃ (x46p : Option Addr) (x46n : Nat) (x46c : Nat), ∃ (x47 : Bool), v44 = (Value.tuple #[(Value.slice x46p x46n x46c), (Value.bool x47)]) ∧
  Bif (x12 == 3) (
  Bif x15 (
  Bif (x23 == 0) (
  Run Try.prog (convert 28 9 (Value.slice x26p x26n x26c)) w45 fun v48 w49 =>
  AsS v48 fun x50 =>
  Bif (ByteArray.toList x50 == ByteArray.toList ⟨#[97, 98]⟩) (
  Bif (!x27) (
  Run Try.prog (convert 28 9 (Value.slice x30p x30n x30c)) w49 fun v51 w52 =>
  AsS v51 fun x53 =>
  Bif (ByteArray.toList x53 == ByteArray.toList ⟨#[99]⟩) (
  Bif x31 (
  Bif ((x34n : Int) == 0) (
  Bif (!x35) (
  Bif (x43 == 1) (
  Run Try.prog (convert 28 9 (Value.slice x46p x46n x46c)) w52 fun v54 w55 =>
  AsS v54 fun x56 =>
  Bif (ByteArray.toList x56 == ByteArray.toList ⟨#[113]⟩) (
  Bif (!x47) (
  CallR Try.prog 28 #[(Value.pointer x4)] w55 fun v57 w58 =>
  AsB v57 fun x59 =>
  Bif (!x59) (
  CallR Try.prog 17 #[(Value.pointer x4), (Value.int .i64 1)] w58 fun v60 w61 =>
  AsI .i64 v60 fun x62 =>
  Bif (x62 == 3) (
  CallR Try.prog 16 #[(Value.pointer x4), (Value.int .i64 0)] w61 fun v63 w64 =>
  AsI .i64 v63 fun x65 =>
  Bif (x65 == 0) (
  CallR Try.prog 18 #[(Value.pointer x4), (Value.int .i64 1)] w64 fun v66 w67 =>
  AsI .i64 v66 fun x68 =>
  Bif (x68 == 3) (
  CallR Try.prog 18 #[(Value.pointer x4), (Value.int .i64 0)] w67 fun v69 w70 =>
  AsI .i64 v69 fun x71 =>
  R (Value.bool (x71 == 0)) w70) (
  R (Value.bool false) w67)) (
  R (Value.bool false) w64)) (
  R (Value.bool false) w61)) (
  R (Value.bool false) w58)) (
  R (Value.bool false) w55)) (
  R (Value.bool false) w55)) (
  R (Value.bool false) w52)) (
  R (Value.bool false) w52)) (
  R (Value.bool false) w52)) (
  R (Value.bool false) w52)) (
  R (Value.bool false) w52)) (
  R (Value.bool false) w49)) (
  R (Value.bool false) w49)) (
  R (Value.bool false) w45)) (
  R (Value.bool false) w45)) (
  R (Value.bool false) w45))
theorem F10_eq  (w1 : World) (R : Value → World → Prop) : liftF Try.prog 10 .nil [] w1 R = F10  w1 R := by kernel_rfl
theorem F10_of  {w1 : World} {R : Value → World → Prop} (h : F10  w1 R) : CallR Try.prog 10 #[] w1 R := callR_of_lift _ ((F10_eq  w1 R).mpr h)

-- F11 subway/pump.New
def F11 (most1 : Int) (w2 : World) (R : Value → World → Prop) : Prop :=
  NewC #[(Value.pointer none), (Value.bool false), (Value.bool false), (Value.int .i64 0), (Value.pointer none), (Value.bool false), (Value.bool false), (Value.int .i64 0), (Value.int .i64 most1), (Value.bool false)] 50 w2 fun b3 w4 =>
  Lp fun I5 mu6 =>
  I5 [(Value.int .i64 0)] w4 ∧
  ∀ (x7 : Int), ∀ w8, I5 [(Value.int .i64 x7)] w8 →
  Bif (decide (x7 < 2)) (
  ∃ (C9 : Cls), Cls.p C9 [] w8 ∧
  ∃ (D11 : Value → Cls), (∀ G12 w13, Cls.p C9 G12 w13 →
  CallR Try.prog 30 #[(Value.int .i64 most1)] w13 fun v14 w15 =>
  AsP v14 fun x16 =>
  isR [.b .ptr] (Value.pointer x16) ∧ Cls.p (D11 (Value.pointer x16)) G12 w15) ∧
  ∀ (x10 : Option Addr), (True) ∧
  IxP (some (Addr.add ⟨b3, 0, none⟩ 0)) 2 x7 4 fun a17 =>
  ∃ (D18 : Value → Cls), (∀ G19 w20, Cls.p (D11 (Value.pointer x10)) G19 w20 →
  St1 (Addr.add a17 0) (Value.pointer x10) w20 fun w21 =>
  isR [] (Value.tuple #[]) ∧ Cls.p (D18 (Value.tuple #[])) G19 w21) ∧
  (True) ∧
  ∀ G22 w23, Cls.p (D18 (Value.tuple #[])) G22 w23 →
  I5 [(Value.int .i64 (IntKind.wrap .i64 (x7 + 1)))] w23 ∧ mu6 [(Value.int .i64 (IntKind.wrap .i64 (x7 + 1)))] w23 < mu6 [(Value.int .i64 x7)] w8) (
  R (Value.pointer (some ⟨b3, 0, none⟩)) w8)
theorem F11_eq (most1 : Int) (w2 : World) (R : Value → World → Prop) : liftF Try.prog 11 (.step .nil .nil (.step .nil .nil (.step .nil .nil (.step (.loop [(8, .b (.int .i64))] (.step .nil .nil (.step .nil .nil (.step (.step .nil .nil (.draw [(0, false), (1, false), (2, false), (4, false), (5, false), (3, true), (6, false), (7, false), (8, true)] .nil)) .nil .nil)))) .nil .nil)))) [(Value.int .i64 most1)] w2 R = F11 most1 w2 R := by kernel_rfl
theorem F11_of {most1 : Int} {w2 : World} {R : Value → World → Prop} (h : F11 most1 w2 R) : CallR Try.prog 11 #[(Value.int .i64 most1)] w2 R := callR_of_lift _ ((F11_eq most1 w2 R).mpr h)

-- F12 subway/subwaylaw17.Great
def F12 (l1p : Option Addr) (l1n : Nat) (l1c : Nat) (w2 : World) (R : Value → World → Prop) : Prop :=
  Jn fun J3 => (
  Lp fun I4 mu5 =>
  I4 [(Value.int .i64 (l1n : Int)), (Value.int .i64 0)] w2 ∧
  ∀ (n6 : Int), ∀ (i7 : Int), ∀ w8, I4 [(Value.int .i64 n6), (Value.int .i64 i7)] w8 →
  Bif (decide (i7 < (l1n : Int))) (
  Bif (decide (n6 < 30000)) (
  IxP l1p l1n i7 4 fun a9 =>
  LdL (Addr.add a9 2) w8 fun x10p x10n x10c =>
  I4 [(Value.int .i64 (IntKind.wrap .i64 (n6 + (if 30000 < (x10n : Int) then 30000 else (x10n : Int))))), (Value.int .i64 (IntKind.wrap .i64 (i7 + 1)))] w8 ∧ mu5 [(Value.int .i64 (IntKind.wrap .i64 (n6 + (if 30000 < (x10n : Int) then 30000 else (x10n : Int))))), (Value.int .i64 (IntKind.wrap .i64 (i7 + 1)))] w8 < mu5 [(Value.int .i64 n6), (Value.int .i64 i7)] w8) (
  J3 [(Value.int .i64 n6)] w8)) (
  J3 [(Value.int .i64 n6)] w8)) ∧
  ∀ (n11 : Int), ∀ w12, J3 [(Value.int .i64 n11)] w12 →
  Bif (decide (n11 ≥ 30000)) (
  R (Value.bool true) w12) (
  R (Value.bool (decide ((l1n : Int) > 400))) w12)
theorem F12_eq (l1p : Option Addr) (l1n : Nat) (l1c : Nat) (w2 : World) (R : Value → World → Prop) : liftF Try.prog 12 (.step .nil .nil (.step .nil .nil (.step .nil .nil (.join 1 [(3, .b (.int .i64))] (.step (.loop [(3, .b (.int .i64)), (4, .b (.int .i64))] .nil) .nil .nil) .nil)))) [(Value.slice l1p l1n l1c)] w2 R = F12 l1p l1n l1c w2 R := by kernel_rfl
theorem F12_of {l1p : Option Addr} {l1n : Nat} {l1c : Nat} {w2 : World} {R : Value → World → Prop} (h : F12 l1p l1n l1c w2 R) : CallR Try.prog 12 #[(Value.slice l1p l1n l1c)] w2 R := callR_of_lift _ ((F12_eq l1p l1n l1c w2 R).mpr h)

-- F13 (*subway/pump.Pump).Out
def F13 (p1 : Option Addr) (n2 : Int) (many3 : Int) (w4 : World) (R : Value → World → Prop) : Prop :=
  CallR Try.prog 31 #[(Value.int .i64 n2)] w4 fun v5 w6 =>
  AsB v5 fun x7 =>
  Bif (!x7) (
  R (Value.tuple #[(Value.slice none 0 0), (Value.bool false)]) w6) (
  NilP p1 fun a8 =>
  LdB (Addr.add a8 9) w6 fun x9 =>
  Bif x9 (
  R (Value.tuple #[(Value.slice none 0 0), (Value.bool false)]) w6) (
  NilP p1 fun a10 =>
  IxP (some (Addr.add a10 0)) 2 (IntKind.wrap .i64 (1 - n2)) 4 fun a11 =>
  CallR Try.prog 32 #[(Value.pointer (some a11)), (Value.int .i64 many3)] w6 fun v12 w13 =>
  ∃ (x14p : Option Addr) (x14n : Nat) (x14c : Nat), ∃ (x15 : Bool), v12 = (Value.tuple #[(Value.slice x14p x14n x14c), (Value.bool x15)]) ∧
  R (Value.tuple #[(Value.slice x14p x14n x14c), (Value.bool x15)]) w13))
theorem F13_eq (p1 : Option Addr) (n2 : Int) (many3 : Int) (w4 : World) (R : Value → World → Prop) : liftF Try.prog 13 .nil [(Value.pointer p1), (Value.int .i64 n2), (Value.int .i64 many3)] w4 R = F13 p1 n2 many3 w4 R := by kernel_rfl
theorem F13_of {p1 : Option Addr} {n2 : Int} {many3 : Int} {w4 : World} {R : Value → World → Prop} (h : F13 p1 n2 many3 w4 R) : CallR Try.prog 13 #[(Value.pointer p1), (Value.int .i64 n2), (Value.int .i64 many3)] w4 R := callR_of_lift _ ((F13_eq p1 n2 many3 w4 R).mpr h)

-- F14 (*subway/pump.Pump).End
def F14 (p1 : Option Addr) (n2 : Int) (w3 : World) (R : Value → World → Prop) : Prop :=
  CallR Try.prog 33 #[(Value.pointer p1), (Value.int .i64 n2)] w3 fun v4 w5 =>
  AsP v4 fun x6 =>
  Bif (!(isNone' x6)) (
  NilP x6 fun a7 =>
  St1 (Addr.add a7 1) (Value.bool true) w5 fun w8 =>
  R (Value.bool (!(isNone' x6))) w8) (
  R (Value.bool (!(isNone' x6))) w5)
theorem F14_eq (p1 : Option Addr) (n2 : Int) (w3 : World) (R : Value → World → Prop) : liftF Try.prog 14 .nil [(Value.pointer p1), (Value.int .i64 n2)] w3 R = F14 p1 n2 w3 R := by kernel_rfl
theorem F14_of {p1 : Option Addr} {n2 : Int} {w3 : World} {R : Value → World → Prop} (h : F14 p1 n2 w3 R) : CallR Try.prog 14 #[(Value.pointer p1), (Value.int .i64 n2)] w3 R := callR_of_lift _ ((F14_eq p1 n2 w3 R).mpr h)

-- F15 (*subway/pump.Pump).In
def F15 (p1 : Option Addr) (n2 : Int) (b3p : Option Addr) (b3n : Nat) (b3c : Nat) (w4 : World) (R : Value → World → Prop) : Prop :=
  CallR Try.prog 33 #[(Value.pointer p1), (Value.int .i64 n2)] w4 fun v5 w6 =>
  AsP v5 fun x7 =>
  Bif (!(isNone' x7)) (
  NilP x7 fun a8 =>
  LdP (Addr.add a8 0) w6 fun x9 =>
  CallR Try.prog 34 #[(Value.pointer x9), (Value.slice b3p b3n b3c)] w6 fun v10 w11 =>
  AsI .i64 v10 fun x12 =>
  R (Value.int .i64 x12) w11) (
  R (Value.int .i64 0) w6)
theorem F15_eq (p1 : Option Addr) (n2 : Int) (b3p : Option Addr) (b3n : Nat) (b3c : Nat) (w4 : World) (R : Value → World → Prop) : liftF Try.prog 15 .nil [(Value.pointer p1), (Value.int .i64 n2), (Value.slice b3p b3n b3c)] w4 R = F15 p1 n2 b3p b3n b3c w4 R := by kernel_rfl
theorem F15_of {p1 : Option Addr} {n2 : Int} {b3p : Option Addr} {b3n : Nat} {b3c : Nat} {w4 : World} {R : Value → World → Prop} (h : F15 p1 n2 b3p b3n b3c w4 R) : CallR Try.prog 15 #[(Value.pointer p1), (Value.int .i64 n2), (Value.slice b3p b3n b3c)] w4 R := callR_of_lift _ ((F15_eq p1 n2 b3p b3n b3c w4 R).mpr h)

-- F16 (*subway/pump.Pump).Waits
def F16 (p1 : Option Addr) (n2 : Int) (w3 : World) (R : Value → World → Prop) : Prop :=
  CallR Try.prog 31 #[(Value.int .i64 n2)] w3 fun v4 w5 =>
  AsB v4 fun x6 =>
  Bif (!x6) (
  R (Value.int .i64 0) w5) (
  NilP p1 fun a7 =>
  IxP (some (Addr.add a7 0)) 2 (IntKind.wrap .i64 (1 - n2)) 4 fun a8 =>
  LdP (Addr.add a8 0) w5 fun x9 =>
  CallR Try.prog 35 #[(Value.pointer x9)] w5 fun v10 w11 =>
  AsI .i64 v10 fun x12 =>
  R (Value.int .i64 x12) w11)
theorem F16_eq (p1 : Option Addr) (n2 : Int) (w3 : World) (R : Value → World → Prop) : liftF Try.prog 16 .nil [(Value.pointer p1), (Value.int .i64 n2)] w3 R = F16 p1 n2 w3 R := by kernel_rfl
theorem F16_of {p1 : Option Addr} {n2 : Int} {w3 : World} {R : Value → World → Prop} (h : F16 p1 n2 w3 R) : CallR Try.prog 16 #[(Value.pointer p1), (Value.int .i64 n2)] w3 R := callR_of_lift _ ((F16_eq p1 n2 w3 R).mpr h)

-- F17 (*subway/pump.Pump).Moved
def F17 (p1 : Option Addr) (n2 : Int) (w3 : World) (R : Value → World → Prop) : Prop :=
  CallR Try.prog 31 #[(Value.int .i64 n2)] w3 fun v4 w5 =>
  AsB v4 fun x6 =>
  Bif (!x6) (
  R (Value.int .i64 0) w5) (
  NilP p1 fun a7 =>
  IxP (some (Addr.add a7 0)) 2 (IntKind.wrap .i64 (1 - n2)) 4 fun a8 =>
  LdI .i64 (Addr.add a8 3) w5 fun x9 =>
  R (Value.int .i64 x9) w5)
theorem F17_eq (p1 : Option Addr) (n2 : Int) (w3 : World) (R : Value → World → Prop) : liftF Try.prog 17 .nil [(Value.pointer p1), (Value.int .i64 n2)] w3 R = F17 p1 n2 w3 R := by kernel_rfl
theorem F17_of {p1 : Option Addr} {n2 : Int} {w3 : World} {R : Value → World → Prop} (h : F17 p1 n2 w3 R) : CallR Try.prog 17 #[(Value.pointer p1), (Value.int .i64 n2)] w3 R := callR_of_lift _ ((F17_eq p1 n2 w3 R).mpr h)

-- F18 (*subway/pump.Pump).Room
def F18 (p1 : Option Addr) (n2 : Int) (w3 : World) (R : Value → World → Prop) : Prop :=
  CallR Try.prog 33 #[(Value.pointer p1), (Value.int .i64 n2)] w3 fun v4 w5 =>
  AsP v4 fun x6 =>
  Bif (!(isNone' x6)) (
  NilP x6 fun a7 =>
  LdP (Addr.add a7 0) w5 fun x8 =>
  CallR Try.prog 36 #[(Value.pointer x8)] w5 fun v9 w10 =>
  AsI .i64 v9 fun x11 =>
  R (Value.int .i64 x11) w10) (
  R (Value.int .i64 0) w5)
theorem F18_eq (p1 : Option Addr) (n2 : Int) (w3 : World) (R : Value → World → Prop) : liftF Try.prog 18 .nil [(Value.pointer p1), (Value.int .i64 n2)] w3 R = F18 p1 n2 w3 R := by kernel_rfl
theorem F18_of {p1 : Option Addr} {n2 : Int} {w3 : World} {R : Value → World → Prop} (h : F18 p1 n2 w3 R) : CallR Try.prog 18 #[(Value.pointer p1), (Value.int .i64 n2)] w3 R := callR_of_lift _ ((F18_eq p1 n2 w3 R).mpr h)

-- F19 subway/subwayref17.New
def F19 (most1 : Int) (w2 : World) (R : Value → World → Prop) : Prop :=
  NewC #[(Value.pointer none), (Value.bool false), (Value.bool false), (Value.int .i64 0), (Value.pointer none), (Value.bool false), (Value.bool false), (Value.int .i64 0), (Value.bool false)] 62 w2 fun b3 w4 =>
  ∃ (C5 : Cls), Cls.p C5 [] w4 ∧
  ∃ (D7 : Value → Cls), (∀ G8 w9, Cls.p C5 G8 w9 →
  CallR Try.prog 37 #[(Value.int .i64 most1)] w9 fun v10 w11 =>
  AsP v10 fun x12 =>
  isR [.b .ptr] (Value.pointer x12) ∧ Cls.p (D7 (Value.pointer x12)) G8 w11) ∧
  ∀ (x6 : Option Addr), (True) ∧
  IxP (some (Addr.add ⟨b3, 0, none⟩ 0)) 2 0 4 fun a13 =>
  ∃ (D14 : Value → Cls), (∀ G15 w16, Cls.p (D7 (Value.pointer x6)) G15 w16 →
  St1 (Addr.add a13 0) (Value.pointer x6) w16 fun w17 =>
  isR [] (Value.tuple #[]) ∧ Cls.p (D14 (Value.tuple #[])) G15 w17) ∧
  (True) ∧
  ∀ G18 w19, Cls.p (D14 (Value.tuple #[])) G18 w19 →
  ∃ (C20 : Cls), Cls.p C20 [] w19 ∧
  ∃ (D22 : Value → Cls), (∀ G23 w24, Cls.p C20 G23 w24 →
  CallR Try.prog 37 #[(Value.int .i64 most1)] w24 fun v25 w26 =>
  AsP v25 fun x27 =>
  isR [.b .ptr] (Value.pointer x27) ∧ Cls.p (D22 (Value.pointer x27)) G23 w26) ∧
  ∀ (x21 : Option Addr), (True) ∧
  IxP (some (Addr.add ⟨b3, 0, none⟩ 0)) 2 1 4 fun a28 =>
  ∃ (D29 : Value → Cls), (∀ G30 w31, Cls.p (D22 (Value.pointer x21)) G30 w31 →
  St1 (Addr.add a28 0) (Value.pointer x21) w31 fun w32 =>
  isR [] (Value.tuple #[]) ∧ Cls.p (D29 (Value.tuple #[])) G30 w32) ∧
  (True) ∧
  ∀ G33 w34, Cls.p (D29 (Value.tuple #[])) G33 w34 →
  R (Value.pointer (some ⟨b3, 0, none⟩)) w34
theorem F19_eq (most1 : Int) (w2 : World) (R : Value → World → Prop) : liftF Try.prog 19 (.step .nil .nil (.step .nil .nil (.draw [(0, false), (1, false), (3, false), (4, false), (2, true), (5, false), (6, false), (7, true)] (.draw [(0, false), (1, false), (3, false), (4, false), (2, true), (5, false), (6, false), (7, true)] .nil)))) [(Value.int .i64 most1)] w2 R = F19 most1 w2 R := by kernel_rfl
theorem F19_of {most1 : Int} {w2 : World} {R : Value → World → Prop} (h : F19 most1 w2 R) : CallR Try.prog 19 #[(Value.int .i64 most1)] w2 R := callR_of_lift _ ((F19_eq most1 w2 R).mpr h)

-- F20 (*subway/subwayref17.Pump).Out
def F20 (p1 : Option Addr) (n2 : Int) (many3 : Int) (w4 : World) (R : Value → World → Prop) : Prop :=
  CallR Try.prog 38 #[(Value.int .i64 n2)] w4 fun v5 w6 =>
  AsB v5 fun x7 =>
  Bif (!x7) (
  R (Value.tuple #[(Value.slice none 0 0), (Value.bool false)]) w6) (
  NilP p1 fun a8 =>
  LdB (Addr.add a8 8) w6 fun x9 =>
  Bif x9 (
  R (Value.tuple #[(Value.slice none 0 0), (Value.bool false)]) w6) (
  NilP p1 fun a10 =>
  IxP (some (Addr.add a10 0)) 2 (IntKind.wrap .i64 (1 - n2)) 4 fun a11 =>
  LdP (Addr.add a11 0) w6 fun x12 =>
  LdB (Addr.add a11 1) w6 fun x13 =>
  LdB (Addr.add a11 2) w6 fun x14 =>
  LdI .i64 (Addr.add a11 3) w6 fun x15 =>
  NewC #[(Value.pointer none), (Value.bool false), (Value.bool false), (Value.int .i64 0)] 59 w6 fun b16 w17 =>
  St1 (Addr.add ⟨b16, 0, none⟩ 0) (Value.pointer x12) w17 fun w18 =>
  St1 (Addr.add ⟨b16, 0, none⟩ 1) (Value.bool x13) w18 fun w19 =>
  St1 (Addr.add ⟨b16, 0, none⟩ 2) (Value.bool x14) w19 fun w20 =>
  St1 (Addr.add ⟨b16, 0, none⟩ 3) (Value.int .i64 x15) w20 fun w21 =>
  LdP (Addr.add ⟨b16, 0, none⟩ 0) w21 fun x22 =>
  CallR Try.prog 39 #[(Value.pointer x22), (Value.int .i64 many3)] w21 fun v23 w24 =>
  AsL v23 fun x25p x25n x25c =>
  LdI .i64 (Addr.add ⟨b16, 0, none⟩ 3) w24 fun x26 =>
  St1 (Addr.add ⟨b16, 0, none⟩ 3) (Value.int .i64 (IntKind.wrap .i64 (x26 + (x25n : Int)))) w24 fun w27 =>
  Jn fun J28 => (
  LdB (Addr.add ⟨b16, 0, none⟩ 1) w27 fun x29 =>
  Bif x29 (
  LdP (Addr.add ⟨b16, 0, none⟩ 0) w27 fun x30 =>
  NilP x30 fun a31 =>
  LdL (Addr.add a31 0) w27 fun x32p x32n x32c =>
  Bif ((x32n : Int) == 0) (
  LdB (Addr.add ⟨b16, 0, none⟩ 2) w27 fun x33 =>
  J28 [(Value.bool (!x33))] w27) (
  J28 [(Value.bool false)] w27)) (
  J28 [(Value.bool false)] w27)) ∧
  ∀ (endv34 : Bool), ∀ w35, J28 [(Value.bool endv34)] w35 →
  Jn fun J36 => (
  LdB (Addr.add ⟨b16, 0, none⟩ 2) w35 fun x37 =>
  Bif x37 (
  St1 (Addr.add ⟨b16, 0, none⟩ 2) (Value.bool true) w35 fun w38 =>
  J36 [] w38) (
  St1 (Addr.add ⟨b16, 0, none⟩ 2) (Value.bool endv34) w35 fun w39 =>
  J36 [] w39)) ∧
  ∀ w40, J36 [] w40 →
  ∃ (C41 : Cls), Cls.p C41 [] w40 ∧
  NilP p1 fun a42 =>
  ∃ (x43 : Option Addr) (x44 : Bool) (x45 : Bool) (x46 : Int), Qt C41 (Value.agg #[(Value.pointer x43), (Value.bool x44), (Value.bool x45), (Value.int .i64 x46)]) (fun w47 K48 =>
  LdP (Addr.add ⟨b16, 0, none⟩ 0) w47 fun x49 =>
  LdB (Addr.add ⟨b16, 0, none⟩ 1) w47 fun x50 =>
  LdB (Addr.add ⟨b16, 0, none⟩ 2) w47 fun x51 =>
  LdI .i64 (Addr.add ⟨b16, 0, none⟩ 3) w47 fun x52 =>
  K48 (Value.agg #[(Value.pointer x49), (Value.bool x50), (Value.bool x51), (Value.int .i64 x52)]) w47) ∧
  IxP (some (Addr.add a42 0)) 2 (IntKind.wrap .i64 (1 - n2)) 4 fun a53 =>
  ∃ (D54 : Value → Cls), (∀ G55 w56, Cls.p C41 G55 w56 →
  St1 (Addr.add a53 0) (Value.pointer x43) w56 fun w57 =>
  St1 (Addr.add a53 1) (Value.bool x44) w57 fun w58 =>
  St1 (Addr.add a53 2) (Value.bool x45) w58 fun w59 =>
  St1 (Addr.add a53 3) (Value.int .i64 x46) w59 fun w60 =>
  isR [] (Value.tuple #[]) ∧ Cls.p (D54 (Value.tuple #[])) G55 w60) ∧
  (True) ∧
  ∀ G61 w62, Cls.p (D54 (Value.tuple #[])) G61 w62 →
  R (Value.tuple #[(Value.slice x25p x25n x25c), (Value.bool endv34)]) w62))
theorem F20_eq (p1 : Option Addr) (n2 : Int) (many3 : Int) (w4 : World) (R : Value → World → Prop) : liftF Try.prog 20 (.step .nil .nil (.step .nil .nil (.step .nil .nil (.step .nil .nil (.step .nil .nil (.step .nil .nil (.join 1 [(10, .b .bool)] .nil (.join 1 [] .nil (.draw [(0, false), (1, false), (2, false), (4, false), (5, false), (3, false), (6, false), (7, true)] .nil))))))))) [(Value.pointer p1), (Value.int .i64 n2), (Value.int .i64 many3)] w4 R = F20 p1 n2 many3 w4 R := by kernel_rfl
theorem F20_of {p1 : Option Addr} {n2 : Int} {many3 : Int} {w4 : World} {R : Value → World → Prop} (h : F20 p1 n2 many3 w4 R) : CallR Try.prog 20 #[(Value.pointer p1), (Value.int .i64 n2), (Value.int .i64 many3)] w4 R := callR_of_lift _ ((F20_eq p1 n2 many3 w4 R).mpr h)

-- F21 (*subway/subwayref17.Pump).End
def F21 (p1 : Option Addr) (n2 : Int) (w3 : World) (R : Value → World → Prop) : Prop :=
  CallR Try.prog 38 #[(Value.int .i64 n2)] w3 fun v4 w5 =>
  AsB v4 fun x6 =>
  Bif (!x6) (
  R (Value.bool false) w5) (
  NilP p1 fun a7 =>
  LdB (Addr.add a7 8) w5 fun x8 =>
  Bif x8 (
  R (Value.bool false) w5) (
  NilP p1 fun a9 =>
  IxP (some (Addr.add a9 0)) 2 n2 4 fun a10 =>
  LdB (Addr.add a10 1) w5 fun x11 =>
  Bif x11 (
  R (Value.bool false) w5) (
  NilP p1 fun a12 =>
  IxP (some (Addr.add a12 0)) 2 n2 4 fun a13 =>
  St1 (Addr.add a13 1) (Value.bool true) w5 fun w14 =>
  R (Value.bool true) w14)))
theorem F21_eq (p1 : Option Addr) (n2 : Int) (w3 : World) (R : Value → World → Prop) : liftF Try.prog 21 .nil [(Value.pointer p1), (Value.int .i64 n2)] w3 R = F21 p1 n2 w3 R := by kernel_rfl
theorem F21_of {p1 : Option Addr} {n2 : Int} {w3 : World} {R : Value → World → Prop} (h : F21 p1 n2 w3 R) : CallR Try.prog 21 #[(Value.pointer p1), (Value.int .i64 n2)] w3 R := callR_of_lift _ ((F21_eq p1 n2 w3 R).mpr h)

-- F22 (*subway/pump.Pump).Break
def F22 (p1 : Option Addr) (w2 : World) (R : Value → World → Prop) : Prop :=
  NilP p1 fun a3 =>
  St1 (Addr.add a3 9) (Value.bool true) w2 fun w4 =>
  Lp fun I5 mu6 =>
  I5 [(Value.int .i64 0)] w4 ∧
  ∀ (x7 : Int), ∀ w8, I5 [(Value.int .i64 x7)] w8 →
  Bif (decide (x7 < 2)) (
  ∃ (C9 : Cls), Cls.p C9 [] w8 ∧
  NilP p1 fun a10 =>
  NilP p1 fun a11 =>
  ∃ (x12 : Int), Qt C9 (Value.int .i64 x12) (fun w13 K14 =>
  LdI .i64 (Addr.add a10 8) w13 fun x15 =>
  K14 (Value.int .i64 x15) w13) ∧
  ∃ (D17 : Value → Cls), (∀ G18 w19, Cls.p C9 G18 w19 →
  CallR Try.prog 30 #[(Value.int .i64 x12)] w19 fun v20 w21 =>
  AsP v20 fun x22 =>
  isR [.b .ptr] (Value.pointer x22) ∧ Cls.p (D17 (Value.pointer x22)) G18 w21) ∧
  ∀ (x16 : Option Addr), (True) ∧
  IxP (some (Addr.add a11 0)) 2 x7 4 fun a23 =>
  ∃ (D24 : Value → Cls), (∀ G25 w26, Cls.p (D17 (Value.pointer x16)) G25 w26 →
  St1 (Addr.add a23 0) (Value.pointer x16) w26 fun w27 =>
  isR [] (Value.tuple #[]) ∧ Cls.p (D24 (Value.tuple #[])) G25 w27) ∧
  (True) ∧
  ∀ G28 w29, Cls.p (D24 (Value.tuple #[])) G28 w29 →
  I5 [(Value.int .i64 (IntKind.wrap .i64 (x7 + 1)))] w29 ∧ mu6 [(Value.int .i64 (IntKind.wrap .i64 (x7 + 1)))] w29 < mu6 [(Value.int .i64 x7)] w8) (
  R (Value.tuple #[]) w8)
theorem F22_eq (p1 : Option Addr) (w2 : World) (R : Value → World → Prop) : liftF Try.prog 22 (.step .nil .nil (.step .nil .nil (.step (.loop [(6, .b (.int .i64))] (.step .nil .nil (.step .nil .nil (.step (.step .nil .nil (.draw [(0, false), (1, false), (2, false), (3, false), (4, false), (7, false), (8, false), (5, false), (6, true), (9, false), (10, false), (11, true)] .nil)) .nil .nil)))) .nil .nil))) [(Value.pointer p1)] w2 R = F22 p1 w2 R := by kernel_rfl
theorem F22_of {p1 : Option Addr} {w2 : World} {R : Value → World → Prop} (h : F22 p1 w2 R) : CallR Try.prog 22 #[(Value.pointer p1)] w2 R := callR_of_lift _ ((F22_eq p1 w2 R).mpr h)

-- F23 (*subway/subwayref17.Pump).Break
def F23 (p1 : Option Addr) (w2 : World) (R : Value → World → Prop) : Prop :=
  NilP p1 fun a3 =>
  St1 (Addr.add a3 8) (Value.bool true) w2 fun w4 =>
  NilP p1 fun a5 =>
  IxP (some (Addr.add a5 0)) 2 0 4 fun a6 =>
  LdP (Addr.add a6 0) w4 fun x7 =>
  NilP x7 fun a8 =>
  St1 (Addr.add a8 0) (Value.slice none 0 0) w4 fun w9 =>
  NilP p1 fun a10 =>
  IxP (some (Addr.add a10 0)) 2 1 4 fun a11 =>
  LdP (Addr.add a11 0) w9 fun x12 =>
  NilP x12 fun a13 =>
  St1 (Addr.add a13 0) (Value.slice none 0 0) w9 fun w14 =>
  R (Value.tuple #[]) w14
theorem F23_eq (p1 : Option Addr) (w2 : World) (R : Value → World → Prop) : liftF Try.prog 23 .nil [(Value.pointer p1)] w2 R = F23 p1 w2 R := by kernel_rfl
theorem F23_of {p1 : Option Addr} {w2 : World} {R : Value → World → Prop} (h : F23 p1 w2 R) : CallR Try.prog 23 #[(Value.pointer p1)] w2 R := callR_of_lift _ ((F23_eq p1 w2 R).mpr h)

-- F24 (*subway/subwayref17.Pump).In
def F24 (p1 : Option Addr) (n2 : Int) (b3p : Option Addr) (b3n : Nat) (b3c : Nat) (w4 : World) (R : Value → World → Prop) : Prop :=
  CallR Try.prog 38 #[(Value.int .i64 n2)] w4 fun v5 w6 =>
  AsB v5 fun x7 =>
  Bif (!x7) (
  R (Value.int .i64 0) w6) (
  NilP p1 fun a8 =>
  LdB (Addr.add a8 8) w6 fun x9 =>
  Bif x9 (
  R (Value.int .i64 0) w6) (
  NilP p1 fun a10 =>
  IxP (some (Addr.add a10 0)) 2 n2 4 fun a11 =>
  LdB (Addr.add a11 1) w6 fun x12 =>
  Bif x12 (
  R (Value.int .i64 0) w6) (
  NilP p1 fun a13 =>
  IxP (some (Addr.add a13 0)) 2 n2 4 fun a14 =>
  LdP (Addr.add a14 0) w6 fun x15 =>
  CallR Try.prog 40 #[(Value.pointer x15), (Value.slice b3p b3n b3c)] w6 fun v16 w17 =>
  AsI .i64 v16 fun x18 =>
  R (Value.int .i64 x18) w17)))
theorem F24_eq (p1 : Option Addr) (n2 : Int) (b3p : Option Addr) (b3n : Nat) (b3c : Nat) (w4 : World) (R : Value → World → Prop) : liftF Try.prog 24 .nil [(Value.pointer p1), (Value.int .i64 n2), (Value.slice b3p b3n b3c)] w4 R = F24 p1 n2 b3p b3n b3c w4 R := by kernel_rfl
theorem F24_of {p1 : Option Addr} {n2 : Int} {b3p : Option Addr} {b3n : Nat} {b3c : Nat} {w4 : World} {R : Value → World → Prop} (h : F24 p1 n2 b3p b3n b3c w4 R) : CallR Try.prog 24 #[(Value.pointer p1), (Value.int .i64 n2), (Value.slice b3p b3n b3c)] w4 R := callR_of_lift _ ((F24_eq p1 n2 b3p b3n b3c w4 R).mpr h)

-- F25 (*subway/subwayref17.Pump).Waits
def F25 (p1 : Option Addr) (n2 : Int) (w3 : World) (R : Value → World → Prop) : Prop :=
  CallR Try.prog 38 #[(Value.int .i64 n2)] w3 fun v4 w5 =>
  AsB v4 fun x6 =>
  Bif (!x6) (
  R (Value.int .i64 0) w5) (
  NilP p1 fun a7 =>
  IxP (some (Addr.add a7 0)) 2 (IntKind.wrap .i64 (1 - n2)) 4 fun a8 =>
  LdP (Addr.add a8 0) w5 fun x9 =>
  NilP x9 fun a10 =>
  LdL (Addr.add a10 0) w5 fun x11p x11n x11c =>
  R (Value.int .i64 (x11n : Int)) w5)
theorem F25_eq (p1 : Option Addr) (n2 : Int) (w3 : World) (R : Value → World → Prop) : liftF Try.prog 25 .nil [(Value.pointer p1), (Value.int .i64 n2)] w3 R = F25 p1 n2 w3 R := by kernel_rfl
theorem F25_of {p1 : Option Addr} {n2 : Int} {w3 : World} {R : Value → World → Prop} (h : F25 p1 n2 w3 R) : CallR Try.prog 25 #[(Value.pointer p1), (Value.int .i64 n2)] w3 R := callR_of_lift _ ((F25_eq p1 n2 w3 R).mpr h)

-- F26 (*subway/subwayref17.Pump).Room
def F26 (p1 : Option Addr) (n2 : Int) (w3 : World) (R : Value → World → Prop) : Prop :=
  CallR Try.prog 38 #[(Value.int .i64 n2)] w3 fun v4 w5 =>
  AsB v4 fun x6 =>
  Bif (!x6) (
  R (Value.int .i64 0) w5) (
  NilP p1 fun a7 =>
  LdB (Addr.add a7 8) w5 fun x8 =>
  Bif x8 (
  R (Value.int .i64 0) w5) (
  NilP p1 fun a9 =>
  IxP (some (Addr.add a9 0)) 2 n2 4 fun a10 =>
  LdB (Addr.add a10 1) w5 fun x11 =>
  Bif x11 (
  R (Value.int .i64 0) w5) (
  ∃ (C12 : Cls), Cls.p C12 [] w5 ∧
  NilP p1 fun a13 =>
  IxP (some (Addr.add a13 0)) 2 n2 4 fun a14 =>
  NilP p1 fun a15 =>
  IxP (some (Addr.add a15 0)) 2 n2 4 fun a16 =>
  ∃ (x17 : Option Addr), Qt C12 (Value.pointer x17) (fun w18 K19 =>
  LdP (Addr.add a14 0) w18 fun x20 =>
  K19 (Value.pointer x20) w18) ∧
  NilP x17 fun a21 =>
  ∃ (x22 : Int), Qt C12 (Value.int .i64 x22) (fun w23 K24 =>
  LdI .i64 (Addr.add a21 1) w23 fun x25 =>
  K24 (Value.int .i64 x25) w23) ∧
  ∃ (x26 : Option Addr), Qt C12 (Value.pointer x26) (fun w27 K28 =>
  LdP (Addr.add a16 0) w27 fun x29 =>
  K28 (Value.pointer x29) w27) ∧
  NilP x26 fun a30 =>
  ∃ (x31p : Option Addr) (x31n : Nat) (x31c : Nat), Qt C12 (Value.slice x31p x31n x31c) (fun w32 K33 =>
  LdL (Addr.add a30 0) w32 fun x34p x34n x34c =>
  K33 (Value.slice x34p x34n x34c) w32) ∧
  ∀ G35 w36, Cls.p C12 G35 w36 →
  R (Value.int .i64 (IntKind.wrap .i64 (x22 - (x31n : Int)))) w36)))
theorem F26_eq (p1 : Option Addr) (n2 : Int) (w3 : World) (R : Value → World → Prop) : liftF Try.prog 26 (.step .nil .nil (.step .nil .nil (.step .nil .nil (.draw [(0, false), (1, false), (2, false), (3, false), (4, false), (5, false), (10, false), (11, false), (12, false), (13, false), (14, false), (15, false), (6, false), (7, false), (8, false), (9, false), (16, false), (17, false), (18, false), (19, false), (20, false), (21, false), (22, false)] .nil)))) [(Value.pointer p1), (Value.int .i64 n2)] w3 R = F26 p1 n2 w3 R := by kernel_rfl
theorem F26_of {p1 : Option Addr} {n2 : Int} {w3 : World} {R : Value → World → Prop} (h : F26 p1 n2 w3 R) : CallR Try.prog 26 #[(Value.pointer p1), (Value.int .i64 n2)] w3 R := callR_of_lift _ ((F26_eq p1 n2 w3 R).mpr h)

-- F27 (*subway/subwayref17.Pump).Moved
def F27 (p1 : Option Addr) (n2 : Int) (w3 : World) (R : Value → World → Prop) : Prop :=
  CallR Try.prog 38 #[(Value.int .i64 n2)] w3 fun v4 w5 =>
  AsB v4 fun x6 =>
  Bif (!x6) (
  R (Value.int .i64 0) w5) (
  NilP p1 fun a7 =>
  IxP (some (Addr.add a7 0)) 2 (IntKind.wrap .i64 (1 - n2)) 4 fun a8 =>
  LdI .i64 (Addr.add a8 3) w5 fun x9 =>
  R (Value.int .i64 x9) w5)
theorem F27_eq (p1 : Option Addr) (n2 : Int) (w3 : World) (R : Value → World → Prop) : liftF Try.prog 27 .nil [(Value.pointer p1), (Value.int .i64 n2)] w3 R = F27 p1 n2 w3 R := by kernel_rfl
theorem F27_of {p1 : Option Addr} {n2 : Int} {w3 : World} {R : Value → World → Prop} (h : F27 p1 n2 w3 R) : CallR Try.prog 27 #[(Value.pointer p1), (Value.int .i64 n2)] w3 R := callR_of_lift _ ((F27_eq p1 n2 w3 R).mpr h)

-- F28 (*subway/pump.Pump).Over
def F28 (p1 : Option Addr) (w2 : World) (R : Value → World → Prop) : Prop :=
  NilP p1 fun a3 =>
  LdB (Addr.add a3 9) w2 fun x4 =>
  Bif x4 (
  R (Value.bool true) w2) (
  NilP p1 fun a5 =>
  IxP (some (Addr.add a5 0)) 2 0 4 fun a6 =>
  LdB (Addr.add a6 2) w2 fun x7 =>
  Bif x7 (
  NilP p1 fun a8 =>
  IxP (some (Addr.add a8 0)) 2 1 4 fun a9 =>
  LdB (Addr.add a9 2) w2 fun x10 =>
  R (Value.bool x10) w2) (
  R (Value.bool false) w2))
theorem F28_eq (p1 : Option Addr) (w2 : World) (R : Value → World → Prop) : liftF Try.prog 28 .nil [(Value.pointer p1)] w2 R = F28 p1 w2 R := by kernel_rfl
theorem F28_of {p1 : Option Addr} {w2 : World} {R : Value → World → Prop} (h : F28 p1 w2 R) : CallR Try.prog 28 #[(Value.pointer p1)] w2 R := callR_of_lift _ ((F28_eq p1 w2 R).mpr h)

-- F29 (*subway/subwayref17.Pump).Over
def F29 (p1 : Option Addr) (w2 : World) (R : Value → World → Prop) : Prop :=
  NilP p1 fun a3 =>
  LdB (Addr.add a3 8) w2 fun x4 =>
  Bif x4 (
  R (Value.bool true) w2) (
  NilP p1 fun a5 =>
  IxP (some (Addr.add a5 0)) 2 0 4 fun a6 =>
  LdB (Addr.add a6 2) w2 fun x7 =>
  Bif x7 (
  NilP p1 fun a8 =>
  IxP (some (Addr.add a8 0)) 2 1 4 fun a9 =>
  LdB (Addr.add a9 2) w2 fun x10 =>
  R (Value.bool x10) w2) (
  R (Value.bool false) w2))
theorem F29_eq (p1 : Option Addr) (w2 : World) (R : Value → World → Prop) : liftF Try.prog 29 .nil [(Value.pointer p1)] w2 R = F29 p1 w2 R := by kernel_rfl
theorem F29_of {p1 : Option Addr} {w2 : World} {R : Value → World → Prop} (h : F29 p1 w2 R) : CallR Try.prog 29 #[(Value.pointer p1)] w2 R := callR_of_lift _ ((F29_eq p1 w2 R).mpr h)

-- F30 subway/ring.New
def F30 (most1 : Int) (w2 : World) (R : Value → World → Prop) : Prop :=
  MkS (#[(Value.int .u8 0)]) 1 1 5 (if 65536 < (if 0 > most1 then 0 else most1) then 65536 else (if 0 > most1 then 0 else most1)) (if 65536 < (if 0 > most1 then 0 else most1) then 65536 else (if 0 > most1 then 0 else most1)) w2 fun b3 w4 =>
  NewC #[(Value.slice (some ⟨b3, 0, none⟩) (Int.toNat (if 65536 < (if 0 > most1 then 0 else most1) then 65536 else (if 0 > most1 then 0 else most1))) (Int.toNat (if 65536 < (if 0 > most1 then 0 else most1) then 65536 else (if 0 > most1 then 0 else most1)))), (Value.int .i64 0), (Value.int .i64 0)] 68 w4 fun b5 w6 =>
  R (Value.pointer (some ⟨b5, 0, none⟩)) w6
theorem F30_eq (most1 : Int) (w2 : World) (R : Value → World → Prop) : liftF Try.prog 30 .nil [(Value.int .i64 most1)] w2 R = F30 most1 w2 R := by kernel_rfl
theorem F30_of {most1 : Int} {w2 : World} {R : Value → World → Prop} (h : F30 most1 w2 R) : CallR Try.prog 30 #[(Value.int .i64 most1)] w2 R := callR_of_lift _ ((F30_eq most1 w2 R).mpr h)

-- F31 subway/pump.side
def F31 (n1 : Int) (w2 : World) (R : Value → World → Prop) : Prop :=
  ShK 1 (
  R (Value.bool ((Int.fdiv n1 (2 ^ min (Int.toNat 1) (IntKind.bits .i64))) == 0)) w2)
theorem F31_eq (n1 : Int) (w2 : World) (R : Value → World → Prop) : liftF Try.prog 31 .nil [(Value.int .i64 n1)] w2 R = F31 n1 w2 R := by kernel_rfl
theorem F31_of {n1 : Int} {w2 : World} {R : Value → World → Prop} (h : F31 n1 w2 R) : CallR Try.prog 31 #[(Value.int .i64 n1)] w2 R := callR_of_lift _ ((F31_eq n1 w2 R).mpr h)

-- F32 (*subway/pump.way).out
def F32 (w1 : Option Addr) (n2 : Int) (w3 : World) (R : Value → World → Prop) : Prop :=
  NilP w1 fun a4 =>
  LdP (Addr.add a4 0) w3 fun x5 =>
  CallR Try.prog 41 #[(Value.pointer x5), (Value.int .i64 n2)] w3 fun v6 w7 =>
  AsL v6 fun x8p x8n x8c =>
  NilP w1 fun a9 =>
  LdI .i64 (Addr.add a9 3) w7 fun x10 =>
  NilP w1 fun a11 =>
  St1 (Addr.add a11 3) (Value.int .i64 (IntKind.wrap .i64 (x10 + (x8n : Int)))) w7 fun w12 =>
  NilP w1 fun a13 =>
  LdB (Addr.add a13 1) w12 fun x14 =>
  Bif (!x14) (
  R (Value.tuple #[(Value.slice x8p x8n x8c), (Value.bool false)]) w12) (
  NilP w1 fun a15 =>
  LdB (Addr.add a15 2) w12 fun x16 =>
  Bif x16 (
  R (Value.tuple #[(Value.slice x8p x8n x8c), (Value.bool false)]) w12) (
  NilP w1 fun a17 =>
  LdP (Addr.add a17 0) w12 fun x18 =>
  CallR Try.prog 35 #[(Value.pointer x18)] w12 fun v19 w20 =>
  AsI .i64 v19 fun x21 =>
  Bif (decide (x21 > 0)) (
  R (Value.tuple #[(Value.slice x8p x8n x8c), (Value.bool false)]) w20) (
  NilP w1 fun a22 =>
  St1 (Addr.add a22 2) (Value.bool true) w20 fun w23 =>
  R (Value.tuple #[(Value.slice x8p x8n x8c), (Value.bool true)]) w23)))
theorem F32_eq (w1 : Option Addr) (n2 : Int) (w3 : World) (R : Value → World → Prop) : liftF Try.prog 32 .nil [(Value.pointer w1), (Value.int .i64 n2)] w3 R = F32 w1 n2 w3 R := by kernel_rfl
theorem F32_of {w1 : Option Addr} {n2 : Int} {w3 : World} {R : Value → World → Prop} (h : F32 w1 n2 w3 R) : CallR Try.prog 32 #[(Value.pointer w1), (Value.int .i64 n2)] w3 R := callR_of_lift _ ((F32_eq w1 n2 w3 R).mpr h)

-- F33 (*subway/pump.Pump).hears
def F33 (p1 : Option Addr) (n2 : Int) (w3 : World) (R : Value → World → Prop) : Prop :=
  CallR Try.prog 31 #[(Value.int .i64 n2)] w3 fun v4 w5 =>
  AsB v4 fun x6 =>
  Bif (!x6) (
  R (Value.pointer none) w5) (
  NilP p1 fun a7 =>
  LdB (Addr.add a7 9) w5 fun x8 =>
  Bif x8 (
  R (Value.pointer none) w5) (
  NilP p1 fun a9 =>
  IxP (some (Addr.add a9 0)) 2 n2 4 fun a10 =>
  LdB (Addr.add a10 1) w5 fun x11 =>
  Bif x11 (
  R (Value.pointer none) w5) (
  NilP p1 fun a12 =>
  IxP (some (Addr.add a12 0)) 2 n2 4 fun a13 =>
  R (Value.pointer (some a13)) w5)))
theorem F33_eq (p1 : Option Addr) (n2 : Int) (w3 : World) (R : Value → World → Prop) : liftF Try.prog 33 .nil [(Value.pointer p1), (Value.int .i64 n2)] w3 R = F33 p1 n2 w3 R := by kernel_rfl
theorem F33_of {p1 : Option Addr} {n2 : Int} {w3 : World} {R : Value → World → Prop} (h : F33 p1 n2 w3 R) : CallR Try.prog 33 #[(Value.pointer p1), (Value.int .i64 n2)] w3 R := callR_of_lift _ ((F33_eq p1 n2 w3 R).mpr h)

-- F34 (*subway/ring.Ring).Add
def F34 (r1 : Option Addr) (b2p : Option Addr) (b2n : Nat) (b2c : Nat) (w3 : World) (R : Value → World → Prop) : Prop :=
  ∃ (C4 : Cls), Cls.p C4 [] w3 ∧
  NilP r1 fun a5 =>
  NilP r1 fun a6 =>
  ∃ (x7 : Int), Qt C4 (Value.int .i64 x7) (fun w8 K9 =>
  LdI .i64 (Addr.add a5 1) w8 fun x10 =>
  K9 (Value.int .i64 x10) w8) ∧
  ∃ (x11 : Int), Qt C4 (Value.int .i64 x11) (fun w12 K13 =>
  LdI .i64 (Addr.add a6 2) w12 fun x14 =>
  K13 (Value.int .i64 x14) w12) ∧
  ∃ (x15 : Int), Qt C4 (Value.int .i64 x15) (fun w16 K17 =>
  CallR Try.prog 36 #[(Value.pointer r1)] w16 fun v18 w19 =>
  AsI .i64 v18 fun x20 =>
  K17 (Value.int .i64 x20) w19) ∧
  ∃ (D23 : Value → Cls), (∀ G24 w25, Cls.p C4 G24 w25 →
  CallR Try.prog 42 #[(Value.pointer r1), (Value.int .i64 (IntKind.wrap .i64 (x7 + x11))), (Value.int .i64 (if x15 < (b2n : Int) then x15 else (b2n : Int)))] w25 fun v26 w27 =>
  ∃ (x28p : Option Addr) (x28n : Nat) (x28c : Nat), ∃ (x29p : Option Addr) (x29n : Nat) (x29c : Nat), v26 = (Value.tuple #[(Value.slice x28p x28n x28c), (Value.slice x29p x29n x29c)]) ∧
  isR [.b .slice, .b .slice] (Value.tuple #[(Value.slice x28p x28n x28c), (Value.slice x29p x29n x29c)]) ∧ Cls.p (D23 (Value.tuple #[(Value.slice x28p x28n x28c), (Value.slice x29p x29n x29c)])) G24 w27) ∧
  ∀ (x21p : Option Addr) (x21n : Nat) (x21c : Nat), ∀ (x22p : Option Addr) (x22n : Nat) (x22c : Nat), (True) ∧
  ∀ G30 w31, Cls.p (D23 (Value.tuple #[(Value.slice x21p x21n x21c), (Value.slice x22p x22n x22c)])) G30 w31 →
  Run Try.prog (Builtin.copy_ #[28, 28] 3 #[(Value.slice x21p x21n x21c), (Value.slice b2p b2n b2c)]) w31 fun v32 w33 =>
  AsI .i64 v32 fun x34 =>
  SlP b2p b2n b2c 1 x34 (b2n : Int) fun x35p x35n x35c =>
  Run Try.prog (Builtin.copy_ #[28, 28] 3 #[(Value.slice x22p x22n x22c), (Value.slice x35p x35n x35c)]) w33 fun v36 w37 =>
  AsI .i64 v36 fun x38 =>
  NilP r1 fun a39 =>
  LdI .i64 (Addr.add a39 2) w37 fun x40 =>
  NilP r1 fun a41 =>
  St1 (Addr.add a41 2) (Value.int .i64 (IntKind.wrap .i64 (x40 + (IntKind.wrap .i64 (x34 + x38))))) w37 fun w42 =>
  R (Value.int .i64 (IntKind.wrap .i64 (x34 + x38))) w42
theorem F34_eq (r1 : Option Addr) (b2p : Option Addr) (b2n : Nat) (b2c : Nat) (w3 : World) (R : Value → World → Prop) : liftF Try.prog 34 (.step .nil .nil (.draw [(0, false), (1, false), (2, false), (3, false), (5, false), (6, false), (7, false), (10, false), (11, false), (12, false), (4, false), (8, false), (9, false), (13, false), (14, false), (15, true), (16, false), (17, false), (18, false), (19, false), (20, false)] .nil)) [(Value.pointer r1), (Value.slice b2p b2n b2c)] w3 R = F34 r1 b2p b2n b2c w3 R := by kernel_rfl
theorem F34_of {r1 : Option Addr} {b2p : Option Addr} {b2n : Nat} {b2c : Nat} {w3 : World} {R : Value → World → Prop} (h : F34 r1 b2p b2n b2c w3 R) : CallR Try.prog 34 #[(Value.pointer r1), (Value.slice b2p b2n b2c)] w3 R := callR_of_lift _ ((F34_eq r1 b2p b2n b2c w3 R).mpr h)

-- F35 (*subway/ring.Ring).Many
def F35 (r1 : Option Addr) (w2 : World) (R : Value → World → Prop) : Prop :=
  NilP r1 fun a3 =>
  LdI .i64 (Addr.add a3 2) w2 fun x4 =>
  R (Value.int .i64 x4) w2
theorem F35_eq (r1 : Option Addr) (w2 : World) (R : Value → World → Prop) : liftF Try.prog 35 .nil [(Value.pointer r1)] w2 R = F35 r1 w2 R := by kernel_rfl
theorem F35_of {r1 : Option Addr} {w2 : World} {R : Value → World → Prop} (h : F35 r1 w2 R) : CallR Try.prog 35 #[(Value.pointer r1)] w2 R := callR_of_lift _ ((F35_eq r1 w2 R).mpr h)

-- F36 (*subway/ring.Ring).Room
def F36 (r1 : Option Addr) (w2 : World) (R : Value → World → Prop) : Prop :=
  ∃ (C3 : Cls), Cls.p C3 [] w2 ∧
  NilP r1 fun a4 =>
  NilP r1 fun a5 =>
  ∃ (x6p : Option Addr) (x6n : Nat) (x6c : Nat), Qt C3 (Value.slice x6p x6n x6c) (fun w7 K8 =>
  LdL (Addr.add a4 0) w7 fun x9p x9n x9c =>
  K8 (Value.slice x9p x9n x9c) w7) ∧
  ∃ (x10 : Int), Qt C3 (Value.int .i64 x10) (fun w11 K12 =>
  LdI .i64 (Addr.add a5 2) w11 fun x13 =>
  K12 (Value.int .i64 x13) w11) ∧
  ∀ G14 w15, Cls.p C3 G14 w15 →
  R (Value.int .i64 (IntKind.wrap .i64 ((x6n : Int) - x10))) w15
theorem F36_eq (r1 : Option Addr) (w2 : World) (R : Value → World → Prop) : liftF Try.prog 36 (.step .nil .nil (.draw [(0, false), (1, false), (2, false), (5, false), (6, false), (7, false), (3, false), (4, false), (8, false), (9, false), (10, false)] .nil)) [(Value.pointer r1)] w2 R = F36 r1 w2 R := by kernel_rfl
theorem F36_of {r1 : Option Addr} {w2 : World} {R : Value → World → Prop} (h : F36 r1 w2 R) : CallR Try.prog 36 #[(Value.pointer r1)] w2 R := callR_of_lift _ ((F36_eq r1 w2 R).mpr h)

-- F37 subway/subwayref07.New
def F37 (most1 : Int) (w2 : World) (R : Value → World → Prop) : Prop :=
  NewC #[(Value.slice none 0 0), (Value.int .i64 (if 65536 < (if 0 > most1 then 0 else most1) then 65536 else (if 0 > most1 then 0 else most1)))] 66 w2 fun b3 w4 =>
  R (Value.pointer (some ⟨b3, 0, none⟩)) w4
theorem F37_eq (most1 : Int) (w2 : World) (R : Value → World → Prop) : liftF Try.prog 37 .nil [(Value.int .i64 most1)] w2 R = F37 most1 w2 R := by kernel_rfl
theorem F37_of {most1 : Int} {w2 : World} {R : Value → World → Prop} (h : F37 most1 w2 R) : CallR Try.prog 37 #[(Value.int .i64 most1)] w2 R := callR_of_lift _ ((F37_eq most1 w2 R).mpr h)

-- F38 subway/subwayref17.side
def F38 (n1 : Int) (w2 : World) (R : Value → World → Prop) : Prop :=
  Bif (n1 == 0) (
  R (Value.bool true) w2) (
  R (Value.bool (n1 == 1)) w2)
theorem F38_eq (n1 : Int) (w2 : World) (R : Value → World → Prop) : liftF Try.prog 38 .nil [(Value.int .i64 n1)] w2 R = F38 n1 w2 R := by kernel_rfl
theorem F38_of {n1 : Int} {w2 : World} {R : Value → World → Prop} (h : F38 n1 w2 R) : CallR Try.prog 38 #[(Value.int .i64 n1)] w2 R := callR_of_lift _ ((F38_eq n1 w2 R).mpr h)

-- F39 (*subway/subwayref07.Ring).Take
def F39 (r1 : Option Addr) (n2 : Int) (w3 : World) (R : Value → World → Prop) : Prop :=
  NilP r1 fun a4 =>
  LdL (Addr.add a4 0) w3 fun x5p x5n x5c =>
  NewC #[] 5 w3 fun b6 w7 =>
  NilP r1 fun a8 =>
  LdL (Addr.add a8 0) w7 fun x9p x9n x9c =>
  SlP x9p x9n x9c 1 0 (if (x5n : Int) < (if 0 > n2 then 0 else n2) then (x5n : Int) else (if 0 > n2 then 0 else n2)) fun x10p x10n x10c =>
  Run Try.prog (Builtin.append_ #[28, 28] 28 #[(Value.slice (some ⟨b6, 0, none⟩) 0 0), (Value.slice x10p x10n x10c)]) w7 fun v11 w12 =>
  AsL v11 fun x13p x13n x13c =>
  NewC #[] 5 w12 fun b14 w15 =>
  NilP r1 fun a16 =>
  LdL (Addr.add a16 0) w15 fun x17p x17n x17c =>
  SlP x17p x17n x17c 1 (if (x5n : Int) < (if 0 > n2 then 0 else n2) then (x5n : Int) else (if 0 > n2 then 0 else n2)) (x17n : Int) fun x18p x18n x18c =>
  Run Try.prog (Builtin.append_ #[28, 28] 28 #[(Value.slice (some ⟨b14, 0, none⟩) 0 0), (Value.slice x18p x18n x18c)]) w15 fun v19 w20 =>
  AsL v19 fun x21p x21n x21c =>
  NilP r1 fun a22 =>
  St1 (Addr.add a22 0) (Value.slice x21p x21n x21c) w20 fun w23 =>
  R (Value.slice x13p x13n x13c) w23
theorem F39_eq (r1 : Option Addr) (n2 : Int) (w3 : World) (R : Value → World → Prop) : liftF Try.prog 39 .nil [(Value.pointer r1), (Value.int .i64 n2)] w3 R = F39 r1 n2 w3 R := by kernel_rfl
theorem F39_of {r1 : Option Addr} {n2 : Int} {w3 : World} {R : Value → World → Prop} (h : F39 r1 n2 w3 R) : CallR Try.prog 39 #[(Value.pointer r1), (Value.int .i64 n2)] w3 R := callR_of_lift _ ((F39_eq r1 n2 w3 R).mpr h)

-- F40 (*subway/subwayref07.Ring).Add
def F40 (r1 : Option Addr) (b2p : Option Addr) (b2n : Nat) (b2c : Nat) (w3 : World) (R : Value → World → Prop) : Prop :=
  ∃ (C4 : Cls), Cls.p C4 [] w3 ∧
  NilP r1 fun a5 =>
  NilP r1 fun a6 =>
  ∃ (x7 : Int), Qt C4 (Value.int .i64 x7) (fun w8 K9 =>
  LdI .i64 (Addr.add a5 1) w8 fun x10 =>
  K9 (Value.int .i64 x10) w8) ∧
  ∃ (x11p : Option Addr) (x11n : Nat) (x11c : Nat), Qt C4 (Value.slice x11p x11n x11c) (fun w12 K13 =>
  LdL (Addr.add a6 0) w12 fun x14p x14n x14c =>
  K13 (Value.slice x14p x14n x14c) w12) ∧
  ∀ G15 w16, Cls.p C4 G15 w16 →
  ∃ (C17 : Cls), Cls.p C17 [] w16 ∧
  NilP r1 fun a18 =>
  SlP b2p b2n b2c 1 0 (if (IntKind.wrap .i64 (x7 - (x11n : Int))) < (b2n : Int) then (IntKind.wrap .i64 (x7 - (x11n : Int))) else (b2n : Int)) fun x19p x19n x19c =>
  ∃ (x20p : Option Addr) (x20n : Nat) (x20c : Nat), Qt C17 (Value.slice x20p x20n x20c) (fun w21 K22 =>
  LdL (Addr.add a18 0) w21 fun x23p x23n x23c =>
  K22 (Value.slice x23p x23n x23c) w21) ∧
  ∀ b24 : Nat,
  ∃ (D26 : Value → Cls), (∀ G27 w28, Cls.p (Cls.push C17 (b24, .cells #[] 5)) G27 w28 →
  Run Try.prog (Builtin.append_ #[28, 28] 28 #[(Value.slice (some ⟨b24, 0, none⟩) 0 0), (Value.slice x20p x20n x20c)]) w28 fun v29 w30 =>
  AsL v29 fun x31p x31n x31c =>
  isR [.b .slice] (Value.slice x31p x31n x31c) ∧ Cls.p (D26 (Value.slice x31p x31n x31c)) G27 w30) ∧
  ∀ (x25p : Option Addr) (x25n : Nat) (x25c : Nat), (True) ∧
  ∃ (D33 : Value → Cls), (∀ G34 w35, Cls.p (D26 (Value.slice x25p x25n x25c)) G34 w35 →
  Run Try.prog (Builtin.append_ #[28, 28] 28 #[(Value.slice x25p x25n x25c), (Value.slice x19p x19n x19c)]) w35 fun v36 w37 =>
  AsL v36 fun x38p x38n x38c =>
  isR [.b .slice] (Value.slice x38p x38n x38c) ∧ Cls.p (D33 (Value.slice x38p x38n x38c)) G34 w37) ∧
  ∀ (x32p : Option Addr) (x32n : Nat) (x32c : Nat), (True) ∧
  NilP r1 fun a39 =>
  ∃ (D40 : Value → Cls), (∀ G41 w42, Cls.p (D33 (Value.slice x32p x32n x32c)) G41 w42 →
  St1 (Addr.add a39 0) (Value.slice x32p x32n x32c) w42 fun w43 =>
  isR [] (Value.tuple #[]) ∧ Cls.p (D40 (Value.tuple #[])) G41 w43) ∧
  (True) ∧
  ∀ G44 w45, Cls.p (D40 (Value.tuple #[])) G44 w45 →
  R (Value.int .i64 (if (IntKind.wrap .i64 (x7 - (x11n : Int))) < (b2n : Int) then (IntKind.wrap .i64 (x7 - (x11n : Int))) else (b2n : Int))) w45
theorem F40_eq (r1 : Option Addr) (b2p : Option Addr) (b2n : Nat) (b2c : Nat) (w3 : World) (R : Value → World → Prop) : liftF Try.prog 40 (.step .nil .nil (.draw [(0, false), (1, false), (2, false), (3, false), (4, false), (6, false), (7, false), (8, false), (5, false), (9, false), (10, false), (11, false), (12, false), (13, false)] (.draw [(0, false), (2, false), (3, false), (4, false), (7, false), (8, false), (9, false), (5, false), (1, false), (6, true), (10, true), (11, false), (12, false), (13, true)] .nil))) [(Value.pointer r1), (Value.slice b2p b2n b2c)] w3 R = F40 r1 b2p b2n b2c w3 R := by kernel_rfl
theorem F40_of {r1 : Option Addr} {b2p : Option Addr} {b2n : Nat} {b2c : Nat} {w3 : World} {R : Value → World → Prop} (h : F40 r1 b2p b2n b2c w3 R) : CallR Try.prog 40 #[(Value.pointer r1), (Value.slice b2p b2n b2c)] w3 R := callR_of_lift _ ((F40_eq r1 b2p b2n b2c w3 R).mpr h)

-- F41 (*subway/ring.Ring).Take
def F41 (r1 : Option Addr) (n2 : Int) (w3 : World) (R : Value → World → Prop) : Prop :=
  NilP r1 fun a4 =>
  LdI .i64 (Addr.add a4 2) w3 fun x5 =>
  CallR Try.prog 43 #[(Value.pointer r1), (Value.int .i64 (if x5 < (if 0 > n2 then 0 else n2) then x5 else (if 0 > n2 then 0 else n2)))] w3 fun v6 w7 =>
  AsL v6 fun x8p x8n x8c =>
  NilP r1 fun a9 =>
  LdI .i64 (Addr.add a9 2) w7 fun x10 =>
  NilP r1 fun a11 =>
  St1 (Addr.add a11 2) (Value.int .i64 (IntKind.wrap .i64 (x10 - (if x5 < (if 0 > n2 then 0 else n2) then x5 else (if 0 > n2 then 0 else n2))))) w7 fun w12 =>
  NilP r1 fun a13 =>
  LdI .i64 (Addr.add a13 1) w12 fun x14 =>
  NilP r1 fun a15 =>
  St1 (Addr.add a15 1) (Value.int .i64 (IntKind.wrap .i64 (x14 + (if x5 < (if 0 > n2 then 0 else n2) then x5 else (if 0 > n2 then 0 else n2))))) w12 fun w16 =>
  ∃ (C17 : Cls), Cls.p C17 [] w16 ∧
  NilP r1 fun a18 =>
  NilP r1 fun a19 =>
  ∃ (x20 : Int), Qt C17 (Value.int .i64 x20) (fun w21 K22 =>
  LdI .i64 (Addr.add a18 1) w21 fun x23 =>
  K22 (Value.int .i64 x23) w21) ∧
  ∃ (x24p : Option Addr) (x24n : Nat) (x24c : Nat), Qt C17 (Value.slice x24p x24n x24c) (fun w25 K26 =>
  LdL (Addr.add a19 0) w25 fun x27p x27n x27c =>
  K26 (Value.slice x27p x27n x27c) w25) ∧
  ∀ G28 w29, Cls.p C17 G28 w29 →
  Bif (decide (x20 ≥ (x24n : Int))) (
  ∃ (C30 : Cls), Cls.p C30 [] w29 ∧
  NilP r1 fun a31 =>
  NilP r1 fun a32 =>
  ∃ (x33 : Int), Qt C30 (Value.int .i64 x33) (fun w34 K35 =>
  LdI .i64 (Addr.add a31 1) w34 fun x36 =>
  K35 (Value.int .i64 x36) w34) ∧
  ∃ (x37p : Option Addr) (x37n : Nat) (x37c : Nat), Qt C30 (Value.slice x37p x37n x37c) (fun w38 K39 =>
  LdL (Addr.add a32 0) w38 fun x40p x40n x40c =>
  K39 (Value.slice x40p x40n x40c) w38) ∧
  NilP r1 fun a41 =>
  ∃ (D42 : Value → Cls), (∀ G43 w44, Cls.p C30 G43 w44 →
  St1 (Addr.add a41 1) (Value.int .i64 (IntKind.wrap .i64 (x33 - (x37n : Int)))) w44 fun w45 =>
  isR [] (Value.tuple #[]) ∧ Cls.p (D42 (Value.tuple #[])) G43 w45) ∧
  (True) ∧
  ∀ G46 w47, Cls.p (D42 (Value.tuple #[])) G46 w47 →
  R (Value.slice x8p x8n x8c) w47) (
  R (Value.slice x8p x8n x8c) w29)
theorem F41_eq (r1 : Option Addr) (n2 : Int) (w3 : World) (R : Value → World → Prop) : liftF Try.prog 41 (.step .nil .nil (.step .nil .nil (.step .nil .nil (.step .nil .nil (.step .nil .nil (.draw [(0, false), (1, false), (2, false), (4, false), (5, false), (6, false), (3, false), (7, false), (8, false), (9, false)] (.step (.draw [(0, false), (1, false), (2, false), (4, false), (5, false), (6, false), (3, false), (7, false), (8, false), (9, false), (10, false), (11, false), (12, true)] .nil) .nil .nil))))))) [(Value.pointer r1), (Value.int .i64 n2)] w3 R = F41 r1 n2 w3 R := by kernel_rfl
theorem F41_of {r1 : Option Addr} {n2 : Int} {w3 : World} {R : Value → World → Prop} (h : F41 r1 n2 w3 R) : CallR Try.prog 41 #[(Value.pointer r1), (Value.int .i64 n2)] w3 R := callR_of_lift _ ((F41_eq r1 n2 w3 R).mpr h)

-- F42 (*subway/ring.Ring).parts
def F42 (r1 : Option Addr) (atv2 : Int) (n3 : Int) (w4 : World) (R : Value → World → Prop) : Prop :=
  NilP r1 fun a5 =>
  LdL (Addr.add a5 0) w4 fun x6p x6n x6c =>
  Bif ((x6n : Int) == 0) (
  R (Value.tuple #[(Value.slice none 0 0), (Value.slice none 0 0)]) w4) (
  NilP r1 fun a7 =>
  LdL (Addr.add a7 0) w4 fun x8p x8n x8c =>
  DivK (x8n : Int) (
  NilP r1 fun a9 =>
  LdL (Addr.add a9 0) w4 fun x10p x10n x10c =>
  ∃ (C11 : Cls), Cls.p C11 [] w4 ∧
  NilP r1 fun a12 =>
  NilP r1 fun a13 =>
  ∃ (x14p : Option Addr) (x14n : Nat) (x14c : Nat), Qt C11 (Value.slice x14p x14n x14c) (fun w15 K16 =>
  LdL (Addr.add a12 0) w15 fun x17p x17n x17c =>
  K16 (Value.slice x17p x17n x17c) w15) ∧
  SlP x14p x14n x14c 1 (Int.tmod atv2 (x8n : Int)) (IntKind.wrap .i64 ((Int.tmod atv2 (x8n : Int)) + (if (IntKind.wrap .i64 ((x10n : Int) - (Int.tmod atv2 (x8n : Int)))) < n3 then (IntKind.wrap .i64 ((x10n : Int) - (Int.tmod atv2 (x8n : Int)))) else n3))) fun x18p x18n x18c =>
  ∃ (x19p : Option Addr) (x19n : Nat) (x19c : Nat), Qt C11 (Value.slice x19p x19n x19c) (fun w20 K21 =>
  LdL (Addr.add a13 0) w20 fun x22p x22n x22c =>
  K21 (Value.slice x22p x22n x22c) w20) ∧
  SlP x19p x19n x19c 1 0 (IntKind.wrap .i64 (n3 - (if (IntKind.wrap .i64 ((x10n : Int) - (Int.tmod atv2 (x8n : Int)))) < n3 then (IntKind.wrap .i64 ((x10n : Int) - (Int.tmod atv2 (x8n : Int)))) else n3))) fun x23p x23n x23c =>
  ∀ G24 w25, Cls.p C11 G24 w25 →
  R (Value.tuple #[(Value.slice x18p x18n x18c), (Value.slice x23p x23n x23c)]) w25))
theorem F42_eq (r1 : Option Addr) (atv2 : Int) (n3 : Int) (w4 : World) (R : Value → World → Prop) : liftF Try.prog 42 (.step .nil .nil (.step .nil .nil (.step .nil .nil (.step .nil .nil (.step .nil .nil (.draw [(0, false), (1, false), (2, false), (4, false), (5, false), (6, false), (7, false), (9, false), (10, false), (11, false), (13, false), (14, false), (15, false), (3, false), (8, false), (17, false), (12, false), (16, false), (18, false)] .nil)))))) [(Value.pointer r1), (Value.int .i64 atv2), (Value.int .i64 n3)] w4 R = F42 r1 atv2 n3 w4 R := by kernel_rfl
theorem F42_of {r1 : Option Addr} {atv2 : Int} {n3 : Int} {w4 : World} {R : Value → World → Prop} (h : F42 r1 atv2 n3 w4 R) : CallR Try.prog 42 #[(Value.pointer r1), (Value.int .i64 atv2), (Value.int .i64 n3)] w4 R := callR_of_lift _ ((F42_eq r1 atv2 n3 w4 R).mpr h)

-- F43 (*subway/ring.Ring).first
def F43 (r1 : Option Addr) (n2 : Int) (w3 : World) (R : Value → World → Prop) : Prop :=
  NilP r1 fun a4 =>
  LdI .i64 (Addr.add a4 1) w3 fun x5 =>
  CallR Try.prog 42 #[(Value.pointer r1), (Value.int .i64 x5), (Value.int .i64 n2)] w3 fun v6 w7 =>
  ∃ (x8p : Option Addr) (x8n : Nat) (x8c : Nat), ∃ (x9p : Option Addr) (x9n : Nat) (x9c : Nat), v6 = (Value.tuple #[(Value.slice x8p x8n x8c), (Value.slice x9p x9n x9c)]) ∧
  MkS (#[(Value.int .u8 0)]) 1 1 5 n2 n2 w7 fun b10 w11 =>
  Run Try.prog (Builtin.copy_ #[28, 28] 3 #[(Value.slice (some ⟨b10, 0, none⟩) (Int.toNat n2) (Int.toNat n2)), (Value.slice x8p x8n x8c)]) w11 fun v12 w13 =>
  AsI .i64 v12 fun x14 =>
  SlP (some ⟨b10, 0, none⟩) (Int.toNat n2) (Int.toNat n2) 1 x14 ((Int.toNat n2) : Int) fun x15p x15n x15c =>
  Run Try.prog (Builtin.copy_ #[28, 28] 3 #[(Value.slice x15p x15n x15c), (Value.slice x9p x9n x9c)]) w13 fun v16 w17 =>
  AsI .i64 v16 fun x18 =>
  R (Value.slice (some ⟨b10, 0, none⟩) (Int.toNat n2) (Int.toNat n2)) w17
theorem F43_eq (r1 : Option Addr) (n2 : Int) (w3 : World) (R : Value → World → Prop) : liftF Try.prog 43 .nil [(Value.pointer r1), (Value.int .i64 n2)] w3 R = F43 r1 n2 w3 R := by kernel_rfl
theorem F43_of {r1 : Option Addr} {n2 : Int} {w3 : World} {R : Value → World → Prop} (h : F43 r1 n2 w3 R) : CallR Try.prog 43 #[(Value.pointer r1), (Value.int .i64 n2)] w3 R := callR_of_lift _ ((F43_eq r1 n2 w3 R).mpr h)

end Go.Proofs.Ytneilmoiahphkaa
