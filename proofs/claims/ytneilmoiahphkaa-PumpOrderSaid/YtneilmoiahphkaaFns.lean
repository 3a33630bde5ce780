/- The lifted forms of this seat's functions, printed by a program; each is met by the kernel. -/
import Derived.Test.YtneilmoiahphkaaLift
import Derived.Test.YtneilmoiahphkaaProg
set_option linter.unusedVariables false
namespace Go.Proofs.Ytneilmoiahphkaa
open Go
-- F3 subway/subwaylaw17.PumpOrder
def F3 (most1 : Int) (l2p : Option Addr) (l2n : Nat) (l2c : Nat) (w3 : World) (R : Value → World → Prop) : Prop :=
  CallR Try.prog 10 #[] w3 fun v4 w5 =>
  AsB v4 fun x6 =>
  CallR Try.prog 11 #[(Value.int .i64 (IntKind.wrap .i64 most1))] w5 fun v7 w8 =>
  AsP v7 fun x9 =>
  Bif (isNone' x9) (
  Bif (!(isNone' x9)) (
  R (Value.bool x6) w8) (
  R (Value.bool false) w8)) (
  CallR Try.prog 12 #[(Value.slice l2p l2n l2c)] w8 fun v10 w11 =>
  AsB v10 fun x12 =>
  Bif x12 (
  Bif (!(isNone' x9)) (
  R (Value.bool x6) w11) (
  R (Value.bool false) w11)) (
  NewC #[(Value.string ⟨#[]⟩), (Value.string ⟨#[]⟩)] 9 w11 fun b13 w14 =>
  NewC #[(Value.string ⟨#[]⟩), (Value.string ⟨#[]⟩)] 9 w14 fun b15 w16 =>
  Lp fun I17 mu18 =>
  I17 [(Value.int .i64 0)] w16 ∧
  ∀ (i19 : Int), ∀ w20, I17 [(Value.int .i64 i19)] w20 →
  Bif (decide (i19 < (l2n : Int))) (
  IxP l2p l2n i19 4 fun a21 =>
  LdI .i64 (Addr.add a21 0) w20 fun x22 =>
  LdI .i64 (Addr.add a21 1) w20 fun x23 =>
  LdL (Addr.add a21 2) w20 fun x24p x24n x24c =>
  LdI .i64 (Addr.add a21 3) w20 fun x25 =>
  NewC #[(Value.int .i64 0), (Value.int .i64 0), (Value.slice none 0 0), (Value.int .i64 0)] 30 w20 fun b26 w27 =>
  St1 (Addr.add ⟨b26, 0, none⟩ 0) (Value.int .i64 x22) w27 fun w28 =>
  St1 (Addr.add ⟨b26, 0, none⟩ 1) (Value.int .i64 x23) w28 fun w29 =>
  St1 (Addr.add ⟨b26, 0, none⟩ 2) (Value.slice x24p x24n x24c) w29 fun w30 =>
  St1 (Addr.add ⟨b26, 0, none⟩ 3) (Value.int .i64 x25) w30 fun w31 =>
  Jn fun J32 => (
  LdI .i64 (Addr.add ⟨b26, 0, none⟩ 1) w31 fun x33 =>
  Bif (x33 != 0) (
  LdI .i64 (Addr.add ⟨b26, 0, none⟩ 1) w31 fun x34 =>
  Bif (x34 != 1) (
  I17 [(Value.int .i64 (IntKind.wrap .i64 (i19 + 1)))] w31 ∧ mu18 [(Value.int .i64 (IntKind.wrap .i64 (i19 + 1)))] w31 < mu18 [(Value.int .i64 i19)] w20) (
  LdI .i64 (Addr.add ⟨b26, 0, none⟩ 0) w31 fun x35 =>
  Bif (x35 == 4) (
  I17 [(Value.int .i64 (IntKind.wrap .i64 (i19 + 1)))] w31 ∧ mu18 [(Value.int .i64 (IntKind.wrap .i64 (i19 + 1)))] w31 < mu18 [(Value.int .i64 i19)] w20) (
  J32 [] w31))) (
  LdI .i64 (Addr.add ⟨b26, 0, none⟩ 0) w31 fun x36 =>
  Bif (x36 == 4) (
  I17 [(Value.int .i64 (IntKind.wrap .i64 (i19 + 1)))] w31 ∧ mu18 [(Value.int .i64 (IntKind.wrap .i64 (i19 + 1)))] w31 < mu18 [(Value.int .i64 i19)] w20) (
  J32 [] w31))) ∧
  ∀ w37, J32 [] w37 →
  LdI .i64 (Addr.add ⟨b26, 0, none⟩ 0) w37 fun x38 =>
  Jn fun J39 => (
  Bif (x38 == 2) (
  LdI .i64 (Addr.add ⟨b26, 0, none⟩ 1) w37 fun x40 =>
  LdI .i64 (Addr.add ⟨b26, 0, none⟩ 3) w37 fun x41 =>
  CallR Try.prog 13 #[(Value.pointer x9), (Value.int .i64 x40), (Value.int .i64 x41)] w37 fun v42 w43 =>
  ∃ (x44p : Option Addr) (x44n : Nat) (x44c : Nat), ∃ (x45 : Bool), v42 = (Value.tuple #[(Value.slice x44p x44n x44c), (Value.bool x45)]) ∧
  ∃ (C46 : Cls), Cls.p C46 [] w43 ∧
  ∃ (x47 : Int), Qt C46 (Value.int .i64 x47) (fun w48 K49 =>
  LdI .i64 (Addr.add ⟨b26, 0, none⟩ 1) w48 fun x50 =>
  K49 (Value.int .i64 x50) w48) ∧
  ∃ (x51 : Int), Qt C46 (Value.int .i64 x51) (fun w52 K53 =>
  LdI .i64 (Addr.add ⟨b26, 0, none⟩ 1) w52 fun x54 =>
  K53 (Value.int .i64 x54) w52) ∧
  IxP (some ⟨b15, 0, none⟩) 2 x51 1 fun a55 =>
  ∃ (x56 : ByteArray), Qt C46 (Value.string x56) (fun w57 K58 =>
  LdS a55 w57 fun x59 =>
  K58 (Value.string x59) w57) ∧
  ∃ (x60 : ByteArray), Qt C46 (Value.string x60) (fun w61 K62 =>
  Run Try.prog (convert 28 9 (Value.slice x44p x44n x44c)) w61 fun v63 w64 =>
  AsS v63 fun x65 =>
  K62 (Value.string x65) w64) ∧
  CatK x56 x60 (
  IxP (some ⟨b15, 0, none⟩) 2 x47 1 fun a66 =>
  Ef C46 (fun w69 K68 =>
  St1 a66 (Value.string (x56 ++ x60)) w69 fun w71 =>
  K68 (Value.tuple #[]) w71) fun v70 D67 =>
  v70 = (Value.tuple #[]) ∧
  (True) ∧
  ∀ G72 w73, Cls.p D67 G72 w73 →
  J39 [] w73)) (
  LdI .i64 (Addr.add ⟨b26, 0, none⟩ 0) w37 fun x74 =>
  Bif (x74 == 3) (
  LdI .i64 (Addr.add ⟨b26, 0, none⟩ 1) w37 fun x75 =>
  CallR Try.prog 14 #[(Value.pointer x9), (Value.int .i64 x75)] w37 fun v76 w77 =>
  AsB v76 fun x78 =>
  J39 [] w77) (
  LdI .i64 (Addr.add ⟨b26, 0, none⟩ 1) w37 fun x79 =>
  LdL (Addr.add ⟨b26, 0, none⟩ 2) w37 fun x80p x80n x80c =>
  CallR Try.prog 15 #[(Value.pointer x9), (Value.int .i64 x79), (Value.slice x80p x80n x80c)] w37 fun v81 w82 =>
  AsI .i64 v81 fun x83 =>
  Bif (decide (x83 < 0)) (
  R (Value.bool false) w82) (
  LdL (Addr.add ⟨b26, 0, none⟩ 2) w82 fun x84p x84n x84c =>
  Bif (decide (x83 > (x84n : Int))) (
  R (Value.bool false) w82) (
  ∃ (C85 : Cls), Cls.p C85 [] w82 ∧
  ∃ (x86 : Int), Qt C85 (Value.int .i64 x86) (fun w87 K88 =>
  LdI .i64 (Addr.add ⟨b26, 0, none⟩ 1) w87 fun x89 =>
  K88 (Value.int .i64 x89) w87) ∧
  ∃ (x90 : Int), Qt C85 (Value.int .i64 x90) (fun w91 K92 =>
  LdI .i64 (Addr.add ⟨b26, 0, none⟩ 1) w91 fun x93 =>
  K92 (Value.int .i64 x93) w91) ∧
  IxP (some ⟨b13, 0, none⟩) 2 x90 1 fun a94 =>
  ∃ (x95 : ByteArray), Qt C85 (Value.string x95) (fun w96 K97 =>
  LdS a94 w96 fun x98 =>
  K97 (Value.string x98) w96) ∧
  ∃ (x99p : Option Addr) (x99n : Nat) (x99c : Nat), Qt C85 (Value.slice x99p x99n x99c) (fun w100 K101 =>
  LdL (Addr.add ⟨b26, 0, none⟩ 2) w100 fun x102p x102n x102c =>
  K101 (Value.slice x102p x102n x102c) w100) ∧
  SlP x99p x99n x99c 1 0 x83 fun x103p x103n x103c =>
  ∃ (x104 : ByteArray), Qt C85 (Value.string x104) (fun w105 K106 =>
  Run Try.prog (convert 28 9 (Value.slice x103p x103n x103c)) w105 fun v107 w108 =>
  AsS v107 fun x109 =>
  K106 (Value.string x109) w108) ∧
  CatK x95 x104 (
  IxP (some ⟨b13, 0, none⟩) 2 x86 1 fun a110 =>
  Ef C85 (fun w113 K112 =>
  St1 a110 (Value.string (x95 ++ x104)) w113 fun w115 =>
  K112 (Value.tuple #[]) w115) fun v114 D111 =>
  v114 = (Value.tuple #[]) ∧
  (True) ∧
  ∀ G116 w117, Cls.p D111 G116 w117 →
  J39 [] w117)))))) ∧
  ∀ w118, J39 [] w118 →
  Lp fun I119 mu120 =>
  I119 [(Value.int .i64 0)] w118 ∧
  ∀ (s121 : Int), ∀ w122, I119 [(Value.int .i64 s121)] w122 →
  Bif (decide (s121 < 2)) (
  IxP (some ⟨b13, 0, none⟩) 2 (IntKind.wrap .i64 (1 - s121)) 1 fun a123 =>
  LdS a123 w122 fun x124 =>
  IxP (some ⟨b15, 0, none⟩) 2 s121 1 fun a125 =>
  LdS a125 w122 fun x126 =>
  Bif (decide ((x126.size : Int) > (x124.size : Int))) (
  R (Value.bool false) w122) (
  SlS x124 0 (x126.size : Int) fun x127 =>
  Bif (!(ByteArray.toList x127 == ByteArray.toList x126)) (
  R (Value.bool false) w122) (
  CallR Try.prog 16 #[(Value.pointer x9), (Value.int .i64 s121)] w122 fun v128 w129 =>
  AsI .i64 v128 fun x130 =>
  Bif (x130 != (IntKind.wrap .i64 ((x124.size : Int) - (x126.size : Int)))) (
  R (Value.bool false) w129) (
  CallR Try.prog 16 #[(Value.pointer x9), (Value.int .i64 s121)] w129 fun v131 w132 =>
  AsI .i64 v131 fun x133 =>
  Bif (decide (x133 > (IntKind.wrap .i64 most1))) (
  R (Value.bool false) w132) (
  CallR Try.prog 17 #[(Value.pointer x9), (Value.int .i64 s121)] w132 fun v134 w135 =>
  AsI .i64 v134 fun x136 =>
  Bif (x136 != (x126.size : Int)) (
  R (Value.bool false) w135) (
  I119 [(Value.int .i64 (IntKind.wrap .i64 (s121 + 1)))] w135 ∧ mu120 [(Value.int .i64 (IntKind.wrap .i64 (s121 + 1)))] w135 < mu120 [(Value.int .i64 s121)] w122)))))) (
  I17 [(Value.int .i64 (IntKind.wrap .i64 (i19 + 1)))] w122 ∧ mu18 [(Value.int .i64 (IntKind.wrap .i64 (i19 + 1)))] w122 < mu18 [(Value.int .i64 i19)] w20)) (
  R (Value.bool x6) w20)))
theorem F3_eq (most1 : Int) (l2p : Option Addr) (l2n : Nat) (l2c : Nat) (w3 : World) (R : Value → World → Prop) : liftF Try.prog 3 (.step .nil .nil (.step .nil .nil (.step .nil .nil (.step .nil .nil (.step .nil .nil (.step .nil .nil (.step .nil .nil (.step .nil .nil (.step (.loop [(9, .b (.int .i64))] (.step .nil .nil (.step .nil .nil (.step (.step .nil .nil (.join 2 [] .nil (.step .nil .nil (.join 1 [] (.step (.step .nil .nil (.draw [(0, false), (1, false), (3, false), (4, false), (8, false), (2, false), (5, false), (6, false), (7, false), (9, false), (10, false), (11, false), (12, true)] .nil)) (.step .nil .nil (.step .nil (.step .nil .nil (.step .nil .nil (.step .nil .nil (.draw [(0, false), (1, false), (3, false), (4, false), (8, false), (10, false), (2, false), (5, false), (6, false), (7, false), (9, false), (11, false), (12, false), (13, false), (14, false), (15, true)] .nil)))) .nil)) .nil) (.step .nil .nil (.step (.loop [(14, .b (.int .i64))] .nil) .nil .nil)))))) .nil .nil)))) .nil .nil))))))))) [(Value.int .u8 most1), (Value.slice l2p l2n l2c)] w3 R = F3 most1 l2p l2n l2c w3 R := by kernel_rfl
theorem F3_of {most1 : Int} {l2p : Option Addr} {l2n : Nat} {l2c : Nat} {w3 : World} {R : Value → World → Prop} (h : F3 most1 l2p l2n l2c w3 R) : CallR Try.prog 3 #[(Value.int .u8 most1), (Value.slice l2p l2n l2c)] w3 R := callR_of_lift _ ((F3_eq most1 l2p l2n l2c w3 R).mpr h)

-- F4 subway/subwaylaw17.PumpApart
def F4 (most1 : Int) (l2p : Option Addr) (l2n : Nat) (l2c : Nat) (w3 : World) (R : Value → World → Prop) : Prop :=
  CallR Try.prog 10 #[] w3 fun v4 w5 =>
  AsB v4 fun x6 =>
  CallR Try.prog 11 #[(Value.int .i64 (IntKind.wrap .i64 most1))] w5 fun v7 w8 =>
  AsP v7 fun x9 =>
  CallR Try.prog 11 #[(Value.int .i64 (IntKind.wrap .i64 most1))] w8 fun v10 w11 =>
  AsP v10 fun x12 =>
  Bif (isNone' x9) (
  Bif (!(isNone' x9)) (
  Bif (!(isNone' x12)) (
  R (Value.bool x6) w11) (
  R (Value.bool false) w11)) (
  R (Value.bool false) w11)) (
  Bif (isNone' x12) (
  Bif (!(isNone' x9)) (
  Bif (!(isNone' x12)) (
  R (Value.bool x6) w11) (
  R (Value.bool false) w11)) (
  R (Value.bool false) w11)) (
  CallR Try.prog 12 #[(Value.slice l2p l2n l2c)] w11 fun v13 w14 =>
  AsB v13 fun x15 =>
  Bif x15 (
  Bif (!(isNone' x9)) (
  Bif (!(isNone' x12)) (
  R (Value.bool x6) w14) (
  R (Value.bool false) w14)) (
  R (Value.bool false) w14)) (
  Lp fun I16 mu17 =>
  I16 [(Value.int .i64 0)] w14 ∧
  ∀ (i18 : Int), ∀ w19, I16 [(Value.int .i64 i18)] w19 →
  Bif (decide (i18 < (l2n : Int))) (
  IxP l2p l2n i18 4 fun a20 =>
  LdI .i64 (Addr.add a20 0) w19 fun x21 =>
  LdI .i64 (Addr.add a20 1) w19 fun x22 =>
  LdL (Addr.add a20 2) w19 fun x23p x23n x23c =>
  LdI .i64 (Addr.add a20 3) w19 fun x24 =>
  NewC #[(Value.int .i64 0), (Value.int .i64 0), (Value.slice none 0 0), (Value.int .i64 0)] 30 w19 fun b25 w26 =>
  St1 (Addr.add ⟨b25, 0, none⟩ 0) (Value.int .i64 x21) w26 fun w27 =>
  St1 (Addr.add ⟨b25, 0, none⟩ 1) (Value.int .i64 x22) w27 fun w28 =>
  St1 (Addr.add ⟨b25, 0, none⟩ 2) (Value.slice x23p x23n x23c) w28 fun w29 =>
  St1 (Addr.add ⟨b25, 0, none⟩ 3) (Value.int .i64 x24) w29 fun w30 =>
  Jn fun J31 => (
  LdI .i64 (Addr.add ⟨b25, 0, none⟩ 1) w30 fun x32 =>
  Bif (x32 != 0) (
  LdI .i64 (Addr.add ⟨b25, 0, none⟩ 1) w30 fun x33 =>
  Bif (x33 != 1) (
  I16 [(Value.int .i64 (IntKind.wrap .i64 (i18 + 1)))] w30 ∧ mu17 [(Value.int .i64 (IntKind.wrap .i64 (i18 + 1)))] w30 < mu17 [(Value.int .i64 i18)] w19) (
  LdI .i64 (Addr.add ⟨b25, 0, none⟩ 0) w30 fun x34 =>
  Bif (x34 == 4) (
  I16 [(Value.int .i64 (IntKind.wrap .i64 (i18 + 1)))] w30 ∧ mu17 [(Value.int .i64 (IntKind.wrap .i64 (i18 + 1)))] w30 < mu17 [(Value.int .i64 i18)] w19) (
  J31 [] w30))) (
  LdI .i64 (Addr.add ⟨b25, 0, none⟩ 0) w30 fun x35 =>
  Bif (x35 == 4) (
  I16 [(Value.int .i64 (IntKind.wrap .i64 (i18 + 1)))] w30 ∧ mu17 [(Value.int .i64 (IntKind.wrap .i64 (i18 + 1)))] w30 < mu17 [(Value.int .i64 i18)] w19) (
  J31 [] w30))) ∧
  ∀ w36, J31 [] w36 →
  Jn fun J37 => (
  LdI .i64 (Addr.add ⟨b25, 0, none⟩ 0) w36 fun x38 =>
  Bif (x38 == 2) (
  LdI .i64 (Addr.add ⟨b25, 0, none⟩ 1) w36 fun x39 =>
  Bif (x39 == 1) (
  J37 [(Value.bool true)] w36) (
  LdI .i64 (Addr.add ⟨b25, 0, none⟩ 0) w36 fun x40 =>
  Bif (x40 != 2) (
  LdI .i64 (Addr.add ⟨b25, 0, none⟩ 1) w36 fun x41 =>
  J37 [(Value.bool (x41 == 0))] w36) (
  J37 [(Value.bool false)] w36))) (
  LdI .i64 (Addr.add ⟨b25, 0, none⟩ 0) w36 fun x42 =>
  Bif (x42 != 2) (
  LdI .i64 (Addr.add ⟨b25, 0, none⟩ 1) w36 fun x43 =>
  J37 [(Value.bool (x43 == 0))] w36) (
  J37 [(Value.bool false)] w36))) ∧
  ∀ (own44 : Bool), ∀ w45, J37 [(Value.bool own44)] w45 →
  LdI .i64 (Addr.add ⟨b25, 0, none⟩ 0) w45 fun x46 =>
  Jn fun J47 => (
  Bif (x46 == 2) (
  LdI .i64 (Addr.add ⟨b25, 0, none⟩ 1) w45 fun x48 =>
  LdI .i64 (Addr.add ⟨b25, 0, none⟩ 3) w45 fun x49 =>
  CallR Try.prog 13 #[(Value.pointer x9), (Value.int .i64 x48), (Value.int .i64 x49)] w45 fun v50 w51 =>
  ∃ (x52p : Option Addr) (x52n : Nat) (x52c : Nat), ∃ (x53 : Bool), v50 = (Value.tuple #[(Value.slice x52p x52n x52c), (Value.bool x53)]) ∧
  Bif own44 (
  LdI .i64 (Addr.add ⟨b25, 0, none⟩ 1) w51 fun x54 =>
  LdI .i64 (Addr.add ⟨b25, 0, none⟩ 3) w51 fun x55 =>
  CallR Try.prog 13 #[(Value.pointer x12), (Value.int .i64 x54), (Value.int .i64 x55)] w51 fun v56 w57 =>
  ∃ (x58p : Option Addr) (x58n : Nat) (x58c : Nat), ∃ (x59 : Bool), v56 = (Value.tuple #[(Value.slice x58p x58n x58c), (Value.bool x59)]) ∧
  Run Try.prog (convert 28 9 (Value.slice x52p x52n x52c)) w57 fun v60 w61 =>
  AsS v60 fun x62 =>
  Run Try.prog (convert 28 9 (Value.slice x58p x58n x58c)) w61 fun v63 w64 =>
  AsS v63 fun x65 =>
  Bif (!(ByteArray.toList x62 == ByteArray.toList x65)) (
  R (Value.bool false) w64) (
  Bif (!(x53 == x59)) (
  R (Value.bool false) w64) (
  J47 [] w64))) (
  J47 [] w51)) (
  LdI .i64 (Addr.add ⟨b25, 0, none⟩ 0) w45 fun x66 =>
  Bif (x66 == 3) (
  LdI .i64 (Addr.add ⟨b25, 0, none⟩ 1) w45 fun x67 =>
  CallR Try.prog 14 #[(Value.pointer x9), (Value.int .i64 x67)] w45 fun v68 w69 =>
  AsB v68 fun x70 =>
  Bif own44 (
  LdI .i64 (Addr.add ⟨b25, 0, none⟩ 1) w69 fun x71 =>
  CallR Try.prog 14 #[(Value.pointer x12), (Value.int .i64 x71)] w69 fun v72 w73 =>
  AsB v72 fun x74 =>
  Bif (!(x70 == x74)) (
  R (Value.bool false) w73) (
  J47 [] w73)) (
  J47 [] w69)) (
  LdI .i64 (Addr.add ⟨b25, 0, none⟩ 1) w45 fun x75 =>
  LdL (Addr.add ⟨b25, 0, none⟩ 2) w45 fun x76p x76n x76c =>
  CallR Try.prog 15 #[(Value.pointer x9), (Value.int .i64 x75), (Value.slice x76p x76n x76c)] w45 fun v77 w78 =>
  AsI .i64 v77 fun x79 =>
  Bif own44 (
  LdI .i64 (Addr.add ⟨b25, 0, none⟩ 1) w78 fun x80 =>
  LdL (Addr.add ⟨b25, 0, none⟩ 2) w78 fun x81p x81n x81c =>
  CallR Try.prog 15 #[(Value.pointer x12), (Value.int .i64 x80), (Value.slice x81p x81n x81c)] w78 fun v82 w83 =>
  AsI .i64 v82 fun x84 =>
  Bif (x79 != x84) (
  R (Value.bool false) w83) (
  J47 [] w83)) (
  J47 [] w78)))) ∧
  ∀ w85, J47 [] w85 →
  CallR Try.prog 16 #[(Value.pointer x9), (Value.int .i64 1)] w85 fun v86 w87 =>
  AsI .i64 v86 fun x88 =>
  CallR Try.prog 16 #[(Value.pointer x12), (Value.int .i64 1)] w87 fun v89 w90 =>
  AsI .i64 v89 fun x91 =>
  Bif (x88 != x91) (
  R (Value.bool false) w90) (
  CallR Try.prog 18 #[(Value.pointer x9), (Value.int .i64 0)] w90 fun v92 w93 =>
  AsI .i64 v92 fun x94 =>
  CallR Try.prog 18 #[(Value.pointer x12), (Value.int .i64 0)] w93 fun v95 w96 =>
  AsI .i64 v95 fun x97 =>
  Bif (x94 != x97) (
  R (Value.bool false) w96) (
  CallR Try.prog 17 #[(Value.pointer x9), (Value.int .i64 1)] w96 fun v98 w99 =>
  AsI .i64 v98 fun x100 =>
  CallR Try.prog 17 #[(Value.pointer x12), (Value.int .i64 1)] w99 fun v101 w102 =>
  AsI .i64 v101 fun x103 =>
  Bif (x100 != x103) (
  R (Value.bool false) w102) (
  I16 [(Value.int .i64 (IntKind.wrap .i64 (i18 + 1)))] w102 ∧ mu17 [(Value.int .i64 (IntKind.wrap .i64 (i18 + 1)))] w102 < mu17 [(Value.int .i64 i18)] w19)))) (
  R (Value.bool x6) w19))))
theorem F4_eq (most1 : Int) (l2p : Option Addr) (l2n : Nat) (l2c : Nat) (w3 : World) (R : Value → World → Prop) : liftF Try.prog 4 (.step .nil .nil (.step .nil .nil (.step .nil .nil (.step .nil .nil (.step .nil .nil (.step .nil .nil (.step .nil .nil (.step (.loop [(8, .b (.int .i64))] (.step .nil .nil (.step .nil .nil (.step (.step .nil .nil (.join 2 [] .nil (.join 1 [(10, .b .bool)] .nil (.step .nil .nil (.join 1 [] .nil .nil))))) .nil .nil)))) .nil .nil)))))))) [(Value.int .u8 most1), (Value.slice l2p l2n l2c)] w3 R = F4 most1 l2p l2n l2c w3 R := by kernel_rfl
theorem F4_of {most1 : Int} {l2p : Option Addr} {l2n : Nat} {l2c : Nat} {w3 : World} {R : Value → World → Prop} (h : F4 most1 l2p l2n l2c w3 R) : CallR Try.prog 4 #[(Value.int .u8 most1), (Value.slice l2p l2n l2c)] w3 R := callR_of_lift _ ((F4_eq most1 l2p l2n l2c w3 R).mpr h)

-- F5 subway/subwaylaw17.PumpPieces
def F5 (most1 : Int) (b2p : Option Addr) (b2n : Nat) (b2c : Nat) (inv3p : Option Addr) (inv3n : Nat) (inv3c : Nat) (out4p : Option Addr) (out4n : Nat) (out4c : Nat) (w5 : World) (R : Value → World → Prop) : Prop :=
  CallR Try.prog 10 #[] w5 fun v6 w7 =>
  AsB v6 fun x8 =>
  CallR Try.prog 11 #[(Value.int .i64 (IntKind.wrap .i64 most1))] w7 fun v9 w10 =>
  AsP v9 fun x11 =>
  CallR Try.prog 11 #[(Value.int .i64 (IntKind.wrap .i64 most1))] w10 fun v12 w13 =>
  AsP v12 fun x14 =>
  Bif (isNone' x11) (
  Bif (!(isNone' x11)) (
  Bif (!(isNone' x14)) (
  R (Value.bool x8) w13) (
  R (Value.bool false) w13)) (
  R (Value.bool false) w13)) (
  Bif (isNone' x14) (
  Bif (!(isNone' x11)) (
  Bif (!(isNone' x14)) (
  R (Value.bool x8) w13) (
  R (Value.bool false) w13)) (
  R (Value.bool false) w13)) (
  Bif (decide ((b2n : Int) > (IntKind.wrap .i64 most1))) (
  Bif (!(isNone' x11)) (
  Bif (!(isNone' x14)) (
  R (Value.bool x8) w13) (
  R (Value.bool false) w13)) (
  R (Value.bool false) w13)) (
  Bif (decide ((inv3n : Int) > 300)) (
  Bif (!(isNone' x11)) (
  Bif (!(isNone' x14)) (
  R (Value.bool x8) w13) (
  R (Value.bool false) w13)) (
  R (Value.bool false) w13)) (
  Bif (decide ((out4n : Int) > 300)) (
  Bif (!(isNone' x11)) (
  Bif (!(isNone' x14)) (
  R (Value.bool x8) w13) (
  R (Value.bool false) w13)) (
  R (Value.bool false) w13)) (
  CallR Try.prog 15 #[(Value.pointer x11), (Value.int .i64 0), (Value.slice b2p b2n b2c)] w13 fun v15 w16 =>
  AsI .i64 v15 fun x17 =>
  CallR Try.prog 14 #[(Value.pointer x11), (Value.int .i64 0)] w16 fun v18 w19 =>
  AsB v18 fun x20 =>
  CallR Try.prog 13 #[(Value.pointer x11), (Value.int .i64 1), (Value.int .i64 (b2n : Int))] w19 fun v21 w22 =>
  ∃ (x23p : Option Addr) (x23n : Nat) (x23c : Nat), ∃ (x24 : Bool), v21 = (Value.tuple #[(Value.slice x23p x23n x23c), (Value.bool x24)]) ∧
  Lp fun I25 mu26 =>
  I25 [(Value.int .i64 0), (Value.int .i64 0)] w22 ∧
  ∀ (atv27 : Int), ∀ (i28 : Int), ∀ w29, I25 [(Value.int .i64 atv27), (Value.int .i64 i28)] w29 →
  Bif (decide (i28 ≤ (inv3n : Int))) (
  Jn fun J30 => (
  Bif (decide (i28 < (inv3n : Int))) (
  IxP inv3p inv3n i28 1 fun a31 =>
  LdI .u8 a31 w29 fun x32 =>
  J30 [(Value.int .i64 (if (IntKind.wrap .i64 ((b2n : Int) - atv27)) < (IntKind.wrap .i64 x32) then (IntKind.wrap .i64 ((b2n : Int) - atv27)) else (IntKind.wrap .i64 x32)))] w29) (
  J30 [(Value.int .i64 (IntKind.wrap .i64 ((b2n : Int) - atv27)))] w29)) ∧
  ∀ (m33 : Int), ∀ w34, J30 [(Value.int .i64 m33)] w34 →
  SlP b2p b2n b2c 1 atv27 (IntKind.wrap .i64 (atv27 + m33)) fun x35p x35n x35c =>
  CallR Try.prog 15 #[(Value.pointer x14), (Value.int .i64 0), (Value.slice x35p x35n x35c)] w34 fun v36 w37 =>
  AsI .i64 v36 fun x38 =>
  Bif (x38 != m33) (
  R (Value.bool false) w37) (
  I25 [(Value.int .i64 (IntKind.wrap .i64 (atv27 + m33))), (Value.int .i64 (IntKind.wrap .i64 (i28 + 1)))] w37 ∧ mu26 [(Value.int .i64 (IntKind.wrap .i64 (atv27 + m33))), (Value.int .i64 (IntKind.wrap .i64 (i28 + 1)))] w37 < mu26 [(Value.int .i64 atv27), (Value.int .i64 i28)] w29)) (
  CallR Try.prog 14 #[(Value.pointer x14), (Value.int .i64 0)] w29 fun v39 w40 =>
  AsB v39 fun x41 =>
  Lp fun I42 mu43 =>
  I42 [(Value.string ⟨#[]⟩), (Value.int .i64 0), (Value.int .i64 0)] w40 ∧
  ∀ (got44 : ByteArray), ∀ (ends45 : Int), ∀ (i46 : Int), ∀ w47, I42 [(Value.string got44), (Value.int .i64 ends45), (Value.int .i64 i46)] w47 →
  Bif (decide (i46 ≤ (out4n : Int))) (
  Jn fun J48 => (
  Bif (decide (i46 < (out4n : Int))) (
  IxP out4p out4n i46 1 fun a49 =>
  LdI .u8 a49 w47 fun x50 =>
  J48 [(Value.int .i64 (IntKind.wrap .i64 x50))] w47) (
  J48 [(Value.int .i64 300)] w47)) ∧
  ∀ (m51 : Int), ∀ w52, J48 [(Value.int .i64 m51)] w52 →
  CallR Try.prog 13 #[(Value.pointer x14), (Value.int .i64 1), (Value.int .i64 m51)] w52 fun v53 w54 =>
  ∃ (x55p : Option Addr) (x55n : Nat) (x55c : Nat), ∃ (x56 : Bool), v53 = (Value.tuple #[(Value.slice x55p x55n x55c), (Value.bool x56)]) ∧
  Run Try.prog (convert 28 9 (Value.slice x55p x55n x55c)) w54 fun v57 w58 =>
  AsS v57 fun x59 =>
  CatK got44 x59 (
  Bif x56 (
  I42 [(Value.string (got44 ++ x59)), (Value.int .i64 (IntKind.wrap .i64 (ends45 + 1))), (Value.int .i64 (IntKind.wrap .i64 (i46 + 1)))] w58 ∧ mu43 [(Value.string (got44 ++ x59)), (Value.int .i64 (IntKind.wrap .i64 (ends45 + 1))), (Value.int .i64 (IntKind.wrap .i64 (i46 + 1)))] w58 < mu43 [(Value.string got44), (Value.int .i64 ends45), (Value.int .i64 i46)] w47) (
  I42 [(Value.string (got44 ++ x59)), (Value.int .i64 ends45), (Value.int .i64 (IntKind.wrap .i64 (i46 + 1)))] w58 ∧ mu43 [(Value.string (got44 ++ x59)), (Value.int .i64 ends45), (Value.int .i64 (IntKind.wrap .i64 (i46 + 1)))] w58 < mu43 [(Value.string got44), (Value.int .i64 ends45), (Value.int .i64 i46)] w47))) (
  Bif x8 (
  Bif (x17 == (b2n : Int)) (
  Run Try.prog (convert 28 9 (Value.slice x23p x23n x23c)) w47 fun v60 w61 =>
  AsS v60 fun x62 =>
  Run Try.prog (convert 28 9 (Value.slice b2p b2n b2c)) w61 fun v63 w64 =>
  AsS v63 fun x65 =>
  Bif (ByteArray.toList x62 == ByteArray.toList x65) (
  Bif x24 (
  Run Try.prog (convert 28 9 (Value.slice b2p b2n b2c)) w64 fun v66 w67 =>
  AsS v66 fun x68 =>
  Bif (ByteArray.toList got44 == ByteArray.toList x68) (
  R (Value.bool (ends45 == 1)) w67) (
  R (Value.bool false) w67)) (
  R (Value.bool false) w64)) (
  R (Value.bool false) w64)) (
  R (Value.bool false) w47)) (
  R (Value.bool false) w47))))))))
theorem F5_eq (most1 : Int) (b2p : Option Addr) (b2n : Nat) (b2c : Nat) (inv3p : Option Addr) (inv3n : Nat) (inv3c : Nat) (out4p : Option Addr) (out4n : Nat) (out4c : Nat) (w5 : World) (R : Value → World → Prop) : liftF Try.prog 5 (.step .nil .nil (.step .nil .nil (.step .nil .nil (.step .nil .nil (.step .nil .nil (.step .nil .nil (.step .nil .nil (.step .nil .nil (.step .nil .nil (.step .nil .nil (.step .nil .nil (.step (.loop [(15, .b (.int .i64)), (16, .b (.int .i64))] (.step .nil .nil (.step .nil .nil (.step (.step .nil .nil (.step .nil .nil (.join 1 [(17, .b (.int .i64))] .nil .nil))) .nil .nil)))) .nil (.step .nil .nil (.step .nil .nil (.step .nil .nil (.step .nil .nil (.step (.loop [(18, .b .str), (19, .b (.int .i64)), (20, .b (.int .i64))] (.step .nil .nil (.step .nil .nil (.step (.step .nil .nil (.step .nil .nil (.join 1 [(21, .b (.int .i64))] .nil .nil))) .nil .nil)))) .nil .nil))))))))))))))))) [(Value.int .u8 most1), (Value.slice b2p b2n b2c), (Value.slice inv3p inv3n inv3c), (Value.slice out4p out4n out4c)] w5 R = F5 most1 b2p b2n b2c inv3p inv3n inv3c out4p out4n out4c w5 R := by kernel_rfl
theorem F5_of {most1 : Int} {b2p : Option Addr} {b2n : Nat} {b2c : Nat} {inv3p : Option Addr} {inv3n : Nat} {inv3c : Nat} {out4p : Option Addr} {out4n : Nat} {out4c : Nat} {w5 : World} {R : Value → World → Prop} (h : F5 most1 b2p b2n b2c inv3p inv3n inv3c out4p out4n out4c w5 R) : CallR Try.prog 5 #[(Value.int .u8 most1), (Value.slice b2p b2n b2c), (Value.slice inv3p inv3n inv3c), (Value.slice out4p out4n out4c)] w5 R := callR_of_lift _ ((F5_eq most1 b2p b2n b2c inv3p inv3n inv3c out4p out4n out4c w5 R).mpr h)

-- F6 subway/subwaylaw17.PumpSums
def F6 (most1 : Int) (l2p : Option Addr) (l2n : Nat) (l2c : Nat) (w3 : World) (R : Value → World → Prop) : Prop :=
  CallR Try.prog 10 #[] w3 fun v4 w5 =>
  AsB v4 fun x6 =>
  CallR Try.prog 11 #[(Value.int .i64 (IntKind.wrap .i64 most1))] w5 fun v7 w8 =>
  AsP v7 fun x9 =>
  Bif (isNone' x9) (
  Bif (!(isNone' x9)) (
  R (Value.bool x6) w8) (
  R (Value.bool false) w8)) (
  CallR Try.prog 12 #[(Value.slice l2p l2n l2c)] w8 fun v10 w11 =>
  AsB v10 fun x12 =>
  Bif x12 (
  Bif (!(isNone' x9)) (
  R (Value.bool x6) w11) (
  R (Value.bool false) w11)) (
  NewC #[(Value.int .i64 0), (Value.int .i64 0)] 3 w11 fun b13 w14 =>
  NewC #[(Value.bool false), (Value.bool false)] 4 w14 fun b15 w16 =>
  Lp fun I17 mu18 =>
  I17 [(Value.int .i64 0)] w16 ∧
  ∀ (i19 : Int), ∀ w20, I17 [(Value.int .i64 i19)] w20 →
  Bif (decide (i19 < (l2n : Int))) (
  IxP l2p l2n i19 4 fun a21 =>
  LdI .i64 (Addr.add a21 0) w20 fun x22 =>
  LdI .i64 (Addr.add a21 1) w20 fun x23 =>
  LdL (Addr.add a21 2) w20 fun x24p x24n x24c =>
  LdI .i64 (Addr.add a21 3) w20 fun x25 =>
  NewC #[(Value.int .i64 0), (Value.int .i64 0), (Value.slice none 0 0), (Value.int .i64 0)] 30 w20 fun b26 w27 =>
  St1 (Addr.add ⟨b26, 0, none⟩ 0) (Value.int .i64 x22) w27 fun w28 =>
  St1 (Addr.add ⟨b26, 0, none⟩ 1) (Value.int .i64 x23) w28 fun w29 =>
  St1 (Addr.add ⟨b26, 0, none⟩ 2) (Value.slice x24p x24n x24c) w29 fun w30 =>
  St1 (Addr.add ⟨b26, 0, none⟩ 3) (Value.int .i64 x25) w30 fun w31 =>
  Jn fun J32 => (
  LdI .i64 (Addr.add ⟨b26, 0, none⟩ 1) w31 fun x33 =>
  Bif (x33 != 0) (
  LdI .i64 (Addr.add ⟨b26, 0, none⟩ 1) w31 fun x34 =>
  Bif (x34 != 1) (
  I17 [(Value.int .i64 (IntKind.wrap .i64 (i19 + 1)))] w31 ∧ mu18 [(Value.int .i64 (IntKind.wrap .i64 (i19 + 1)))] w31 < mu18 [(Value.int .i64 i19)] w20) (
  LdI .i64 (Addr.add ⟨b26, 0, none⟩ 0) w31 fun x35 =>
  Bif (x35 == 4) (
  I17 [(Value.int .i64 (IntKind.wrap .i64 (i19 + 1)))] w31 ∧ mu18 [(Value.int .i64 (IntKind.wrap .i64 (i19 + 1)))] w31 < mu18 [(Value.int .i64 i19)] w20) (
  J32 [] w31))) (
  LdI .i64 (Addr.add ⟨b26, 0, none⟩ 0) w31 fun x36 =>
  Bif (x36 == 4) (
  I17 [(Value.int .i64 (IntKind.wrap .i64 (i19 + 1)))] w31 ∧ mu18 [(Value.int .i64 (IntKind.wrap .i64 (i19 + 1)))] w31 < mu18 [(Value.int .i64 i19)] w20) (
  J32 [] w31))) ∧
  ∀ w37, J32 [] w37 →
  LdI .i64 (Addr.add ⟨b26, 0, none⟩ 0) w37 fun x38 =>
  Jn fun J39 => (
  Bif (x38 == 2) (
  LdI .i64 (Addr.add ⟨b26, 0, none⟩ 1) w37 fun x40 =>
  LdI .i64 (Addr.add ⟨b26, 0, none⟩ 3) w37 fun x41 =>
  CallR Try.prog 13 #[(Value.pointer x9), (Value.int .i64 x40), (Value.int .i64 x41)] w37 fun v42 w43 =>
  ∃ (x44p : Option Addr) (x44n : Nat) (x44c : Nat), ∃ (x45 : Bool), v42 = (Value.tuple #[(Value.slice x44p x44n x44c), (Value.bool x45)]) ∧
  J39 [] w43) (
  LdI .i64 (Addr.add ⟨b26, 0, none⟩ 0) w37 fun x46 =>
  Bif (x46 == 3) (
  LdI .i64 (Addr.add ⟨b26, 0, none⟩ 1) w37 fun x47 =>
  CallR Try.prog 14 #[(Value.pointer x9), (Value.int .i64 x47)] w37 fun v48 w49 =>
  AsB v48 fun x50 =>
  LdI .i64 (Addr.add ⟨b26, 0, none⟩ 1) w49 fun x51 =>
  IxP (some ⟨b15, 0, none⟩) 2 x51 1 fun a52 =>
  St1 a52 (Value.bool true) w49 fun w53 =>
  J39 [] w53) (
  ∃ (C54 : Cls), Cls.p C54 [] w37 ∧
  ∃ (x55 : Int), Qt C54 (Value.int .i64 x55) (fun w56 K57 =>
  LdI .i64 (Addr.add ⟨b26, 0, none⟩ 1) w56 fun x58 =>
  K57 (Value.int .i64 x58) w56) ∧
  ∃ (x59 : Int), Qt C54 (Value.int .i64 x59) (fun w60 K61 =>
  LdI .i64 (Addr.add ⟨b26, 0, none⟩ 1) w60 fun x62 =>
  K61 (Value.int .i64 x62) w60) ∧
  IxP (some ⟨b13, 0, none⟩) 2 x59 1 fun a63 =>
  ∃ (x64 : Int), Qt C54 (Value.int .i64 x64) (fun w65 K66 =>
  LdI .i64 a63 w65 fun x67 =>
  K66 (Value.int .i64 x67) w65) ∧
  ∃ (x68 : Int), Qt C54 (Value.int .i64 x68) (fun w69 K70 =>
  LdI .i64 (Addr.add ⟨b26, 0, none⟩ 1) w69 fun x71 =>
  K70 (Value.int .i64 x71) w69) ∧
  ∃ (x72p : Option Addr) (x72n : Nat) (x72c : Nat), Qt C54 (Value.slice x72p x72n x72c) (fun w73 K74 =>
  LdL (Addr.add ⟨b26, 0, none⟩ 2) w73 fun x75p x75n x75c =>
  K74 (Value.slice x75p x75n x75c) w73) ∧
  Ef C54 (fun w79 K78 =>
  CallR Try.prog 15 #[(Value.pointer x9), (Value.int .i64 x68), (Value.slice x72p x72n x72c)] w79 fun v81 w82 =>
  AsI .i64 v81 fun x83 =>
  K78 (Value.int .i64 x83) w82) fun v80 D77 =>
  AsI .i64 v80 fun x84 =>
  (Qt D77 (Value.int .i64 x64) (fun w85 K86 =>
  LdI .i64 a63 w85 fun x87 =>
  K86 (Value.int .i64 x87) w85) ∧
  Qt D77 (Value.int .i64 x59) (fun w88 K89 =>
  LdI .i64 (Addr.add ⟨b26, 0, none⟩ 1) w88 fun x90 =>
  K89 (Value.int .i64 x90) w88) ∧
  Qt D77 (Value.int .i64 x55) (fun w91 K92 =>
  LdI .i64 (Addr.add ⟨b26, 0, none⟩ 1) w91 fun x93 =>
  K92 (Value.int .i64 x93) w91)) ∧
  IxP (some ⟨b13, 0, none⟩) 2 x55 1 fun a94 =>
  Ef D77 (fun w97 K96 =>
  St1 a94 (Value.int .i64 (IntKind.wrap .i64 (x64 + x84))) w97 fun w99 =>
  K96 (Value.tuple #[]) w99) fun v98 D95 =>
  v98 = (Value.tuple #[]) ∧
  (True) ∧
  ∀ G100 w101, Cls.p D95 G100 w101 →
  J39 [] w101))) ∧
  ∀ w102, J39 [] w102 →
  Lp fun I103 mu104 =>
  I103 [(Value.int .i64 0)] w102 ∧
  ∀ (s105 : Int), ∀ w106, I103 [(Value.int .i64 s105)] w106 →
  Bif (decide (s105 < 2)) (
  ∃ (C107 : Cls), Cls.p C107 [] w106 ∧
  IxP (some ⟨b13, 0, none⟩) 2 s105 1 fun a108 =>
  ∃ (x109 : Int), Qt C107 (Value.int .i64 x109) (fun w110 K111 =>
  LdI .i64 a108 w110 fun x112 =>
  K111 (Value.int .i64 x112) w110) ∧
  Ef C107 (fun w116 K115 =>
  CallR Try.prog 17 #[(Value.pointer x9), (Value.int .i64 (IntKind.wrap .i64 (1 - s105)))] w116 fun v118 w119 =>
  AsI .i64 v118 fun x120 =>
  K115 (Value.int .i64 x120) w119) fun v117 D114 =>
  AsI .i64 v117 fun x121 =>
  (Qt D114 (Value.int .i64 x109) (fun w122 K123 =>
  LdI .i64 a108 w122 fun x124 =>
  K123 (Value.int .i64 x124) w122)) ∧
  Ef D114 (fun w128 K127 =>
  CallR Try.prog 16 #[(Value.pointer x9), (Value.int .i64 (IntKind.wrap .i64 (1 - s105)))] w128 fun v130 w131 =>
  AsI .i64 v130 fun x132 =>
  K127 (Value.int .i64 x132) w131) fun v129 D126 =>
  AsI .i64 v129 fun x133 =>
  (Qt D126 (Value.int .i64 x109) (fun w134 K135 =>
  LdI .i64 a108 w134 fun x136 =>
  K135 (Value.int .i64 x136) w134)) ∧
  Bif ((IntKind.wrap .i64 (x121 + x133)) != x109) (
  ∀ G137 w138, Cls.p D126 G137 w138 →
  R (Value.bool false) w138) (
  IxP (some ⟨b15, 0, none⟩) 2 s105 1 fun a139 =>
  ∃ (x140 : Bool), Qt D126 (Value.bool x140) (fun w141 K142 =>
  LdB a139 w141 fun x143 =>
  K142 (Value.bool x143) w141) ∧
  Bif (!x140) (
  Ef D126 (fun w147 K146 =>
  CallR Try.prog 18 #[(Value.pointer x9), (Value.int .i64 s105)] w147 fun v149 w150 =>
  AsI .i64 v149 fun x151 =>
  K146 (Value.int .i64 x151) w150) fun v148 D145 =>
  AsI .i64 v148 fun x152 =>
  (True) ∧
  Ef D145 (fun w156 K155 =>
  CallR Try.prog 16 #[(Value.pointer x9), (Value.int .i64 (IntKind.wrap .i64 (1 - s105)))] w156 fun v158 w159 =>
  AsI .i64 v158 fun x160 =>
  K155 (Value.int .i64 x160) w159) fun v157 D154 =>
  AsI .i64 v157 fun x161 =>
  (True) ∧
  Bif (x152 != (IntKind.wrap .i64 ((IntKind.wrap .i64 most1) - x161))) (
  ∀ G162 w163, Cls.p D154 G162 w163 →
  R (Value.bool false) w163) (
  IxP (some ⟨b15, 0, none⟩) 2 s105 1 fun a164 =>
  ∃ (x165 : Bool), Qt D154 (Value.bool x165) (fun w166 K167 =>
  LdB a164 w166 fun x168 =>
  K167 (Value.bool x168) w166) ∧
  Bif x165 (
  Ef D154 (fun w172 K171 =>
  CallR Try.prog 18 #[(Value.pointer x9), (Value.int .i64 s105)] w172 fun v174 w175 =>
  AsI .i64 v174 fun x176 =>
  K171 (Value.int .i64 x176) w175) fun v173 D170 =>
  AsI .i64 v173 fun x177 =>
  (True) ∧
  ∀ G178 w179, Cls.p D170 G178 w179 →
  Bif (x177 != 0) (
  R (Value.bool false) w179) (
  I103 [(Value.int .i64 (IntKind.wrap .i64 (s105 + 1)))] w179 ∧ mu104 [(Value.int .i64 (IntKind.wrap .i64 (s105 + 1)))] w179 < mu104 [(Value.int .i64 s105)] w106)) (
  ∀ G180 w181, Cls.p D154 G180 w181 →
  I103 [(Value.int .i64 (IntKind.wrap .i64 (s105 + 1)))] w181 ∧ mu104 [(Value.int .i64 (IntKind.wrap .i64 (s105 + 1)))] w181 < mu104 [(Value.int .i64 s105)] w106))) (
  IxP (some ⟨b15, 0, none⟩) 2 s105 1 fun a182 =>
  ∃ (x183 : Bool), Qt D126 (Value.bool x183) (fun w184 K185 =>
  LdB a182 w184 fun x186 =>
  K185 (Value.bool x186) w184) ∧
  Bif x183 (
  Ef D126 (fun w190 K189 =>
  CallR Try.prog 18 #[(Value.pointer x9), (Value.int .i64 s105)] w190 fun v192 w193 =>
  AsI .i64 v192 fun x194 =>
  K189 (Value.int .i64 x194) w193) fun v191 D188 =>
  AsI .i64 v191 fun x195 =>
  (True) ∧
  ∀ G196 w197, Cls.p D188 G196 w197 →
  Bif (x195 != 0) (
  R (Value.bool false) w197) (
  I103 [(Value.int .i64 (IntKind.wrap .i64 (s105 + 1)))] w197 ∧ mu104 [(Value.int .i64 (IntKind.wrap .i64 (s105 + 1)))] w197 < mu104 [(Value.int .i64 s105)] w106)) (
  ∀ G198 w199, Cls.p D126 G198 w199 →
  I103 [(Value.int .i64 (IntKind.wrap .i64 (s105 + 1)))] w199 ∧ mu104 [(Value.int .i64 (IntKind.wrap .i64 (s105 + 1)))] w199 < mu104 [(Value.int .i64 s105)] w106)))) (
  I17 [(Value.int .i64 (IntKind.wrap .i64 (i19 + 1)))] w106 ∧ mu18 [(Value.int .i64 (IntKind.wrap .i64 (i19 + 1)))] w106 < mu18 [(Value.int .i64 i19)] w20)) (
  R (Value.bool x6) w20)))
theorem F6_eq (most1 : Int) (l2p : Option Addr) (l2n : Nat) (l2c : Nat) (w3 : World) (R : Value → World → Prop) : liftF Try.prog 6 (.step .nil .nil (.step .nil .nil (.step .nil .nil (.step .nil .nil (.step .nil .nil (.step .nil .nil (.step .nil .nil (.step .nil .nil (.step (.loop [(9, .b (.int .i64))] (.step .nil .nil (.step .nil .nil (.step (.step .nil .nil (.join 2 [] .nil (.step .nil .nil (.join 1 [] (.step .nil (.step .nil .nil (.step .nil (.draw [(0, false), (1, false), (3, false), (4, false), (8, false), (9, false), (11, false), (2, false), (5, false), (6, false), (7, false), (10, false), (12, false), (13, true), (14, false), (15, false), (16, true)] .nil) .nil)) .nil) (.step .nil .nil (.step (.loop [(11, .b (.int .i64))] (.step .nil .nil (.step .nil .nil (.step (.draw [(0, false), (1, false), (2, false), (4, false), (5, false), (6, false), (9, false), (10, false), (11, false), (12, false), (3, true), (7, true), (8, false), (13, false), (14, false), (15, false), (16, false), (17, false), (18, false), (19, false), (20, false), (21, false), (22, false), (24, false), (25, false), (26, false), (27, false), (28, false), (23, true), (29, true), (30, false), (31, false), (32, false), (33, false), (34, false), (35, false), (36, false), (37, false), (38, false), (39, false), (40, false), (41, false), (42, true), (43, false), (44, false), (45, false)] .nil) .nil .nil)))) .nil .nil)))))) .nil .nil)))) .nil .nil))))))))) [(Value.int .u8 most1), (Value.slice l2p l2n l2c)] w3 R = F6 most1 l2p l2n l2c w3 R := by kernel_rfl
theorem F6_of {most1 : Int} {l2p : Option Addr} {l2n : Nat} {l2c : Nat} {w3 : World} {R : Value → World → Prop} (h : F6 most1 l2p l2n l2c w3 R) : CallR Try.prog 6 #[(Value.int .u8 most1), (Value.slice l2p l2n l2c)] w3 R := callR_of_lift _ ((F6_eq most1 l2p l2n l2c w3 R).mpr h)

-- F7 subway/subwaylaw17.PumpPlays
def F7 (most1 : Int) (l2p : Option Addr) (l2n : Nat) (l2c : Nat) (w3 : World) (R : Value → World → Prop) : Prop :=
  CallR Try.prog 10 #[] w3 fun v4 w5 =>
  AsB v4 fun x6 =>
  CallR Try.prog 11 #[(Value.int .i64 most1)] w5 fun v7 w8 =>
  AsP v7 fun x9 =>
  CallR Try.prog 19 #[(Value.int .i64 most1)] w8 fun v10 w11 =>
  AsP v10 fun x12 =>
  Bif (isNone' x9) (
  Bif (!(isNone' x9)) (
  R (Value.bool x6) w11) (
  R (Value.bool false) w11)) (
  CallR Try.prog 12 #[(Value.slice l2p l2n l2c)] w11 fun v13 w14 =>
  AsB v13 fun x15 =>
  Bif x15 (
  Bif (!(isNone' x9)) (
  R (Value.bool x6) w14) (
  R (Value.bool false) w14)) (
  Lp fun I16 mu17 =>
  I16 [(Value.int .i64 0)] w14 ∧
  ∀ (i18 : Int), ∀ w19, I16 [(Value.int .i64 i18)] w19 →
  Bif (decide (i18 < (l2n : Int))) (
  IxP l2p l2n i18 4 fun a20 =>
  LdI .i64 (Addr.add a20 0) w19 fun x21 =>
  LdI .i64 (Addr.add a20 1) w19 fun x22 =>
  LdL (Addr.add a20 2) w19 fun x23p x23n x23c =>
  LdI .i64 (Addr.add a20 3) w19 fun x24 =>
  NewC #[(Value.int .i64 0), (Value.int .i64 0), (Value.slice none 0 0), (Value.int .i64 0)] 30 w19 fun b25 w26 =>
  St1 (Addr.add ⟨b25, 0, none⟩ 0) (Value.int .i64 x21) w26 fun w27 =>
  St1 (Addr.add ⟨b25, 0, none⟩ 1) (Value.int .i64 x22) w27 fun w28 =>
  St1 (Addr.add ⟨b25, 0, none⟩ 2) (Value.slice x23p x23n x23c) w28 fun w29 =>
  St1 (Addr.add ⟨b25, 0, none⟩ 3) (Value.int .i64 x24) w29 fun w30 =>
  LdI .i64 (Addr.add ⟨b25, 0, none⟩ 0) w30 fun x31 =>
  Jn fun J32 => (
  Bif (x31 == 2) (
  LdI .i64 (Addr.add ⟨b25, 0, none⟩ 1) w30 fun x33 =>
  LdI .i64 (Addr.add ⟨b25, 0, none⟩ 3) w30 fun x34 =>
  CallR Try.prog 13 #[(Value.pointer x9), (Value.int .i64 x33), (Value.int .i64 x34)] w30 fun v35 w36 =>
  ∃ (x37p : Option Addr) (x37n : Nat) (x37c : Nat), ∃ (x38 : Bool), v35 = (Value.tuple #[(Value.slice x37p x37n x37c), (Value.bool x38)]) ∧
  LdI .i64 (Addr.add ⟨b25, 0, none⟩ 1) w36 fun x39 =>
  LdI .i64 (Addr.add ⟨b25, 0, none⟩ 3) w36 fun x40 =>
  CallR Try.prog 20 #[(Value.pointer x12), (Value.int .i64 x39), (Value.int .i64 x40)] w36 fun v41 w42 =>
  ∃ (x43p : Option Addr) (x43n : Nat) (x43c : Nat), ∃ (x44 : Bool), v41 = (Value.tuple #[(Value.slice x43p x43n x43c), (Value.bool x44)]) ∧
  Run Try.prog (convert 28 9 (Value.slice x37p x37n x37c)) w42 fun v45 w46 =>
  AsS v45 fun x47 =>
  Run Try.prog (convert 28 9 (Value.slice x43p x43n x43c)) w46 fun v48 w49 =>
  AsS v48 fun x50 =>
  Bif (!(ByteArray.toList x47 == ByteArray.toList x50)) (
  R (Value.bool false) w49) (
  Bif (!(x38 == x44)) (
  R (Value.bool false) w49) (
  J32 [] w49))) (
  Bif (x31 == 3) (
  LdI .i64 (Addr.add ⟨b25, 0, none⟩ 1) w30 fun x51 =>
  CallR Try.prog 14 #[(Value.pointer x9), (Value.int .i64 x51)] w30 fun v52 w53 =>
  AsB v52 fun x54 =>
  LdI .i64 (Addr.add ⟨b25, 0, none⟩ 1) w53 fun x55 =>
  CallR Try.prog 21 #[(Value.pointer x12), (Value.int .i64 x55)] w53 fun v56 w57 =>
  AsB v56 fun x58 =>
  Bif (!(x54 == x58)) (
  R (Value.bool false) w57) (
  J32 [] w57)) (
  Bif (x31 == 4) (
  CallR Try.prog 22 #[(Value.pointer x9)] w30 fun v59 w60 =>
  v59 = (Value.tuple #[]) ∧
  CallR Try.prog 23 #[(Value.pointer x12)] w60 fun v61 w62 =>
  v61 = (Value.tuple #[]) ∧
  J32 [] w62) (
  LdI .i64 (Addr.add ⟨b25, 0, none⟩ 1) w30 fun x63 =>
  LdL (Addr.add ⟨b25, 0, none⟩ 2) w30 fun x64p x64n x64c =>
  CallR Try.prog 15 #[(Value.pointer x9), (Value.int .i64 x63), (Value.slice x64p x64n x64c)] w30 fun v65 w66 =>
  AsI .i64 v65 fun x67 =>
  LdI .i64 (Addr.add ⟨b25, 0, none⟩ 1) w66 fun x68 =>
  LdL (Addr.add ⟨b25, 0, none⟩ 2) w66 fun x69p x69n x69c =>
  CallR Try.prog 24 #[(Value.pointer x12), (Value.int .i64 x68), (Value.slice x69p x69n x69c)] w66 fun v70 w71 =>
  AsI .i64 v70 fun x72 =>
  Bif (x67 != x72) (
  R (Value.bool false) w71) (
  J32 [] w71))))) ∧
  ∀ w73, J32 [] w73 →
  Lp fun I74 mu75 =>
  I74 [(Value.int .i64 (-1))] w73 ∧
  ∀ (s76 : Int), ∀ w77, I74 [(Value.int .i64 s76)] w77 →
  Bif (decide (s76 < 3)) (
  CallR Try.prog 16 #[(Value.pointer x9), (Value.int .i64 s76)] w77 fun v78 w79 =>
  AsI .i64 v78 fun x80 =>
  CallR Try.prog 25 #[(Value.pointer x12), (Value.int .i64 s76)] w79 fun v81 w82 =>
  AsI .i64 v81 fun x83 =>
  Bif (x80 != x83) (
  R (Value.bool false) w82) (
  CallR Try.prog 18 #[(Value.pointer x9), (Value.int .i64 s76)] w82 fun v84 w85 =>
  AsI .i64 v84 fun x86 =>
  CallR Try.prog 26 #[(Value.pointer x12), (Value.int .i64 s76)] w85 fun v87 w88 =>
  AsI .i64 v87 fun x89 =>
  Bif (x86 != x89) (
  R (Value.bool false) w88) (
  CallR Try.prog 17 #[(Value.pointer x9), (Value.int .i64 s76)] w88 fun v90 w91 =>
  AsI .i64 v90 fun x92 =>
  CallR Try.prog 27 #[(Value.pointer x12), (Value.int .i64 s76)] w91 fun v93 w94 =>
  AsI .i64 v93 fun x95 =>
  Bif (x92 != x95) (
  R (Value.bool false) w94) (
  CallR Try.prog 28 #[(Value.pointer x9)] w94 fun v96 w97 =>
  AsB v96 fun x98 =>
  CallR Try.prog 29 #[(Value.pointer x12)] w97 fun v99 w100 =>
  AsB v99 fun x101 =>
  Bif (!(x98 == x101)) (
  R (Value.bool false) w100) (
  I74 [(Value.int .i64 (IntKind.wrap .i64 (s76 + 1)))] w100 ∧ mu75 [(Value.int .i64 (IntKind.wrap .i64 (s76 + 1)))] w100 < mu75 [(Value.int .i64 s76)] w77))))) (
  I16 [(Value.int .i64 (IntKind.wrap .i64 (i18 + 1)))] w77 ∧ mu17 [(Value.int .i64 (IntKind.wrap .i64 (i18 + 1)))] w77 < mu17 [(Value.int .i64 i18)] w19)) (
  R (Value.bool x6) w19)))
theorem F7_eq (most1 : Int) (l2p : Option Addr) (l2n : Nat) (l2c : Nat) (w3 : World) (R : Value → World → Prop) : liftF Try.prog 7 (.step .nil .nil (.step .nil .nil (.step .nil .nil (.step .nil .nil (.step .nil .nil (.step .nil .nil (.step .nil .nil (.step (.loop [(8, .b (.int .i64))] (.step .nil .nil (.step .nil .nil (.step (.step .nil .nil (.step .nil .nil (.join 1 [] .nil (.step .nil .nil (.step (.loop [(18, .b (.int .i64))] .nil) .nil .nil))))) .nil .nil)))) .nil .nil)))))))) [(Value.int .i64 most1), (Value.slice l2p l2n l2c)] w3 R = F7 most1 l2p l2n l2c w3 R := by kernel_rfl
theorem F7_of {most1 : Int} {l2p : Option Addr} {l2n : Nat} {l2c : Nat} {w3 : World} {R : Value → World → Prop} (h : F7 most1 l2p l2n l2c w3 R) : CallR Try.prog 7 #[(Value.int .i64 most1), (Value.slice l2p l2n l2c)] w3 R := callR_of_lift _ ((F7_eq most1 l2p l2n l2c w3 R).mpr h)

-- F8 subway/subwaylaw17.PumpEnd
def F8 (most1 : Int) (l2p : Option Addr) (l2n : Nat) (l2c : Nat) (w3 : World) (R : Value → World → Prop) : Prop :=
  CallR Try.prog 10 #[] w3 fun v4 w5 =>
  AsB v4 fun x6 =>
  CallR Try.prog 11 #[(Value.int .i64 (IntKind.wrap .i64 most1))] w5 fun v7 w8 =>
  AsP v7 fun x9 =>
  Bif (isNone' x9) (
  Bif (!(isNone' x9)) (
  R (Value.bool x6) w8) (
  R (Value.bool false) w8)) (
  CallR Try.prog 12 #[(Value.slice l2p l2n l2c)] w8 fun v10 w11 =>
  AsB v10 fun x12 =>
  Bif x12 (
  Bif (!(isNone' x9)) (
  R (Value.bool x6) w11) (
  R (Value.bool false) w11)) (
  NewC #[(Value.bool false), (Value.bool false)] 4 w11 fun b13 w14 =>
  NewC #[(Value.bool false), (Value.bool false)] 4 w14 fun b15 w16 =>
  Lp fun I17 mu18 =>
  I17 [(Value.bool false), (Value.int .i64 0)] w16 ∧
  ∀ (broken19 : Bool), ∀ (i20 : Int), ∀ w21, I17 [(Value.bool broken19), (Value.int .i64 i20)] w21 →
  Bif (decide (i20 < (l2n : Int))) (
  IxP l2p l2n i20 4 fun a22 =>
  LdI .i64 (Addr.add a22 0) w21 fun x23 =>
  LdI .i64 (Addr.add a22 1) w21 fun x24 =>
  LdL (Addr.add a22 2) w21 fun x25p x25n x25c =>
  LdI .i64 (Addr.add a22 3) w21 fun x26 =>
  NewC #[(Value.int .i64 0), (Value.int .i64 0), (Value.slice none 0 0), (Value.int .i64 0)] 30 w21 fun b27 w28 =>
  St1 (Addr.add ⟨b27, 0, none⟩ 0) (Value.int .i64 x23) w28 fun w29 =>
  St1 (Addr.add ⟨b27, 0, none⟩ 1) (Value.int .i64 x24) w29 fun w30 =>
  St1 (Addr.add ⟨b27, 0, none⟩ 2) (Value.slice x25p x25n x25c) w30 fun w31 =>
  St1 (Addr.add ⟨b27, 0, none⟩ 3) (Value.int .i64 x26) w31 fun w32 =>
  Jn fun J33 => (
  LdI .i64 (Addr.add ⟨b27, 0, none⟩ 1) w32 fun x34 =>
  Bif (x34 != 0) (
  LdI .i64 (Addr.add ⟨b27, 0, none⟩ 1) w32 fun x35 =>
  Bif (x35 != 1) (
  I17 [(Value.bool broken19), (Value.int .i64 (IntKind.wrap .i64 (i20 + 1)))] w32 ∧ mu18 [(Value.bool broken19), (Value.int .i64 (IntKind.wrap .i64 (i20 + 1)))] w32 < mu18 [(Value.bool broken19), (Value.int .i64 i20)] w21) (
  J33 [] w32)) (
  J33 [] w32)) ∧
  ∀ w36, J33 [] w36 →
  LdI .i64 (Addr.add ⟨b27, 0, none⟩ 0) w36 fun x37 =>
  Jn fun J38 => (
  Bif (x37 == 2) (
  LdI .i64 (Addr.add ⟨b27, 0, none⟩ 1) w36 fun x39 =>
  LdI .i64 (Addr.add ⟨b27, 0, none⟩ 3) w36 fun x40 =>
  CallR Try.prog 13 #[(Value.pointer x9), (Value.int .i64 x39), (Value.int .i64 x40)] w36 fun v41 w42 =>
  ∃ (x43p : Option Addr) (x43n : Nat) (x43c : Nat), ∃ (x44 : Bool), v41 = (Value.tuple #[(Value.slice x43p x43n x43c), (Value.bool x44)]) ∧
  Jn fun J45 => (
  Bif broken19 (
  Bif x44 (
  R (Value.bool false) w42) (
  Bif (decide ((x43n : Int) > 0)) (
  R (Value.bool false) w42) (
  LdI .i64 (Addr.add ⟨b27, 0, none⟩ 1) w42 fun x46 =>
  IxP (some ⟨b13, 0, none⟩) 2 x46 1 fun a47 =>
  LdB a47 w42 fun x48 =>
  Bif x48 (
  Bif x44 (
  R (Value.bool false) w42) (
  Bif (decide ((x43n : Int) > 0)) (
  R (Value.bool false) w42) (
  Bif x44 (
  LdI .i64 (Addr.add ⟨b27, 0, none⟩ 1) w42 fun x49 =>
  IxP (some ⟨b15, 0, none⟩) 2 (IntKind.wrap .i64 (1 - x49)) 1 fun a50 =>
  LdB a50 w42 fun x51 =>
  Bif (!x51) (
  R (Value.bool false) w42) (
  LdI .i64 (Addr.add ⟨b27, 0, none⟩ 1) w42 fun x52 =>
  CallR Try.prog 16 #[(Value.pointer x9), (Value.int .i64 x52)] w42 fun v53 w54 =>
  AsI .i64 v53 fun x55 =>
  Bif (decide (x55 > 0)) (
  R (Value.bool false) w54) (
  J45 [] w54))) (
  J45 [] w42)))) (
  Bif x44 (
  LdI .i64 (Addr.add ⟨b27, 0, none⟩ 1) w42 fun x56 =>
  IxP (some ⟨b15, 0, none⟩) 2 (IntKind.wrap .i64 (1 - x56)) 1 fun a57 =>
  LdB a57 w42 fun x58 =>
  Bif (!x58) (
  R (Value.bool false) w42) (
  LdI .i64 (Addr.add ⟨b27, 0, none⟩ 1) w42 fun x59 =>
  CallR Try.prog 16 #[(Value.pointer x9), (Value.int .i64 x59)] w42 fun v60 w61 =>
  AsI .i64 v60 fun x62 =>
  Bif (decide (x62 > 0)) (
  R (Value.bool false) w61) (
  J45 [] w61))) (
  J45 [] w42))))) (
  LdI .i64 (Addr.add ⟨b27, 0, none⟩ 1) w42 fun x63 =>
  IxP (some ⟨b13, 0, none⟩) 2 x63 1 fun a64 =>
  LdB a64 w42 fun x65 =>
  Bif x65 (
  Bif x44 (
  R (Value.bool false) w42) (
  Bif (decide ((x43n : Int) > 0)) (
  R (Value.bool false) w42) (
  Bif x44 (
  LdI .i64 (Addr.add ⟨b27, 0, none⟩ 1) w42 fun x66 =>
  IxP (some ⟨b15, 0, none⟩) 2 (IntKind.wrap .i64 (1 - x66)) 1 fun a67 =>
  LdB a67 w42 fun x68 =>
  Bif (!x68) (
  R (Value.bool false) w42) (
  LdI .i64 (Addr.add ⟨b27, 0, none⟩ 1) w42 fun x69 =>
  CallR Try.prog 16 #[(Value.pointer x9), (Value.int .i64 x69)] w42 fun v70 w71 =>
  AsI .i64 v70 fun x72 =>
  Bif (decide (x72 > 0)) (
  R (Value.bool false) w71) (
  J45 [] w71))) (
  J45 [] w42)))) (
  Bif x44 (
  LdI .i64 (Addr.add ⟨b27, 0, none⟩ 1) w42 fun x73 =>
  IxP (some ⟨b15, 0, none⟩) 2 (IntKind.wrap .i64 (1 - x73)) 1 fun a74 =>
  LdB a74 w42 fun x75 =>
  Bif (!x75) (
  R (Value.bool false) w42) (
  LdI .i64 (Addr.add ⟨b27, 0, none⟩ 1) w42 fun x76 =>
  CallR Try.prog 16 #[(Value.pointer x9), (Value.int .i64 x76)] w42 fun v77 w78 =>
  AsI .i64 v77 fun x79 =>
  Bif (decide (x79 > 0)) (
  R (Value.bool false) w78) (
  J45 [] w78))) (
  J45 [] w42)))) ∧
  ∀ w80, J45 [] w80 →
  ∃ (C81 : Cls), Cls.p C81 [] w80 ∧
  ∃ (x82 : Int), Qt C81 (Value.int .i64 x82) (fun w83 K84 =>
  LdI .i64 (Addr.add ⟨b27, 0, none⟩ 1) w83 fun x85 =>
  K84 (Value.int .i64 x85) w83) ∧
  ∃ (x86 : Int), Qt C81 (Value.int .i64 x86) (fun w87 K88 =>
  LdI .i64 (Addr.add ⟨b27, 0, none⟩ 1) w87 fun x89 =>
  K88 (Value.int .i64 x89) w87) ∧
  IxP (some ⟨b13, 0, none⟩) 2 x86 1 fun a90 =>
  ∃ (x91 : Bool), Qt C81 (Value.bool x91) (fun w92 K93 =>
  LdB a90 w92 fun x94 =>
  K93 (Value.bool x94) w92) ∧
  Bif x91 (
  IxP (some ⟨b13, 0, none⟩) 2 x82 1 fun a95 =>
  Ef C81 (fun w98 K97 =>
  St1 a95 (Value.bool true) w98 fun w100 =>
  K97 (Value.tuple #[]) w100) fun v99 D96 =>
  v99 = (Value.tuple #[]) ∧
  (True) ∧
  ∀ G101 w102, Cls.p D96 G101 w102 →
  J38 [(Value.bool broken19)] w102) (
  IxP (some ⟨b13, 0, none⟩) 2 x82 1 fun a103 =>
  Ef C81 (fun w106 K105 =>
  St1 a103 (Value.bool x44) w106 fun w108 =>
  K105 (Value.tuple #[]) w108) fun v107 D104 =>
  v107 = (Value.tuple #[]) ∧
  (True) ∧
  ∀ G109 w110, Cls.p D104 G109 w110 →
  J38 [(Value.bool broken19)] w110)) (
  LdI .i64 (Addr.add ⟨b27, 0, none⟩ 0) w36 fun x111 =>
  Bif (x111 == 3) (
  LdI .i64 (Addr.add ⟨b27, 0, none⟩ 1) w36 fun x112 =>
  CallR Try.prog 14 #[(Value.pointer x9), (Value.int .i64 x112)] w36 fun v113 w114 =>
  AsB v113 fun x115 =>
  Jn fun J116 => (
  LdI .i64 (Addr.add ⟨b27, 0, none⟩ 1) w114 fun x117 =>
  IxP (some ⟨b15, 0, none⟩) 2 x117 1 fun a118 =>
  LdB a118 w114 fun x119 =>
  Bif (!x119) (
  Bif (!(x115 == (!broken19))) (
  R (Value.bool false) w114) (
  J116 [] w114)) (
  Bif (!(x115 == false)) (
  R (Value.bool false) w114) (
  J116 [] w114))) ∧
  ∀ w120, J116 [] w120 →
  ∃ (C121 : Cls), Cls.p C121 [] w120 ∧
  ∃ (x122 : Int), Qt C121 (Value.int .i64 x122) (fun w123 K124 =>
  LdI .i64 (Addr.add ⟨b27, 0, none⟩ 1) w123 fun x125 =>
  K124 (Value.int .i64 x125) w123) ∧
  ∃ (x126 : Int), Qt C121 (Value.int .i64 x126) (fun w127 K128 =>
  LdI .i64 (Addr.add ⟨b27, 0, none⟩ 1) w127 fun x129 =>
  K128 (Value.int .i64 x129) w127) ∧
  IxP (some ⟨b15, 0, none⟩) 2 x126 1 fun a130 =>
  ∃ (x131 : Bool), Qt C121 (Value.bool x131) (fun w132 K133 =>
  LdB a130 w132 fun x134 =>
  K133 (Value.bool x134) w132) ∧
  Bif x131 (
  IxP (some ⟨b15, 0, none⟩) 2 x122 1 fun a135 =>
  Ef C121 (fun w138 K137 =>
  St1 a135 (Value.bool true) w138 fun w140 =>
  K137 (Value.tuple #[]) w140) fun v139 D136 =>
  v139 = (Value.tuple #[]) ∧
  (True) ∧
  ∀ G141 w142, Cls.p D136 G141 w142 →
  J38 [(Value.bool broken19)] w142) (
  IxP (some ⟨b15, 0, none⟩) 2 x122 1 fun a143 =>
  Ef C121 (fun w146 K145 =>
  St1 a143 (Value.bool x115) w146 fun w148 =>
  K145 (Value.tuple #[]) w148) fun v147 D144 =>
  v147 = (Value.tuple #[]) ∧
  (True) ∧
  ∀ G149 w150, Cls.p D144 G149 w150 →
  J38 [(Value.bool broken19)] w150)) (
  LdI .i64 (Addr.add ⟨b27, 0, none⟩ 0) w36 fun x151 =>
  Bif (x151 == 4) (
  CallR Try.prog 22 #[(Value.pointer x9)] w36 fun v152 w153 =>
  v152 = (Value.tuple #[]) ∧
  J38 [(Value.bool true)] w153) (
  LdI .i64 (Addr.add ⟨b27, 0, none⟩ 1) w36 fun x154 =>
  LdL (Addr.add ⟨b27, 0, none⟩ 2) w36 fun x155p x155n x155c =>
  CallR Try.prog 15 #[(Value.pointer x9), (Value.int .i64 x154), (Value.slice x155p x155n x155c)] w36 fun v156 w157 =>
  AsI .i64 v156 fun x158 =>
  Bif (decide (x158 > 0)) (
  LdI .i64 (Addr.add ⟨b27, 0, none⟩ 1) w157 fun x159 =>
  IxP (some ⟨b15, 0, none⟩) 2 x159 1 fun a160 =>
  LdB a160 w157 fun x161 =>
  Bif x161 (
  R (Value.bool false) w157) (
  Bif broken19 (
  R (Value.bool false) w157) (
  J38 [(Value.bool broken19)] w157))) (
  J38 [(Value.bool broken19)] w157))))) ∧
  ∀ (broken162 : Bool), ∀ w163, J38 [(Value.bool broken162)] w163 →
  CallR Try.prog 28 #[(Value.pointer x9)] w163 fun v164 w165 =>
  AsB v164 fun x166 =>
  Bif broken162 (
  Bif (!(x166 == true)) (
  R (Value.bool false) w165) (
  I17 [(Value.bool broken162), (Value.int .i64 (IntKind.wrap .i64 (i20 + 1)))] w165 ∧ mu18 [(Value.bool broken162), (Value.int .i64 (IntKind.wrap .i64 (i20 + 1)))] w165 < mu18 [(Value.bool broken19), (Value.int .i64 i20)] w21)) (
  IxP (some ⟨b13, 0, none⟩) 2 0 1 fun a167 =>
  LdB a167 w165 fun x168 =>
  Bif x168 (
  IxP (some ⟨b13, 0, none⟩) 2 1 1 fun a169 =>
  LdB a169 w165 fun x170 =>
  Bif (!(x166 == x170)) (
  R (Value.bool false) w165) (
  I17 [(Value.bool broken162), (Value.int .i64 (IntKind.wrap .i64 (i20 + 1)))] w165 ∧ mu18 [(Value.bool broken162), (Value.int .i64 (IntKind.wrap .i64 (i20 + 1)))] w165 < mu18 [(Value.bool broken19), (Value.int .i64 i20)] w21)) (
  Bif (!(x166 == false)) (
  R (Value.bool false) w165) (
  I17 [(Value.bool broken162), (Value.int .i64 (IntKind.wrap .i64 (i20 + 1)))] w165 ∧ mu18 [(Value.bool broken162), (Value.int .i64 (IntKind.wrap .i64 (i20 + 1)))] w165 < mu18 [(Value.bool broken19), (Value.int .i64 i20)] w21)))) (
  R (Value.bool x6) w21)))
theorem F8_eq (most1 : Int) (l2p : Option Addr) (l2n : Nat) (l2c : Nat) (w3 : World) (R : Value → World → Prop) : liftF Try.prog 8 (.step .nil .nil (.step .nil .nil (.step .nil .nil (.step .nil .nil (.step .nil .nil (.step .nil .nil (.step .nil .nil (.step .nil .nil (.step .nil .nil (.step (.loop [(9, .b .bool), (10, .b (.int .i64))] (.step .nil .nil (.step .nil .nil (.step (.step .nil .nil (.join 2 [] .nil (.step .nil .nil (.join 1 [(9, .b .bool)] (.step (.step .nil .nil (.join 2 [] .nil (.draw [(0, false), (1, false), (3, false), (4, false), (2, false), (5, false), (6, false), (7, false), (8, false), (9, false), (10, false), (11, false), (12, true)] .nil))) (.step .nil .nil (.step (.step .nil .nil (.join 2 [] .nil (.draw [(0, false), (1, false), (3, false), (4, false), (2, false), (5, false), (6, false), (7, false), (8, false), (9, false), (10, false), (11, false), (12, true)] .nil))) .nil .nil)) .nil) .nil)))) .nil .nil)))) .nil .nil)))))))))) [(Value.int .u8 most1), (Value.slice l2p l2n l2c)] w3 R = F8 most1 l2p l2n l2c w3 R := by kernel_rfl
theorem F8_of {most1 : Int} {l2p : Option Addr} {l2n : Nat} {l2c : Nat} {w3 : World} {R : Value → World → Prop} (h : F8 most1 l2p l2n l2c w3 R) : CallR Try.prog 8 #[(Value.int .u8 most1), (Value.slice l2p l2n l2c)] w3 R := callR_of_lift _ ((F8_eq most1 l2p l2n l2c w3 R).mpr h)

-- F9 subway/subwaylaw17.PumpBreak
def F9 (most1 : Int) (l2p : Option Addr) (l2n : Nat) (l2c : Nat) (more3p : Option Addr) (more3n : Nat) (more3c : Nat) (w4 : World) (R : Value → World → Prop) : Prop :=
  CallR Try.prog 10 #[] w4 fun v5 w6 =>
  AsB v5 fun x7 =>
  CallR Try.prog 11 #[(Value.int .i64 (IntKind.wrap .i64 most1))] w6 fun v8 w9 =>
  AsP v8 fun x10 =>
  Bif (isNone' x10) (
  Bif (!(isNone' x10)) (
  R (Value.bool x7) w9) (
  R (Value.bool false) w9)) (
  CallR Try.prog 12 #[(Value.slice l2p l2n l2c)] w9 fun v11 w12 =>
  AsB v11 fun x13 =>
  Bif x13 (
  Bif (!(isNone' x10)) (
  R (Value.bool x7) w12) (
  R (Value.bool false) w12)) (
  CallR Try.prog 12 #[(Value.slice more3p more3n more3c)] w12 fun v14 w15 =>
  AsB v14 fun x16 =>
  Bif x16 (
  Bif (!(isNone' x10)) (
  R (Value.bool x7) w15) (
  R (Value.bool false) w15)) (
  Lp fun I17 mu18 =>
  I17 [(Value.int .i64 0)] w15 ∧
  ∀ (i19 : Int), ∀ w20, I17 [(Value.int .i64 i19)] w20 →
  Bif (decide (i19 < (l2n : Int))) (
  IxP l2p l2n i19 4 fun a21 =>
  LdI .i64 (Addr.add a21 0) w20 fun x22 =>
  Bif (x22 == 2) (
  ∃ (C23 : Cls), Cls.p C23 [] w20 ∧
  IxP l2p l2n i19 4 fun a24 =>
  IxP l2p l2n i19 4 fun a25 =>
  ∃ (x26 : Int), Qt C23 (Value.int .i64 x26) (fun w27 K28 =>
  LdI .i64 (Addr.add a24 1) w27 fun x29 =>
  K28 (Value.int .i64 x29) w27) ∧
  ∃ (x30 : Int), Qt C23 (Value.int .i64 x30) (fun w31 K32 =>
  LdI .i64 (Addr.add a25 3) w31 fun x33 =>
  K32 (Value.int .i64 x33) w31) ∧
  Ef C23 (fun w38 K37 =>
  CallR Try.prog 13 #[(Value.pointer x10), (Value.int .i64 x26), (Value.int .i64 x30)] w38 fun v40 w41 =>
  ∃ (x42p : Option Addr) (x42n : Nat) (x42c : Nat), ∃ (x43 : Bool), v40 = (Value.tuple #[(Value.slice x42p x42n x42c), (Value.bool x43)]) ∧
  K37 (Value.tuple #[(Value.slice x42p x42n x42c), (Value.bool x43)]) w41) fun v39 D36 =>
  ∃ (x44p : Option Addr) (x44n : Nat) (x44c : Nat), ∃ (x45 : Bool), v39 = (Value.tuple #[(Value.slice x44p x44n x44c), (Value.bool x45)]) ∧
  (True) ∧
  ∀ G46 w47, Cls.p D36 G46 w47 →
  I17 [(Value.int .i64 (IntKind.wrap .i64 (i19 + 1)))] w47 ∧ mu18 [(Value.int .i64 (IntKind.wrap .i64 (i19 + 1)))] w47 < mu18 [(Value.int .i64 i19)] w20) (
  ∃ (C48 : Cls), Cls.p C48 [] w20 ∧
  IxP l2p l2n i19 4 fun a49 =>
  IxP l2p l2n i19 4 fun a50 =>
  ∃ (x51 : Int), Qt C48 (Value.int .i64 x51) (fun w52 K53 =>
  LdI .i64 (Addr.add a49 1) w52 fun x54 =>
  K53 (Value.int .i64 x54) w52) ∧
  ∃ (x55p : Option Addr) (x55n : Nat) (x55c : Nat), Qt C48 (Value.slice x55p x55n x55c) (fun w56 K57 =>
  LdL (Addr.add a50 2) w56 fun x58p x58n x58c =>
  K57 (Value.slice x58p x58n x58c) w56) ∧
  Ef C48 (fun w62 K61 =>
  CallR Try.prog 15 #[(Value.pointer x10), (Value.int .i64 x51), (Value.slice x55p x55n x55c)] w62 fun v64 w65 =>
  AsI .i64 v64 fun x66 =>
  K61 (Value.int .i64 x66) w65) fun v63 D60 =>
  AsI .i64 v63 fun x67 =>
  (True) ∧
  ∀ G68 w69, Cls.p D60 G68 w69 →
  I17 [(Value.int .i64 (IntKind.wrap .i64 (i19 + 1)))] w69 ∧ mu18 [(Value.int .i64 (IntKind.wrap .i64 (i19 + 1)))] w69 < mu18 [(Value.int .i64 i19)] w20)) (
  CallR Try.prog 17 #[(Value.pointer x10), (Value.int .i64 0)] w20 fun v70 w71 =>
  AsI .i64 v70 fun x72 =>
  CallR Try.prog 17 #[(Value.pointer x10), (Value.int .i64 1)] w71 fun v73 w74 =>
  AsI .i64 v73 fun x75 =>
  CallR Try.prog 22 #[(Value.pointer x10)] w74 fun v76 w77 =>
  v76 = (Value.tuple #[]) ∧
  Lp fun I78 mu79 =>
  I78 [(Value.int .i64 0)] w77 ∧
  ∀ (i80 : Int), ∀ w81, I78 [(Value.int .i64 i80)] w81 →
  Bif (decide (i80 < (more3n : Int))) (
  IxP more3p more3n i80 4 fun a82 =>
  LdI .i64 (Addr.add a82 0) w81 fun x83 =>
  LdI .i64 (Addr.add a82 1) w81 fun x84 =>
  LdL (Addr.add a82 2) w81 fun x85p x85n x85c =>
  LdI .i64 (Addr.add a82 3) w81 fun x86 =>
  NewC #[(Value.int .i64 0), (Value.int .i64 0), (Value.slice none 0 0), (Value.int .i64 0)] 30 w81 fun b87 w88 =>
  St1 (Addr.add ⟨b87, 0, none⟩ 0) (Value.int .i64 x83) w88 fun w89 =>
  St1 (Addr.add ⟨b87, 0, none⟩ 1) (Value.int .i64 x84) w89 fun w90 =>
  St1 (Addr.add ⟨b87, 0, none⟩ 2) (Value.slice x85p x85n x85c) w90 fun w91 =>
  St1 (Addr.add ⟨b87, 0, none⟩ 3) (Value.int .i64 x86) w91 fun w92 =>
  LdI .i64 (Addr.add ⟨b87, 0, none⟩ 1) w92 fun x93 =>
  LdI .i64 (Addr.add ⟨b87, 0, none⟩ 3) w92 fun x94 =>
  CallR Try.prog 13 #[(Value.pointer x10), (Value.int .i64 x93), (Value.int .i64 x94)] w92 fun v95 w96 =>
  ∃ (x97p : Option Addr) (x97n : Nat) (x97c : Nat), ∃ (x98 : Bool), v95 = (Value.tuple #[(Value.slice x97p x97n x97c), (Value.bool x98)]) ∧
  LdI .i64 (Addr.add ⟨b87, 0, none⟩ 1) w96 fun x99 =>
  LdL (Addr.add ⟨b87, 0, none⟩ 2) w96 fun x100p x100n x100c =>
  CallR Try.prog 15 #[(Value.pointer x10), (Value.int .i64 x99), (Value.slice x100p x100n x100c)] w96 fun v101 w102 =>
  AsI .i64 v101 fun x103 =>
  Bif (x103 != 0) (
  R (Value.bool false) w102) (
  Bif (decide ((x97n : Int) > 0)) (
  R (Value.bool false) w102) (
  Bif x98 (
  R (Value.bool false) w102) (
  LdI .i64 (Addr.add ⟨b87, 0, none⟩ 1) w102 fun x104 =>
  CallR Try.prog 14 #[(Value.pointer x10), (Value.int .i64 x104)] w102 fun v105 w106 =>
  AsB v105 fun x107 =>
  Bif x107 (
  R (Value.bool false) w106) (
  LdI .i64 (Addr.add ⟨b87, 0, none⟩ 1) w106 fun x108 =>
  CallR Try.prog 16 #[(Value.pointer x10), (Value.int .i64 x108)] w106 fun v109 w110 =>
  AsI .i64 v109 fun x111 =>
  Bif (x111 != 0) (
  R (Value.bool false) w110) (
  LdI .i64 (Addr.add ⟨b87, 0, none⟩ 1) w110 fun x112 =>
  CallR Try.prog 18 #[(Value.pointer x10), (Value.int .i64 x112)] w110 fun v113 w114 =>
  AsI .i64 v113 fun x115 =>
  Bif (x115 != 0) (
  R (Value.bool false) w114) (
  I78 [(Value.int .i64 (IntKind.wrap .i64 (i80 + 1)))] w114 ∧ mu79 [(Value.int .i64 (IntKind.wrap .i64 (i80 + 1)))] w114 < mu79 [(Value.int .i64 i80)] w81))))))) (
  Bif x7 (
  CallR Try.prog 28 #[(Value.pointer x10)] w81 fun v116 w117 =>
  AsB v116 fun x118 =>
  Bif x118 (
  CallR Try.prog 17 #[(Value.pointer x10), (Value.int .i64 0)] w117 fun v119 w120 =>
  AsI .i64 v119 fun x121 =>
  Bif (x121 == x72) (
  CallR Try.prog 17 #[(Value.pointer x10), (Value.int .i64 1)] w120 fun v122 w123 =>
  AsI .i64 v122 fun x124 =>
  Bif (x124 == x75) (
  CallR Try.prog 16 #[(Value.pointer x10), (Value.int .i64 0)] w123 fun v125 w126 =>
  AsI .i64 v125 fun x127 =>
  Bif (x127 == 0) (
  CallR Try.prog 16 #[(Value.pointer x10), (Value.int .i64 1)] w126 fun v128 w129 =>
  AsI .i64 v128 fun x130 =>
  R (Value.bool (x130 == 0)) w129) (
  R (Value.bool false) w126)) (
  R (Value.bool false) w123)) (
  R (Value.bool false) w120)) (
  R (Value.bool false) w117)) (
  R (Value.bool false) w81))))))
theorem F9_eq (most1 : Int) (l2p : Option Addr) (l2n : Nat) (l2c : Nat) (more3p : Option Addr) (more3n : Nat) (more3c : Nat) (w4 : World) (R : Value → World → Prop) : liftF Try.prog 9 (.step .nil .nil (.step .nil .nil (.step .nil .nil (.step .nil .nil (.step .nil .nil (.step .nil .nil (.step (.loop [(9, .b (.int .i64))] (.step .nil .nil (.step .nil .nil (.step (.step .nil .nil (.step (.draw [(0, false), (1, false), (2, false), (3, false), (4, false), (6, false), (7, false), (8, false), (9, false), (5, false), (10, false), (11, true)] .nil) (.draw [(0, false), (1, false), (2, false), (3, false), (4, false), (6, false), (7, false), (8, false), (9, false), (5, false), (10, false), (11, true)] .nil) .nil)) .nil .nil)))) .nil (.step .nil .nil (.step .nil .nil (.step .nil .nil (.step .nil .nil (.step (.loop [(12, .b (.int .i64))] .nil) .nil .nil)))))))))))) [(Value.int .u8 most1), (Value.slice l2p l2n l2c), (Value.slice more3p more3n more3c)] w4 R = F9 most1 l2p l2n l2c more3p more3n more3c w4 R := by kernel_rfl
theorem F9_of {most1 : Int} {l2p : Option Addr} {l2n : Nat} {l2c : Nat} {more3p : Option Addr} {more3n : Nat} {more3c : Nat} {w4 : World} {R : Value → World → Prop} (h : F9 most1 l2p l2n l2c more3p more3n more3c w4 R) : CallR Try.prog 9 #[(Value.int .u8 most1), (Value.slice l2p l2n l2c), (Value.slice more3p more3n more3c)] w4 R := callR_of_lift _ ((F9_eq most1 l2p l2n l2c more3p more3n more3c w4 R).mpr h)

-- F10 subway/subwaylaw17.head
def F10  (w1 : World) (R : Value → World → Prop) : Prop :=
  CallR Try.prog 11 #[(Value.int .i64 3)] w1 fun v2 w3 =>
  AsP v2 fun x4 =>
  Bif (isNone' x4) (
  R (Value.bool false) w3) (
  NewC #[(Value.int .u8 97), (Value.int .u8 98), (Value.int .u8 99), (Value.int .u8 100)] 5 w3 fun b5 w6 =>
  Run Try.prog (convert 28 28 (Value.slice (some ⟨b5, 0, none⟩) 4 4)) w6 fun v7 w8 =>
  AsL v7 fun x9p x9n x9c =>
  CallR Try.prog 15 #[(Value.pointer x4), (Value.int .i64 0), (Value.slice x9p x9n x9c)] w8 fun v10 w11 =>
  AsI .i64 v10 fun x12 =>
  CallR Try.prog 14 #[(Value.pointer x4), (Value.int .i64 0)] w11 fun v13 w14 =>
  AsB v13 fun x15 =>
  NewC #[(Value.int .u8 120)] 5 w14 fun b16 w17 =>
  Run Try.prog (convert 28 28 (Value.slice (some ⟨b16, 0, none⟩) 1 1)) w17 fun v18 w19 =>
  AsL v18 fun x20p x20n x20c =>
  CallR Try.prog 15 #[(Value.pointer x4), (Value.int .i64 0), (Value.slice x20p x20n x20c)] w19 fun v21 w22 =>
  AsI .i64 v21 fun x23 =>
  CallR Try.prog 13 #[(Value.pointer x4), (Value.int .i64 1), (Value.int .i64 2)] w22 fun v24 w25 =>
  ∃ (x26p : Option Addr) (x26n : Nat) (x26c : Nat), ∃ (x27 : Bool), v24 = (Value.tuple #[(Value.slice x26p x26n x26c), (Value.bool x27)]) ∧
  CallR Try.prog 13 #[(Value.pointer x4), (Value.int .i64 1), (Value.int .i64 9)] w25 fun v28 w29 =>
  ∃ (x30p : Option Addr) (x30n : Nat) (x30c : Nat), ∃ (x31 : Bool), v28 = (Value.tuple #[(Value.slice x30p x30n x30c), (Value.bool x31)]) ∧
  CallR Try.prog 13 #[(Value.pointer x4), (Value.int .i64 1), (Value.int .i64 9)] w29 fun v32 w33 =>
  ∃ (x34p : Option Addr) (x34n : Nat) (x34c : Nat), ∃ (x35 : Bool), v32 = (Value.tuple #[(Value.slice x34p x34n x34c), (Value.bool x35)]) ∧
  NewC #[(Value.int .u8 113)] 5 w33 fun b36 w37 =>
  Run Try.prog (convert 28 28 (Value.slice (some ⟨b36, 0, none⟩) 1 1)) w37 fun v38 w39 =>
  AsL v38 fun x40p x40n x40c =>
  CallR Try.prog 15 #[(Value.pointer x4), (Value.int .i64 1), (Value.slice x40p x40n x40c)] w39 fun v41 w42 =>
  AsI .i64 v41 fun x43 =>
  CallR Try.prog 13 #[(Value.pointer x4), (Value.int .i64 0), (Value.int .i64 1)] w42 fun v44 w45 =>
  ∃ (x46p : Option Addr) (x46n : Nat) (x46c : Nat), ∃ (x47 : Bool), v44 = (Value.tuple #[(Value.slice x46p x46n x46c), (Value.bool x47)]) ∧
  Bif (x12 == 3) (
  Bif x15 (
  Bif (x23 == 0) (
  Run Try.prog (convert 28 9 (Value.slice x26p x26n x26c)) w45 fun v48 w49 =>
  AsS v48 fun x50 =>
  Bif (ByteArray.toList x50 == ByteArray.toList ⟨#[97, 98]⟩) (
  Bif (!x27) (
  Run Try.prog (convert 28 9 (Value.slice x30p x30n x30c)) w49 fun v51 w52 =>
  AsS v51 fun x53 =>
  Bif (ByteArray.toList x53 == ByteArray.toList ⟨#[99]⟩) (
  Bif x31 (
  Bif ((x34n : Int) == 0) (
  Bif (!x35) (
  Bif (x43 == 1) (
  Run Try.prog (convert 28 9 (Value.slice x46p x46n x46c)) w52 fun v54 w55 =>
  AsS v54 fun x56 =>
  Bif (ByteArray.toList x56 == ByteArray.toList ⟨#[113]⟩) (
  Bif (!x47) (
  CallR Try.prog 28 #[(Value.pointer x4)] w55 fun v57 w58 =>
  AsB v57 fun x59 =>
  Bif (!x59) (
  CallR Try.prog 17 #[(Value.pointer x4), (Value.int .i64 1)] w58 fun v60 w61 =>
  AsI .i64 v60 fun x62 =>
  Bif (x62 == 3) (
  CallR Try.prog 16 #[(Value.pointer x4), (Value.int .i64 0)] w61 fun v63 w64 =>
  AsI .i64 v63 fun x65 =>
  Bif (x65 == 0) (
  CallR Try.prog 18 #[(Value.pointer x4), (Value.int .i64 1)] w64 fun v66 w67 =>
  AsI .i64 v66 fun x68 =>
  Bif (x68 == 3) (
  CallR Try.prog 18 #[(Value.pointer x4), (Value.int .i64 0)] w67 fun v69 w70 =>
  AsI .i64 v69 fun x71 =>
  R (Value.bool (x71 == 0)) w70) (
  R (Value.bool false) w67)) (
  R (Value.bool false) w64)) (
  R (Value.bool false) w61)) (
  R (Value.bool false) w58)) (
  R (Value.bool false) w55)) (
  R (Value.bool false) w55)) (
  R (Value.bool false) w52)) (
  R (Value.bool false) w52)) (
  R (Value.bool false) w52)) (
  R (Value.bool false) w52)) (
  R (Value.bool false) w52)) (
  R (Value.bool false) w49)) (
  R (Value.bool false) w49)) (
  R (Value.bool false) w45)) (
  R (Value.bool false) w45)) (
  R (Value.bool false) w45))
theorem F10_eq  (w1 : World) (R : Value → World → Prop) : liftF Try.prog 10 .nil [] w1 R = F10  w1 R := by kernel_rfl
theorem F10_of  {w1 : World} {R : Value → World → Prop} (h : F10  w1 R) : CallR Try.prog 10 #[] w1 R := callR_of_lift _ ((F10_eq  w1 R).mpr h)

-- F11 subway/pump.New
def F11 (most1 : Int) (w2 : World) (R : Value → World → Prop) : Prop :=
  NewC #[(Value.pointer none), (Value.bool false), (Value.bool false), (Value.int .i64 0), (Value.pointer none), (Value.bool false), (Value.bool false), (Value.int .i64 0), (Value.int .i64 most1), (Value.bool false)] 50 w2 fun b3 w4 =>
  Lp fun I5 mu6 =>
  I5 [(Value.int .i64 0)] w4 ∧
  ∀ (x7 : Int), ∀ w8, I5 [(Value.int .i64 x7)] w8 →
  Bif (decide (x7 < 2)) (
  ∃ (C9 : Cls), Cls.p C9 [] w8 ∧
  Ef C9 (fun w13 K12 =>
  CallR Try.prog 30 #[(Value.int .i64 most1)] w13 fun v15 w16 =>
  AsP v15 fun x17 =>
  K12 (Value.pointer x17) w16) fun v14 D11 =>
  AsP v14 fun x18 =>
  (True) ∧
  IxP (some (Addr.add ⟨b3, 0, none⟩ 0)) 2 x7 4 fun a19 =>
  Ef D11 (fun w22 K21 =>
  St1 (Addr.add a19 0) (Value.pointer x18) w22 fun w24 =>
  K21 (Value.tuple #[]) w24) fun v23 D20 =>
  v23 = (Value.tuple #[]) ∧
  (True) ∧
  ∀ G25 w26, Cls.p D20 G25 w26 →
  I5 [(Value.int .i64 (IntKind.wrap .i64 (x7 + 1)))] w26 ∧ mu6 [(Value.int .i64 (IntKind.wrap .i64 (x7 + 1)))] w26 < mu6 [(Value.int .i64 x7)] w8) (
  R (Value.pointer (some ⟨b3, 0, none⟩)) w8)
theorem F11_eq (most1 : Int) (w2 : World) (R : Value → World → Prop) : liftF Try.prog 11 (.step .nil .nil (.step .nil .nil (.step .nil .nil (.step (.loop [(8, .b (.int .i64))] (.step .nil .nil (.step .nil .nil (.step (.step .nil .nil (.draw [(0, false), (1, false), (2, false), (4, false), (5, false), (3, true), (6, false), (7, false), (8, true)] .nil)) .nil .nil)))) .nil .nil)))) [(Value.int .i64 most1)] w2 R = F11 most1 w2 R := by kernel_rfl
theorem F11_of {most1 : Int} {w2 : World} {R : Value → World → Prop} (h : F11 most1 w2 R) : CallR Try.prog 11 #[(Value.int .i64 most1)] w2 R := callR_of_lift _ ((F11_eq most1 w2 R).mpr h)

-- F12 subway/subwaylaw17.Great
def F12 (l1p : Option Addr) (l1n : Nat) (l1c : Nat) (w2 : World) (R : Value → World → Prop) : Prop :=
  Jn fun J3 => (
  Lp fun I4 mu5 =>
  I4 [(Value.int .i64 (l1n : Int)), (Value.int .i64 0)] w2 ∧
  ∀ (n6 : Int), ∀ (i7 : Int), ∀ w8, I4 [(Value.int .i64 n6), (Value.int .i64 i7)] w8 →
  Bif (decide (i7 < (l1n : Int))) (
  Bif (decide (n6 < 30000)) (
  IxP l1p l1n i7 4 fun a9 =>
  LdL (Addr.add a9 2) w8 fun x10p x10n x10c =>
  I4 [(Value.int .i64 (IntKind.wrap .i64 (n6 + (if 30000 < (x10n : Int) then 30000 else (x10n : Int))))), (Value.int .i64 (IntKind.wrap .i64 (i7 + 1)))] w8 ∧ mu5 [(Value.int .i64 (IntKind.wrap .i64 (n6 + (if 30000 < (x10n : Int) then 30000 else (x10n : Int))))), (Value.int .i64 (IntKind.wrap .i64 (i7 + 1)))] w8 < mu5 [(Value.int .i64 n6), (Value.int .i64 i7)] w8) (
  J3 [(Value.int .i64 n6)] w8)) (
  J3 [(Value.int .i64 n6)] w8)) ∧
  ∀ (n11 : Int), ∀ w12, J3 [(Value.int .i64 n11)] w12 →
  Bif (decide (n11 ≥ 30000)) (
  R (Value.bool true) w12) (
  R (Value.bool (decide ((l1n : Int) > 400))) w12)
theorem F12_eq (l1p : Option Addr) (l1n : Nat) (l1c : Nat) (w2 : World) (R : Value → World → Prop) : liftF Try.prog 12 (.step .nil .nil (.step .nil .nil (.step .nil .nil (.join 1 [(3, .b (.int .i64))] (.step (.loop [(3, .b (.int .i64)), (4, .b (.int .i64))] .nil) .nil .nil) .nil)))) [(Value.slice l1p l1n l1c)] w2 R = F12 l1p l1n l1c w2 R := by kernel_rfl
theorem F12_of {l1p : Option Addr} {l1n : Nat} {l1c : Nat} {w2 : World} {R : Value → World → Prop} (h : F12 l1p l1n l1c w2 R) : CallR Try.prog 12 #[(Value.slice l1p l1n l1c)] w2 R := callR_of_lift _ ((F12_eq l1p l1n l1c w2 R).mpr h)

-- F13 (*subway/pump.Pump).Out
def F13 (p1 : Option Addr) (n2 : Int) (many3 : Int) (w4 : World) (R : Value → World → Prop) : Prop :=
  CallR Try.prog 31 #[(Value.int .i64 n2)] w4 fun v5 w6 =>
  AsB v5 fun x7 =>
  Bif (!x7) (
  R (Value.tuple #[(Value.slice none 0 0), (Value.bool false)]) w6) (
  NilP p1 fun a8 =>
  LdB (Addr.add a8 9) w6 fun x9 =>
  Bif x9 (
  R (Value.tuple #[(Value.slice none 0 0), (Value.bool false)]) w6) (
  NilP p1 fun a10 =>
  IxP (some (Addr.add a10 0)) 2 (IntKind.wrap .i64 (1 - n2)) 4 fun a11 =>
  CallR Try.prog 32 #[(Value.pointer (some a11)), (Value.int .i64 many3)] w6 fun v12 w13 =>
  ∃ (x14p : Option Addr) (x14n : Nat) (x14c : Nat), ∃ (x15 : Bool), v12 = (Value.tuple #[(Value.slice x14p x14n x14c), (Value.bool x15)]) ∧
  R (Value.tuple #[(Value.slice x14p x14n x14c), (Value.bool x15)]) w13))
theorem F13_eq (p1 : Option Addr) (n2 : Int) (many3 : Int) (w4 : World) (R : Value → World → Prop) : liftF Try.prog 13 .nil [(Value.pointer p1), (Value.int .i64 n2), (Value.int .i64 many3)] w4 R = F13 p1 n2 many3 w4 R := by kernel_rfl
theorem F13_of {p1 : Option Addr} {n2 : Int} {many3 : Int} {w4 : World} {R : Value → World → Prop} (h : F13 p1 n2 many3 w4 R) : CallR Try.prog 13 #[(Value.pointer p1), (Value.int .i64 n2), (Value.int .i64 many3)] w4 R := callR_of_lift _ ((F13_eq p1 n2 many3 w4 R).mpr h)

-- F14 (*subway/pump.Pump).End
def F14 (p1 : Option Addr) (n2 : Int) (w3 : World) (R : Value → World → Prop) : Prop :=
  CallR Try.prog 33 #[(Value.pointer p1), (Value.int .i64 n2)] w3 fun v4 w5 =>
  AsP v4 fun x6 =>
  Bif (!(isNone' x6)) (
  NilP x6 fun a7 =>
  St1 (Addr.add a7 1) (Value.bool true) w5 fun w8 =>
  R (Value.bool (!(isNone' x6))) w8) (
  R (Value.bool (!(isNone' x6))) w5)
theorem F14_eq (p1 : Option Addr) (n2 : Int) (w3 : World) (R : Value → World → Prop) : liftF Try.prog 14 .nil [(Value.pointer p1), (Value.int .i64 n2)] w3 R = F14 p1 n2 w3 R := by kernel_rfl
theorem F14_of {p1 : Option Addr} {n2 : Int} {w3 : World} {R : Value → World → Prop} (h : F14 p1 n2 w3 R) : CallR Try.prog 14 #[(Value.pointer p1), (Value.int .i64 n2)] w3 R := callR_of_lift _ ((F14_eq p1 n2 w3 R).mpr h)

-- F15 (*subway/pump.Pump).In
def F15 (p1 : Option Addr) (n2 : Int) (b3p : Option Addr) (b3n : Nat) (b3c : Nat) (w4 : World) (R : Value → World → Prop) : Prop :=
  CallR Try.prog 33 #[(Value.pointer p1), (Value.int .i64 n2)] w4 fun v5 w6 =>
  AsP v5 fun x7 =>
  Bif (!(isNone' x7)) (
  NilP x7 fun a8 =>
  LdP (Addr.add a8 0) w6 fun x9 =>
  CallR Try.prog 34 #[(Value.pointer x9), (Value.slice b3p b3n b3c)] w6 fun v10 w11 =>
  AsI .i64 v10 fun x12 =>
  R (Value.int .i64 x12) w11) (
  R (Value.int .i64 0) w6)
theorem F15_eq (p1 : Option Addr) (n2 : Int) (b3p : Option Addr) (b3n : Nat) (b3c : Nat) (w4 : World) (R : Value → World → Prop) : liftF Try.prog 15 .nil [(Value.pointer p1), (Value.int .i64 n2), (Value.slice b3p b3n b3c)] w4 R = F15 p1 n2 b3p b3n b3c w4 R := by kernel_rfl
theorem F15_of {p1 : Option Addr} {n2 : Int} {b3p : Option Addr} {b3n : Nat} {b3c : Nat} {w4 : World} {R : Value → World → Prop} (h : F15 p1 n2 b3p b3n b3c w4 R) : CallR Try.prog 15 #[(Value.pointer p1), (Value.int .i64 n2), (Value.slice b3p b3n b3c)] w4 R := callR_of_lift _ ((F15_eq p1 n2 b3p b3n b3c w4 R).mpr h)

-- F16 (*subway/pump.Pump).Waits
def F16 (p1 : Option Addr) (n2 : Int) (w3 : World) (R : Value → World → Prop) : Prop :=
  CallR Try.prog 31 #[(Value.int .i64 n2)] w3 fun v4 w5 =>
  AsB v4 fun x6 =>
  Bif (!x6) (
  R (Value.int .i64 0) w5) (
  NilP p1 fun a7 =>
  IxP (some (Addr.add a7 0)) 2 (IntKind.wrap .i64 (1 - n2)) 4 fun a8 =>
  LdP (Addr.add a8 0) w5 fun x9 =>
  CallR Try.prog 35 #[(Value.pointer x9)] w5 fun v10 w11 =>
  AsI .i64 v10 fun x12 =>
  R (Value.int .i64 x12) w11)
theorem F16_eq (p1 : Option Addr) (n2 : Int) (w3 : World) (R : Value → World → Prop) : liftF Try.prog 16 .nil [(Value.pointer p1), (Value.int .i64 n2)] w3 R = F16 p1 n2 w3 R := by kernel_rfl
theorem F16_of {p1 : Option Addr} {n2 : Int} {w3 : World} {R : Value → World → Prop} (h : F16 p1 n2 w3 R) : CallR Try.prog 16 #[(Value.pointer p1), (Value.int .i64 n2)] w3 R := callR_of_lift _ ((F16_eq p1 n2 w3 R).mpr h)

-- F17 (*subway/pump.Pump).Moved
def F17 (p1 : Option Addr) (n2 : Int) (w3 : World) (R : Value → World → Prop) : Prop :=
  CallR Try.prog 31 #[(Value.int .i64 n2)] w3 fun v4 w5 =>
  AsB v4 fun x6 =>
  Bif (!x6) (
  R (Value.int .i64 0) w5) (
  NilP p1 fun a7 =>
  IxP (some (Addr.add a7 0)) 2 (IntKind.wrap .i64 (1 - n2)) 4 fun a8 =>
  LdI .i64 (Addr.add a8 3) w5 fun x9 =>
  R (Value.int .i64 x9) w5)
theorem F17_eq (p1 : Option Addr) (n2 : Int) (w3 : World) (R : Value → World → Prop) : liftF Try.prog 17 .nil [(Value.pointer p1), (Value.int .i64 n2)] w3 R = F17 p1 n2 w3 R := by kernel_rfl
theorem F17_of {p1 : Option Addr} {n2 : Int} {w3 : World} {R : Value → World → Prop} (h : F17 p1 n2 w3 R) : CallR Try.prog 17 #[(Value.pointer p1), (Value.int .i64 n2)] w3 R := callR_of_lift _ ((F17_eq p1 n2 w3 R).mpr h)

-- F18 (*subway/pump.Pump).Room
def F18 (p1 : Option Addr) (n2 : Int) (w3 : World) (R : Value → World → Prop) : Prop :=
  CallR Try.prog 33 #[(Value.pointer p1), (Value.int .i64 n2)] w3 fun v4 w5 =>
  AsP v4 fun x6 =>
  Bif (!(isNone' x6)) (
  NilP x6 fun a7 =>
  LdP (Addr.add a7 0) w5 fun x8 =>
  CallR Try.prog 36 #[(Value.pointer x8)] w5 fun v9 w10 =>
  AsI .i64 v9 fun x11 =>
  R (Value.int .i64 x11) w10) (
  R (Value.int .i64 0) w5)
theorem F18_eq (p1 : Option Addr) (n2 : Int) (w3 : World) (R : Value → World → Prop) : liftF Try.prog 18 .nil [(Value.pointer p1), (Value.int .i64 n2)] w3 R = F18 p1 n2 w3 R := by kernel_rfl
theorem F18_of {p1 : Option Addr} {n2 : Int} {w3 : World} {R : Value → World → Prop} (h : F18 p1 n2 w3 R) : CallR Try.prog 18 #[(Value.pointer p1), (Value.int .i64 n2)] w3 R := callR_of_lift _ ((F18_eq p1 n2 w3 R).mpr h)

-- F19 subway/subwayref17.New
def F19 (most1 : Int) (w2 : World) (R : Value → World → Prop) : Prop :=
  NewC #[(Value.pointer none), (Value.bool false), (Value.bool false), (Value.int .i64 0), (Value.pointer none), (Value.bool false), (Value.bool false), (Value.int .i64 0), (Value.bool false)] 62 w2 fun b3 w4 =>
  ∃ (C5 : Cls), Cls.p C5 [] w4 ∧
  Ef C5 (fun w9 K8 =>
  CallR Try.prog 37 #[(Value.int .i64 most1)] w9 fun v11 w12 =>
  AsP v11 fun x13 =>
  K8 (Value.pointer x13) w12) fun v10 D7 =>
  AsP v10 fun x14 =>
  (True) ∧
  IxP (some (Addr.add ⟨b3, 0, none⟩ 0)) 2 0 4 fun a15 =>
  Ef D7 (fun w18 K17 =>
  St1 (Addr.add a15 0) (Value.pointer x14) w18 fun w20 =>
  K17 (Value.tuple #[]) w20) fun v19 D16 =>
  v19 = (Value.tuple #[]) ∧
  (True) ∧
  ∀ G21 w22, Cls.p D16 G21 w22 →
  ∃ (C23 : Cls), Cls.p C23 [] w22 ∧
  Ef C23 (fun w27 K26 =>
  CallR Try.prog 37 #[(Value.int .i64 most1)] w27 fun v29 w30 =>
  AsP v29 fun x31 =>
  K26 (Value.pointer x31) w30) fun v28 D25 =>
  AsP v28 fun x32 =>
  (True) ∧
  IxP (some (Addr.add ⟨b3, 0, none⟩ 0)) 2 1 4 fun a33 =>
  Ef D25 (fun w36 K35 =>
  St1 (Addr.add a33 0) (Value.pointer x32) w36 fun w38 =>
  K35 (Value.tuple #[]) w38) fun v37 D34 =>
  v37 = (Value.tuple #[]) ∧
  (True) ∧
  ∀ G39 w40, Cls.p D34 G39 w40 →
  R (Value.pointer (some ⟨b3, 0, none⟩)) w40
theorem F19_eq (most1 : Int) (w2 : World) (R : Value → World → Prop) : liftF Try.prog 19 (.step .nil .nil (.step .nil .nil (.draw [(0, false), (1, false), (3, false), (4, false), (2, true), (5, false), (6, false), (7, true)] (.draw [(0, false), (1, false), (3, false), (4, false), (2, true), (5, false), (6, false), (7, true)] .nil)))) [(Value.int .i64 most1)] w2 R = F19 most1 w2 R := by kernel_rfl
theorem F19_of {most1 : Int} {w2 : World} {R : Value → World → Prop} (h : F19 most1 w2 R) : CallR Try.prog 19 #[(Value.int .i64 most1)] w2 R := callR_of_lift _ ((F19_eq most1 w2 R).mpr h)

-- F20 (*subway/subwayref17.Pump).Out
def F20 (p1 : Option Addr) (n2 : Int) (many3 : Int) (w4 : World) (R : Value → World → Prop) : Prop :=
  CallR Try.prog 38 #[(Value.int .i64 n2)] w4 fun v5 w6 =>
  AsB v5 fun x7 =>
  Bif (!x7) (
  R (Value.tuple #[(Value.slice none 0 0), (Value.bool false)]) w6) (
  NilP p1 fun a8 =>
  LdB (Addr.add a8 8) w6 fun x9 =>
  Bif x9 (
  R (Value.tuple #[(Value.slice none 0 0), (Value.bool false)]) w6) (
  NilP p1 fun a10 =>
  IxP (some (Addr.add a10 0)) 2 (IntKind.wrap .i64 (1 - n2)) 4 fun a11 =>
  LdP (Addr.add a11 0) w6 fun x12 =>
  LdB (Addr.add a11 1) w6 fun x13 =>
  LdB (Addr.add a11 2) w6 fun x14 =>
  LdI .i64 (Addr.add a11 3) w6 fun x15 =>
  NewC #[(Value.pointer none), (Value.bool false), (Value.bool false), (Value.int .i64 0)] 59 w6 fun b16 w17 =>
  St1 (Addr.add ⟨b16, 0, none⟩ 0) (Value.pointer x12) w17 fun w18 =>
  St1 (Addr.add ⟨b16, 0, none⟩ 1) (Value.bool x13) w18 fun w19 =>
  St1 (Addr.add ⟨b16, 0, none⟩ 2) (Value.bool x14) w19 fun w20 =>
  St1 (Addr.add ⟨b16, 0, none⟩ 3) (Value.int .i64 x15) w20 fun w21 =>
  LdP (Addr.add ⟨b16, 0, none⟩ 0) w21 fun x22 =>
  CallR Try.prog 39 #[(Value.pointer x22), (Value.int .i64 many3)] w21 fun v23 w24 =>
  AsL v23 fun x25p x25n x25c =>
  LdI .i64 (Addr.add ⟨b16, 0, none⟩ 3) w24 fun x26 =>
  St1 (Addr.add ⟨b16, 0, none⟩ 3) (Value.int .i64 (IntKind.wrap .i64 (x26 + (x25n : Int)))) w24 fun w27 =>
  Jn fun J28 => (
  LdB (Addr.add ⟨b16, 0, none⟩ 1) w27 fun x29 =>
  Bif x29 (
  LdP (Addr.add ⟨b16, 0, none⟩ 0) w27 fun x30 =>
  NilP x30 fun a31 =>
  LdL (Addr.add a31 0) w27 fun x32p x32n x32c =>
  Bif ((x32n : Int) == 0) (
  LdB (Addr.add ⟨b16, 0, none⟩ 2) w27 fun x33 =>
  J28 [(Value.bool (!x33))] w27) (
  J28 [(Value.bool false)] w27)) (
  J28 [(Value.bool false)] w27)) ∧
  ∀ (endv34 : Bool), ∀ w35, J28 [(Value.bool endv34)] w35 →
  Jn fun J36 => (
  LdB (Addr.add ⟨b16, 0, none⟩ 2) w35 fun x37 =>
  Bif x37 (
  St1 (Addr.add ⟨b16, 0, none⟩ 2) (Value.bool true) w35 fun w38 =>
  J36 [] w38) (
  St1 (Addr.add ⟨b16, 0, none⟩ 2) (Value.bool endv34) w35 fun w39 =>
  J36 [] w39)) ∧
  ∀ w40, J36 [] w40 →
  ∃ (C41 : Cls), Cls.p C41 [] w40 ∧
  NilP p1 fun a42 =>
  ∃ (x43 : Option Addr) (x44 : Bool) (x45 : Bool) (x46 : Int), Qt C41 (Value.agg #[(Value.pointer x43), (Value.bool x44), (Value.bool x45), (Value.int .i64 x46)]) (fun w47 K48 =>
  LdP (Addr.add ⟨b16, 0, none⟩ 0) w47 fun x49 =>
  LdB (Addr.add ⟨b16, 0, none⟩ 1) w47 fun x50 =>
  LdB (Addr.add ⟨b16, 0, none⟩ 2) w47 fun x51 =>
  LdI .i64 (Addr.add ⟨b16, 0, none⟩ 3) w47 fun x52 =>
  K48 (Value.agg #[(Value.pointer x49), (Value.bool x50), (Value.bool x51), (Value.int .i64 x52)]) w47) ∧
  IxP (some (Addr.add a42 0)) 2 (IntKind.wrap .i64 (1 - n2)) 4 fun a53 =>
  Ef C41 (fun w56 K55 =>
  St1 (Addr.add a53 0) (Value.pointer x43) w56 fun w58 =>
  St1 (Addr.add a53 1) (Value.bool x44) w58 fun w59 =>
  St1 (Addr.add a53 2) (Value.bool x45) w59 fun w60 =>
  St1 (Addr.add a53 3) (Value.int .i64 x46) w60 fun w61 =>
  K55 (Value.tuple #[]) w61) fun v57 D54 =>
  v57 = (Value.tuple #[]) ∧
  (True) ∧
  ∀ G62 w63, Cls.p D54 G62 w63 →
  R (Value.tuple #[(Value.slice x25p x25n x25c), (Value.bool endv34)]) w63))
theorem F20_eq (p1 : Option Addr) (n2 : Int) (many3 : Int) (w4 : World) (R : Value → World → Prop) : liftF Try.prog 20 (.step .nil .nil (.step .nil .nil (.step .nil .nil (.step .nil .nil (.step .nil .nil (.step .nil .nil (.join 1 [(10, .b .bool)] .nil (.join 1 [] .nil (.draw [(0, false), (1, false), (2, false), (4, false), (5, false), (3, false), (6, false), (7, true)] .nil))))))))) [(Value.pointer p1), (Value.int .i64 n2), (Value.int .i64 many3)] w4 R = F20 p1 n2 many3 w4 R := by kernel_rfl
theorem F20_of {p1 : Option Addr} {n2 : Int} {many3 : Int} {w4 : World} {R : Value → World → Prop} (h : F20 p1 n2 many3 w4 R) : CallR Try.prog 20 #[(Value.pointer p1), (Value.int .i64 n2), (Value.int .i64 many3)] w4 R := callR_of_lift _ ((F20_eq p1 n2 many3 w4 R).mpr h)

-- F21 (*subway/subwayref17.Pump).End
def F21 (p1 : Option Addr) (n2 : Int) (w3 : World) (R : Value → World → Prop) : Prop :=
  CallR Try.prog 38 #[(Value.int .i64 n2)] w3 fun v4 w5 =>
  AsB v4 fun x6 =>
  Bif (!x6) (
  R (Value.bool false) w5) (
  NilP p1 fun a7 =>
  LdB (Addr.add a7 8) w5 fun x8 =>
  Bif x8 (
  R (Value.bool false) w5) (
  NilP p1 fun a9 =>
  IxP (some (Addr.add a9 0)) 2 n2 4 fun a10 =>
  LdB (Addr.add a10 1) w5 fun x11 =>
  Bif x11 (
  R (Value.bool false) w5) (
  NilP p1 fun a12 =>
  IxP (some (Addr.add a12 0)) 2 n2 4 fun a13 =>
  St1 (Addr.add a13 1) (Value.bool true) w5 fun w14 =>
  R (Value.bool true) w14)))
theorem F21_eq (p1 : Option Addr) (n2 : Int) (w3 : World) (R : Value → World → Prop) : liftF Try.prog 21 .nil [(Value.pointer p1), (Value.int .i64 n2)] w3 R = F21 p1 n2 w3 R := by kernel_rfl
theorem F21_of {p1 : Option Addr} {n2 : Int} {w3 : World} {R : Value → World → Prop} (h : F21 p1 n2 w3 R) : CallR Try.prog 21 #[(Value.pointer p1), (Value.int .i64 n2)] w3 R := callR_of_lift _ ((F21_eq p1 n2 w3 R).mpr h)

-- F22 (*subway/pump.Pump).Break
def F22 (p1 : Option Addr) (w2 : World) (R : Value → World → Prop) : Prop :=
  NilP p1 fun a3 =>
  St1 (Addr.add a3 9) (Value.bool true) w2 fun w4 =>
  Lp fun I5 mu6 =>
  I5 [(Value.int .i64 0)] w4 ∧
  ∀ (x7 : Int), ∀ w8, I5 [(Value.int .i64 x7)] w8 →
  Bif (decide (x7 < 2)) (
  ∃ (C9 : Cls), Cls.p C9 [] w8 ∧
  NilP p1 fun a10 =>
  NilP p1 fun a11 =>
  ∃ (x12 : Int), Qt C9 (Value.int .i64 x12) (fun w13 K14 =>
  LdI .i64 (Addr.add a10 8) w13 fun x15 =>
  K14 (Value.int .i64 x15) w13) ∧
  Ef C9 (fun w19 K18 =>
  CallR Try.prog 30 #[(Value.int .i64 x12)] w19 fun v21 w22 =>
  AsP v21 fun x23 =>
  K18 (Value.pointer x23) w22) fun v20 D17 =>
  AsP v20 fun x24 =>
  (True) ∧
  IxP (some (Addr.add a11 0)) 2 x7 4 fun a25 =>
  Ef D17 (fun w28 K27 =>
  St1 (Addr.add a25 0) (Value.pointer x24) w28 fun w30 =>
  K27 (Value.tuple #[]) w30) fun v29 D26 =>
  v29 = (Value.tuple #[]) ∧
  (True) ∧
  ∀ G31 w32, Cls.p D26 G31 w32 →
  I5 [(Value.int .i64 (IntKind.wrap .i64 (x7 + 1)))] w32 ∧ mu6 [(Value.int .i64 (IntKind.wrap .i64 (x7 + 1)))] w32 < mu6 [(Value.int .i64 x7)] w8) (
  R (Value.tuple #[]) w8)
theorem F22_eq (p1 : Option Addr) (w2 : World) (R : Value → World → Prop) : liftF Try.prog 22 (.step .nil .nil (.step .nil .nil (.step (.loop [(6, .b (.int .i64))] (.step .nil .nil (.step .nil .nil (.step (.step .nil .nil (.draw [(0, false), (1, false), (2, false), (3, false), (4, false), (7, false), (8, false), (5, false), (6, true), (9, false), (10, false), (11, true)] .nil)) .nil .nil)))) .nil .nil))) [(Value.pointer p1)] w2 R = F22 p1 w2 R := by kernel_rfl
theorem F22_of {p1 : Option Addr} {w2 : World} {R : Value → World → Prop} (h : F22 p1 w2 R) : CallR Try.prog 22 #[(Value.pointer p1)] w2 R := callR_of_lift _ ((F22_eq p1 w2 R).mpr h)

-- F23 (*subway/subwayref17.Pump).Break
def F23 (p1 : Option Addr) (w2 : World) (R : Value → World → Prop) : Prop :=
  NilP p1 fun a3 =>
  St1 (Addr.add a3 8) (Value.bool true) w2 fun w4 =>
  NilP p1 fun a5 =>
  IxP (some (Addr.add a5 0)) 2 0 4 fun a6 =>
  LdP (Addr.add a6 0) w4 fun x7 =>
  NilP x7 fun a8 =>
  St1 (Addr.add a8 0) (Value.slice none 0 0) w4 fun w9 =>
  NilP p1 fun a10 =>
  IxP (some (Addr.add a10 0)) 2 1 4 fun a11 =>
  LdP (Addr.add a11 0) w9 fun x12 =>
  NilP x12 fun a13 =>
  St1 (Addr.add a13 0) (Value.slice none 0 0) w9 fun w14 =>
  R (Value.tuple #[]) w14
theorem F23_eq (p1 : Option Addr) (w2 : World) (R : Value → World → Prop) : liftF Try.prog 23 .nil [(Value.pointer p1)] w2 R = F23 p1 w2 R := by kernel_rfl
theorem F23_of {p1 : Option Addr} {w2 : World} {R : Value → World → Prop} (h : F23 p1 w2 R) : CallR Try.prog 23 #[(Value.pointer p1)] w2 R := callR_of_lift _ ((F23_eq p1 w2 R).mpr h)

-- F24 (*subway/subwayref17.Pump).In
def F24 (p1 : Option Addr) (n2 : Int) (b3p : Option Addr) (b3n : Nat) (b3c : Nat) (w4 : World) (R : Value → World → Prop) : Prop :=
  CallR Try.prog 38 #[(Value.int .i64 n2)] w4 fun v5 w6 =>
  AsB v5 fun x7 =>
  Bif (!x7) (
  R (Value.int .i64 0) w6) (
  NilP p1 fun a8 =>
  LdB (Addr.add a8 8) w6 fun x9 =>
  Bif x9 (
  R (Value.int .i64 0) w6) (
  NilP p1 fun a10 =>
  IxP (some (Addr.add a10 0)) 2 n2 4 fun a11 =>
  LdB (Addr.add a11 1) w6 fun x12 =>
  Bif x12 (
  R (Value.int .i64 0) w6) (
  NilP p1 fun a13 =>
  IxP (some (Addr.add a13 0)) 2 n2 4 fun a14 =>
  LdP (Addr.add a14 0) w6 fun x15 =>
  CallR Try.prog 40 #[(Value.pointer x15), (Value.slice b3p b3n b3c)] w6 fun v16 w17 =>
  AsI .i64 v16 fun x18 =>
  R (Value.int .i64 x18) w17)))
theorem F24_eq (p1 : Option Addr) (n2 : Int) (b3p : Option Addr) (b3n : Nat) (b3c : Nat) (w4 : World) (R : Value → World → Prop) : liftF Try.prog 24 .nil [(Value.pointer p1), (Value.int .i64 n2), (Value.slice b3p b3n b3c)] w4 R = F24 p1 n2 b3p b3n b3c w4 R := by kernel_rfl
theorem F24_of {p1 : Option Addr} {n2 : Int} {b3p : Option Addr} {b3n : Nat} {b3c : Nat} {w4 : World} {R : Value → World → Prop} (h : F24 p1 n2 b3p b3n b3c w4 R) : CallR Try.prog 24 #[(Value.pointer p1), (Value.int .i64 n2), (Value.slice b3p b3n b3c)] w4 R := callR_of_lift _ ((F24_eq p1 n2 b3p b3n b3c w4 R).mpr h)

-- F25 (*subway/subwayref17.Pump).Waits
def F25 (p1 : Option Addr) (n2 : Int) (w3 : World) (R : Value → World → Prop) : Prop :=
  CallR Try.prog 38 #[(Value.int .i64 n2)] w3 fun v4 w5 =>
  AsB v4 fun x6 =>
  Bif (!x6) (
  R (Value.int .i64 0) w5) (
  NilP p1 fun a7 =>
  IxP (some (Addr.add a7 0)) 2 (IntKind.wrap .i64 (1 - n2)) 4 fun a8 =>
  LdP (Addr.add a8 0) w5 fun x9 =>
  NilP x9 fun a10 =>
  LdL (Addr.add a10 0) w5 fun x11p x11n x11c =>
  R (Value.int .i64 (x11n : Int)) w5)
theorem F25_eq (p1 : Option Addr) (n2 : Int) (w3 : World) (R : Value → World → Prop) : liftF Try.prog 25 .nil [(Value.pointer p1), (Value.int .i64 n2)] w3 R = F25 p1 n2 w3 R := by kernel_rfl
theorem F25_of {p1 : Option Addr} {n2 : Int} {w3 : World} {R : Value → World → Prop} (h : F25 p1 n2 w3 R) : CallR Try.prog 25 #[(Value.pointer p1), (Value.int .i64 n2)] w3 R := callR_of_lift _ ((F25_eq p1 n2 w3 R).mpr h)

-- F26 (*subway/subwayref17.Pump).Room
def F26 (p1 : Option Addr) (n2 : Int) (w3 : World) (R : Value → World → Prop) : Prop :=
  CallR Try.prog 38 #[(Value.int .i64 n2)] w3 fun v4 w5 =>
  AsB v4 fun x6 =>
  Bif (!x6) (
  R (Value.int .i64 0) w5) (
  NilP p1 fun a7 =>
  LdB (Addr.add a7 8) w5 fun x8 =>
  Bif x8 (
  R (Value.int .i64 0) w5) (
  NilP p1 fun a9 =>
  IxP (some (Addr.add a9 0)) 2 n2 4 fun a10 =>
  LdB (Addr.add a10 1) w5 fun x11 =>
  Bif x11 (
  R (Value.int .i64 0) w5) (
  ∃ (C12 : Cls), Cls.p C12 [] w5 ∧
  NilP p1 fun a13 =>
  IxP (some (Addr.add a13 0)) 2 n2 4 fun a14 =>
  NilP p1 fun a15 =>
  IxP (some (Addr.add a15 0)) 2 n2 4 fun a16 =>
  ∃ (x17 : Option Addr), Qt C12 (Value.pointer x17) (fun w18 K19 =>
  LdP (Addr.add a14 0) w18 fun x20 =>
  K19 (Value.pointer x20) w18) ∧
  NilP x17 fun a21 =>
  ∃ (x22 : Int), Qt C12 (Value.int .i64 x22) (fun w23 K24 =>
  LdI .i64 (Addr.add a21 1) w23 fun x25 =>
  K24 (Value.int .i64 x25) w23) ∧
  ∃ (x26 : Option Addr), Qt C12 (Value.pointer x26) (fun w27 K28 =>
  LdP (Addr.add a16 0) w27 fun x29 =>
  K28 (Value.pointer x29) w27) ∧
  NilP x26 fun a30 =>
  ∃ (x31p : Option Addr) (x31n : Nat) (x31c : Nat), Qt C12 (Value.slice x31p x31n x31c) (fun w32 K33 =>
  LdL (Addr.add a30 0) w32 fun x34p x34n x34c =>
  K33 (Value.slice x34p x34n x34c) w32) ∧
  ∀ G35 w36, Cls.p C12 G35 w36 →
  R (Value.int .i64 (IntKind.wrap .i64 (x22 - (x31n : Int)))) w36)))
theorem F26_eq (p1 : Option Addr) (n2 : Int) (w3 : World) (R : Value → World → Prop) : liftF Try.prog 26 (.step .nil .nil (.step .nil .nil (.step .nil .nil (.draw [(0, false), (1, false), (2, false), (3, false), (4, false), (5, false), (10, false), (11, false), (12, false), (13, false), (14, false), (15, false), (6, false), (7, false), (8, false), (9, false), (16, false), (17, false), (18, false), (19, false), (20, false), (21, false), (22, false)] .nil)))) [(Value.pointer p1), (Value.int .i64 n2)] w3 R = F26 p1 n2 w3 R := by kernel_rfl
theorem F26_of {p1 : Option Addr} {n2 : Int} {w3 : World} {R : Value → World → Prop} (h : F26 p1 n2 w3 R) : CallR Try.prog 26 #[(Value.pointer p1), (Value.int .i64 n2)] w3 R := callR_of_lift _ ((F26_eq p1 n2 w3 R).mpr h)

-- F27 (*subway/subwayref17.Pump).Moved
def F27 (p1 : Option Addr) (n2 : Int) (w3 : World) (R : Value → World → Prop) : Prop :=
  CallR Try.prog 38 #[(Value.int .i64 n2)] w3 fun v4 w5 =>
  AsB v4 fun x6 =>
  Bif (!x6) (
  R (Value.int .i64 0) w5) (
  NilP p1 fun a7 =>
  IxP (some (Addr.add a7 0)) 2 (IntKind.wrap .i64 (1 - n2)) 4 fun a8 =>
  LdI .i64 (Addr.add a8 3) w5 fun x9 =>
  R (Value.int .i64 x9) w5)
theorem F27_eq (p1 : Option Addr) (n2 : Int) (w3 : World) (R : Value → World → Prop) : liftF Try.prog 27 .nil [(Value.pointer p1), (Value.int .i64 n2)] w3 R = F27 p1 n2 w3 R := by kernel_rfl
theorem F27_of {p1 : Option Addr} {n2 : Int} {w3 : World} {R : Value → World → Prop} (h : F27 p1 n2 w3 R) : CallR Try.prog 27 #[(Value.pointer p1), (Value.int .i64 n2)] w3 R := callR_of_lift _ ((F27_eq p1 n2 w3 R).mpr h)

-- F28 (*subway/pump.Pump).Over
def F28 (p1 : Option Addr) (w2 : World) (R : Value → World → Prop) : Prop :=
  NilP p1 fun a3 =>
  LdB (Addr.add a3 9) w2 fun x4 =>
  Bif x4 (
  R (Value.bool true) w2) (
  NilP p1 fun a5 =>
  IxP (some (Addr.add a5 0)) 2 0 4 fun a6 =>
  LdB (Addr.add a6 2) w2 fun x7 =>
  Bif x7 (
  NilP p1 fun a8 =>
  IxP (some (Addr.add a8 0)) 2 1 4 fun a9 =>
  LdB (Addr.add a9 2) w2 fun x10 =>
  R (Value.bool x10) w2) (
  R (Value.bool false) w2))
theorem F28_eq (p1 : Option Addr) (w2 : World) (R : Value → World → Prop) : liftF Try.prog 28 .nil [(Value.pointer p1)] w2 R = F28 p1 w2 R := by kernel_rfl
theorem F28_of {p1 : Option Addr} {w2 : World} {R : Value → World → Prop} (h : F28 p1 w2 R) : CallR Try.prog 28 #[(Value.pointer p1)] w2 R := callR_of_lift _ ((F28_eq p1 w2 R).mpr h)

-- F29 (*subway/subwayref17.Pump).Over
def F29 (p1 : Option Addr) (w2 : World) (R : Value → World → Prop) : Prop :=
  NilP p1 fun a3 =>
  LdB (Addr.add a3 8) w2 fun x4 =>
  Bif x4 (
  R (Value.bool true) w2) (
  NilP p1 fun a5 =>
  IxP (some (Addr.add a5 0)) 2 0 4 fun a6 =>
  LdB (Addr.add a6 2) w2 fun x7 =>
  Bif x7 (
  NilP p1 fun a8 =>
  IxP (some (Addr.add a8 0)) 2 1 4 fun a9 =>
  LdB (Addr.add a9 2) w2 fun x10 =>
  R (Value.bool x10) w2) (
  R (Value.bool false) w2))
theorem F29_eq (p1 : Option Addr) (w2 : World) (R : Value → World → Prop) : liftF Try.prog 29 .nil [(Value.pointer p1)] w2 R = F29 p1 w2 R := by kernel_rfl
theorem F29_of {p1 : Option Addr} {w2 : World} {R : Value → World → Prop} (h : F29 p1 w2 R) : CallR Try.prog 29 #[(Value.pointer p1)] w2 R := callR_of_lift _ ((F29_eq p1 w2 R).mpr h)

-- F30 subway/ring.New
def F30 (most1 : Int) (w2 : World) (R : Value → World → Prop) : Prop :=
  MkS (#[(Value.int .u8 0)]) 1 1 5 (if 65536 < (if 0 > most1 then 0 else most1) then 65536 else (if 0 > most1 then 0 else most1)) (if 65536 < (if 0 > most1 then 0 else most1) then 65536 else (if 0 > most1 then 0 else most1)) w2 fun b3 w4 =>
  NewC #[(Value.slice (some ⟨b3, 0, none⟩) (Int.toNat (if 65536 < (if 0 > most1 then 0 else most1) then 65536 else (if 0 > most1 then 0 else most1))) (Int.toNat (if 65536 < (if 0 > most1 then 0 else most1) then 65536 else (if 0 > most1 then 0 else most1)))), (Value.int .i64 0), (Value.int .i64 0)] 68 w4 fun b5 w6 =>
  R (Value.pointer (some ⟨b5, 0, none⟩)) w6
theorem F30_eq (most1 : Int) (w2 : World) (R : Value → World → Prop) : liftF Try.prog 30 .nil [(Value.int .i64 most1)] w2 R = F30 most1 w2 R := by kernel_rfl
theorem F30_of {most1 : Int} {w2 : World} {R : Value → World → Prop} (h : F30 most1 w2 R) : CallR Try.prog 30 #[(Value.int .i64 most1)] w2 R := callR_of_lift _ ((F30_eq most1 w2 R).mpr h)

-- F31 subway/pump.side
def F31 (n1 : Int) (w2 : World) (R : Value → World → Prop) : Prop :=
  ShK 1 (
  R (Value.bool ((Int.fdiv n1 (2 ^ min (Int.toNat 1) (IntKind.bits .i64))) == 0)) w2)
theorem F31_eq (n1 : Int) (w2 : World) (R : Value → World → Prop) : liftF Try.prog 31 .nil [(Value.int .i64 n1)] w2 R = F31 n1 w2 R := by kernel_rfl
theorem F31_of {n1 : Int} {w2 : World} {R : Value → World → Prop} (h : F31 n1 w2 R) : CallR Try.prog 31 #[(Value.int .i64 n1)] w2 R := callR_of_lift _ ((F31_eq n1 w2 R).mpr h)

-- F32 (*subway/pump.way).out
def F32 (w1 : Option Addr) (n2 : Int) (w3 : World) (R : Value → World → Prop) : Prop :=
  NilP w1 fun a4 =>
  LdP (Addr.add a4 0) w3 fun x5 =>
  CallR Try.prog 41 #[(Value.pointer x5), (Value.int .i64 n2)] w3 fun v6 w7 =>
  AsL v6 fun x8p x8n x8c =>
  NilP w1 fun a9 =>
  LdI .i64 (Addr.add a9 3) w7 fun x10 =>
  NilP w1 fun a11 =>
  St1 (Addr.add a11 3) (Value.int .i64 (IntKind.wrap .i64 (x10 + (x8n : Int)))) w7 fun w12 =>
  NilP w1 fun a13 =>
  LdB (Addr.add a13 1) w12 fun x14 =>
  Bif (!x14) (
  R (Value.tuple #[(Value.slice x8p x8n x8c), (Value.bool false)]) w12) (
  NilP w1 fun a15 =>
  LdB (Addr.add a15 2) w12 fun x16 =>
  Bif x16 (
  R (Value.tuple #[(Value.slice x8p x8n x8c), (Value.bool false)]) w12) (
  NilP w1 fun a17 =>
  LdP (Addr.add a17 0) w12 fun x18 =>
  CallR Try.prog 35 #[(Value.pointer x18)] w12 fun v19 w20 =>
  AsI .i64 v19 fun x21 =>
  Bif (decide (x21 > 0)) (
  R (Value.tuple #[(Value.slice x8p x8n x8c), (Value.bool false)]) w20) (
  NilP w1 fun a22 =>
  St1 (Addr.add a22 2) (Value.bool true) w20 fun w23 =>
  R (Value.tuple #[(Value.slice x8p x8n x8c), (Value.bool true)]) w23)))
theorem F32_eq (w1 : Option Addr) (n2 : Int) (w3 : World) (R : Value → World → Prop) : liftF Try.prog 32 .nil [(Value.pointer w1), (Value.int .i64 n2)] w3 R = F32 w1 n2 w3 R := by kernel_rfl
theorem F32_of {w1 : Option Addr} {n2 : Int} {w3 : World} {R : Value → World → Prop} (h : F32 w1 n2 w3 R) : CallR Try.prog 32 #[(Value.pointer w1), (Value.int .i64 n2)] w3 R := callR_of_lift _ ((F32_eq w1 n2 w3 R).mpr h)

-- F33 (*subway/pump.Pump).hears
def F33 (p1 : Option Addr) (n2 : Int) (w3 : World) (R : Value → World → Prop) : Prop :=
  CallR Try.prog 31 #[(Value.int .i64 n2)] w3 fun v4 w5 =>
  AsB v4 fun x6 =>
  Bif (!x6) (
  R (Value.pointer none) w5) (
  NilP p1 fun a7 =>
  LdB (Addr.add a7 9) w5 fun x8 =>
  Bif x8 (
  R (Value.pointer none) w5) (
  NilP p1 fun a9 =>
  IxP (some (Addr.add a9 0)) 2 n2 4 fun a10 =>
  LdB (Addr.add a10 1) w5 fun x11 =>
  Bif x11 (
  R (Value.pointer none) w5) (
  NilP p1 fun a12 =>
  IxP (some (Addr.add a12 0)) 2 n2 4 fun a13 =>
  R (Value.pointer (some a13)) w5)))
theorem F33_eq (p1 : Option Addr) (n2 : Int) (w3 : World) (R : Value → World → Prop) : liftF Try.prog 33 .nil [(Value.pointer p1), (Value.int .i64 n2)] w3 R = F33 p1 n2 w3 R := by kernel_rfl
theorem F33_of {p1 : Option Addr} {n2 : Int} {w3 : World} {R : Value → World → Prop} (h : F33 p1 n2 w3 R) : CallR Try.prog 33 #[(Value.pointer p1), (Value.int .i64 n2)] w3 R := callR_of_lift _ ((F33_eq p1 n2 w3 R).mpr h)

-- F34 (*subway/ring.Ring).Add
def F34 (r1 : Option Addr) (b2p : Option Addr) (b2n : Nat) (b2c : Nat) (w3 : World) (R : Value → World → Prop) : Prop :=
  ∃ (C4 : Cls), Cls.p C4 [] w3 ∧
  NilP r1 fun a5 =>
  NilP r1 fun a6 =>
  ∃ (x7 : Int), Qt C4 (Value.int .i64 x7) (fun w8 K9 =>
  LdI .i64 (Addr.add a5 1) w8 fun x10 =>
  K9 (Value.int .i64 x10) w8) ∧
  ∃ (x11 : Int), Qt C4 (Value.int .i64 x11) (fun w12 K13 =>
  LdI .i64 (Addr.add a6 2) w12 fun x14 =>
  K13 (Value.int .i64 x14) w12) ∧
  ∃ (x15 : Int), Qt C4 (Value.int .i64 x15) (fun w16 K17 =>
  CallR Try.prog 36 #[(Value.pointer r1)] w16 fun v18 w19 =>
  AsI .i64 v18 fun x20 =>
  K17 (Value.int .i64 x20) w19) ∧
  Ef C4 (fun w25 K24 =>
  CallR Try.prog 42 #[(Value.pointer r1), (Value.int .i64 (IntKind.wrap .i64 (x7 + x11))), (Value.int .i64 (if x15 < (b2n : Int) then x15 else (b2n : Int)))] w25 fun v27 w28 =>
  ∃ (x29p : Option Addr) (x29n : Nat) (x29c : Nat), ∃ (x30p : Option Addr) (x30n : Nat) (x30c : Nat), v27 = (Value.tuple #[(Value.slice x29p x29n x29c), (Value.slice x30p x30n x30c)]) ∧
  K24 (Value.tuple #[(Value.slice x29p x29n x29c), (Value.slice x30p x30n x30c)]) w28) fun v26 D23 =>
  ∃ (x31p : Option Addr) (x31n : Nat) (x31c : Nat), ∃ (x32p : Option Addr) (x32n : Nat) (x32c : Nat), v26 = (Value.tuple #[(Value.slice x31p x31n x31c), (Value.slice x32p x32n x32c)]) ∧
  (True) ∧
  ∀ G33 w34, Cls.p D23 G33 w34 →
  Run Try.prog (Builtin.copy_ #[28, 28] 3 #[(Value.slice x31p x31n x31c), (Value.slice b2p b2n b2c)]) w34 fun v35 w36 =>
  AsI .i64 v35 fun x37 =>
  SlP b2p b2n b2c 1 x37 (b2n : Int) fun x38p x38n x38c =>
  Run Try.prog (Builtin.copy_ #[28, 28] 3 #[(Value.slice x32p x32n x32c), (Value.slice x38p x38n x38c)]) w36 fun v39 w40 =>
  AsI .i64 v39 fun x41 =>
  NilP r1 fun a42 =>
  LdI .i64 (Addr.add a42 2) w40 fun x43 =>
  NilP r1 fun a44 =>
  St1 (Addr.add a44 2) (Value.int .i64 (IntKind.wrap .i64 (x43 + (IntKind.wrap .i64 (x37 + x41))))) w40 fun w45 =>
  R (Value.int .i64 (IntKind.wrap .i64 (x37 + x41))) w45
theorem F34_eq (r1 : Option Addr) (b2p : Option Addr) (b2n : Nat) (b2c : Nat) (w3 : World) (R : Value → World → Prop) : liftF Try.prog 34 (.step .nil .nil (.draw [(0, false), (1, false), (2, false), (3, false), (5, false), (6, false), (7, false), (10, false), (11, false), (12, false), (4, false), (8, false), (9, false), (13, false), (14, false), (15, true), (16, false), (17, false), (18, false), (19, false), (20, false)] .nil)) [(Value.pointer r1), (Value.slice b2p b2n b2c)] w3 R = F34 r1 b2p b2n b2c w3 R := by kernel_rfl
theorem F34_of {r1 : Option Addr} {b2p : Option Addr} {b2n : Nat} {b2c : Nat} {w3 : World} {R : Value → World → Prop} (h : F34 r1 b2p b2n b2c w3 R) : CallR Try.prog 34 #[(Value.pointer r1), (Value.slice b2p b2n b2c)] w3 R := callR_of_lift _ ((F34_eq r1 b2p b2n b2c w3 R).mpr h)

-- F35 (*subway/ring.Ring).Many
def F35 (r1 : Option Addr) (w2 : World) (R : Value → World → Prop) : Prop :=
  NilP r1 fun a3 =>
  LdI .i64 (Addr.add a3 2) w2 fun x4 =>
  R (Value.int .i64 x4) w2
theorem F35_eq (r1 : Option Addr) (w2 : World) (R : Value → World → Prop) : liftF Try.prog 35 .nil [(Value.pointer r1)] w2 R = F35 r1 w2 R := by kernel_rfl
theorem F35_of {r1 : Option Addr} {w2 : World} {R : Value → World → Prop} (h : F35 r1 w2 R) : CallR Try.prog 35 #[(Value.pointer r1)] w2 R := callR_of_lift _ ((F35_eq r1 w2 R).mpr h)

-- F36 (*subway/ring.Ring).Room
def F36 (r1 : Option Addr) (w2 : World) (R : Value → World → Prop) : Prop :=
  ∃ (C3 : Cls), Cls.p C3 [] w2 ∧
  NilP r1 fun a4 =>
  NilP r1 fun a5 =>
  ∃ (x6p : Option Addr) (x6n : Nat) (x6c : Nat), Qt C3 (Value.slice x6p x6n x6c) (fun w7 K8 =>
  LdL (Addr.add a4 0) w7 fun x9p x9n x9c =>
  K8 (Value.slice x9p x9n x9c) w7) ∧
  ∃ (x10 : Int), Qt C3 (Value.int .i64 x10) (fun w11 K12 =>
  LdI .i64 (Addr.add a5 2) w11 fun x13 =>
  K12 (Value.int .i64 x13) w11) ∧
  ∀ G14 w15, Cls.p C3 G14 w15 →
  R (Value.int .i64 (IntKind.wrap .i64 ((x6n : Int) - x10))) w15
theorem F36_eq (r1 : Option Addr) (w2 : World) (R : Value → World → Prop) : liftF Try.prog 36 (.step .nil .nil (.draw [(0, false), (1, false), (2, false), (5, false), (6, false), (7, false), (3, false), (4, false), (8, false), (9, false), (10, false)] .nil)) [(Value.pointer r1)] w2 R = F36 r1 w2 R := by kernel_rfl
theorem F36_of {r1 : Option Addr} {w2 : World} {R : Value → World → Prop} (h : F36 r1 w2 R) : CallR Try.prog 36 #[(Value.pointer r1)] w2 R := callR_of_lift _ ((F36_eq r1 w2 R).mpr h)

-- F37 subway/subwayref07.New
def F37 (most1 : Int) (w2 : World) (R : Value → World → Prop) : Prop :=
  NewC #[(Value.slice none 0 0), (Value.int .i64 (if 65536 < (if 0 > most1 then 0 else most1) then 65536 else (if 0 > most1 then 0 else most1)))] 66 w2 fun b3 w4 =>
  R (Value.pointer (some ⟨b3, 0, none⟩)) w4
theorem F37_eq (most1 : Int) (w2 : World) (R : Value → World → Prop) : liftF Try.prog 37 .nil [(Value.int .i64 most1)] w2 R = F37 most1 w2 R := by kernel_rfl
theorem F37_of {most1 : Int} {w2 : World} {R : Value → World → Prop} (h : F37 most1 w2 R) : CallR Try.prog 37 #[(Value.int .i64 most1)] w2 R := callR_of_lift _ ((F37_eq most1 w2 R).mpr h)

-- F38 subway/subwayref17.side
def F38 (n1 : Int) (w2 : World) (R : Value → World → Prop) : Prop :=
  Bif (n1 == 0) (
  R (Value.bool true) w2) (
  R (Value.bool (n1 == 1)) w2)
theorem F38_eq (n1 : Int) (w2 : World) (R : Value → World → Prop) : liftF Try.prog 38 .nil [(Value.int .i64 n1)] w2 R = F38 n1 w2 R := by kernel_rfl
theorem F38_of {n1 : Int} {w2 : World} {R : Value → World → Prop} (h : F38 n1 w2 R) : CallR Try.prog 38 #[(Value.int .i64 n1)] w2 R := callR_of_lift _ ((F38_eq n1 w2 R).mpr h)

-- F39 (*subway/subwayref07.Ring).Take
def F39 (r1 : Option Addr) (n2 : Int) (w3 : World) (R : Value → World → Prop) : Prop :=
  NilP r1 fun a4 =>
  LdL (Addr.add a4 0) w3 fun x5p x5n x5c =>
  NewC #[] 5 w3 fun b6 w7 =>
  NilP r1 fun a8 =>
  LdL (Addr.add a8 0) w7 fun x9p x9n x9c =>
  SlP x9p x9n x9c 1 0 (if (x5n : Int) < (if 0 > n2 then 0 else n2) then (x5n : Int) else (if 0 > n2 then 0 else n2)) fun x10p x10n x10c =>
  Run Try.prog (Builtin.append_ #[28, 28] 28 #[(Value.slice (some ⟨b6, 0, none⟩) 0 0), (Value.slice x10p x10n x10c)]) w7 fun v11 w12 =>
  AsL v11 fun x13p x13n x13c =>
  NewC #[] 5 w12 fun b14 w15 =>
  NilP r1 fun a16 =>
  LdL (Addr.add a16 0) w15 fun x17p x17n x17c =>
  SlP x17p x17n x17c 1 (if (x5n : Int) < (if 0 > n2 then 0 else n2) then (x5n : Int) else (if 0 > n2 then 0 else n2)) (x17n : Int) fun x18p x18n x18c =>
  Run Try.prog (Builtin.append_ #[28, 28] 28 #[(Value.slice (some ⟨b14, 0, none⟩) 0 0), (Value.slice x18p x18n x18c)]) w15 fun v19 w20 =>
  AsL v19 fun x21p x21n x21c =>
  NilP r1 fun a22 =>
  St1 (Addr.add a22 0) (Value.slice x21p x21n x21c) w20 fun w23 =>
  R (Value.slice x13p x13n x13c) w23
theorem F39_eq (r1 : Option Addr) (n2 : Int) (w3 : World) (R : Value → World → Prop) : liftF Try.prog 39 .nil [(Value.pointer r1), (Value.int .i64 n2)] w3 R = F39 r1 n2 w3 R := by kernel_rfl
theorem F39_of {r1 : Option Addr} {n2 : Int} {w3 : World} {R : Value → World → Prop} (h : F39 r1 n2 w3 R) : CallR Try.prog 39 #[(Value.pointer r1), (Value.int .i64 n2)] w3 R := callR_of_lift _ ((F39_eq r1 n2 w3 R).mpr h)

-- F40 (*subway/subwayref07.Ring).Add
def F40 (r1 : Option Addr) (b2p : Option Addr) (b2n : Nat) (b2c : Nat) (w3 : World) (R : Value → World → Prop) : Prop :=
  ∃ (C4 : Cls), Cls.p C4 [] w3 ∧
  NilP r1 fun a5 =>
  NilP r1 fun a6 =>
  ∃ (x7 : Int), Qt C4 (Value.int .i64 x7) (fun w8 K9 =>
  LdI .i64 (Addr.add a5 1) w8 fun x10 =>
  K9 (Value.int .i64 x10) w8) ∧
  ∃ (x11p : Option Addr) (x11n : Nat) (x11c : Nat), Qt C4 (Value.slice x11p x11n x11c) (fun w12 K13 =>
  LdL (Addr.add a6 0) w12 fun x14p x14n x14c =>
  K13 (Value.slice x14p x14n x14c) w12) ∧
  ∀ G15 w16, Cls.p C4 G15 w16 →
  ∃ (C17 : Cls), Cls.p C17 [] w16 ∧
  NilP r1 fun a18 =>
  SlP b2p b2n b2c 1 0 (if (IntKind.wrap .i64 (x7 - (x11n : Int))) < (b2n : Int) then (IntKind.wrap .i64 (x7 - (x11n : Int))) else (b2n : Int)) fun x19p x19n x19c =>
  ∃ (x20p : Option Addr) (x20n : Nat) (x20c : Nat), Qt C17 (Value.slice x20p x20n x20c) (fun w21 K22 =>
  LdL (Addr.add a18 0) w21 fun x23p x23n x23c =>
  K22 (Value.slice x23p x23n x23c) w21) ∧
  ∀ b24 : Nat,
  Ef (Cls.push C17 (b24, .cells #[] 5)) (fun w28 K27 =>
  Run Try.prog (Builtin.append_ #[28, 28] 28 #[(Value.slice (some ⟨b24, 0, none⟩) 0 0), (Value.slice x20p x20n x20c)]) w28 fun v30 w31 =>
  AsL v30 fun x32p x32n x32c =>
  K27 (Value.slice x32p x32n x32c) w31) fun v29 D26 =>
  AsL v29 fun x33p x33n x33c =>
  (True) ∧
  Ef D26 (fun w37 K36 =>
  Run Try.prog (Builtin.append_ #[28, 28] 28 #[(Value.slice x33p x33n x33c), (Value.slice x19p x19n x19c)]) w37 fun v39 w40 =>
  AsL v39 fun x41p x41n x41c =>
  K36 (Value.slice x41p x41n x41c) w40) fun v38 D35 =>
  AsL v38 fun x42p x42n x42c =>
  (True) ∧
  NilP r1 fun a43 =>
  Ef D35 (fun w46 K45 =>
  St1 (Addr.add a43 0) (Value.slice x42p x42n x42c) w46 fun w48 =>
  K45 (Value.tuple #[]) w48) fun v47 D44 =>
  v47 = (Value.tuple #[]) ∧
  (True) ∧
  ∀ G49 w50, Cls.p D44 G49 w50 →
  R (Value.int .i64 (if (IntKind.wrap .i64 (x7 - (x11n : Int))) < (b2n : Int) then (IntKind.wrap .i64 (x7 - (x11n : Int))) else (b2n : Int))) w50
theorem F40_eq (r1 : Option Addr) (b2p : Option Addr) (b2n : Nat) (b2c : Nat) (w3 : World) (R : Value → World → Prop) : liftF Try.prog 40 (.step .nil .nil (.draw [(0, false), (1, false), (2, false), (3, false), (4, false), (6, false), (7, false), (8, false), (5, false), (9, false), (10, false), (11, false), (12, false), (13, false)] (.draw [(0, false), (2, false), (3, false), (4, false), (7, false), (8, false), (9, false), (5, false), (1, false), (6, true), (10, true), (11, false), (12, false), (13, true)] .nil))) [(Value.pointer r1), (Value.slice b2p b2n b2c)] w3 R = F40 r1 b2p b2n b2c w3 R := by kernel_rfl
theorem F40_of {r1 : Option Addr} {b2p : Option Addr} {b2n : Nat} {b2c : Nat} {w3 : World} {R : Value → World → Prop} (h : F40 r1 b2p b2n b2c w3 R) : CallR Try.prog 40 #[(Value.pointer r1), (Value.slice b2p b2n b2c)] w3 R := callR_of_lift _ ((F40_eq r1 b2p b2n b2c w3 R).mpr h)

-- F41 (*subway/ring.Ring).Take
def F41 (r1 : Option Addr) (n2 : Int) (w3 : World) (R : Value → World → Prop) : Prop :=
  NilP r1 fun a4 =>
  LdI .i64 (Addr.add a4 2) w3 fun x5 =>
  CallR Try.prog 43 #[(Value.pointer r1), (Value.int .i64 (if x5 < (if 0 > n2 then 0 else n2) then x5 else (if 0 > n2 then 0 else n2)))] w3 fun v6 w7 =>
  AsL v6 fun x8p x8n x8c =>
  NilP r1 fun a9 =>
  LdI .i64 (Addr.add a9 2) w7 fun x10 =>
  NilP r1 fun a11 =>
  St1 (Addr.add a11 2) (Value.int .i64 (IntKind.wrap .i64 (x10 - (if x5 < (if 0 > n2 then 0 else n2) then x5 else (if 0 > n2 then 0 else n2))))) w7 fun w12 =>
  NilP r1 fun a13 =>
  LdI .i64 (Addr.add a13 1) w12 fun x14 =>
  NilP r1 fun a15 =>
  St1 (Addr.add a15 1) (Value.int .i64 (IntKind.wrap .i64 (x14 + (if x5 < (if 0 > n2 then 0 else n2) then x5 else (if 0 > n2 then 0 else n2))))) w12 fun w16 =>
  ∃ (C17 : Cls), Cls.p C17 [] w16 ∧
  NilP r1 fun a18 =>
  NilP r1 fun a19 =>
  ∃ (x20 : Int), Qt C17 (Value.int .i64 x20) (fun w21 K22 =>
  LdI .i64 (Addr.add a18 1) w21 fun x23 =>
  K22 (Value.int .i64 x23) w21) ∧
  ∃ (x24p : Option Addr) (x24n : Nat) (x24c : Nat), Qt C17 (Value.slice x24p x24n x24c) (fun w25 K26 =>
  LdL (Addr.add a19 0) w25 fun x27p x27n x27c =>
  K26 (Value.slice x27p x27n x27c) w25) ∧
  ∀ G28 w29, Cls.p C17 G28 w29 →
  Bif (decide (x20 ≥ (x24n : Int))) (
  ∃ (C30 : Cls), Cls.p C30 [] w29 ∧
  NilP r1 fun a31 =>
  NilP r1 fun a32 =>
  ∃ (x33 : Int), Qt C30 (Value.int .i64 x33) (fun w34 K35 =>
  LdI .i64 (Addr.add a31 1) w34 fun x36 =>
  K35 (Value.int .i64 x36) w34) ∧
  ∃ (x37p : Option Addr) (x37n : Nat) (x37c : Nat), Qt C30 (Value.slice x37p x37n x37c) (fun w38 K39 =>
  LdL (Addr.add a32 0) w38 fun x40p x40n x40c =>
  K39 (Value.slice x40p x40n x40c) w38) ∧
  NilP r1 fun a41 =>
  Ef C30 (fun w44 K43 =>
  St1 (Addr.add a41 1) (Value.int .i64 (IntKind.wrap .i64 (x33 - (x37n : Int)))) w44 fun w46 =>
  K43 (Value.tuple #[]) w46) fun v45 D42 =>
  v45 = (Value.tuple #[]) ∧
  (True) ∧
  ∀ G47 w48, Cls.p D42 G47 w48 →
  R (Value.slice x8p x8n x8c) w48) (
  R (Value.slice x8p x8n x8c) w29)
theorem F41_eq (r1 : Option Addr) (n2 : Int) (w3 : World) (R : Value → World → Prop) : liftF Try.prog 41 (.step .nil .nil (.step .nil .nil (.step .nil .nil (.step .nil .nil (.step .nil .nil (.draw [(0, false), (1, false), (2, false), (4, false), (5, false), (6, false), (3, false), (7, false), (8, false), (9, false)] (.step (.draw [(0, false), (1, false), (2, false), (4, false), (5, false), (6, false), (3, false), (7, false), (8, false), (9, false), (10, false), (11, false), (12, true)] .nil) .nil .nil))))))) [(Value.pointer r1), (Value.int .i64 n2)] w3 R = F41 r1 n2 w3 R := by kernel_rfl
theorem F41_of {r1 : Option Addr} {n2 : Int} {w3 : World} {R : Value → World → Prop} (h : F41 r1 n2 w3 R) : CallR Try.prog 41 #[(Value.pointer r1), (Value.int .i64 n2)] w3 R := callR_of_lift _ ((F41_eq r1 n2 w3 R).mpr h)

-- F42 (*subway/ring.Ring).parts
def F42 (r1 : Option Addr) (atv2 : Int) (n3 : Int) (w4 : World) (R : Value → World → Prop) : Prop :=
  NilP r1 fun a5 =>
  LdL (Addr.add a5 0) w4 fun x6p x6n x6c =>
  Bif ((x6n : Int) == 0) (
  R (Value.tuple #[(Value.slice none 0 0), (Value.slice none 0 0)]) w4) (
  NilP r1 fun a7 =>
  LdL (Addr.add a7 0) w4 fun x8p x8n x8c =>
  DivK (x8n : Int) (
  NilP r1 fun a9 =>
  LdL (Addr.add a9 0) w4 fun x10p x10n x10c =>
  ∃ (C11 : Cls), Cls.p C11 [] w4 ∧
  NilP r1 fun a12 =>
  NilP r1 fun a13 =>
  ∃ (x14p : Option Addr) (x14n : Nat) (x14c : Nat), Qt C11 (Value.slice x14p x14n x14c) (fun w15 K16 =>
  LdL (Addr.add a12 0) w15 fun x17p x17n x17c =>
  K16 (Value.slice x17p x17n x17c) w15) ∧
  SlP x14p x14n x14c 1 (Int.tmod atv2 (x8n : Int)) (IntKind.wrap .i64 ((Int.tmod atv2 (x8n : Int)) + (if (IntKind.wrap .i64 ((x10n : Int) - (Int.tmod atv2 (x8n : Int)))) < n3 then (IntKind.wrap .i64 ((x10n : Int) - (Int.tmod atv2 (x8n : Int)))) else n3))) fun x18p x18n x18c =>
  ∃ (x19p : Option Addr) (x19n : Nat) (x19c : Nat), Qt C11 (Value.slice x19p x19n x19c) (fun w20 K21 =>
  LdL (Addr.add a13 0) w20 fun x22p x22n x22c =>
  K21 (Value.slice x22p x22n x22c) w20) ∧
  SlP x19p x19n x19c 1 0 (IntKind.wrap .i64 (n3 - (if (IntKind.wrap .i64 ((x10n : Int) - (Int.tmod atv2 (x8n : Int)))) < n3 then (IntKind.wrap .i64 ((x10n : Int) - (Int.tmod atv2 (x8n : Int)))) else n3))) fun x23p x23n x23c =>
  ∀ G24 w25, Cls.p C11 G24 w25 →
  R (Value.tuple #[(Value.slice x18p x18n x18c), (Value.slice x23p x23n x23c)]) w25))
theorem F42_eq (r1 : Option Addr) (atv2 : Int) (n3 : Int) (w4 : World) (R : Value → World → Prop) : liftF Try.prog 42 (.step .nil .nil (.step .nil .nil (.step .nil .nil (.step .nil .nil (.step .nil .nil (.draw [(0, false), (1, false), (2, false), (4, false), (5, false), (6, false), (7, false), (9, false), (10, false), (11, false), (13, false), (14, false), (15, false), (3, false), (8, false), (17, false), (12, false), (16, false), (18, false)] .nil)))))) [(Value.pointer r1), (Value.int .i64 atv2), (Value.int .i64 n3)] w4 R = F42 r1 atv2 n3 w4 R := by kernel_rfl
theorem F42_of {r1 : Option Addr} {atv2 : Int} {n3 : Int} {w4 : World} {R : Value → World → Prop} (h : F42 r1 atv2 n3 w4 R) : CallR Try.prog 42 #[(Value.pointer r1), (Value.int .i64 atv2), (Value.int .i64 n3)] w4 R := callR_of_lift _ ((F42_eq r1 atv2 n3 w4 R).mpr h)

-- F43 (*subway/ring.Ring).first
def F43 (r1 : Option Addr) (n2 : Int) (w3 : World) (R : Value → World → Prop) : Prop :=
  NilP r1 fun a4 =>
  LdI .i64 (Addr.add a4 1) w3 fun x5 =>
  CallR Try.prog 42 #[(Value.pointer r1), (Value.int .i64 x5), (Value.int .i64 n2)] w3 fun v6 w7 =>
  ∃ (x8p : Option Addr) (x8n : Nat) (x8c : Nat), ∃ (x9p : Option Addr) (x9n : Nat) (x9c : Nat), v6 = (Value.tuple #[(Value.slice x8p x8n x8c), (Value.slice x9p x9n x9c)]) ∧
  MkS (#[(Value.int .u8 0)]) 1 1 5 n2 n2 w7 fun b10 w11 =>
  Run Try.prog (Builtin.copy_ #[28, 28] 3 #[(Value.slice (some ⟨b10, 0, none⟩) (Int.toNat n2) (Int.toNat n2)), (Value.slice x8p x8n x8c)]) w11 fun v12 w13 =>
  AsI .i64 v12 fun x14 =>
  SlP (some ⟨b10, 0, none⟩) (Int.toNat n2) (Int.toNat n2) 1 x14 ((Int.toNat n2) : Int) fun x15p x15n x15c =>
  Run Try.prog (Builtin.copy_ #[28, 28] 3 #[(Value.slice x15p x15n x15c), (Value.slice x9p x9n x9c)]) w13 fun v16 w17 =>
  AsI .i64 v16 fun x18 =>
  R (Value.slice (some ⟨b10, 0, none⟩) (Int.toNat n2) (Int.toNat n2)) w17
theorem F43_eq (r1 : Option Addr) (n2 : Int) (w3 : World) (R : Value → World → Prop) : liftF Try.prog 43 .nil [(Value.pointer r1), (Value.int .i64 n2)] w3 R = F43 r1 n2 w3 R := by kernel_rfl
theorem F43_of {r1 : Option Addr} {n2 : Int} {w3 : World} {R : Value → World → Prop} (h : F43 r1 n2 w3 R) : CallR Try.prog 43 #[(Value.pointer r1), (Value.int .i64 n2)] w3 R := callR_of_lift _ ((F43_eq r1 n2 w3 R).mpr h)

end Go.Proofs.Ytneilmoiahphkaa
