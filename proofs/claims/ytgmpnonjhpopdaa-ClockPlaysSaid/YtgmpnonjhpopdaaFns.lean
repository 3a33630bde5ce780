/- The lifted forms of this seat's functions, printed by a program; each is met by the kernel. -/
import Derived.Test.YtgmpnonjhpopdaaLift
import Derived.Test.YtgmpnonjhpopdaaProg
set_option linter.unusedVariables false
set_option maxRecDepth 100000
namespace Go.Proofs.Ytgmpnonjhpopdaa
open Go
-- F3 subway/subwaylaw08.ClockPlays
def F3 (l1p : Option Addr) (l1n : Nat) (l1c : Nat) (w2 : World) (R : Value → World → Prop) : Prop :=
  CallR Try.prog 9 #[] w2 fun v3 w4 =>
  AsB v3 fun x5 =>
  CallR Try.prog 10 #[] w4 fun v6 w7 =>
  AsP v6 fun x8 =>
  CallR Try.prog 11 #[] w7 fun v9 w10 =>
  AsP v9 fun x11 =>
  Bif (isNone' x8) (
  Bif (!(isNone' x8)) (
  R (Value.bool x5) w10) (
  R (Value.bool false) w10)) (
  Bif (decide ((l1n : Int) > 300)) (
  Bif (!(isNone' x8)) (
  R (Value.bool x5) w10) (
  R (Value.bool false) w10)) (
  Lp fun I12 mu13 =>
  I12 [(Value.int .i64 0)] w10 ∧
  ∀ (i14 : Int), ∀ w15, I12 [(Value.int .i64 i14)] w15 →
  Bif (decide (i14 < (l1n : Int))) (
  IxP l1p l1n i14 3 fun a16 =>
  LdI .i64 (Addr.add a16 0) w15 fun x17 =>
  Jn fun J18 => (
  Bif (x17 == 2) (
  IxP l1p l1n i14 3 fun a19 =>
  LdI .i64 (Addr.add a19 1) w15 fun x20 =>
  CallR Try.prog 12 #[(Value.pointer x8), (Value.int .i64 x20)] w15 fun v21 w22 =>
  AsB v21 fun x23 =>
  IxP l1p l1n i14 3 fun a24 =>
  LdI .i64 (Addr.add a24 1) w22 fun x25 =>
  CallR Try.prog 13 #[(Value.pointer x11), (Value.int .i64 x25)] w22 fun v26 w27 =>
  AsB v26 fun x28 =>
  Bif (!(x23 == x28)) (
  R (Value.bool false) w27) (
  J18 [] w27)) (
  Bif (x17 == 3) (
  IxP l1p l1n i14 3 fun a29 =>
  LdI .i64 (Addr.add a29 2) w15 fun x30 =>
  CallR Try.prog 14 #[(Value.pointer x8), (Value.int .i64 x30)] w15 fun v31 w32 =>
  ∃ (x33p : Option Addr) (x33n : Nat) (x33c : Nat), ∃ (x34 : Int), v31 = (Value.tuple #[(Value.slice x33p x33n x33c), (Value.int .i64 x34)]) ∧
  IxP l1p l1n i14 3 fun a35 =>
  LdI .i64 (Addr.add a35 2) w32 fun x36 =>
  CallR Try.prog 15 #[(Value.pointer x11), (Value.int .i64 x36)] w32 fun v37 w38 =>
  ∃ (x39p : Option Addr) (x39n : Nat) (x39c : Nat), ∃ (x40 : Int), v37 = (Value.tuple #[(Value.slice x39p x39n x39c), (Value.int .i64 x40)]) ∧
  CallR Try.prog 16 #[(Value.slice x33p x33n x33c), (Value.slice x39p x39n x39c)] w38 fun v41 w42 =>
  AsB v41 fun x43 =>
  Bif (!x43) (
  R (Value.bool false) w42) (
  Bif (x34 != x40) (
  R (Value.bool false) w42) (
  J18 [] w42))) (
  ∃ (C44 : Cls), Cls.p C44 [] w15 ∧
  IxP l1p l1n i14 3 fun a45 =>
  IxP l1p l1n i14 3 fun a46 =>
  ∃ (x47 : Int), Qt C44 (Value.int .i64 x47) (fun w48 K49 =>
  LdI .i64 (Addr.add a45 1) w48 fun x50 =>
  K49 (Value.int .i64 x50) w48) ∧
  ∃ (x51 : Int), Qt C44 (Value.int .i64 x51) (fun w52 K53 =>
  LdI .i64 (Addr.add a46 2) w52 fun x54 =>
  K53 (Value.int .i64 x54) w52) ∧
  Ef C44 (fun w58 K57 =>
  CallR Try.prog 17 #[(Value.pointer x8), (Value.int .i64 x47), (Value.int .i64 x51)] w58 fun v60 w61 =>
  AsI .i64 v60 fun x62 =>
  K57 (Value.int .i64 x62) w61) fun v59 D56 =>
  AsI .i64 v59 fun x63 =>
  (True) ∧
  ∀ G64 w65, Cls.p D56 G64 w65 →
  ∃ (C66 : Cls), Cls.p C66 [] w65 ∧
  IxP l1p l1n i14 3 fun a67 =>
  IxP l1p l1n i14 3 fun a68 =>
  ∃ (x69 : Int), Qt C66 (Value.int .i64 x69) (fun w70 K71 =>
  LdI .i64 (Addr.add a67 1) w70 fun x72 =>
  K71 (Value.int .i64 x72) w70) ∧
  ∃ (x73 : Int), Qt C66 (Value.int .i64 x73) (fun w74 K75 =>
  LdI .i64 (Addr.add a68 2) w74 fun x76 =>
  K75 (Value.int .i64 x76) w74) ∧
  Ef C66 (fun w80 K79 =>
  CallR Try.prog 18 #[(Value.pointer x11), (Value.int .i64 x69), (Value.int .i64 x73)] w80 fun v82 w83 =>
  AsI .i64 v82 fun x84 =>
  K79 (Value.int .i64 x84) w83) fun v81 D78 =>
  AsI .i64 v81 fun x85 =>
  (True) ∧
  ∀ G86 w87, Cls.p D78 G86 w87 →
  Bif (x63 != x85) (
  R (Value.bool false) w87) (
  J18 [] w87)))) ∧
  ∀ w88, J18 [] w88 →
  IxP l1p l1n i14 3 fun a89 =>
  LdI .i64 (Addr.add a89 1) w88 fun x90 =>
  CallR Try.prog 19 #[(Value.pointer x8), (Value.int .i64 x90)] w88 fun v91 w92 =>
  ∃ (x93 : Int), ∃ (x94 : Bool), v91 = (Value.tuple #[(Value.int .i64 x93), (Value.bool x94)]) ∧
  IxP l1p l1n i14 3 fun a95 =>
  LdI .i64 (Addr.add a95 1) w92 fun x96 =>
  CallR Try.prog 20 #[(Value.pointer x11), (Value.int .i64 x96)] w92 fun v97 w98 =>
  ∃ (x99 : Int), ∃ (x100 : Bool), v97 = (Value.tuple #[(Value.int .i64 x99), (Value.bool x100)]) ∧
  ∃ (C101 : Cls), Cls.p C101 [] w98 ∧
  Bif (x93 != x99) (
  ∀ G102 w103, Cls.p C101 G102 w103 →
  R (Value.bool false) w103) (
  Bif (!(x94 == x100)) (
  ∀ G104 w105, Cls.p C101 G104 w105 →
  R (Value.bool false) w105) (
  NilP x11 fun a106 =>
  ∃ (x107 : Int), Qt C101 (Value.int .i64 x107) (fun w108 K109 =>
  LdI .i64 (Addr.add a106 1) w108 fun x110 =>
  K109 (Value.int .i64 x110) w108) ∧
  Ef C101 (fun w114 K113 =>
  CallR Try.prog 21 #[(Value.pointer x8)] w114 fun v116 w117 =>
  AsI .i64 v116 fun x118 =>
  K113 (Value.int .i64 x118) w117) fun v115 D112 =>
  AsI .i64 v115 fun x119 =>
  (Qt D112 (Value.int .i64 x107) (fun w120 K121 =>
  LdI .i64 (Addr.add a106 1) w120 fun x122 =>
  K121 (Value.int .i64 x122) w120)) ∧
  Bif (x119 != x107) (
  ∀ G123 w124, Cls.p D112 G123 w124 →
  R (Value.bool false) w124) (
  NilP x11 fun a125 =>
  ∃ (x126p : Option Addr) (x126n : Nat) (x126c : Nat), Qt D112 (Value.slice x126p x126n x126c) (fun w127 K128 =>
  LdL (Addr.add a125 0) w127 fun x129p x129n x129c =>
  K128 (Value.slice x129p x129n x129c) w127) ∧
  Ef D112 (fun w133 K132 =>
  CallR Try.prog 22 #[(Value.pointer x8)] w133 fun v135 w136 =>
  AsI .i64 v135 fun x137 =>
  K132 (Value.int .i64 x137) w136) fun v134 D131 =>
  AsI .i64 v134 fun x138 =>
  (Qt D131 (Value.slice x126p x126n x126c) (fun w139 K140 =>
  LdL (Addr.add a125 0) w139 fun x141p x141n x141c =>
  K140 (Value.slice x141p x141n x141c) w139)) ∧
  ∀ G142 w143, Cls.p D131 G142 w143 →
  Bif (x138 != (x126n : Int)) (
  R (Value.bool false) w143) (
  I12 [(Value.int .i64 (IntKind.wrap .i64 (i14 + 1)))] w143 ∧ mu13 [(Value.int .i64 (IntKind.wrap .i64 (i14 + 1)))] w143 < mu13 [(Value.int .i64 i14)] w15))))) (
  R (Value.bool x5) w15)))
theorem F3_eq (l1p : Option Addr) (l1n : Nat) (l1c : Nat) (w2 : World) (R : Value → World → Prop) : liftF Try.prog 3 (.step .nil .nil (.step .nil .nil (.step .nil .nil (.step .nil .nil (.step .nil .nil (.step .nil .nil (.step .nil .nil (.step (.loop [(6, .b (.int .i64))] (.step .nil .nil (.step .nil .nil (.step (.step .nil .nil (.join 1 [] (.step (.step .nil .nil (.step .nil (.step .nil .nil (.step .nil (.draw [(0, false), (1, false), (2, false), (3, false), (4, false), (6, false), (7, false), (8, false), (9, false), (5, false), (10, false), (11, true), (12, false)] (.draw [(0, false), (1, false), (2, false), (3, false), (4, false), (6, false), (7, false), (8, false), (9, false), (5, false), (10, false), (11, true), (12, false)] .nil)) .nil)) .nil)) .nil .nil) (.step .nil .nil (.step .nil .nil (.draw [(0, false), (1, false), (2, false), (3, false), (4, false), (5, false), (6, false), (7, false), (8, false), (9, false), (11, false), (12, false), (13, false), (14, false), (10, true), (15, false), (16, false), (17, false), (18, false), (20, false), (21, false), (22, false), (23, false), (24, false), (19, true), (25, false), (26, false)] .nil))))) .nil .nil)))) .nil .nil)))))))) [(Value.slice l1p l1n l1c)] w2 R = F3 l1p l1n l1c w2 R := by kernel_rfl
theorem F3_of {l1p : Option Addr} {l1n : Nat} {l1c : Nat} {w2 : World} {R : Value → World → Prop} (h : F3 l1p l1n l1c w2 R) : CallR Try.prog 3 #[(Value.slice l1p l1n l1c)] w2 R := callR_of_lift _ ((F3_eq l1p l1n l1c w2 R).mpr h)

-- F4 subway/subwaylaw08.ClockOnce
def F4 (times1p : Option Addr) (times1n : Nat) (times1c : Nat) (steps2p : Option Addr) (steps2n : Nat) (steps2c : Nat) (w3 : World) (R : Value → World → Prop) : Prop :=
  CallR Try.prog 9 #[] w3 fun v4 w5 =>
  AsB v4 fun x6 =>
  CallR Try.prog 10 #[] w5 fun v7 w8 =>
  AsP v7 fun x9 =>
  Bif (isNone' x9) (
  Bif (!(isNone' x9)) (
  R (Value.bool x6) w8) (
  R (Value.bool false) w8)) (
  Bif (decide ((times1n : Int) > 200)) (
  Bif (!(isNone' x9)) (
  R (Value.bool x6) w8) (
  R (Value.bool false) w8)) (
  Bif (decide ((steps2n : Int) > 200)) (
  Bif (!(isNone' x9)) (
  R (Value.bool x6) w8) (
  R (Value.bool false) w8)) (
  Lp fun I10 mu11 =>
  I10 [(Value.int .i64 0)] w8 ∧
  ∀ (i12 : Int), ∀ w13, I10 [(Value.int .i64 i12)] w13 →
  Bif (decide (i12 < (times1n : Int))) (
  IxP times1p times1n i12 1 fun a14 =>
  LdI .u16 a14 w13 fun x15 =>
  CallR Try.prog 17 #[(Value.pointer x9), (Value.int .i64 i12), (Value.int .i64 (IntKind.wrap .i64 (1 + (IntKind.wrap .i64 x15))))] w13 fun v16 w17 =>
  AsI .i64 v16 fun x18 =>
  Bif (x18 != 0) (
  R (Value.bool false) w17) (
  I10 [(Value.int .i64 (IntKind.wrap .i64 (i12 + 1)))] w17 ∧ mu11 [(Value.int .i64 (IntKind.wrap .i64 (i12 + 1)))] w17 < mu11 [(Value.int .i64 i12)] w13)) (
  MkS (#[(Value.bool false)]) 1 1 4 (times1n : Int) (times1n : Int) w13 fun b19 w20 =>
  Lp fun I21 mu22 =>
  I21 [(Value.int .i64 0), (Value.int .i64 0)] w20 ∧
  ∀ (last23 : Int), ∀ (i24 : Int), ∀ w25, I21 [(Value.int .i64 last23), (Value.int .i64 i24)] w25 →
  Bif (decide (i24 ≤ (steps2n : Int))) (
  Jn fun J26 => (
  Bif (decide (i24 < (steps2n : Int))) (
  IxP steps2p steps2n i24 1 fun a27 =>
  LdI .u8 a27 w25 fun x28 =>
  J26 [(Value.int .i64 (IntKind.wrap .i64 x28))] w25) (
  J26 [(Value.int .i64 70000)] w25)) ∧
  ∀ (n29 : Int), ∀ w30, J26 [(Value.int .i64 n29)] w30 →
  CallR Try.prog 21 #[(Value.pointer x9)] w30 fun v31 w32 =>
  AsI .i64 v31 fun x33 =>
  CallR Try.prog 14 #[(Value.pointer x9), (Value.int .i64 n29)] w32 fun v34 w35 =>
  ∃ (x36p : Option Addr) (x36n : Nat) (x36c : Nat), ∃ (x37 : Int), v34 = (Value.tuple #[(Value.slice x36p x36n x36c), (Value.int .i64 x37)]) ∧
  Bif (x37 != 0) (
  R (Value.bool false) w35) (
  CallR Try.prog 21 #[(Value.pointer x9)] w35 fun v38 w39 =>
  AsI .i64 v38 fun x40 =>
  Bif (x40 != (IntKind.wrap .i64 (x33 + n29))) (
  R (Value.bool false) w39) (
  Lp fun I41 mu42 =>
  I41 [(Value.int .i64 last23), (Value.int .i64 0)] w39 ∧
  ∀ (last43 : Int), ∀ (k44 : Int), ∀ w45, I41 [(Value.int .i64 last43), (Value.int .i64 k44)] w45 →
  Bif (decide (k44 < (x36n : Int))) (
  IxP x36p x36n k44 1 fun a46 =>
  LdI .i64 a46 w45 fun x47 =>
  Bif (decide (x47 < 0)) (
  R (Value.bool false) w45) (
  Bif (decide (x47 ≥ (times1n : Int))) (
  R (Value.bool false) w45) (
  IxP (some ⟨b19, 0, none⟩) (Int.toNat (times1n : Int)) x47 1 fun a48 =>
  LdB a48 w45 fun x49 =>
  Bif x49 (
  R (Value.bool false) w45) (
  IxP times1p times1n x47 1 fun a50 =>
  LdI .u16 a50 w45 fun x51 =>
  Bif (decide ((IntKind.wrap .i64 (1 + (IntKind.wrap .i64 x51))) ≤ x33)) (
  R (Value.bool false) w45) (
  CallR Try.prog 21 #[(Value.pointer x9)] w45 fun v52 w53 =>
  AsI .i64 v52 fun x54 =>
  Bif (decide ((IntKind.wrap .i64 (1 + (IntKind.wrap .i64 x51))) > x54)) (
  R (Value.bool false) w53) (
  Bif (decide ((IntKind.wrap .i64 (1 + (IntKind.wrap .i64 x51))) < last43)) (
  R (Value.bool false) w53) (
  Bif (decide (k44 > 0)) (
  IxP x36p x36n (IntKind.wrap .i64 (k44 - 1)) 1 fun a55 =>
  LdI .i64 a55 w53 fun x56 =>
  IxP times1p times1n x56 1 fun a57 =>
  LdI .u16 a57 w53 fun x58 =>
  Bif ((IntKind.wrap .i64 (1 + (IntKind.wrap .i64 x51))) == (IntKind.wrap .i64 (1 + (IntKind.wrap .i64 x58)))) (
  IxP x36p x36n (IntKind.wrap .i64 (k44 - 1)) 1 fun a59 =>
  LdI .i64 a59 w53 fun x60 =>
  Bif (decide (x60 > x47)) (
  R (Value.bool false) w53) (
  IxP (some ⟨b19, 0, none⟩) (Int.toNat (times1n : Int)) x47 1 fun a61 =>
  St1 a61 (Value.bool true) w53 fun w62 =>
  I41 [(Value.int .i64 (IntKind.wrap .i64 (1 + (IntKind.wrap .i64 x51)))), (Value.int .i64 (IntKind.wrap .i64 (k44 + 1)))] w62 ∧ mu42 [(Value.int .i64 (IntKind.wrap .i64 (1 + (IntKind.wrap .i64 x51)))), (Value.int .i64 (IntKind.wrap .i64 (k44 + 1)))] w62 < mu42 [(Value.int .i64 last43), (Value.int .i64 k44)] w45)) (
  IxP (some ⟨b19, 0, none⟩) (Int.toNat (times1n : Int)) x47 1 fun a63 =>
  St1 a63 (Value.bool true) w53 fun w64 =>
  I41 [(Value.int .i64 (IntKind.wrap .i64 (1 + (IntKind.wrap .i64 x51)))), (Value.int .i64 (IntKind.wrap .i64 (k44 + 1)))] w64 ∧ mu42 [(Value.int .i64 (IntKind.wrap .i64 (1 + (IntKind.wrap .i64 x51)))), (Value.int .i64 (IntKind.wrap .i64 (k44 + 1)))] w64 < mu42 [(Value.int .i64 last43), (Value.int .i64 k44)] w45)) (
  IxP (some ⟨b19, 0, none⟩) (Int.toNat (times1n : Int)) x47 1 fun a65 =>
  St1 a65 (Value.bool true) w53 fun w66 =>
  I41 [(Value.int .i64 (IntKind.wrap .i64 (1 + (IntKind.wrap .i64 x51)))), (Value.int .i64 (IntKind.wrap .i64 (k44 + 1)))] w66 ∧ mu42 [(Value.int .i64 (IntKind.wrap .i64 (1 + (IntKind.wrap .i64 x51)))), (Value.int .i64 (IntKind.wrap .i64 (k44 + 1)))] w66 < mu42 [(Value.int .i64 last43), (Value.int .i64 k44)] w45)))))))) (
  I21 [(Value.int .i64 last43), (Value.int .i64 (IntKind.wrap .i64 (i24 + 1)))] w45 ∧ mu22 [(Value.int .i64 last43), (Value.int .i64 (IntKind.wrap .i64 (i24 + 1)))] w45 < mu22 [(Value.int .i64 last23), (Value.int .i64 i24)] w25)))) (
  Lp fun I67 mu68 =>
  I67 [(Value.int .i64 0)] w25 ∧
  ∀ (i69 : Int), ∀ w70, I67 [(Value.int .i64 i69)] w70 →
  Bif (decide (i69 < ((Int.toNat (times1n : Int)) : Int))) (
  IxP (some ⟨b19, 0, none⟩) (Int.toNat (times1n : Int)) i69 1 fun a71 =>
  LdB a71 w70 fun x72 =>
  Bif (!x72) (
  R (Value.bool false) w70) (
  I67 [(Value.int .i64 (IntKind.wrap .i64 (i69 + 1)))] w70 ∧ mu68 [(Value.int .i64 (IntKind.wrap .i64 (i69 + 1)))] w70 < mu68 [(Value.int .i64 i69)] w70)) (
  Bif x6 (
  CallR Try.prog 22 #[(Value.pointer x9)] w70 fun v73 w74 =>
  AsI .i64 v73 fun x75 =>
  R (Value.bool (x75 == 0)) w74) (
  R (Value.bool false) w70)))))))
theorem F4_eq (times1p : Option Addr) (times1n : Nat) (times1c : Nat) (steps2p : Option Addr) (steps2n : Nat) (steps2c : Nat) (w3 : World) (R : Value → World → Prop) : liftF Try.prog 4 (.step .nil .nil (.step .nil .nil (.step .nil .nil (.step .nil .nil (.step .nil .nil (.step .nil .nil (.step (.loop [(7, .b (.int .i64))] .nil) .nil (.step .nil .nil (.step .nil .nil (.step .nil .nil (.step (.loop [(10, .b (.int .i64)), (11, .b (.int .i64))] (.step .nil .nil (.step .nil .nil (.step (.step .nil .nil (.step .nil .nil (.join 1 [(12, .b (.int .i64))] .nil (.step .nil .nil (.step .nil .nil (.step .nil .nil (.step .nil .nil (.step .nil .nil (.step (.loop [(10, .b (.int .i64)), (16, .b (.int .i64))] .nil) .nil .nil))))))))) .nil .nil)))) .nil (.step .nil .nil (.step (.loop [(19, .b (.int .i64))] .nil) .nil .nil))))))))))))) [(Value.slice times1p times1n times1c), (Value.slice steps2p steps2n steps2c)] w3 R = F4 times1p times1n times1c steps2p steps2n steps2c w3 R := by kernel_rfl
theorem F4_of {times1p : Option Addr} {times1n : Nat} {times1c : Nat} {steps2p : Option Addr} {steps2n : Nat} {steps2c : Nat} {w3 : World} {R : Value → World → Prop} (h : F4 times1p times1n times1c steps2p steps2n steps2c w3 R) : CallR Try.prog 4 #[(Value.slice times1p times1n times1c), (Value.slice steps2p steps2n steps2c)] w3 R := callR_of_lift _ ((F4_eq times1p times1n times1c steps2p steps2n steps2c w3 R).mpr h)

-- F5 subway/subwaylaw08.ClockSteps
def F5 (l1p : Option Addr) (l1n : Nat) (l1c : Nat) (a2 : Int) (b3 : Int) (w4 : World) (R : Value → World → Prop) : Prop :=
  CallR Try.prog 9 #[] w4 fun v5 w6 =>
  AsB v5 fun x7 =>
  CallR Try.prog 10 #[] w6 fun v8 w9 =>
  AsP v8 fun x10 =>
  CallR Try.prog 10 #[] w9 fun v11 w12 =>
  AsP v11 fun x13 =>
  Bif (isNone' x10) (
  Bif (!(isNone' x10)) (
  Bif (!(isNone' x13)) (
  R (Value.bool x7) w12) (
  R (Value.bool false) w12)) (
  R (Value.bool false) w12)) (
  Bif (isNone' x13) (
  Bif (!(isNone' x10)) (
  Bif (!(isNone' x13)) (
  R (Value.bool x7) w12) (
  R (Value.bool false) w12)) (
  R (Value.bool false) w12)) (
  Bif (decide ((l1n : Int) > 200)) (
  Bif (!(isNone' x10)) (
  Bif (!(isNone' x13)) (
  R (Value.bool x7) w12) (
  R (Value.bool false) w12)) (
  R (Value.bool false) w12)) (
  Lp fun I14 mu15 =>
  I14 [(Value.int .i64 0)] w12 ∧
  ∀ (i16 : Int), ∀ w17, I14 [(Value.int .i64 i16)] w17 →
  Bif (decide (i16 < (l1n : Int))) (
  IxP l1p l1n i16 3 fun a18 =>
  LdI .i64 (Addr.add a18 0) w17 fun x19 =>
  Bif (x19 == 2) (
  IxP l1p l1n i16 3 fun a20 =>
  LdI .i64 (Addr.add a20 1) w17 fun x21 =>
  CallR Try.prog 12 #[(Value.pointer x10), (Value.int .i64 x21)] w17 fun v22 w23 =>
  AsB v22 fun x24 =>
  IxP l1p l1n i16 3 fun a25 =>
  LdI .i64 (Addr.add a25 1) w23 fun x26 =>
  CallR Try.prog 12 #[(Value.pointer x13), (Value.int .i64 x26)] w23 fun v27 w28 =>
  AsB v27 fun x29 =>
  I14 [(Value.int .i64 (IntKind.wrap .i64 (i16 + 1)))] w28 ∧ mu15 [(Value.int .i64 (IntKind.wrap .i64 (i16 + 1)))] w28 < mu15 [(Value.int .i64 i16)] w17) (
  IxP l1p l1n i16 3 fun a30 =>
  LdI .i64 (Addr.add a30 0) w17 fun x31 =>
  Bif (x31 != 3) (
  ∃ (C32 : Cls), Cls.p C32 [] w17 ∧
  IxP l1p l1n i16 3 fun a33 =>
  IxP l1p l1n i16 3 fun a34 =>
  ∃ (x35 : Int), Qt C32 (Value.int .i64 x35) (fun w36 K37 =>
  LdI .i64 (Addr.add a33 1) w36 fun x38 =>
  K37 (Value.int .i64 x38) w36) ∧
  ∃ (x39 : Int), Qt C32 (Value.int .i64 x39) (fun w40 K41 =>
  LdI .i64 (Addr.add a34 2) w40 fun x42 =>
  K41 (Value.int .i64 x42) w40) ∧
  Ef C32 (fun w46 K45 =>
  CallR Try.prog 17 #[(Value.pointer x10), (Value.int .i64 x35), (Value.int .i64 x39)] w46 fun v48 w49 =>
  AsI .i64 v48 fun x50 =>
  K45 (Value.int .i64 x50) w49) fun v47 D44 =>
  AsI .i64 v47 fun x51 =>
  (True) ∧
  ∀ G52 w53, Cls.p D44 G52 w53 →
  ∃ (C54 : Cls), Cls.p C54 [] w53 ∧
  IxP l1p l1n i16 3 fun a55 =>
  IxP l1p l1n i16 3 fun a56 =>
  ∃ (x57 : Int), Qt C54 (Value.int .i64 x57) (fun w58 K59 =>
  LdI .i64 (Addr.add a55 1) w58 fun x60 =>
  K59 (Value.int .i64 x60) w58) ∧
  ∃ (x61 : Int), Qt C54 (Value.int .i64 x61) (fun w62 K63 =>
  LdI .i64 (Addr.add a56 2) w62 fun x64 =>
  K63 (Value.int .i64 x64) w62) ∧
  Ef C54 (fun w68 K67 =>
  CallR Try.prog 17 #[(Value.pointer x13), (Value.int .i64 x57), (Value.int .i64 x61)] w68 fun v70 w71 =>
  AsI .i64 v70 fun x72 =>
  K67 (Value.int .i64 x72) w71) fun v69 D66 =>
  AsI .i64 v69 fun x73 =>
  (True) ∧
  ∀ G74 w75, Cls.p D66 G74 w75 →
  I14 [(Value.int .i64 (IntKind.wrap .i64 (i16 + 1)))] w75 ∧ mu15 [(Value.int .i64 (IntKind.wrap .i64 (i16 + 1)))] w75 < mu15 [(Value.int .i64 i16)] w17) (
  I14 [(Value.int .i64 (IntKind.wrap .i64 (i16 + 1)))] w17 ∧ mu15 [(Value.int .i64 (IntKind.wrap .i64 (i16 + 1)))] w17 < mu15 [(Value.int .i64 i16)] w17))) (
  CallR Try.prog 14 #[(Value.pointer x10), (Value.int .i64 (IntKind.wrap .i64 a2))] w17 fun v76 w77 =>
  ∃ (x78p : Option Addr) (x78n : Nat) (x78c : Nat), ∃ (x79 : Int), v76 = (Value.tuple #[(Value.slice x78p x78n x78c), (Value.int .i64 x79)]) ∧
  CallR Try.prog 14 #[(Value.pointer x10), (Value.int .i64 (IntKind.wrap .i64 b3))] w77 fun v80 w81 =>
  ∃ (x82p : Option Addr) (x82n : Nat) (x82c : Nat), ∃ (x83 : Int), v80 = (Value.tuple #[(Value.slice x82p x82n x82c), (Value.int .i64 x83)]) ∧
  CallR Try.prog 14 #[(Value.pointer x13), (Value.int .i64 (IntKind.wrap .i64 ((IntKind.wrap .i64 a2) + (IntKind.wrap .i64 b3))))] w81 fun v84 w85 =>
  ∃ (x86p : Option Addr) (x86n : Nat) (x86c : Nat), ∃ (x87 : Int), v84 = (Value.tuple #[(Value.slice x86p x86n x86c), (Value.int .i64 x87)]) ∧
  Bif x7 (
  Bif (x79 == 0) (
  Bif (x83 == 0) (
  Bif (x87 == 0) (
  NewC #[] 3 w85 fun b88 w89 =>
  Run Try.prog (Builtin.append_ #[31, 31] 31 #[(Value.slice (some ⟨b88, 0, none⟩) 0 0), (Value.slice x78p x78n x78c)]) w89 fun v90 w91 =>
  AsL v90 fun x92p x92n x92c =>
  Run Try.prog (Builtin.append_ #[31, 31] 31 #[(Value.slice x92p x92n x92c), (Value.slice x82p x82n x82c)]) w91 fun v93 w94 =>
  AsL v93 fun x95p x95n x95c =>
  CallR Try.prog 16 #[(Value.slice x95p x95n x95c), (Value.slice x86p x86n x86c)] w94 fun v96 w97 =>
  AsB v96 fun x98 =>
  Bif x98 (
  CallR Try.prog 21 #[(Value.pointer x10)] w97 fun v99 w100 =>
  AsI .i64 v99 fun x101 =>
  CallR Try.prog 21 #[(Value.pointer x13)] w100 fun v102 w103 =>
  AsI .i64 v102 fun x104 =>
  Bif (x101 == x104) (
  CallR Try.prog 22 #[(Value.pointer x10)] w103 fun v105 w106 =>
  AsI .i64 v105 fun x107 =>
  CallR Try.prog 22 #[(Value.pointer x13)] w106 fun v108 w109 =>
  AsI .i64 v108 fun x110 =>
  R (Value.bool (x107 == x110)) w109) (
  R (Value.bool false) w103)) (
  R (Value.bool false) w97)) (
  R (Value.bool false) w85)) (
  R (Value.bool false) w85)) (
  R (Value.bool false) w85)) (
  R (Value.bool false) w85)))))
theorem F5_eq (l1p : Option Addr) (l1n : Nat) (l1c : Nat) (a2 : Int) (b3 : Int) (w4 : World) (R : Value → World → Prop) : liftF Try.prog 5 (.step .nil .nil (.step .nil .nil (.step .nil .nil (.step .nil .nil (.step .nil .nil (.step .nil .nil (.step .nil .nil (.step (.loop [(10, .b (.int .i64))] (.step .nil .nil (.step .nil .nil (.step (.step .nil .nil (.step .nil (.step .nil .nil (.step (.draw [(0, false), (1, false), (2, false), (3, false), (4, false), (6, false), (7, false), (8, false), (9, false), (5, false), (10, false), (11, true)] (.draw [(0, false), (1, false), (2, false), (3, false), (4, false), (6, false), (7, false), (8, false), (9, false), (5, false), (10, false), (11, true)] .nil)) .nil .nil)) .nil)) .nil .nil)))) .nil .nil)))))))) [(Value.slice l1p l1n l1c), (Value.int .u16 a2), (Value.int .u16 b3)] w4 R = F5 l1p l1n l1c a2 b3 w4 R := by kernel_rfl
theorem F5_of {l1p : Option Addr} {l1n : Nat} {l1c : Nat} {a2 : Int} {b3 : Int} {w4 : World} {R : Value → World → Prop} (h : F5 l1p l1n l1c a2 b3 w4 R) : CallR Try.prog 5 #[(Value.slice l1p l1n l1c), (Value.int .u16 a2), (Value.int .u16 b3)] w4 R := callR_of_lift _ ((F5_eq l1p l1n l1c a2 b3 w4 R).mpr h)

-- F6 subway/subwaylaw08.ClockDropped
def F6 (l1p : Option Addr) (l1n : Nat) (l1c : Nat) (id2 : Int) (one3 : Int) (two4 : Int) (w5 : World) (R : Value → World → Prop) : Prop :=
  CallR Try.prog 9 #[] w5 fun v6 w7 =>
  AsB v6 fun x8 =>
  CallR Try.prog 10 #[] w7 fun v9 w10 =>
  AsP v9 fun x11 =>
  Bif (isNone' x11) (
  Bif (!(isNone' x11)) (
  R (Value.bool x8) w10) (
  R (Value.bool false) w10)) (
  Bif (decide ((l1n : Int) > 200)) (
  Bif (!(isNone' x11)) (
  R (Value.bool x8) w10) (
  R (Value.bool false) w10)) (
  Lp fun I12 mu13 =>
  I12 [(Value.int .i64 0)] w10 ∧
  ∀ (i14 : Int), ∀ w15, I12 [(Value.int .i64 i14)] w15 →
  Bif (decide (i14 < (l1n : Int))) (
  ∃ (C16 : Cls), Cls.p C16 [] w15 ∧
  IxP l1p l1n i14 3 fun a17 =>
  IxP l1p l1n i14 3 fun a18 =>
  ∃ (x19 : Int), Qt C16 (Value.int .i64 x19) (fun w20 K21 =>
  LdI .i64 (Addr.add a17 1) w20 fun x22 =>
  K21 (Value.int .i64 x22) w20) ∧
  ∃ (x23 : Int), Qt C16 (Value.int .i64 x23) (fun w24 K25 =>
  LdI .i64 (Addr.add a18 2) w24 fun x26 =>
  K25 (Value.int .i64 x26) w24) ∧
  Ef C16 (fun w30 K29 =>
  CallR Try.prog 17 #[(Value.pointer x11), (Value.int .i64 x19), (Value.int .i64 x23)] w30 fun v32 w33 =>
  AsI .i64 v32 fun x34 =>
  K29 (Value.int .i64 x34) w33) fun v31 D28 =>
  AsI .i64 v31 fun x35 =>
  (True) ∧
  ∀ G36 w37, Cls.p D28 G36 w37 →
  I12 [(Value.int .i64 (IntKind.wrap .i64 (i14 + 1)))] w37 ∧ mu13 [(Value.int .i64 (IntKind.wrap .i64 (i14 + 1)))] w37 < mu13 [(Value.int .i64 i14)] w15) (
  CallR Try.prog 12 #[(Value.pointer x11), (Value.int .i64 id2)] w15 fun v38 w39 =>
  AsB v38 fun x40 =>
  CallR Try.prog 19 #[(Value.pointer x11), (Value.int .i64 id2)] w39 fun v41 w42 =>
  ∃ (x43 : Int), ∃ (x44 : Bool), v41 = (Value.tuple #[(Value.int .i64 x43), (Value.bool x44)]) ∧
  CallR Try.prog 17 #[(Value.pointer x11), (Value.int .i64 id2), (Value.int .i64 (IntKind.wrap .i64 (1 + (IntKind.wrap .i64 one3))))] w42 fun v45 w46 =>
  AsI .i64 v45 fun x47 =>
  CallR Try.prog 17 #[(Value.pointer x11), (Value.int .i64 id2), (Value.int .i64 (IntKind.wrap .i64 (1 + (IntKind.wrap .i64 two4))))] w46 fun v48 w49 =>
  AsI .i64 v48 fun x50 =>
  CallR Try.prog 22 #[(Value.pointer x11)] w49 fun v51 w52 =>
  AsI .i64 v51 fun x53 =>
  CallR Try.prog 14 #[(Value.pointer x11), (Value.int .i64 (IntKind.wrap .i64 two4))] w52 fun v54 w55 =>
  ∃ (x56p : Option Addr) (x56n : Nat) (x56c : Nat), ∃ (x57 : Int), v54 = (Value.tuple #[(Value.slice x56p x56n x56c), (Value.int .i64 x57)]) ∧
  CallR Try.prog 23 #[(Value.slice x56p x56n x56c), (Value.int .i64 id2)] w55 fun v58 w59 =>
  AsB v58 fun x60 =>
  CallR Try.prog 14 #[(Value.pointer x11), (Value.int .i64 1)] w59 fun v61 w62 =>
  ∃ (x63p : Option Addr) (x63n : Nat) (x63c : Nat), ∃ (x64 : Int), v61 = (Value.tuple #[(Value.slice x63p x63n x63c), (Value.int .i64 x64)]) ∧
  CallR Try.prog 14 #[(Value.pointer x11), (Value.int .i64 9000)] w62 fun v65 w66 =>
  ∃ (x67p : Option Addr) (x67n : Nat) (x67c : Nat), ∃ (x68 : Int), v65 = (Value.tuple #[(Value.slice x67p x67n x67c), (Value.int .i64 x68)]) ∧
  Bif x8 (
  Bif (!x44) (
  Bif (x47 == 0) (
  Bif (x50 == 0) (
  Bif (!x60) (
  CallR Try.prog 23 #[(Value.slice x63p x63n x63c), (Value.int .i64 id2)] w66 fun v69 w70 =>
  AsB v69 fun x71 =>
  Bif x71 (
  CallR Try.prog 23 #[(Value.slice x67p x67n x67c), (Value.int .i64 id2)] w70 fun v72 w73 =>
  AsB v72 fun x74 =>
  Bif (!x74) (
  R (Value.bool (decide (x53 ≥ 1))) w73) (
  R (Value.bool false) w73)) (
  R (Value.bool false) w70)) (
  R (Value.bool false) w66)) (
  R (Value.bool false) w66)) (
  R (Value.bool false) w66)) (
  R (Value.bool false) w66)) (
  R (Value.bool false) w66))))
theorem F6_eq (l1p : Option Addr) (l1n : Nat) (l1c : Nat) (id2 : Int) (one3 : Int) (two4 : Int) (w5 : World) (R : Value → World → Prop) : liftF Try.prog 6 (.step .nil .nil (.step .nil .nil (.step .nil .nil (.step .nil .nil (.step .nil .nil (.step .nil .nil (.step (.loop [(11, .b (.int .i64))] (.step .nil .nil (.step .nil .nil (.step (.draw [(0, false), (1, false), (2, false), (3, false), (4, false), (6, false), (7, false), (8, false), (9, false), (5, false), (10, false), (11, true)] .nil) .nil .nil)))) .nil .nil))))))) [(Value.slice l1p l1n l1c), (Value.int .i64 id2), (Value.int .u8 one3), (Value.int .u8 two4)] w5 R = F6 l1p l1n l1c id2 one3 two4 w5 R := by kernel_rfl
theorem F6_of {l1p : Option Addr} {l1n : Nat} {l1c : Nat} {id2 : Int} {one3 : Int} {two4 : Int} {w5 : World} {R : Value → World → Prop} (h : F6 l1p l1n l1c id2 one3 two4 w5 R) : CallR Try.prog 6 #[(Value.slice l1p l1n l1c), (Value.int .i64 id2), (Value.int .u8 one3), (Value.int .u8 two4)] w5 R := callR_of_lift _ ((F6_eq l1p l1n l1c id2 one3 two4 w5 R).mpr h)

-- F7 subway/subwaylaw08.ClockFull
def F7 (many1 : Int) (id2 : Int) (w3 : World) (R : Value → World → Prop) : Prop :=
  CallR Try.prog 9 #[] w3 fun v4 w5 =>
  AsB v4 fun x6 =>
  CallR Try.prog 10 #[] w5 fun v7 w8 =>
  AsP v7 fun x9 =>
  Bif (isNone' x9) (
  R (Value.bool false) w8) (
  DivK 1100 (
  Lp fun I10 mu11 =>
  I10 [(Value.int .i64 0)] w8 ∧
  ∀ (i12 : Int), ∀ w13, I10 [(Value.int .i64 i12)] w13 →
  Bif (decide (i12 < (IntKind.wrap .i64 (Int.tmod many1 1100)))) (
  CallR Try.prog 17 #[(Value.pointer x9), (Value.int .i64 i12), (Value.int .i64 (IntKind.wrap .i64 (5 + i12)))] w13 fun v14 w15 =>
  AsI .i64 v14 fun x16 =>
  Bif (!((x16 == 0) == (decide (i12 < 1024)))) (
  R (Value.bool false) w15) (
  Bif (!((x16 == 2) == (decide (i12 ≥ 1024)))) (
  R (Value.bool false) w15) (
  I10 [(Value.int .i64 (IntKind.wrap .i64 (i12 + 1)))] w15 ∧ mu11 [(Value.int .i64 (IntKind.wrap .i64 (i12 + 1)))] w15 < mu11 [(Value.int .i64 i12)] w13))) (
  CallR Try.prog 17 #[(Value.pointer x9), (Value.int .i64 (IntKind.wrap .i64 id2)), (Value.int .i64 3)] w13 fun v17 w18 =>
  AsI .i64 v17 fun x19 =>
  Jn fun J20 => (
  Bif (decide ((IntKind.wrap .i64 id2) < (if 1024 < (IntKind.wrap .i64 (Int.tmod many1 1100)) then 1024 else (IntKind.wrap .i64 (Int.tmod many1 1100))))) (
  Bif (!((x19 == 0) == true)) (
  R (Value.bool false) w18) (
  CallR Try.prog 22 #[(Value.pointer x9)] w18 fun v21 w22 =>
  AsI .i64 v21 fun x23 =>
  Bif (decide (x23 > 1024)) (
  R (Value.bool false) w22) (
  J20 [] w22))) (
  Bif (!((x19 == 0) == (decide ((IntKind.wrap .i64 (Int.tmod many1 1100)) < 1024)))) (
  R (Value.bool false) w18) (
  CallR Try.prog 22 #[(Value.pointer x9)] w18 fun v24 w25 =>
  AsI .i64 v24 fun x26 =>
  Bif (decide (x26 > 1024)) (
  R (Value.bool false) w25) (
  J20 [] w25)))) ∧
  ∀ w27, J20 [] w27 →
  CallR Try.prog 19 #[(Value.pointer x9), (Value.int .i64 (IntKind.wrap .i64 id2))] w27 fun v28 w29 =>
  ∃ (x30 : Int), ∃ (x31 : Bool), v28 = (Value.tuple #[(Value.int .i64 x30), (Value.bool x31)]) ∧
  Bif x6 (
  Bif (x19 != 0) (
  R (Value.bool true) w29) (
  Bif x31 (
  R (Value.bool (x30 == 3)) w29) (
  R (Value.bool false) w29))) (
  R (Value.bool false) w29))))
theorem F7_eq (many1 : Int) (id2 : Int) (w3 : World) (R : Value → World → Prop) : liftF Try.prog 7 (.step .nil .nil (.step .nil .nil (.step .nil .nil (.step .nil .nil (.step .nil .nil (.step .nil .nil (.step .nil .nil (.step (.loop [(8, .b (.int .i64))] .nil) .nil (.step .nil .nil (.step .nil .nil (.step .nil .nil (.join 2 [] .nil .nil)))))))))))) [(Value.int .u16 many1), (Value.int .u16 id2)] w3 R = F7 many1 id2 w3 R := by kernel_rfl
theorem F7_of {many1 : Int} {id2 : Int} {w3 : World} {R : Value → World → Prop} (h : F7 many1 id2 w3 R) : CallR Try.prog 7 #[(Value.int .u16 many1), (Value.int .u16 id2)] w3 R := callR_of_lift _ ((F7_eq many1 id2 w3 R).mpr h)

-- F8 subway/subwaylaw08.ClockTime
def F8 (steps1p : Option Addr) (steps1n : Nat) (steps1c : Nat) (w2 : World) (R : Value → World → Prop) : Prop :=
  CallR Try.prog 9 #[] w2 fun v3 w4 =>
  AsB v3 fun x5 =>
  CallR Try.prog 10 #[] w4 fun v6 w7 =>
  AsP v6 fun x8 =>
  Bif (isNone' x8) (
  Bif (!(isNone' x8)) (
  R (Value.bool x5) w7) (
  R (Value.bool false) w7)) (
  Bif (decide ((steps1n : Int) > 300)) (
  Bif (!(isNone' x8)) (
  R (Value.bool x5) w7) (
  R (Value.bool false) w7)) (
  CallR Try.prog 17 #[(Value.pointer x8), (Value.int .i64 1), (Value.int .i64 2199023255552)] w7 fun v9 w10 =>
  AsI .i64 v9 fun x11 =>
  Lp fun I12 mu13 =>
  I12 [(Value.int .i64 0), (Value.int .i64 0)] w10 ∧
  ∀ (now14 : Int), ∀ (i15 : Int), ∀ w16, I12 [(Value.int .i64 now14), (Value.int .i64 i15)] w16 →
  Bif (decide (i15 < (steps1n : Int))) (
  IxP steps1p steps1n i15 1 fun a17 =>
  LdI .i64 a17 w16 fun x18 =>
  CallR Try.prog 14 #[(Value.pointer x8), (Value.int .i64 x18)] w16 fun v19 w20 =>
  ∃ (x21p : Option Addr) (x21n : Nat) (x21c : Nat), ∃ (x22 : Int), v19 = (Value.tuple #[(Value.slice x21p x21n x21c), (Value.int .i64 x22)]) ∧
  Jn fun J23 => (
  Bif (decide (x18 ≥ 0)) (
  J23 [(Value.bool (decide (x18 ≤ (IntKind.wrap .i64 (1099511627776 - now14)))))] w20) (
  J23 [(Value.bool false)] w20)) ∧
  ∀ (fine24 : Bool), ∀ w25, J23 [(Value.bool fine24)] w25 →
  Bif (!((x22 == 0) == fine24)) (
  R (Value.bool false) w25) (
  Bif ((x21n : Int) != 0) (
  R (Value.bool false) w25) (
  Jn fun J26 => (
  Bif fine24 (
  J26 [(Value.int .i64 (IntKind.wrap .i64 (now14 + x18)))] w25) (
  J26 [(Value.int .i64 now14)] w25)) ∧
  ∀ (now27 : Int), ∀ w28, J26 [(Value.int .i64 now27)] w28 →
  CallR Try.prog 21 #[(Value.pointer x8)] w28 fun v29 w30 =>
  AsI .i64 v29 fun x31 =>
  Bif (x31 != now27) (
  R (Value.bool false) w30) (
  CallR Try.prog 22 #[(Value.pointer x8)] w30 fun v32 w33 =>
  AsI .i64 v32 fun x34 =>
  Bif (x34 != 1) (
  R (Value.bool false) w33) (
  I12 [(Value.int .i64 now27), (Value.int .i64 (IntKind.wrap .i64 (i15 + 1)))] w33 ∧ mu13 [(Value.int .i64 now27), (Value.int .i64 (IntKind.wrap .i64 (i15 + 1)))] w33 < mu13 [(Value.int .i64 now14), (Value.int .i64 i15)] w16))))) (
  R (Value.bool x5) w16)))
theorem F8_eq (steps1p : Option Addr) (steps1n : Nat) (steps1c : Nat) (w2 : World) (R : Value → World → Prop) : liftF Try.prog 8 (.step .nil .nil (.step .nil .nil (.step .nil .nil (.step .nil .nil (.step .nil .nil (.step .nil .nil (.step .nil .nil (.step .nil .nil (.step (.loop [(5, .b (.int .i64)), (6, .b (.int .i64))] (.step .nil .nil (.step .nil .nil (.step (.step .nil .nil (.step .nil .nil (.join 1 [(10, .b .bool)] .nil (.step .nil .nil (.step .nil .nil (.step .nil .nil (.join 1 [(5, .b (.int .i64))] .nil .nil))))))) .nil .nil)))) .nil .nil))))))))) [(Value.slice steps1p steps1n steps1c)] w2 R = F8 steps1p steps1n steps1c w2 R := by kernel_rfl
theorem F8_of {steps1p : Option Addr} {steps1n : Nat} {steps1c : Nat} {w2 : World} {R : Value → World → Prop} (h : F8 steps1p steps1n steps1c w2 R) : CallR Try.prog 8 #[(Value.slice steps1p steps1n steps1c)] w2 R := callR_of_lift _ ((F8_eq steps1p steps1n steps1c w2 R).mpr h)

-- F9 subway/subwaylaw08.head
def F9  (w1 : World) (R : Value → World → Prop) : Prop :=
  CallR Try.prog 10 #[] w1 fun v2 w3 =>
  AsP v2 fun x4 =>
  Bif (isNone' x4) (
  R (Value.bool false) w3) (
  CallR Try.prog 17 #[(Value.pointer x4), (Value.int .i64 7), (Value.int .i64 3)] w3 fun v5 w6 =>
  AsI .i64 v5 fun x7 =>
  CallR Try.prog 17 #[(Value.pointer x4), (Value.int .i64 5), (Value.int .i64 3)] w6 fun v8 w9 =>
  AsI .i64 v8 fun x10 =>
  CallR Try.prog 17 #[(Value.pointer x4), (Value.int .i64 6), (Value.int .i64 9)] w9 fun v11 w12 =>
  AsI .i64 v11 fun x13 =>
  CallR Try.prog 17 #[(Value.pointer x4), (Value.int .i64 6), (Value.int .i64 2)] w12 fun v14 w15 =>
  AsI .i64 v14 fun x16 =>
  CallR Try.prog 12 #[(Value.pointer x4), (Value.int .i64 4)] w15 fun v17 w18 =>
  AsB v17 fun x19 =>
  CallR Try.prog 14 #[(Value.pointer x4), (Value.int .i64 4)] w18 fun v20 w21 =>
  ∃ (x22p : Option Addr) (x22n : Nat) (x22c : Nat), ∃ (x23 : Int), v20 = (Value.tuple #[(Value.slice x22p x22n x22c), (Value.int .i64 x23)]) ∧
  CallR Try.prog 19 #[(Value.pointer x4), (Value.int .i64 6)] w21 fun v24 w25 =>
  ∃ (x26 : Int), ∃ (x27 : Bool), v24 = (Value.tuple #[(Value.int .i64 x26), (Value.bool x27)]) ∧
  CallR Try.prog 17 #[(Value.pointer x4), (Value.int .i64 1), (Value.int .i64 4)] w25 fun v28 w29 =>
  AsI .i64 v28 fun x30 =>
  Bif (x7 == 0) (
  Bif (x10 == 0) (
  Bif (x13 == 0) (
  Bif (x16 == 0) (
  Bif (!x19) (
  NewC #[(Value.int .i64 6), (Value.int .i64 5), (Value.int .i64 7)] 3 w29 fun b31 w32 =>
  CallR Try.prog 16 #[(Value.slice x22p x22n x22c), (Value.slice (some ⟨b31, 0, none⟩) 3 3)] w32 fun v33 w34 =>
  AsB v33 fun x35 =>
  Bif x35 (
  Bif (x23 == 0) (
  CallR Try.prog 21 #[(Value.pointer x4)] w34 fun v36 w37 =>
  AsI .i64 v36 fun x38 =>
  Bif (x38 == 4) (
  CallR Try.prog 22 #[(Value.pointer x4)] w37 fun v39 w40 =>
  AsI .i64 v39 fun x41 =>
  Bif (x41 == 0) (
  Bif (x26 == 0) (
  Bif (!x27) (
  R (Value.bool (x30 == 1)) w40) (
  R (Value.bool false) w40)) (
  R (Value.bool false) w40)) (
  R (Value.bool false) w40)) (
  R (Value.bool false) w37)) (
  R (Value.bool false) w34)) (
  R (Value.bool false) w34)) (
  R (Value.bool false) w29)) (
  R (Value.bool false) w29)) (
  R (Value.bool false) w29)) (
  R (Value.bool false) w29)) (
  R (Value.bool false) w29))
theorem F9_eq  (w1 : World) (R : Value → World → Prop) : liftF Try.prog 9 .nil [] w1 R = F9  w1 R := by kernel_rfl
theorem F9_of  {w1 : World} {R : Value → World → Prop} (h : F9  w1 R) : CallR Try.prog 9 #[] w1 R := callR_of_lift _ ((F9_eq  w1 R).mpr h)

-- F10 subway/clock.New
def F10  (w1 : World) (R : Value → World → Prop) : Prop :=
  NewM w1 fun m2 w3 =>
  NewC #[(Value.int .i64 0), (Value.slice none 0 0), (Value.map (some m2))] 60 w3 fun b4 w5 =>
  R (Value.pointer (some ⟨b4, 0, none⟩)) w5
theorem F10_eq  (w1 : World) (R : Value → World → Prop) : liftF Try.prog 10 .nil [] w1 R = F10  w1 R := by kernel_rfl
theorem F10_of  {w1 : World} {R : Value → World → Prop} (h : F10  w1 R) : CallR Try.prog 10 #[] w1 R := callR_of_lift _ ((F10_eq  w1 R).mpr h)

-- F11 subway/subwayref08.New
def F11  (w1 : World) (R : Value → World → Prop) : Prop :=
  NewC #[(Value.slice none 0 0), (Value.int .i64 0)] 42 w1 fun b2 w3 =>
  R (Value.pointer (some ⟨b2, 0, none⟩)) w3
theorem F11_eq  (w1 : World) (R : Value → World → Prop) : liftF Try.prog 11 .nil [] w1 R = F11  w1 R := by kernel_rfl
theorem F11_of  {w1 : World} {R : Value → World → Prop} (h : F11  w1 R) : CallR Try.prog 11 #[] w1 R := callR_of_lift _ ((F11_eq  w1 R).mpr h)

-- F12 (*subway/clock.Clock).Drop
def F12 (c1 : Option Addr) (id2 : Int) (w3 : World) (R : Value → World → Prop) : Prop :=
  NilP c1 fun a4 =>
  LdM (Addr.add a4 2) w3 fun x5 =>
  Run Try.prog (Instr.lookup 56 (Value.map x5) (Value.int .i64 id2) true) w3 fun v6 w7 =>
  ∃ (x8 : Option Addr), ∃ (x9 : Bool), v6 = (Value.tuple #[(Value.pointer x8), (Value.bool x9)]) ∧
  Bif x9 (
  ∃ (C10 : Cls), Cls.p C10 [] w7 ∧
  NilP c1 fun a11 =>
  NilP x8 fun a12 =>
  ∃ (x13 : Int), Qt C10 (Value.int .i64 x13) (fun w14 K15 =>
  LdI .i64 (Addr.add a12 2) w14 fun x16 =>
  K15 (Value.int .i64 x16) w14) ∧
  Ef C10 (fun w20 K19 =>
  CallR Try.prog 24 #[(Value.iface 64 (Value.pointer (some (Addr.add a11 1)))), (Value.int .i64 x13)] w20 fun v22 w23 =>
  K19 v22 w23) fun v21 D18 =>
  (True) ∧
  ∀ G24 w25, Cls.p D18 G24 w25 →
  NilP c1 fun a26 =>
  LdM (Addr.add a26 2) w25 fun x27 =>
  Run Try.prog (Builtin.delete_ #[56, 3] 0 #[(Value.map x27), (Value.int .i64 id2)]) w25 fun v28 w29 =>
  R (Value.bool x9) w29) (
  R (Value.bool x9) w7)
theorem F12_eq (c1 : Option Addr) (id2 : Int) (w3 : World) (R : Value → World → Prop) : liftF Try.prog 12 (.step .nil .nil (.step .nil .nil (.step .nil .nil (.step (.draw [(0, false), (1, false), (2, false), (3, false), (4, false), (5, false), (6, false), (7, false), (8, true)] .nil) .nil .nil)))) [(Value.pointer c1), (Value.int .i64 id2)] w3 R = F12 c1 id2 w3 R := by kernel_rfl
theorem F12_of {c1 : Option Addr} {id2 : Int} {w3 : World} {R : Value → World → Prop} (h : F12 c1 id2 w3 R) : CallR Try.prog 12 #[(Value.pointer c1), (Value.int .i64 id2)] w3 R := callR_of_lift _ ((F12_eq c1 id2 w3 R).mpr h)

-- F13 (*subway/subwayref08.Clock).Drop
def F13 (c1 : Option Addr) (id2 : Int) (w3 : World) (R : Value → World → Prop) : Prop :=
  CallR Try.prog 20 #[(Value.pointer c1), (Value.int .i64 id2)] w3 fun v4 w5 =>
  ∃ (x6 : Int), ∃ (x7 : Bool), v4 = (Value.tuple #[(Value.int .i64 x6), (Value.bool x7)]) ∧
  NilP c1 fun a8 =>
  LdL (Addr.add a8 0) w5 fun x9p x9n x9c =>
  CallR Try.prog 25 #[(Value.slice x9p x9n x9c), (Value.int .i64 id2)] w5 fun v10 w11 =>
  AsL v10 fun x12p x12n x12c =>
  NilP c1 fun a13 =>
  St1 (Addr.add a13 0) (Value.slice x12p x12n x12c) w11 fun w14 =>
  R (Value.bool x7) w14
theorem F13_eq (c1 : Option Addr) (id2 : Int) (w3 : World) (R : Value → World → Prop) : liftF Try.prog 13 .nil [(Value.pointer c1), (Value.int .i64 id2)] w3 R = F13 c1 id2 w3 R := by kernel_rfl
theorem F13_of {c1 : Option Addr} {id2 : Int} {w3 : World} {R : Value → World → Prop} (h : F13 c1 id2 w3 R) : CallR Try.prog 13 #[(Value.pointer c1), (Value.int .i64 id2)] w3 R := callR_of_lift _ ((F13_eq c1 id2 w3 R).mpr h)

-- F14 (*subway/clock.Clock).Tick
def F14 (c1 : Option Addr) (n2 : Int) (w3 : World) (R : Value → World → Prop) : Prop :=
  Bif (decide (n2 < 0)) (
  R (Value.tuple #[(Value.slice none 0 0), (Value.int .i64 1)]) w3) (
  NilP c1 fun a4 =>
  LdI .i64 (Addr.add a4 0) w3 fun x5 =>
  Bif (decide (n2 > (IntKind.wrap .i64 (1099511627776 - x5)))) (
  R (Value.tuple #[(Value.slice none 0 0), (Value.int .i64 1)]) w3) (
  NilP c1 fun a6 =>
  LdI .i64 (Addr.add a6 0) w3 fun x7 =>
  NilP c1 fun a8 =>
  St1 (Addr.add a8 0) (Value.int .i64 (IntKind.wrap .i64 (x7 + n2))) w3 fun w9 =>
  Lp fun I10 mu11 =>
  I10 [(Value.slice none 0 0)] w9 ∧
  ∀ (out12p : Option Addr) (out12n : Nat) (out12c : Nat), ∀ w13, I10 [(Value.slice out12p out12n out12c)] w13 →
  ∃ (C14 : Cls), Cls.p C14 [] w13 ∧
  NilP c1 fun a15 =>
  ∃ (x16p : Option Addr) (x16n : Nat) (x16c : Nat), Qt C14 (Value.slice x16p x16n x16c) (fun w17 K18 =>
  LdL (Addr.add a15 1) w17 fun x19p x19n x19c =>
  K18 (Value.slice x19p x19n x19c) w17) ∧
  Bif (decide ((x16n : Int) > 0)) (
  NilP c1 fun a20 =>
  NilP c1 fun a21 =>
  ∃ (x22p : Option Addr) (x22n : Nat) (x22c : Nat), Qt C14 (Value.slice x22p x22n x22c) (fun w23 K24 =>
  LdL (Addr.add a20 1) w23 fun x25p x25n x25c =>
  K24 (Value.slice x25p x25n x25c) w23) ∧
  IxP x22p x22n 0 1 fun a26 =>
  ∃ (x27 : Option Addr), Qt C14 (Value.pointer x27) (fun w28 K29 =>
  LdP a26 w28 fun x30 =>
  K29 (Value.pointer x30) w28) ∧
  NilP x27 fun a31 =>
  ∃ (x32 : Int), Qt C14 (Value.int .i64 x32) (fun w33 K34 =>
  LdI .i64 (Addr.add a31 1) w33 fun x35 =>
  K34 (Value.int .i64 x35) w33) ∧
  ∃ (x36 : Int), Qt C14 (Value.int .i64 x36) (fun w37 K38 =>
  LdI .i64 (Addr.add a21 0) w37 fun x39 =>
  K38 (Value.int .i64 x39) w37) ∧
  ∀ G40 w41, Cls.p C14 G40 w41 →
  Bif (decide (x32 ≤ x36)) (
  NilP c1 fun a42 =>
  CallR Try.prog 26 #[(Value.iface 64 (Value.pointer (some (Addr.add a42 1))))] w41 fun v43 w44 =>
  ∃ v45, (∀ w, Sem.run Try.prog (Instr.typeAssert v43 20 61 false) w = .ok v45 w) ∧
  AsP v45 fun x46 =>
  ∃ (C47 : Cls), Cls.p C47 [] w44 ∧
  NilP c1 fun a48 =>
  NilP x46 fun a49 =>
  ∃ (x50 : Option Nat), Qt C47 (Value.map x50) (fun w51 K52 =>
  LdM (Addr.add a48 2) w51 fun x53 =>
  K52 (Value.map x53) w51) ∧
  ∃ (x54 : Int), Qt C47 (Value.int .i64 x54) (fun w55 K56 =>
  LdI .i64 (Addr.add a49 0) w55 fun x57 =>
  K56 (Value.int .i64 x57) w55) ∧
  Ef C47 (fun w60 K59 =>
  Run Try.prog (Builtin.delete_ #[56, 3] 0 #[(Value.map x50), (Value.int .i64 x54)]) w60 fun v62 w63 =>
  K59 v62 w63) fun v61 D58 =>
  v61 = (Value.tuple #[]) ∧
  (True) ∧
  ∀ G64 w65, Cls.p D58 G64 w65 →
  NilP x46 fun a66 =>
  LdI .i64 (Addr.add a66 0) w65 fun x67 =>
  NewC #[(Value.int .i64 x67)] 3 w65 fun b68 w69 =>
  Run Try.prog (Builtin.append_ #[31, 31] 31 #[(Value.slice out12p out12n out12c), (Value.slice (some ⟨b68, 0, none⟩) 1 1)]) w69 fun v70 w71 =>
  AsL v70 fun x72p x72n x72c =>
  I10 [(Value.slice x72p x72n x72c)] w71 ∧ mu11 [(Value.slice x72p x72n x72c)] w71 < mu11 [(Value.slice out12p out12n out12c)] w13) (
  R (Value.tuple #[(Value.slice out12p out12n out12c), (Value.int .i64 0)]) w41)) (
  ∀ G73 w74, Cls.p C14 G73 w74 →
  R (Value.tuple #[(Value.slice out12p out12n out12c), (Value.int .i64 0)]) w74)))
theorem F14_eq (c1 : Option Addr) (n2 : Int) (w3 : World) (R : Value → World → Prop) : liftF Try.prog 14 (.step .nil .nil (.step .nil .nil (.step .nil .nil (.step .nil .nil (.step .nil .nil (.step (.loop [(6, .b .slice)] (.draw [(0, false), (1, false), (2, false), (3, false), (4, false), (5, false), (6, false), (7, false), (8, false), (9, false), (16, false), (17, false), (18, false), (10, false), (11, false), (12, false), (13, false), (14, false), (15, false), (19, false), (20, false), (21, false)] (.step .nil .nil (.step (.step .nil .nil (.draw [(0, false), (1, false), (2, false), (4, false), (5, false), (6, false), (3, false), (7, false), (8, true)] .nil)) .nil .nil)))) .nil .nil)))))) [(Value.pointer c1), (Value.int .i64 n2)] w3 R = F14 c1 n2 w3 R := by kernel_rfl
theorem F14_of {c1 : Option Addr} {n2 : Int} {w3 : World} {R : Value → World → Prop} (h : F14 c1 n2 w3 R) : CallR Try.prog 14 #[(Value.pointer c1), (Value.int .i64 n2)] w3 R := callR_of_lift _ ((F14_eq c1 n2 w3 R).mpr h)

-- F15 (*subway/subwayref08.Clock).Tick
def F15 (c1 : Option Addr) (n2 : Int) (w3 : World) (R : Value → World → Prop) : Prop :=
  Bif (decide (n2 < 0)) (
  R (Value.tuple #[(Value.slice none 0 0), (Value.int .i64 1)]) w3) (
  NilP c1 fun a4 =>
  LdI .i64 (Addr.add a4 1) w3 fun x5 =>
  Bif (decide (n2 > (IntKind.wrap .i64 (1099511627776 - x5)))) (
  R (Value.tuple #[(Value.slice none 0 0), (Value.int .i64 1)]) w3) (
  NilP c1 fun a6 =>
  LdI .i64 (Addr.add a6 1) w3 fun x7 =>
  NilP c1 fun a8 =>
  St1 (Addr.add a8 1) (Value.int .i64 (IntKind.wrap .i64 (x7 + n2))) w3 fun w9 =>
  Lp fun I10 mu11 =>
  I10 [(Value.slice none 0 0), (Value.slice none 0 0), (Value.int .i64 0)] w9 ∧
  ∀ (out12p : Option Addr) (out12n : Nat) (out12c : Nat), ∀ (left13p : Option Addr) (left13n : Nat) (left13c : Nat), ∀ (i14 : Int), ∀ w15, I10 [(Value.slice out12p out12n out12c), (Value.slice left13p left13n left13c), (Value.int .i64 i14)] w15 →
  NilP c1 fun a16 =>
  LdL (Addr.add a16 0) w15 fun x17p x17n x17c =>
  Bif (decide (i14 < (x17n : Int))) (
  ∃ (C18 : Cls), Cls.p C18 [] w15 ∧
  NilP c1 fun a19 =>
  NilP c1 fun a20 =>
  ∃ (x21p : Option Addr) (x21n : Nat) (x21c : Nat), Qt C18 (Value.slice x21p x21n x21c) (fun w22 K23 =>
  LdL (Addr.add a19 0) w22 fun x24p x24n x24c =>
  K23 (Value.slice x24p x24n x24c) w22) ∧
  IxP x21p x21n i14 2 fun a25 =>
  ∃ (x26 : Int), Qt C18 (Value.int .i64 x26) (fun w27 K28 =>
  LdI .i64 (Addr.add a25 1) w27 fun x29 =>
  K28 (Value.int .i64 x29) w27) ∧
  ∃ (x30 : Int), Qt C18 (Value.int .i64 x30) (fun w31 K32 =>
  LdI .i64 (Addr.add a20 1) w31 fun x33 =>
  K32 (Value.int .i64 x33) w31) ∧
  ∀ G34 w35, Cls.p C18 G34 w35 →
  Bif (decide (x26 ≤ x30)) (
  NilP c1 fun a36 =>
  LdL (Addr.add a36 0) w35 fun x37p x37n x37c =>
  IxP x37p x37n i14 2 fun a38 =>
  LdI .i64 (Addr.add a38 0) w35 fun x39 =>
  NewC #[(Value.int .i64 x39)] 3 w35 fun b40 w41 =>
  Run Try.prog (Builtin.append_ #[31, 31] 31 #[(Value.slice out12p out12n out12c), (Value.slice (some ⟨b40, 0, none⟩) 1 1)]) w41 fun v42 w43 =>
  AsL v42 fun x44p x44n x44c =>
  I10 [(Value.slice x44p x44n x44c), (Value.slice left13p left13n left13c), (Value.int .i64 (IntKind.wrap .i64 (i14 + 1)))] w43 ∧ mu11 [(Value.slice x44p x44n x44c), (Value.slice left13p left13n left13c), (Value.int .i64 (IntKind.wrap .i64 (i14 + 1)))] w43 < mu11 [(Value.slice out12p out12n out12c), (Value.slice left13p left13n left13c), (Value.int .i64 i14)] w15) (
  NilP c1 fun a45 =>
  LdL (Addr.add a45 0) w35 fun x46p x46n x46c =>
  IxP x46p x46n i14 2 fun a47 =>
  LdI .i64 (Addr.add a47 0) w35 fun x48 =>
  LdI .i64 (Addr.add a47 1) w35 fun x49 =>
  NewC #[(Value.int .i64 x48), (Value.int .i64 x49)] 70 w35 fun b50 w51 =>
  Run Try.prog (Builtin.append_ #[40, 40] 40 #[(Value.slice left13p left13n left13c), (Value.slice (some ⟨b50, 0, none⟩) 1 1)]) w51 fun v52 w53 =>
  AsL v52 fun x54p x54n x54c =>
  I10 [(Value.slice out12p out12n out12c), (Value.slice x54p x54n x54c), (Value.int .i64 (IntKind.wrap .i64 (i14 + 1)))] w53 ∧ mu11 [(Value.slice out12p out12n out12c), (Value.slice x54p x54n x54c), (Value.int .i64 (IntKind.wrap .i64 (i14 + 1)))] w53 < mu11 [(Value.slice out12p out12n out12c), (Value.slice left13p left13n left13c), (Value.int .i64 i14)] w15)) (
  NilP c1 fun a55 =>
  St1 (Addr.add a55 0) (Value.slice left13p left13n left13c) w15 fun w56 =>
  R (Value.tuple #[(Value.slice out12p out12n out12c), (Value.int .i64 0)]) w56)))
theorem F15_eq (c1 : Option Addr) (n2 : Int) (w3 : World) (R : Value → World → Prop) : liftF Try.prog 15 (.step .nil .nil (.step .nil .nil (.step .nil .nil (.step .nil .nil (.step .nil .nil (.step .nil .nil (.step .nil .nil (.step (.loop [(6, .b .slice), (7, .b .slice), (8, .b (.int .i64))] (.step .nil .nil (.step .nil .nil (.step (.draw [(0, false), (1, false), (2, false), (4, false), (8, false), (9, false), (10, false), (3, false), (5, false), (6, false), (7, false), (11, false), (12, false)] .nil) .nil .nil)))) .nil .nil)))))))) [(Value.pointer c1), (Value.int .i64 n2)] w3 R = F15 c1 n2 w3 R := by kernel_rfl
theorem F15_of {c1 : Option Addr} {n2 : Int} {w3 : World} {R : Value → World → Prop} (h : F15 c1 n2 w3 R) : CallR Try.prog 15 #[(Value.pointer c1), (Value.int .i64 n2)] w3 R := callR_of_lift _ ((F15_eq c1 n2 w3 R).mpr h)

-- F16 subway/subwayref08.Same
def F16 (a1p : Option Addr) (a1n : Nat) (a1c : Nat) (b2p : Option Addr) (b2n : Nat) (b2c : Nat) (w3 : World) (R : Value → World → Prop) : Prop :=
  Bif ((a1n : Int) != (b2n : Int)) (
  R (Value.bool false) w3) (
  Lp fun I4 mu5 =>
  I4 [(Value.int .i64 0)] w3 ∧
  ∀ (i6 : Int), ∀ w7, I4 [(Value.int .i64 i6)] w7 →
  Bif (decide (i6 < (a1n : Int))) (
  ∃ (C8 : Cls), Cls.p C8 [] w7 ∧
  IxP a1p a1n i6 1 fun a9 =>
  IxP b2p b2n i6 1 fun a10 =>
  ∃ (x11 : Int), Qt C8 (Value.int .i64 x11) (fun w12 K13 =>
  LdI .i64 a9 w12 fun x14 =>
  K13 (Value.int .i64 x14) w12) ∧
  ∃ (x15 : Int), Qt C8 (Value.int .i64 x15) (fun w16 K17 =>
  LdI .i64 a10 w16 fun x18 =>
  K17 (Value.int .i64 x18) w16) ∧
  ∀ G19 w20, Cls.p C8 G19 w20 →
  Bif (x11 != x15) (
  R (Value.bool false) w20) (
  I4 [(Value.int .i64 (IntKind.wrap .i64 (i6 + 1)))] w20 ∧ mu5 [(Value.int .i64 (IntKind.wrap .i64 (i6 + 1)))] w20 < mu5 [(Value.int .i64 i6)] w7)) (
  R (Value.bool true) w7))
theorem F16_eq (a1p : Option Addr) (a1n : Nat) (a1c : Nat) (b2p : Option Addr) (b2n : Nat) (b2c : Nat) (w3 : World) (R : Value → World → Prop) : liftF Try.prog 16 (.step .nil .nil (.step .nil .nil (.step .nil .nil (.step .nil .nil (.step (.loop [(5, .b (.int .i64))] (.step .nil .nil (.step .nil .nil (.step (.draw [(0, false), (1, false), (2, false), (4, false), (5, false), (6, false), (3, false), (7, false), (8, false)] .nil) .nil .nil)))) .nil .nil))))) [(Value.slice a1p a1n a1c), (Value.slice b2p b2n b2c)] w3 R = F16 a1p a1n a1c b2p b2n b2c w3 R := by kernel_rfl
theorem F16_of {a1p : Option Addr} {a1n : Nat} {a1c : Nat} {b2p : Option Addr} {b2n : Nat} {b2c : Nat} {w3 : World} {R : Value → World → Prop} (h : F16 a1p a1n a1c b2p b2n b2c w3 R) : CallR Try.prog 16 #[(Value.slice a1p a1n a1c), (Value.slice b2p b2n b2c)] w3 R := callR_of_lift _ ((F16_eq a1p a1n a1c b2p b2n b2c w3 R).mpr h)

-- F17 (*subway/clock.Clock).Set
def F17 (c1 : Option Addr) (id2 : Int) (atv3 : Int) (w4 : World) (R : Value → World → Prop) : Prop :=
  NilP c1 fun a5 =>
  LdM (Addr.add a5 2) w4 fun x6 =>
  Run Try.prog (Instr.lookup 56 (Value.map x6) (Value.int .i64 id2) true) w4 fun v7 w8 =>
  ∃ (x9 : Option Addr), ∃ (x10 : Bool), v7 = (Value.tuple #[(Value.pointer x9), (Value.bool x10)]) ∧
  NilP c1 fun a11 =>
  LdI .i64 (Addr.add a11 0) w8 fun x12 =>
  Jn fun J13 => (
  Bif (decide (atv3 ≤ x12)) (
  J13 [(Value.bool (decide (atv3 ≤ x12)))] w8) (
  J13 [(Value.bool (decide (atv3 > 2199023255552)))] w8)) ∧
  ∀ (x14 : Bool), ∀ w15, J13 [(Value.bool x14)] w15 →
  Bif x14 (
  R (Value.int .i64 1) w15) (
  Bif x10 (
  NilP x9 fun a16 =>
  St1 (Addr.add a16 1) (Value.int .i64 atv3) w15 fun w17 =>
  ∃ (C18 : Cls), Cls.p C18 [] w17 ∧
  NilP c1 fun a19 =>
  NilP x9 fun a20 =>
  ∃ (x21 : Int), Qt C18 (Value.int .i64 x21) (fun w22 K23 =>
  LdI .i64 (Addr.add a20 2) w22 fun x24 =>
  K23 (Value.int .i64 x24) w22) ∧
  Ef C18 (fun w27 K26 =>
  CallR Try.prog 27 #[(Value.iface 64 (Value.pointer (some (Addr.add a19 1)))), (Value.int .i64 x21)] w27 fun v29 w30 =>
  v29 = (Value.tuple #[]) ∧
  K26 (Value.tuple #[]) w30) fun v28 D25 =>
  v28 = (Value.tuple #[]) ∧
  (True) ∧
  ∀ G31 w32, Cls.p D25 G31 w32 →
  R (Value.int .i64 0) w32) (
  NilP c1 fun a33 =>
  LdL (Addr.add a33 1) w15 fun x34p x34n x34c =>
  Bif ((x34n : Int) == 1024) (
  R (Value.int .i64 2) w15) (
  NewC #[(Value.int .i64 id2), (Value.int .i64 atv3), (Value.int .i64 0)] 66 w15 fun b35 w36 =>
  NilP c1 fun a37 =>
  LdM (Addr.add a37 2) w36 fun x38 =>
  RunU Try.prog (Instr.mapUpdate 56 (Value.map x38) (Value.int .i64 id2) (Value.pointer (some ⟨b35, 0, none⟩))) w36 fun w39 =>
  NilP c1 fun a40 =>
  CallR Try.prog 28 #[(Value.iface 64 (Value.pointer (some (Addr.add a40 1)))), (Value.iface 61 (Value.pointer (some ⟨b35, 0, none⟩)))] w39 fun v41 w42 =>
  v41 = (Value.tuple #[]) ∧
  R (Value.int .i64 0) w42)))
theorem F17_eq (c1 : Option Addr) (id2 : Int) (atv3 : Int) (w4 : World) (R : Value → World → Prop) : liftF Try.prog 17 (.step .nil .nil (.step .nil .nil (.step (.step .nil .nil (.join 1 [(35, .b .bool)] .nil (.step .nil (.step .nil .nil (.step (.step .nil .nil (.draw [(0, false), (1, false), (2, false), (3, false), (4, false), (5, false), (6, false), (7, false), (8, true)] .nil)) .nil .nil)) .nil))) .nil .nil))) [(Value.pointer c1), (Value.int .i64 id2), (Value.int .i64 atv3)] w4 R = F17 c1 id2 atv3 w4 R := by kernel_rfl
theorem F17_of {c1 : Option Addr} {id2 : Int} {atv3 : Int} {w4 : World} {R : Value → World → Prop} (h : F17 c1 id2 atv3 w4 R) : CallR Try.prog 17 #[(Value.pointer c1), (Value.int .i64 id2), (Value.int .i64 atv3)] w4 R := callR_of_lift _ ((F17_eq c1 id2 atv3 w4 R).mpr h)

-- F18 (*subway/subwayref08.Clock).Set
def F18 (c1 : Option Addr) (id2 : Int) (atv3 : Int) (w4 : World) (R : Value → World → Prop) : Prop :=
  NilP c1 fun a5 =>
  LdI .i64 (Addr.add a5 1) w4 fun x6 =>
  Bif (decide (atv3 ≤ x6)) (
  R (Value.int .i64 1) w4) (
  Bif (decide (atv3 > 2199023255552)) (
  R (Value.int .i64 1) w4) (
  CallR Try.prog 20 #[(Value.pointer c1), (Value.int .i64 id2)] w4 fun v7 w8 =>
  ∃ (x9 : Int), ∃ (x10 : Bool), v7 = (Value.tuple #[(Value.int .i64 x9), (Value.bool x10)]) ∧
  Jn fun J11 => (
  Bif (!x10) (
  NilP c1 fun a12 =>
  LdL (Addr.add a12 0) w8 fun x13p x13n x13c =>
  Bif (decide ((x13n : Int) ≥ 1024)) (
  R (Value.int .i64 2) w8) (
  J11 [] w8)) (
  J11 [] w8)) ∧
  ∀ w14, J11 [] w14 →
  NilP c1 fun a15 =>
  LdL (Addr.add a15 0) w14 fun x16p x16n x16c =>
  CallR Try.prog 25 #[(Value.slice x16p x16n x16c), (Value.int .i64 id2)] w14 fun v17 w18 =>
  AsL v17 fun x19p x19n x19c =>
  Lp fun I20 mu21 =>
  I20 [(Value.slice none 0 0), (Value.bool false), (Value.int .i64 0)] w18 ∧
  ∀ (out22p : Option Addr) (out22n : Nat) (out22c : Nat), ∀ (done23 : Bool), ∀ (i24 : Int), ∀ w25, I20 [(Value.slice out22p out22n out22c), (Value.bool done23), (Value.int .i64 i24)] w25 →
  Bif (decide (i24 < (x19n : Int))) (
  Jn fun J26 => (
  Bif (!done23) (
  IxP x19p x19n i24 2 fun a27 =>
  LdI .i64 (Addr.add a27 1) w25 fun x28 =>
  Bif (decide (x28 > atv3)) (
  NewC #[(Value.int .i64 id2), (Value.int .i64 atv3)] 70 w25 fun b29 w30 =>
  Run Try.prog (Builtin.append_ #[40, 40] 40 #[(Value.slice out22p out22n out22c), (Value.slice (some ⟨b29, 0, none⟩) 1 1)]) w30 fun v31 w32 =>
  AsL v31 fun x33p x33n x33c =>
  J26 [(Value.slice x33p x33n x33c), (Value.bool true)] w32) (
  IxP x19p x19n i24 2 fun a34 =>
  LdI .i64 (Addr.add a34 1) w25 fun x35 =>
  Bif (x35 == atv3) (
  IxP x19p x19n i24 2 fun a36 =>
  LdI .i64 (Addr.add a36 0) w25 fun x37 =>
  Bif (decide (x37 > id2)) (
  NewC #[(Value.int .i64 id2), (Value.int .i64 atv3)] 70 w25 fun b38 w39 =>
  Run Try.prog (Builtin.append_ #[40, 40] 40 #[(Value.slice out22p out22n out22c), (Value.slice (some ⟨b38, 0, none⟩) 1 1)]) w39 fun v40 w41 =>
  AsL v40 fun x42p x42n x42c =>
  J26 [(Value.slice x42p x42n x42c), (Value.bool true)] w41) (
  J26 [(Value.slice out22p out22n out22c), (Value.bool done23)] w25)) (
  J26 [(Value.slice out22p out22n out22c), (Value.bool done23)] w25))) (
  J26 [(Value.slice out22p out22n out22c), (Value.bool done23)] w25)) ∧
  ∀ (out43p : Option Addr) (out43n : Nat) (out43c : Nat), ∀ (done44 : Bool), ∀ w45, J26 [(Value.slice out43p out43n out43c), (Value.bool done44)] w45 →
  IxP x19p x19n i24 2 fun a46 =>
  LdI .i64 (Addr.add a46 0) w45 fun x47 =>
  LdI .i64 (Addr.add a46 1) w45 fun x48 =>
  NewC #[(Value.int .i64 x47), (Value.int .i64 x48)] 70 w45 fun b49 w50 =>
  Run Try.prog (Builtin.append_ #[40, 40] 40 #[(Value.slice out43p out43n out43c), (Value.slice (some ⟨b49, 0, none⟩) 1 1)]) w50 fun v51 w52 =>
  AsL v51 fun x53p x53n x53c =>
  I20 [(Value.slice x53p x53n x53c), (Value.bool done44), (Value.int .i64 (IntKind.wrap .i64 (i24 + 1)))] w52 ∧ mu21 [(Value.slice x53p x53n x53c), (Value.bool done44), (Value.int .i64 (IntKind.wrap .i64 (i24 + 1)))] w52 < mu21 [(Value.slice out22p out22n out22c), (Value.bool done23), (Value.int .i64 i24)] w25) (
  Bif (!done23) (
  NewC #[(Value.int .i64 id2), (Value.int .i64 atv3)] 70 w25 fun b54 w55 =>
  Run Try.prog (Builtin.append_ #[40, 40] 40 #[(Value.slice out22p out22n out22c), (Value.slice (some ⟨b54, 0, none⟩) 1 1)]) w55 fun v56 w57 =>
  AsL v56 fun x58p x58n x58c =>
  NilP c1 fun a59 =>
  St1 (Addr.add a59 0) (Value.slice x58p x58n x58c) w57 fun w60 =>
  R (Value.int .i64 0) w60) (
  NilP c1 fun a61 =>
  St1 (Addr.add a61 0) (Value.slice out22p out22n out22c) w25 fun w62 =>
  R (Value.int .i64 0) w62))))
theorem F18_eq (c1 : Option Addr) (id2 : Int) (atv3 : Int) (w4 : World) (R : Value → World → Prop) : liftF Try.prog 18 (.step .nil .nil (.step .nil .nil (.step .nil .nil (.step .nil .nil (.join 2 [] .nil (.step .nil .nil (.step .nil .nil (.step .nil .nil (.step .nil .nil (.step (.loop [(9, .b .slice), (10, .b .bool), (12, .b (.int .i64))] (.step .nil .nil (.step .nil .nil (.step (.join 2 [(9, .b .slice), (10, .b .bool)] .nil .nil) .nil .nil)))) .nil .nil)))))))))) [(Value.pointer c1), (Value.int .i64 id2), (Value.int .i64 atv3)] w4 R = F18 c1 id2 atv3 w4 R := by kernel_rfl
theorem F18_of {c1 : Option Addr} {id2 : Int} {atv3 : Int} {w4 : World} {R : Value → World → Prop} (h : F18 c1 id2 atv3 w4 R) : CallR Try.prog 18 #[(Value.pointer c1), (Value.int .i64 id2), (Value.int .i64 atv3)] w4 R := callR_of_lift _ ((F18_eq c1 id2 atv3 w4 R).mpr h)

-- F19 (*subway/clock.Clock).At
def F19 (c1 : Option Addr) (id2 : Int) (w3 : World) (R : Value → World → Prop) : Prop :=
  NilP c1 fun a4 =>
  LdM (Addr.add a4 2) w3 fun x5 =>
  Run Try.prog (Instr.lookup 56 (Value.map x5) (Value.int .i64 id2) true) w3 fun v6 w7 =>
  ∃ (x8 : Option Addr), ∃ (x9 : Bool), v6 = (Value.tuple #[(Value.pointer x8), (Value.bool x9)]) ∧
  Bif (!x9) (
  R (Value.tuple #[(Value.int .i64 0), (Value.bool false)]) w7) (
  NilP x8 fun a10 =>
  LdI .i64 (Addr.add a10 1) w7 fun x11 =>
  R (Value.tuple #[(Value.int .i64 x11), (Value.bool true)]) w7)
theorem F19_eq (c1 : Option Addr) (id2 : Int) (w3 : World) (R : Value → World → Prop) : liftF Try.prog 19 .nil [(Value.pointer c1), (Value.int .i64 id2)] w3 R = F19 c1 id2 w3 R := by kernel_rfl
theorem F19_of {c1 : Option Addr} {id2 : Int} {w3 : World} {R : Value → World → Prop} (h : F19 c1 id2 w3 R) : CallR Try.prog 19 #[(Value.pointer c1), (Value.int .i64 id2)] w3 R := callR_of_lift _ ((F19_eq c1 id2 w3 R).mpr h)

-- F20 (*subway/subwayref08.Clock).At
def F20 (c1 : Option Addr) (id2 : Int) (w3 : World) (R : Value → World → Prop) : Prop :=
  Lp fun I4 mu5 =>
  I4 [(Value.int .i64 0)] w3 ∧
  ∀ (i6 : Int), ∀ w7, I4 [(Value.int .i64 i6)] w7 →
  NilP c1 fun a8 =>
  LdL (Addr.add a8 0) w7 fun x9p x9n x9c =>
  Bif (decide (i6 < (x9n : Int))) (
  NilP c1 fun a10 =>
  LdL (Addr.add a10 0) w7 fun x11p x11n x11c =>
  IxP x11p x11n i6 2 fun a12 =>
  LdI .i64 (Addr.add a12 0) w7 fun x13 =>
  Bif (x13 == id2) (
  NilP c1 fun a14 =>
  LdL (Addr.add a14 0) w7 fun x15p x15n x15c =>
  IxP x15p x15n i6 2 fun a16 =>
  LdI .i64 (Addr.add a16 1) w7 fun x17 =>
  R (Value.tuple #[(Value.int .i64 x17), (Value.bool true)]) w7) (
  I4 [(Value.int .i64 (IntKind.wrap .i64 (i6 + 1)))] w7 ∧ mu5 [(Value.int .i64 (IntKind.wrap .i64 (i6 + 1)))] w7 < mu5 [(Value.int .i64 i6)] w7)) (
  R (Value.tuple #[(Value.int .i64 0), (Value.bool false)]) w7)
theorem F20_eq (c1 : Option Addr) (id2 : Int) (w3 : World) (R : Value → World → Prop) : liftF Try.prog 20 (.step .nil .nil (.step .nil .nil (.step (.loop [(6, .b (.int .i64))] .nil) .nil .nil))) [(Value.pointer c1), (Value.int .i64 id2)] w3 R = F20 c1 id2 w3 R := by kernel_rfl
theorem F20_of {c1 : Option Addr} {id2 : Int} {w3 : World} {R : Value → World → Prop} (h : F20 c1 id2 w3 R) : CallR Try.prog 20 #[(Value.pointer c1), (Value.int .i64 id2)] w3 R := callR_of_lift _ ((F20_eq c1 id2 w3 R).mpr h)

-- F21 (*subway/clock.Clock).Now
def F21 (c1 : Option Addr) (w2 : World) (R : Value → World → Prop) : Prop :=
  NilP c1 fun a3 =>
  LdI .i64 (Addr.add a3 0) w2 fun x4 =>
  R (Value.int .i64 x4) w2
theorem F21_eq (c1 : Option Addr) (w2 : World) (R : Value → World → Prop) : liftF Try.prog 21 .nil [(Value.pointer c1)] w2 R = F21 c1 w2 R := by kernel_rfl
theorem F21_of {c1 : Option Addr} {w2 : World} {R : Value → World → Prop} (h : F21 c1 w2 R) : CallR Try.prog 21 #[(Value.pointer c1)] w2 R := callR_of_lift _ ((F21_eq c1 w2 R).mpr h)

-- F22 (*subway/clock.Clock).Many
def F22 (c1 : Option Addr) (w2 : World) (R : Value → World → Prop) : Prop :=
  NilP c1 fun a3 =>
  LdL (Addr.add a3 1) w2 fun x4p x4n x4c =>
  R (Value.int .i64 (x4n : Int)) w2
theorem F22_eq (c1 : Option Addr) (w2 : World) (R : Value → World → Prop) : liftF Try.prog 22 .nil [(Value.pointer c1)] w2 R = F22 c1 w2 R := by kernel_rfl
theorem F22_of {c1 : Option Addr} {w2 : World} {R : Value → World → Prop} (h : F22 c1 w2 R) : CallR Try.prog 22 #[(Value.pointer c1)] w2 R := callR_of_lift _ ((F22_eq c1 w2 R).mpr h)

-- F23 subway/subwaylaw08.has
def F23 (l1p : Option Addr) (l1n : Nat) (l1c : Nat) (n2 : Int) (w3 : World) (R : Value → World → Prop) : Prop :=
  Lp fun I4 mu5 =>
  I4 [(Value.int .i64 0)] w3 ∧
  ∀ (i6 : Int), ∀ w7, I4 [(Value.int .i64 i6)] w7 →
  Bif (decide (i6 < (l1n : Int))) (
  IxP l1p l1n i6 1 fun a8 =>
  LdI .i64 a8 w7 fun x9 =>
  Bif (x9 == n2) (
  R (Value.bool true) w7) (
  I4 [(Value.int .i64 (IntKind.wrap .i64 (i6 + 1)))] w7 ∧ mu5 [(Value.int .i64 (IntKind.wrap .i64 (i6 + 1)))] w7 < mu5 [(Value.int .i64 i6)] w7)) (
  R (Value.bool false) w7)
theorem F23_eq (l1p : Option Addr) (l1n : Nat) (l1c : Nat) (n2 : Int) (w3 : World) (R : Value → World → Prop) : liftF Try.prog 23 (.step .nil .nil (.step .nil .nil (.step (.loop [(5, .b (.int .i64))] .nil) .nil .nil))) [(Value.slice l1p l1n l1c), (Value.int .i64 n2)] w3 R = F23 l1p l1n l1c n2 w3 R := by kernel_rfl
theorem F23_of {l1p : Option Addr} {l1n : Nat} {l1c : Nat} {n2 : Int} {w3 : World} {R : Value → World → Prop} (h : F23 l1p l1n l1c n2 w3 R) : CallR Try.prog 23 #[(Value.slice l1p l1n l1c), (Value.int .i64 n2)] w3 R := callR_of_lift _ ((F23_eq l1p l1n l1c n2 w3 R).mpr h)

-- F24 container/heap.Remove
def F24 (h1 : Value) (i2 : Int) (w3 : World) (R : Value → World → Prop) : Prop :=
  InvK Try.prog "Len" h1 [] w3 fun v4 w5 =>
  AsI .i64 v4 fun x6 =>
  Bif ((IntKind.wrap .i64 (x6 - 1)) != i2) (
  InvK Try.prog "Swap" h1 [(Value.int .i64 i2), (Value.int .i64 (IntKind.wrap .i64 (x6 - 1)))] w5 fun v7 w8 =>
  v7 = (Value.tuple #[]) ∧
  CallR Try.prog 29 #[h1, (Value.int .i64 i2), (Value.int .i64 (IntKind.wrap .i64 (x6 - 1)))] w8 fun v9 w10 =>
  AsB v9 fun x11 =>
  Bif (!x11) (
  CallR Try.prog 30 #[h1, (Value.int .i64 i2)] w10 fun v12 w13 =>
  v12 = (Value.tuple #[]) ∧
  InvK Try.prog "Pop" h1 [] w13 fun v14 w15 =>
  R v14 w15) (
  InvK Try.prog "Pop" h1 [] w10 fun v16 w17 =>
  R v16 w17)) (
  InvK Try.prog "Pop" h1 [] w5 fun v18 w19 =>
  R v18 w19)
theorem F24_eq (h1 : Value) (i2 : Int) (w3 : World) (R : Value → World → Prop) : liftF Try.prog 24 .nil [h1, (Value.int .i64 i2)] w3 R = F24 h1 i2 w3 R := by kernel_rfl
theorem F24_of {h1 : Value} {i2 : Int} {w3 : World} {R : Value → World → Prop} (h : F24 h1 i2 w3 R) : CallR Try.prog 24 #[h1, (Value.int .i64 i2)] w3 R := callR_of_lift _ ((F24_eq h1 i2 w3 R).mpr h)

-- F25 subway/subwayref08.without
def F25 (l1p : Option Addr) (l1n : Nat) (l1c : Nat) (id2 : Int) (w3 : World) (R : Value → World → Prop) : Prop :=
  Lp fun I4 mu5 =>
  I4 [(Value.slice none 0 0), (Value.int .i64 0)] w3 ∧
  ∀ (out6p : Option Addr) (out6n : Nat) (out6c : Nat), ∀ (i7 : Int), ∀ w8, I4 [(Value.slice out6p out6n out6c), (Value.int .i64 i7)] w8 →
  Bif (decide (i7 < (l1n : Int))) (
  IxP l1p l1n i7 2 fun a9 =>
  LdI .i64 (Addr.add a9 0) w8 fun x10 =>
  Bif (x10 != id2) (
  IxP l1p l1n i7 2 fun a11 =>
  LdI .i64 (Addr.add a11 0) w8 fun x12 =>
  LdI .i64 (Addr.add a11 1) w8 fun x13 =>
  NewC #[(Value.int .i64 x12), (Value.int .i64 x13)] 70 w8 fun b14 w15 =>
  Run Try.prog (Builtin.append_ #[40, 40] 40 #[(Value.slice out6p out6n out6c), (Value.slice (some ⟨b14, 0, none⟩) 1 1)]) w15 fun v16 w17 =>
  AsL v16 fun x18p x18n x18c =>
  I4 [(Value.slice x18p x18n x18c), (Value.int .i64 (IntKind.wrap .i64 (i7 + 1)))] w17 ∧ mu5 [(Value.slice x18p x18n x18c), (Value.int .i64 (IntKind.wrap .i64 (i7 + 1)))] w17 < mu5 [(Value.slice out6p out6n out6c), (Value.int .i64 i7)] w8) (
  I4 [(Value.slice out6p out6n out6c), (Value.int .i64 (IntKind.wrap .i64 (i7 + 1)))] w8 ∧ mu5 [(Value.slice out6p out6n out6c), (Value.int .i64 (IntKind.wrap .i64 (i7 + 1)))] w8 < mu5 [(Value.slice out6p out6n out6c), (Value.int .i64 i7)] w8)) (
  R (Value.slice out6p out6n out6c) w8)
theorem F25_eq (l1p : Option Addr) (l1n : Nat) (l1c : Nat) (id2 : Int) (w3 : World) (R : Value → World → Prop) : liftF Try.prog 25 (.step .nil .nil (.step .nil .nil (.step .nil .nil (.step (.loop [(5, .b .slice), (6, .b (.int .i64))] .nil) .nil .nil)))) [(Value.slice l1p l1n l1c), (Value.int .i64 id2)] w3 R = F25 l1p l1n l1c id2 w3 R := by kernel_rfl
theorem F25_of {l1p : Option Addr} {l1n : Nat} {l1c : Nat} {id2 : Int} {w3 : World} {R : Value → World → Prop} (h : F25 l1p l1n l1c id2 w3 R) : CallR Try.prog 25 #[(Value.slice l1p l1n l1c), (Value.int .i64 id2)] w3 R := callR_of_lift _ ((F25_eq l1p l1n l1c id2 w3 R).mpr h)

-- F26 container/heap.Pop
def F26 (h1 : Value) (w2 : World) (R : Value → World → Prop) : Prop :=
  InvK Try.prog "Len" h1 [] w2 fun v3 w4 =>
  AsI .i64 v3 fun x5 =>
  InvK Try.prog "Swap" h1 [(Value.int .i64 0), (Value.int .i64 (IntKind.wrap .i64 (x5 - 1)))] w4 fun v6 w7 =>
  v6 = (Value.tuple #[]) ∧
  CallR Try.prog 29 #[h1, (Value.int .i64 0), (Value.int .i64 (IntKind.wrap .i64 (x5 - 1)))] w7 fun v8 w9 =>
  AsB v8 fun x10 =>
  InvK Try.prog "Pop" h1 [] w9 fun v11 w12 =>
  R v11 w12
theorem F26_eq (h1 : Value) (w2 : World) (R : Value → World → Prop) : liftF Try.prog 26 .nil [h1] w2 R = F26 h1 w2 R := by kernel_rfl
theorem F26_of {h1 : Value} {w2 : World} {R : Value → World → Prop} (h : F26 h1 w2 R) : CallR Try.prog 26 #[h1] w2 R := callR_of_lift _ ((F26_eq h1 w2 R).mpr h)

-- F27 container/heap.Fix
def F27 (h1 : Value) (i2 : Int) (w3 : World) (R : Value → World → Prop) : Prop :=
  InvK Try.prog "Len" h1 [] w3 fun v4 w5 =>
  AsI .i64 v4 fun x6 =>
  CallR Try.prog 29 #[h1, (Value.int .i64 i2), (Value.int .i64 x6)] w5 fun v7 w8 =>
  AsB v7 fun x9 =>
  Bif (!x9) (
  CallR Try.prog 30 #[h1, (Value.int .i64 i2)] w8 fun v10 w11 =>
  v10 = (Value.tuple #[]) ∧
  R (Value.tuple #[]) w11) (
  R (Value.tuple #[]) w8)
theorem F27_eq (h1 : Value) (i2 : Int) (w3 : World) (R : Value → World → Prop) : liftF Try.prog 27 .nil [h1, (Value.int .i64 i2)] w3 R = F27 h1 i2 w3 R := by kernel_rfl
theorem F27_of {h1 : Value} {i2 : Int} {w3 : World} {R : Value → World → Prop} (h : F27 h1 i2 w3 R) : CallR Try.prog 27 #[h1, (Value.int .i64 i2)] w3 R := callR_of_lift _ ((F27_eq h1 i2 w3 R).mpr h)

-- F28 container/heap.Push
def F28 (h1 : Value) (x2 : Value) (w3 : World) (R : Value → World → Prop) : Prop :=
  InvK Try.prog "Push" h1 [x2] w3 fun v4 w5 =>
  v4 = (Value.tuple #[]) ∧
  InvK Try.prog "Len" h1 [] w5 fun v6 w7 =>
  AsI .i64 v6 fun x8 =>
  CallR Try.prog 30 #[h1, (Value.int .i64 (IntKind.wrap .i64 (x8 - 1)))] w7 fun v9 w10 =>
  v9 = (Value.tuple #[]) ∧
  R (Value.tuple #[]) w10
theorem F28_eq (h1 : Value) (x2 : Value) (w3 : World) (R : Value → World → Prop) : liftF Try.prog 28 .nil [h1, x2] w3 R = F28 h1 x2 w3 R := by kernel_rfl
theorem F28_of {h1 : Value} {x2 : Value} {w3 : World} {R : Value → World → Prop} (h : F28 h1 x2 w3 R) : CallR Try.prog 28 #[h1, x2] w3 R := callR_of_lift _ ((F28_eq h1 x2 w3 R).mpr h)

-- F29 container/heap.down
def F29 (h1 : Value) (i02 : Int) (n3 : Int) (w4 : World) (R : Value → World → Prop) : Prop :=
  Lp fun I5 mu6 =>
  I5 [(Value.int .i64 i02)] w4 ∧
  ∀ (i7 : Int), ∀ w8, I5 [(Value.int .i64 i7)] w8 →
  Bif (decide ((IntKind.wrap .i64 ((IntKind.wrap .i64 (2 * i7)) + 1)) ≥ n3)) (
  R (Value.bool (decide (i7 > i02))) w8) (
  Bif (decide ((IntKind.wrap .i64 ((IntKind.wrap .i64 (2 * i7)) + 1)) < 0)) (
  R (Value.bool (decide (i7 > i02))) w8) (
  Jn fun J9 => (
  Bif (decide ((IntKind.wrap .i64 ((IntKind.wrap .i64 ((IntKind.wrap .i64 (2 * i7)) + 1)) + 1)) < n3)) (
  InvK Try.prog "Less" h1 [(Value.int .i64 (IntKind.wrap .i64 ((IntKind.wrap .i64 ((IntKind.wrap .i64 (2 * i7)) + 1)) + 1))), (Value.int .i64 (IntKind.wrap .i64 ((IntKind.wrap .i64 (2 * i7)) + 1)))] w8 fun v10 w11 =>
  AsB v10 fun x12 =>
  Bif x12 (
  J9 [(Value.int .i64 (IntKind.wrap .i64 ((IntKind.wrap .i64 ((IntKind.wrap .i64 (2 * i7)) + 1)) + 1)))] w11) (
  J9 [(Value.int .i64 (IntKind.wrap .i64 ((IntKind.wrap .i64 (2 * i7)) + 1)))] w11)) (
  J9 [(Value.int .i64 (IntKind.wrap .i64 ((IntKind.wrap .i64 (2 * i7)) + 1)))] w8)) ∧
  ∀ (j13 : Int), ∀ w14, J9 [(Value.int .i64 j13)] w14 →
  InvK Try.prog "Less" h1 [(Value.int .i64 j13), (Value.int .i64 i7)] w14 fun v15 w16 =>
  AsB v15 fun x17 =>
  Bif (!x17) (
  R (Value.bool (decide (i7 > i02))) w16) (
  InvK Try.prog "Swap" h1 [(Value.int .i64 i7), (Value.int .i64 j13)] w16 fun v18 w19 =>
  v18 = (Value.tuple #[]) ∧
  I5 [(Value.int .i64 j13)] w19 ∧ mu6 [(Value.int .i64 j13)] w19 < mu6 [(Value.int .i64 i7)] w8)))
theorem F29_eq (h1 : Value) (i02 : Int) (n3 : Int) (w4 : World) (R : Value → World → Prop) : liftF Try.prog 29 (.step .nil .nil (.step .nil .nil (.step (.loop [(7, .b (.int .i64))] (.step (.step .nil .nil (.step .nil .nil (.step .nil .nil (.step .nil .nil (.step .nil .nil (.join 2 [(9, .b (.int .i64))] .nil .nil)))))) .nil .nil)) .nil .nil))) [h1, (Value.int .i64 i02), (Value.int .i64 n3)] w4 R = F29 h1 i02 n3 w4 R := by kernel_rfl
theorem F29_of {h1 : Value} {i02 : Int} {n3 : Int} {w4 : World} {R : Value → World → Prop} (h : F29 h1 i02 n3 w4 R) : CallR Try.prog 29 #[h1, (Value.int .i64 i02), (Value.int .i64 n3)] w4 R := callR_of_lift _ ((F29_eq h1 i02 n3 w4 R).mpr h)

-- F30 container/heap.up
def F30 (h1 : Value) (j2 : Int) (w3 : World) (R : Value → World → Prop) : Prop :=
  Lp fun I4 mu5 =>
  I4 [(Value.int .i64 j2)] w3 ∧
  ∀ (j6 : Int), ∀ w7, I4 [(Value.int .i64 j6)] w7 →
  DivK 2 (
  Bif ((IntKind.wrap .i64 (Int.tdiv (IntKind.wrap .i64 (j6 - 1)) 2)) == j6) (
  R (Value.tuple #[]) w7) (
  InvK Try.prog "Less" h1 [(Value.int .i64 j6), (Value.int .i64 (IntKind.wrap .i64 (Int.tdiv (IntKind.wrap .i64 (j6 - 1)) 2)))] w7 fun v8 w9 =>
  AsB v8 fun x10 =>
  Bif (!x10) (
  R (Value.tuple #[]) w9) (
  InvK Try.prog "Swap" h1 [(Value.int .i64 (IntKind.wrap .i64 (Int.tdiv (IntKind.wrap .i64 (j6 - 1)) 2))), (Value.int .i64 j6)] w9 fun v11 w12 =>
  v11 = (Value.tuple #[]) ∧
  I4 [(Value.int .i64 (IntKind.wrap .i64 (Int.tdiv (IntKind.wrap .i64 (j6 - 1)) 2)))] w12 ∧ mu5 [(Value.int .i64 (IntKind.wrap .i64 (Int.tdiv (IntKind.wrap .i64 (j6 - 1)) 2)))] w12 < mu5 [(Value.int .i64 j6)] w7)))
theorem F30_eq (h1 : Value) (j2 : Int) (w3 : World) (R : Value → World → Prop) : liftF Try.prog 30 (.step (.loop [(1, .b (.int .i64))] .nil) .nil .nil) [h1, (Value.int .i64 j2)] w3 R = F30 h1 j2 w3 R := by kernel_rfl
theorem F30_of {h1 : Value} {j2 : Int} {w3 : World} {R : Value → World → Prop} (h : F30 h1 j2 w3 R) : CallR Try.prog 30 #[h1, (Value.int .i64 j2)] w3 R := callR_of_lift _ ((F30_eq h1 j2 w3 R).mpr h)

-- F48 (subway/clock.alarms).Len
def F48 (l1p : Option Addr) (l1n : Nat) (l1c : Nat) (w2 : World) (R : Value → World → Prop) : Prop :=
  R (Value.int .i64 (l1n : Int)) w2
theorem F48_eq (l1p : Option Addr) (l1n : Nat) (l1c : Nat) (w2 : World) (R : Value → World → Prop) : liftF Try.prog 48 .nil [(Value.slice l1p l1n l1c)] w2 R = F48 l1p l1n l1c w2 R := by kernel_rfl
theorem F48_of {l1p : Option Addr} {l1n : Nat} {l1c : Nat} {w2 : World} {R : Value → World → Prop} (h : F48 l1p l1n l1c w2 R) : CallR Try.prog 48 #[(Value.slice l1p l1n l1c)] w2 R := callR_of_lift _ ((F48_eq l1p l1n l1c w2 R).mpr h)

-- F49 (subway/clock.alarms).Less
def F49 (l1p : Option Addr) (l1n : Nat) (l1c : Nat) (i2 : Int) (k3 : Int) (w4 : World) (R : Value → World → Prop) : Prop :=
  ∃ (C5 : Cls), Cls.p C5 [] w4 ∧
  IxP l1p l1n i2 1 fun a6 =>
  IxP l1p l1n k3 1 fun a7 =>
  ∃ (x8 : Option Addr), Qt C5 (Value.pointer x8) (fun w9 K10 =>
  LdP a6 w9 fun x11 =>
  K10 (Value.pointer x11) w9) ∧
  NilP x8 fun a12 =>
  ∃ (x13 : Int), Qt C5 (Value.int .i64 x13) (fun w14 K15 =>
  LdI .i64 (Addr.add a12 1) w14 fun x16 =>
  K15 (Value.int .i64 x16) w14) ∧
  ∃ (x17 : Option Addr), Qt C5 (Value.pointer x17) (fun w18 K19 =>
  LdP a7 w18 fun x20 =>
  K19 (Value.pointer x20) w18) ∧
  NilP x17 fun a21 =>
  ∃ (x22 : Int), Qt C5 (Value.int .i64 x22) (fun w23 K24 =>
  LdI .i64 (Addr.add a21 1) w23 fun x25 =>
  K24 (Value.int .i64 x25) w23) ∧
  ∀ G26 w27, Cls.p C5 G26 w27 →
  Bif (x13 != x22) (
  ∃ (C28 : Cls), Cls.p C28 [] w27 ∧
  IxP l1p l1n i2 1 fun a29 =>
  IxP l1p l1n k3 1 fun a30 =>
  ∃ (x31 : Option Addr), Qt C28 (Value.pointer x31) (fun w32 K33 =>
  LdP a29 w32 fun x34 =>
  K33 (Value.pointer x34) w32) ∧
  NilP x31 fun a35 =>
  ∃ (x36 : Int), Qt C28 (Value.int .i64 x36) (fun w37 K38 =>
  LdI .i64 (Addr.add a35 1) w37 fun x39 =>
  K38 (Value.int .i64 x39) w37) ∧
  ∃ (x40 : Option Addr), Qt C28 (Value.pointer x40) (fun w41 K42 =>
  LdP a30 w41 fun x43 =>
  K42 (Value.pointer x43) w41) ∧
  NilP x40 fun a44 =>
  ∃ (x45 : Int), Qt C28 (Value.int .i64 x45) (fun w46 K47 =>
  LdI .i64 (Addr.add a44 1) w46 fun x48 =>
  K47 (Value.int .i64 x48) w46) ∧
  ∀ G49 w50, Cls.p C28 G49 w50 →
  R (Value.bool (decide (x36 < x45))) w50) (
  ∃ (C51 : Cls), Cls.p C51 [] w27 ∧
  IxP l1p l1n i2 1 fun a52 =>
  IxP l1p l1n k3 1 fun a53 =>
  ∃ (x54 : Option Addr), Qt C51 (Value.pointer x54) (fun w55 K56 =>
  LdP a52 w55 fun x57 =>
  K56 (Value.pointer x57) w55) ∧
  NilP x54 fun a58 =>
  ∃ (x59 : Int), Qt C51 (Value.int .i64 x59) (fun w60 K61 =>
  LdI .i64 (Addr.add a58 0) w60 fun x62 =>
  K61 (Value.int .i64 x62) w60) ∧
  ∃ (x63 : Option Addr), Qt C51 (Value.pointer x63) (fun w64 K65 =>
  LdP a53 w64 fun x66 =>
  K65 (Value.pointer x66) w64) ∧
  NilP x63 fun a67 =>
  ∃ (x68 : Int), Qt C51 (Value.int .i64 x68) (fun w69 K70 =>
  LdI .i64 (Addr.add a67 0) w69 fun x71 =>
  K70 (Value.int .i64 x71) w69) ∧
  ∀ G72 w73, Cls.p C51 G72 w73 →
  R (Value.bool (decide (x59 < x68))) w73)
theorem F49_eq (l1p : Option Addr) (l1n : Nat) (l1c : Nat) (i2 : Int) (k3 : Int) (w4 : World) (R : Value → World → Prop) : liftF Try.prog 49 (.step .nil .nil (.draw [(0, false), (1, false), (2, false), (7, false), (8, false), (9, false), (3, false), (4, false), (5, false), (6, false), (10, false), (11, false), (12, false), (13, false), (14, false)] (.step (.draw [(0, false), (1, false), (2, false), (7, false), (8, false), (9, false), (3, false), (4, false), (5, false), (6, false), (10, false), (11, false), (12, false), (13, false), (14, false), (15, false)] .nil) .nil (.draw [(0, false), (1, false), (2, false), (7, false), (8, false), (9, false), (3, false), (4, false), (5, false), (6, false), (10, false), (11, false), (12, false), (13, false), (14, false), (15, false)] .nil)))) [(Value.slice l1p l1n l1c), (Value.int .i64 i2), (Value.int .i64 k3)] w4 R = F49 l1p l1n l1c i2 k3 w4 R := by kernel_rfl
theorem F49_of {l1p : Option Addr} {l1n : Nat} {l1c : Nat} {i2 : Int} {k3 : Int} {w4 : World} {R : Value → World → Prop} (h : F49 l1p l1n l1c i2 k3 w4 R) : CallR Try.prog 49 #[(Value.slice l1p l1n l1c), (Value.int .i64 i2), (Value.int .i64 k3)] w4 R := callR_of_lift _ ((F49_eq l1p l1n l1c i2 k3 w4 R).mpr h)

-- F50 (subway/clock.alarms).Swap
def F50 (l1p : Option Addr) (l1n : Nat) (l1c : Nat) (i2 : Int) (k3 : Int) (w4 : World) (R : Value → World → Prop) : Prop :=
  ∃ (C5 : Cls), Cls.p C5 [] w4 ∧
  IxP l1p l1n k3 1 fun a6 =>
  IxP l1p l1n i2 1 fun a7 =>
  ∃ (x8 : Option Addr), Qt C5 (Value.pointer x8) (fun w9 K10 =>
  LdP a6 w9 fun x11 =>
  K10 (Value.pointer x11) w9) ∧
  ∃ (x12 : Option Addr), Qt C5 (Value.pointer x12) (fun w13 K14 =>
  LdP a7 w13 fun x15 =>
  K14 (Value.pointer x15) w13) ∧
  IxP l1p l1n i2 1 fun a16 =>
  Ef C5 (fun w19 K18 =>
  St1 a16 (Value.pointer x8) w19 fun w21 =>
  K18 (Value.tuple #[]) w21) fun v20 D17 =>
  v20 = (Value.tuple #[]) ∧
  (True) ∧
  IxP l1p l1n k3 1 fun a22 =>
  Ef D17 (fun w25 K24 =>
  St1 a22 (Value.pointer x12) w25 fun w27 =>
  K24 (Value.tuple #[]) w27) fun v26 D23 =>
  v26 = (Value.tuple #[]) ∧
  (True) ∧
  ∀ G28 w29, Cls.p D23 G28 w29 →
  ∃ (C30 : Cls), Cls.p C30 [] w29 ∧
  IxP l1p l1n i2 1 fun a31 =>
  IxP l1p l1n k3 1 fun a32 =>
  ∃ (x33 : Option Addr), Qt C30 (Value.pointer x33) (fun w34 K35 =>
  LdP a31 w34 fun x36 =>
  K35 (Value.pointer x36) w34) ∧
  ∃ (x37 : Option Addr), Qt C30 (Value.pointer x37) (fun w38 K39 =>
  LdP a32 w38 fun x40 =>
  K39 (Value.pointer x40) w38) ∧
  NilP x33 fun a41 =>
  Ef C30 (fun w44 K43 =>
  St1 (Addr.add a41 2) (Value.int .i64 i2) w44 fun w46 =>
  K43 (Value.tuple #[]) w46) fun v45 D42 =>
  v45 = (Value.tuple #[]) ∧
  (True) ∧
  NilP x37 fun a47 =>
  Ef D42 (fun w50 K49 =>
  St1 (Addr.add a47 2) (Value.int .i64 k3) w50 fun w52 =>
  K49 (Value.tuple #[]) w52) fun v51 D48 =>
  v51 = (Value.tuple #[]) ∧
  (True) ∧
  ∀ G53 w54, Cls.p D48 G53 w54 →
  R (Value.tuple #[]) w54
theorem F50_eq (l1p : Option Addr) (l1n : Nat) (l1c : Nat) (i2 : Int) (k3 : Int) (w4 : World) (R : Value → World → Prop) : liftF Try.prog 50 (.draw [(0, false), (1, false), (2, false), (3, false), (4, false), (5, false), (6, false), (8, false), (9, false), (10, false), (7, false), (11, false), (12, false), (13, true), (14, false), (15, true)] (.draw [(0, false), (1, false), (2, false), (4, false), (5, false), (6, false), (8, false), (9, false), (3, false), (7, false), (10, false), (11, false), (12, true), (13, false), (14, false), (15, true)] .nil)) [(Value.slice l1p l1n l1c), (Value.int .i64 i2), (Value.int .i64 k3)] w4 R = F50 l1p l1n l1c i2 k3 w4 R := by kernel_rfl
theorem F50_of {l1p : Option Addr} {l1n : Nat} {l1c : Nat} {i2 : Int} {k3 : Int} {w4 : World} {R : Value → World → Prop} (h : F50 l1p l1n l1c i2 k3 w4 R) : CallR Try.prog 50 #[(Value.slice l1p l1n l1c), (Value.int .i64 i2), (Value.int .i64 k3)] w4 R := callR_of_lift _ ((F50_eq l1p l1n l1c i2 k3 w4 R).mpr h)

-- F51 (*subway/clock.alarms).Pop
def F51 (l1 : Option Addr) (w2 : World) (R : Value → World → Prop) : Prop :=
  NilP l1 fun a3 =>
  LdL a3 w2 fun x4p x4n x4c =>
  NilP l1 fun a5 =>
  LdL a5 w2 fun x6p x6n x6c =>
  IxP x6p x6n (IntKind.wrap .i64 ((x4n : Int) - 1)) 1 fun a7 =>
  LdP a7 w2 fun x8 =>
  NilP l1 fun a9 =>
  LdL a9 w2 fun x10p x10n x10c =>
  SlP x10p x10n x10c 1 0 (IntKind.wrap .i64 ((x4n : Int) - 1)) fun x11p x11n x11c =>
  NilP l1 fun a12 =>
  St1 a12 (Value.slice x11p x11n x11c) w2 fun w13 =>
  R (Value.iface 61 (Value.pointer x8)) w13
theorem F51_eq (l1 : Option Addr) (w2 : World) (R : Value → World → Prop) : liftF Try.prog 51 .nil [(Value.pointer l1)] w2 R = F51 l1 w2 R := by kernel_rfl
theorem F51_of {l1 : Option Addr} {w2 : World} {R : Value → World → Prop} (h : F51 l1 w2 R) : CallR Try.prog 51 #[(Value.pointer l1)] w2 R := callR_of_lift _ ((F51_eq l1 w2 R).mpr h)

-- F52 (*subway/clock.alarms).Push
def F52 (l1 : Option Addr) (x2 : Value) (w3 : World) (R : Value → World → Prop) : Prop :=
  ∃ v4, (∀ w, Sem.run Try.prog (Instr.typeAssert x2 20 61 false) w = .ok v4 w) ∧
  AsP v4 fun x5 =>
  NilP l1 fun a6 =>
  LdL a6 w3 fun x7p x7n x7c =>
  NilP x5 fun a8 =>
  St1 (Addr.add a8 2) (Value.int .i64 (x7n : Int)) w3 fun w9 =>
  NilP l1 fun a10 =>
  LdL a10 w9 fun x11p x11n x11c =>
  NewC #[(Value.pointer x5)] 61 w9 fun b12 w13 =>
  Run Try.prog (Builtin.append_ #[58, 58] 58 #[(Value.slice x11p x11n x11c), (Value.slice (some ⟨b12, 0, none⟩) 1 1)]) w13 fun v14 w15 =>
  AsL v14 fun x16p x16n x16c =>
  NilP l1 fun a17 =>
  St1 a17 (Value.slice x16p x16n x16c) w15 fun w18 =>
  R (Value.tuple #[]) w18
theorem F52_eq (l1 : Option Addr) (x2 : Value) (w3 : World) (R : Value → World → Prop) : liftF Try.prog 52 .nil [(Value.pointer l1), x2] w3 R = F52 l1 x2 w3 R := by kernel_rfl
theorem F52_of {l1 : Option Addr} {x2 : Value} {w3 : World} {R : Value → World → Prop} (h : F52 l1 x2 w3 R) : CallR Try.prog 52 #[(Value.pointer l1), x2] w3 R := callR_of_lift _ ((F52_eq l1 x2 w3 R).mpr h)

end Go.Proofs.Ytgmpnonjhpopdaa
