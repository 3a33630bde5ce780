/- The lifted forms of this seat's functions, printed by a program; each is met by the kernel. -/
import Derived.Test.YtlkbjkmpanohfaaLift
import Derived.Test.YtlkbjkmpanohfaaProg
set_option linter.unusedVariables false
set_option maxRecDepth 100000
namespace Go.Proofs.Ytlkbjkmpanohfaa
open Go
-- F3 subway/subwaylaw20.AgentOrder
def F3 (p1 : ByteArray) (p2 : ByteArray) (p3 : ByteArray) (p4 : ByteArray) (p5 : Int) (p6 : Int) (l7p : Option Addr) (l7n : Nat) (l7c : Nat) (w8 : World) (R : Value → World → Prop) : Prop :=
  NewC #[(Value.string p1), (Value.string p2), (Value.string p3), (Value.string p4), (Value.int .i64 p5), (Value.int .i64 p6)] 23 w8 fun b9 w10 =>
  CallR Try.prog 6 #[] w10 fun v11 w12 =>
  AsB v11 fun x13 =>
  LdS (Addr.add ⟨b9, 0, none⟩ 0) w12 fun x14 =>
  LdS (Addr.add ⟨b9, 0, none⟩ 1) w12 fun x15 =>
  LdS (Addr.add ⟨b9, 0, none⟩ 2) w12 fun x16 =>
  LdS (Addr.add ⟨b9, 0, none⟩ 3) w12 fun x17 =>
  LdI .i64 (Addr.add ⟨b9, 0, none⟩ 4) w12 fun x18 =>
  LdI .i64 (Addr.add ⟨b9, 0, none⟩ 5) w12 fun x19 =>
  CallR Try.prog 7 #[(Value.agg #[(Value.string x14), (Value.string x15), (Value.string x16), (Value.string x17), (Value.int .i64 x18), (Value.int .i64 x19)])] w12 fun v20 w21 =>
  AsP v20 fun x22 =>
  Bif (isNone' x22) (
  Bif (!(isNone' x22)) (
  R (Value.bool x13) w21) (
  R (Value.bool false) w21)) (
  CallR Try.prog 8 #[(Value.slice l7p l7n l7c)] w21 fun v23 w24 =>
  AsB v23 fun x25 =>
  Bif x25 (
  Bif (!(isNone' x22)) (
  R (Value.bool x13) w24) (
  R (Value.bool false) w24)) (
  LdS (Addr.add ⟨b9, 0, none⟩ 0) w24 fun x26 =>
  LdS (Addr.add ⟨b9, 0, none⟩ 1) w24 fun x27 =>
  LdS (Addr.add ⟨b9, 0, none⟩ 2) w24 fun x28 =>
  LdS (Addr.add ⟨b9, 0, none⟩ 3) w24 fun x29 =>
  LdI .i64 (Addr.add ⟨b9, 0, none⟩ 4) w24 fun x30 =>
  LdI .i64 (Addr.add ⟨b9, 0, none⟩ 5) w24 fun x31 =>
  CallR Try.prog 9 #[(Value.agg #[(Value.string x26), (Value.string x27), (Value.string x28), (Value.string x29), (Value.int .i64 x30), (Value.int .i64 x31)])] w24 fun v32 w33 =>
  AsB v32 fun x34 =>
  Bif x34 (
  Bif (!(isNone' x22)) (
  R (Value.bool x13) w33) (
  R (Value.bool false) w33)) (
  MkS (#[(Value.int .i64 0)]) 1 8 3 1001 1001 w33 fun b35 w36 =>
  Lp fun I37 mu38 =>
  I37 [(Value.int .i64 0)] w36 ∧
  ∀ (i39 : Int), ∀ w40, I37 [(Value.int .i64 i39)] w40 →
  Bif (decide (i39 < (l7n : Int))) (
  IxP l7p l7n i39 8 fun a41 =>
  LdI .i64 (Addr.add a41 0) w40 fun x42 =>
  LdI .i64 (Addr.add a41 1) w40 fun x43 =>
  LdI .i64 (Addr.add a41 2) w40 fun x44 =>
  LdS (Addr.add a41 3) w40 fun x45 =>
  LdS (Addr.add a41 4) w40 fun x46 =>
  LdI .i64 (Addr.add a41 5) w40 fun x47 =>
  LdI .i64 (Addr.add a41 6) w40 fun x48 =>
  LdI .i64 (Addr.add a41 7) w40 fun x49 =>
  NewC #[(Value.int .i64 0), (Value.int .i64 0), (Value.int .i64 0), (Value.string ⟨#[]⟩), (Value.string ⟨#[]⟩), (Value.int .i64 0), (Value.int .i64 0), (Value.int .i64 0)] 34 w40 fun b50 w51 =>
  St1 (Addr.add ⟨b50, 0, none⟩ 0) (Value.int .i64 x42) w51 fun w52 =>
  St1 (Addr.add ⟨b50, 0, none⟩ 1) (Value.int .i64 x43) w52 fun w53 =>
  St1 (Addr.add ⟨b50, 0, none⟩ 2) (Value.int .i64 x44) w53 fun w54 =>
  St1 (Addr.add ⟨b50, 0, none⟩ 3) (Value.string x45) w54 fun w55 =>
  St1 (Addr.add ⟨b50, 0, none⟩ 4) (Value.string x46) w55 fun w56 =>
  St1 (Addr.add ⟨b50, 0, none⟩ 5) (Value.int .i64 x47) w56 fun w57 =>
  St1 (Addr.add ⟨b50, 0, none⟩ 6) (Value.int .i64 x48) w57 fun w58 =>
  St1 (Addr.add ⟨b50, 0, none⟩ 7) (Value.int .i64 x49) w58 fun w59 =>
  LdI .i64 (Addr.add ⟨b50, 0, none⟩ 0) w59 fun x60 =>
  LdI .i64 (Addr.add ⟨b50, 0, none⟩ 1) w59 fun x61 =>
  LdI .i64 (Addr.add ⟨b50, 0, none⟩ 2) w59 fun x62 =>
  LdS (Addr.add ⟨b50, 0, none⟩ 3) w59 fun x63 =>
  LdS (Addr.add ⟨b50, 0, none⟩ 4) w59 fun x64 =>
  LdI .i64 (Addr.add ⟨b50, 0, none⟩ 5) w59 fun x65 =>
  LdI .i64 (Addr.add ⟨b50, 0, none⟩ 6) w59 fun x66 =>
  LdI .i64 (Addr.add ⟨b50, 0, none⟩ 7) w59 fun x67 =>
  CallR Try.prog 10 #[(Value.pointer x22), (Value.agg #[(Value.int .i64 x60), (Value.int .i64 x61), (Value.int .i64 x62), (Value.string x63), (Value.string x64), (Value.int .i64 x65), (Value.int .i64 x66), (Value.int .i64 x67)])] w59 fun v68 w69 =>
  AsL v68 fun x70p x70n x70c =>
  Lp fun I71 mu72 =>
  I71 [(Value.int .i64 0)] w69 ∧
  ∀ (k73 : Int), ∀ w74, I71 [(Value.int .i64 k73)] w74 →
  Bif (decide (k73 < (x70n : Int))) (
  IxP x70p x70n k73 7 fun a75 =>
  LdI .i64 (Addr.add a75 1) w74 fun x76 =>
  Bif (decide (x76 < 0)) (
  R (Value.bool false) w74) (
  Bif (decide (x76 > 1000)) (
  R (Value.bool false) w74) (
  IxP x70p x70n k73 7 fun a77 =>
  LdI .i64 (Addr.add (Addr.add a77 2) 0) w74 fun x78 =>
  LdS (Addr.add (Addr.add a77 2) 1) w74 fun x79 =>
  LdS (Addr.add (Addr.add a77 2) 2) w74 fun x80 =>
  LdI .i64 (Addr.add (Addr.add a77 2) 3) w74 fun x81 =>
  LdI .i64 (Addr.add (Addr.add a77 2) 4) w74 fun x82 =>
  NewC #[(Value.int .i64 0), (Value.string ⟨#[]⟩), (Value.string ⟨#[]⟩), (Value.int .i64 0), (Value.int .i64 0)] 32 w74 fun b83 w84 =>
  St1 (Addr.add ⟨b83, 0, none⟩ 0) (Value.int .i64 x78) w84 fun w85 =>
  St1 (Addr.add ⟨b83, 0, none⟩ 1) (Value.string x79) w85 fun w86 =>
  St1 (Addr.add ⟨b83, 0, none⟩ 2) (Value.string x80) w86 fun w87 =>
  St1 (Addr.add ⟨b83, 0, none⟩ 3) (Value.int .i64 x81) w87 fun w88 =>
  St1 (Addr.add ⟨b83, 0, none⟩ 4) (Value.int .i64 x82) w88 fun w89 =>
  IxP x70p x70n k73 7 fun a90 =>
  LdI .i64 (Addr.add a90 0) w89 fun x91 =>
  Bif (x91 == 1) (
  Bif (decide ((IntKind.wrap .i64 (k73 + 1)) ≥ (x70n : Int))) (
  R (Value.bool false) w89) (
  IxP x70p x70n (IntKind.wrap .i64 (k73 + 1)) 7 fun a92 =>
  LdI .i64 (Addr.add a92 1) w89 fun x93 =>
  Bif (x93 != x76) (
  R (Value.bool false) w89) (
  IxP x70p x70n (IntKind.wrap .i64 (k73 + 1)) 7 fun a94 =>
  LdI .i64 (Addr.add (Addr.add a94 2) 0) w89 fun x95 =>
  Bif (x95 != 1) (
  R (Value.bool false) w89) (
  IxP (some ⟨b35, 0, none⟩) (Int.toNat 1001) x76 1 fun a96 =>
  St1 a96 (Value.int .i64 1) w89 fun w97 =>
  I71 [(Value.int .i64 (IntKind.wrap .i64 (k73 + 1)))] w97 ∧ mu72 [(Value.int .i64 (IntKind.wrap .i64 (k73 + 1)))] w97 < mu72 [(Value.int .i64 k73)] w74)))) (
  LdI .i64 (Addr.add ⟨b83, 0, none⟩ 0) w89 fun x98 =>
  Bif (x98 == 1) (
  IxP (some ⟨b35, 0, none⟩) (Int.toNat 1001) x76 1 fun a99 =>
  LdI .i64 a99 w89 fun x100 =>
  Bif (x100 != 1) (
  R (Value.bool false) w89) (
  LdS (Addr.add ⟨b83, 0, none⟩ 1) w89 fun x101 =>
  LdS (Addr.add ⟨b9, 0, none⟩ 0) w89 fun x102 =>
  Bif (!(ByteArray.toList x101 == ByteArray.toList x102)) (
  R (Value.bool false) w89) (
  LdS (Addr.add ⟨b83, 0, none⟩ 2) w89 fun x103 =>
  LdS (Addr.add ⟨b9, 0, none⟩ 1) w89 fun x104 =>
  Bif (!(ByteArray.toList x103 == ByteArray.toList x104)) (
  R (Value.bool false) w89) (
  IxP (some ⟨b35, 0, none⟩) (Int.toNat 1001) x76 1 fun a105 =>
  St1 a105 (Value.int .i64 2) w89 fun w106 =>
  I71 [(Value.int .i64 (IntKind.wrap .i64 (k73 + 1)))] w106 ∧ mu72 [(Value.int .i64 (IntKind.wrap .i64 (k73 + 1)))] w106 < mu72 [(Value.int .i64 k73)] w74)))) (
  Bif (x98 == 3) (
  ∃ (C107 : Cls), Cls.p C107 [] w89 ∧
  IxP (some ⟨b35, 0, none⟩) (Int.toNat 1001) x76 1 fun a108 =>
  ∃ (x109 : Int), Qt C107 (Value.int .i64 x109) (fun w110 K111 =>
  LdI .i64 a108 w110 fun x112 =>
  K111 (Value.int .i64 x112) w110) ∧
  Bif (x109 != 2) (
  ∀ G113 w114, Cls.p C107 G113 w114 →
  R (Value.bool false) w114) (
  ∃ (x115 : Int), Qt C107 (Value.int .i64 x115) (fun w116 K117 =>
  LdI .i64 (Addr.add (Addr.add ⟨b50, 0, none⟩ 2) 0) w116 fun x118 =>
  K117 (Value.int .i64 x118) w116) ∧
  Bif (x115 != 2) (
  ∀ G119 w120, Cls.p C107 G119 w120 →
  R (Value.bool false) w120) (
  ∃ (x121 : ByteArray), Qt C107 (Value.string x121) (fun w122 K123 =>
  LdS (Addr.add ⟨b83, 0, none⟩ 1) w122 fun x124 =>
  K123 (Value.string x124) w122) ∧
  ∃ (x125 : ByteArray), Qt C107 (Value.string x125) (fun w126 K127 =>
  LdS (Addr.add ⟨b9, 0, none⟩ 2) w126 fun x128 =>
  K127 (Value.string x128) w126) ∧
  ∃ (x129 : ByteArray), Qt C107 (Value.string x129) (fun w130 K131 =>
  LdS (Addr.add ⟨b9, 0, none⟩ 0) w130 fun x132 =>
  K131 (Value.string x132) w130) ∧
  ∃ (x133 : ByteArray), Qt C107 (Value.string x133) (fun w134 K135 =>
  LdS (Addr.add ⟨b9, 0, none⟩ 1) w134 fun x136 =>
  K135 (Value.string x136) w134) ∧
  ∃ (x137 : ByteArray), Qt C107 (Value.string x137) (fun w138 K139 =>
  LdS (Addr.add (Addr.add ⟨b50, 0, none⟩ 2) 1) w138 fun x140 =>
  K139 (Value.string x140) w138) ∧
  Ef C107 (fun w144 K143 =>
  Run Try.prog (convert 9 40 (Value.string x125)) w144 fun v146 w147 =>
  AsL v146 fun x148p x148n x148c =>
  K143 (Value.slice x148p x148n x148c) w147) fun v145 D142 =>
  AsL v145 fun x149p x149n x149c =>
  (Qt D142 (Value.string x137) (fun w150 K151 =>
  LdS (Addr.add (Addr.add ⟨b50, 0, none⟩ 2) 1) w150 fun x152 =>
  K151 (Value.string x152) w150) ∧
  Qt D142 (Value.string x133) (fun w153 K154 =>
  LdS (Addr.add ⟨b9, 0, none⟩ 1) w153 fun x155 =>
  K154 (Value.string x155) w153) ∧
  Qt D142 (Value.string x129) (fun w156 K157 =>
  LdS (Addr.add ⟨b9, 0, none⟩ 0) w156 fun x158 =>
  K157 (Value.string x158) w156) ∧
  Qt D142 (Value.string x121) (fun w159 K160 =>
  LdS (Addr.add ⟨b83, 0, none⟩ 1) w159 fun x161 =>
  K160 (Value.string x161) w159)) ∧
  ∀ b162 : Nat,
  Ef (Cls.push D142 (b162, .cells #[(Value.string x129), (Value.string x133), (Value.string x137)] 9)) (fun w166 K165 =>
  CallR Try.prog 11 #[(Value.slice x149p x149n x149c), (Value.slice (some ⟨b162, 0, none⟩) 3 3)] w166 fun v168 w169 =>
  AsS v168 fun x170 =>
  K165 (Value.string x170) w169) fun v167 D164 =>
  AsS v167 fun x171 =>
  (Qt D164 (Value.string x121) (fun w172 K173 =>
  LdS (Addr.add ⟨b83, 0, none⟩ 1) w172 fun x174 =>
  K173 (Value.string x174) w172)) ∧
  ∀ G175 w176, Cls.p D164 G175 w176 →
  Bif (!(ByteArray.toList x121 == ByteArray.toList x171)) (
  R (Value.bool false) w176) (
  IxP (some ⟨b35, 0, none⟩) (Int.toNat 1001) x76 1 fun a177 =>
  St1 a177 (Value.int .i64 3) w176 fun w178 =>
  I71 [(Value.int .i64 (IntKind.wrap .i64 (k73 + 1)))] w178 ∧ mu72 [(Value.int .i64 (IntKind.wrap .i64 (k73 + 1)))] w178 < mu72 [(Value.int .i64 k73)] w74)))) (
  Bif (x98 == 12) (
  IxP (some ⟨b35, 0, none⟩) (Int.toNat 1001) x76 1 fun a179 =>
  LdI .i64 a179 w89 fun x180 =>
  Bif (x180 != 3) (
  R (Value.bool false) w89) (
  Bif (x76 == 0) (
  R (Value.bool false) w89) (
  IxP (some ⟨b35, 0, none⟩) (Int.toNat 1001) x76 1 fun a181 =>
  St1 a181 (Value.int .i64 4) w89 fun w182 =>
  I71 [(Value.int .i64 (IntKind.wrap .i64 (k73 + 1)))] w182 ∧ mu72 [(Value.int .i64 (IntKind.wrap .i64 (k73 + 1)))] w182 < mu72 [(Value.int .i64 k73)] w74))) (
  Jn fun J183 => (
  Bif (x98 == 6) (
  J183 [(Value.bool (x98 == 6))] w89) (
  J183 [(Value.bool (x98 == 8))] w89)) ∧
  ∀ (x184 : Bool), ∀ w185, J183 [(Value.bool x184)] w185 →
  Bif x184 (
  IxP (some ⟨b35, 0, none⟩) (Int.toNat 1001) x76 1 fun a186 =>
  LdI .i64 a186 w185 fun x187 =>
  Bif (decide (x187 < 3)) (
  R (Value.bool false) w185) (
  Bif (x76 != 0) (
  R (Value.bool false) w185) (
  I71 [(Value.int .i64 (IntKind.wrap .i64 (k73 + 1)))] w185 ∧ mu72 [(Value.int .i64 (IntKind.wrap .i64 (k73 + 1)))] w185 < mu72 [(Value.int .i64 k73)] w74))) (
  R (Value.bool false) w185)))))))) (
  I37 [(Value.int .i64 (IntKind.wrap .i64 (i39 + 1)))] w74 ∧ mu38 [(Value.int .i64 (IntKind.wrap .i64 (i39 + 1)))] w74 < mu38 [(Value.int .i64 i39)] w40)) (
  R (Value.bool x13) w40))))
theorem F3_eq (p1 : ByteArray) (p2 : ByteArray) (p3 : ByteArray) (p4 : ByteArray) (p5 : Int) (p6 : Int) (l7p : Option Addr) (l7n : Nat) (l7c : Nat) (w8 : World) (R : Value → World → Prop) : liftF Try.prog 3 (.step .nil .nil (.step .nil .nil (.step .nil .nil (.step .nil .nil (.step .nil .nil (.step .nil .nil (.step .nil .nil (.step (.loop [(8, .b (.int .i64))] (.step .nil .nil (.step .nil .nil (.step (.step .nil .nil (.step .nil .nil (.step .nil .nil (.step (.loop [(11, .b (.int .i64))] (.step .nil .nil (.step .nil .nil (.step (.step .nil .nil (.step .nil .nil (.step .nil .nil (.step .nil .nil (.step .nil .nil (.step .nil .nil (.step .nil .nil (.step (.step .nil .nil (.step .nil (.step .nil .nil (.step (.draw [(0, false), (1, false), (2, false), (3, false), (4, false), (5, false), (6, false), (7, false), (8, false), (9, false), (10, false), (11, false), (12, false), (14, false), (17, false), (19, false), (21, false), (22, false), (13, false), (15, false), (18, false), (20, false), (23, false), (16, true), (24, false), (25, true), (26, false), (27, false)] .nil) (.step .nil .nil (.step .nil (.step .nil .nil (.join 1 [(175, .b .bool)] .nil .nil)) .nil)) .nil)) .nil)) .nil .nil)))))))) .nil .nil)))) .nil .nil)))) .nil .nil)))) .nil .nil)))))))) [(Value.agg #[(Value.string p1), (Value.string p2), (Value.string p3), (Value.string p4), (Value.int .i64 p5), (Value.int .i64 p6)]), (Value.slice l7p l7n l7c)] w8 R = F3 p1 p2 p3 p4 p5 p6 l7p l7n l7c w8 R := by kernel_rfl
theorem F3_of {p1 : ByteArray} {p2 : ByteArray} {p3 : ByteArray} {p4 : ByteArray} {p5 : Int} {p6 : Int} {l7p : Option Addr} {l7n : Nat} {l7c : Nat} {w8 : World} {R : Value → World → Prop} (h : F3 p1 p2 p3 p4 p5 p6 l7p l7n l7c w8 R) : CallR Try.prog 3 #[(Value.agg #[(Value.string p1), (Value.string p2), (Value.string p3), (Value.string p4), (Value.int .i64 p5), (Value.int .i64 p6)]), (Value.slice l7p l7n l7c)] w8 R := callR_of_lift _ ((F3_eq p1 p2 p3 p4 p5 p6 l7p l7n l7c w8 R).mpr h)

-- F4 subway/subwaylaw20.AgentLost
def F4 (p1 : ByteArray) (p2 : ByteArray) (p3 : ByteArray) (p4 : ByteArray) (p5 : Int) (p6 : Int) (l7p : Option Addr) (l7n : Nat) (l7c : Nat) (now8 : Int) (w9 : World) (R : Value → World → Prop) : Prop :=
  NewC #[(Value.string p1), (Value.string p2), (Value.string p3), (Value.string p4), (Value.int .i64 p5), (Value.int .i64 p6)] 23 w9 fun b10 w11 =>
  CallR Try.prog 6 #[] w11 fun v12 w13 =>
  AsB v12 fun x14 =>
  LdS (Addr.add ⟨b10, 0, none⟩ 0) w13 fun x15 =>
  LdS (Addr.add ⟨b10, 0, none⟩ 1) w13 fun x16 =>
  LdS (Addr.add ⟨b10, 0, none⟩ 2) w13 fun x17 =>
  LdS (Addr.add ⟨b10, 0, none⟩ 3) w13 fun x18 =>
  LdI .i64 (Addr.add ⟨b10, 0, none⟩ 4) w13 fun x19 =>
  LdI .i64 (Addr.add ⟨b10, 0, none⟩ 5) w13 fun x20 =>
  CallR Try.prog 7 #[(Value.agg #[(Value.string x15), (Value.string x16), (Value.string x17), (Value.string x18), (Value.int .i64 x19), (Value.int .i64 x20)])] w13 fun v21 w22 =>
  AsP v21 fun x23 =>
  Bif (isNone' x23) (
  Bif (!(isNone' x23)) (
  R (Value.bool x14) w22) (
  R (Value.bool false) w22)) (
  CallR Try.prog 8 #[(Value.slice l7p l7n l7c)] w22 fun v24 w25 =>
  AsB v24 fun x26 =>
  Bif x26 (
  Bif (!(isNone' x23)) (
  R (Value.bool x14) w25) (
  R (Value.bool false) w25)) (
  LdS (Addr.add ⟨b10, 0, none⟩ 0) w25 fun x27 =>
  LdS (Addr.add ⟨b10, 0, none⟩ 1) w25 fun x28 =>
  LdS (Addr.add ⟨b10, 0, none⟩ 2) w25 fun x29 =>
  LdS (Addr.add ⟨b10, 0, none⟩ 3) w25 fun x30 =>
  LdI .i64 (Addr.add ⟨b10, 0, none⟩ 4) w25 fun x31 =>
  LdI .i64 (Addr.add ⟨b10, 0, none⟩ 5) w25 fun x32 =>
  CallR Try.prog 9 #[(Value.agg #[(Value.string x27), (Value.string x28), (Value.string x29), (Value.string x30), (Value.int .i64 x31), (Value.int .i64 x32)])] w25 fun v33 w34 =>
  AsB v33 fun x35 =>
  Bif x35 (
  Bif (!(isNone' x23)) (
  R (Value.bool x14) w34) (
  R (Value.bool false) w34)) (
  CallR Try.prog 12 #[(Value.pointer x23)] w34 fun v36 w37 =>
  AsL v36 fun x38p x38n x38c =>
  Lp fun I39 mu40 =>
  I39 [(Value.int .i64 0)] w37 ∧
  ∀ (i41 : Int), ∀ w42, I39 [(Value.int .i64 i41)] w42 →
  Bif (decide (i41 < (l7n : Int))) (
  IxP l7p l7n i41 8 fun a43 =>
  LdI .i64 (Addr.add a43 0) w42 fun x44 =>
  Bif (decide (x44 < 5)) (
  IxP l7p l7n i41 8 fun a45 =>
  LdI .i64 (Addr.add a45 0) w42 fun x46 =>
  LdI .i64 (Addr.add a45 1) w42 fun x47 =>
  LdI .i64 (Addr.add a45 2) w42 fun x48 =>
  LdS (Addr.add a45 3) w42 fun x49 =>
  LdS (Addr.add a45 4) w42 fun x50 =>
  LdI .i64 (Addr.add a45 5) w42 fun x51 =>
  LdI .i64 (Addr.add a45 6) w42 fun x52 =>
  LdI .i64 (Addr.add a45 7) w42 fun x53 =>
  CallR Try.prog 10 #[(Value.pointer x23), (Value.agg #[(Value.int .i64 x46), (Value.int .i64 x47), (Value.int .i64 x48), (Value.string x49), (Value.string x50), (Value.int .i64 x51), (Value.int .i64 x52), (Value.int .i64 x53)])] w42 fun v54 w55 =>
  AsL v54 fun x56p x56n x56c =>
  I39 [(Value.int .i64 (IntKind.wrap .i64 (i41 + 1)))] w55 ∧ mu40 [(Value.int .i64 (IntKind.wrap .i64 (i41 + 1)))] w55 < mu40 [(Value.int .i64 i41)] w42) (
  I39 [(Value.int .i64 (IntKind.wrap .i64 (i41 + 1)))] w42 ∧ mu40 [(Value.int .i64 (IntKind.wrap .i64 (i41 + 1)))] w42 < mu40 [(Value.int .i64 i41)] w42)) (
  CallR Try.prog 13 #[(Value.pointer x23), (Value.int .i64 0)] w42 fun v57 w58 =>
  AsB v57 fun x59 =>
  CallR Try.prog 13 #[(Value.pointer x23), (Value.int .i64 0)] w58 fun v60 w61 =>
  AsB v60 fun x62 =>
  CallR Try.prog 14 #[(Value.pointer x23)] w61 fun v63 w64 =>
  ∃ (x65 : Int), ∃ (x66 : Bool), v63 = (Value.tuple #[(Value.int .i64 x65), (Value.bool x66)]) ∧
  CallR Try.prog 15 #[(Value.pointer x23), (Value.int .i64 0), (Value.agg #[(Value.int .i64 2), (Value.string ⟨#[110]⟩), (Value.string ⟨#[]⟩), (Value.int .i64 0), (Value.int .i64 0)]), (Value.int .i64 1)] w64 fun v67 w68 =>
  AsL v67 fun x69p x69n x69c =>
  Jn fun J70 => (
  CallR Try.prog 16 #[(Value.pointer x23), (Value.int .i64 0)] w68 fun v71 w72 =>
  AsB v71 fun x73 =>
  Bif x73 (
  J70 [(Value.bool true)] w72) (
  CallR Try.prog 16 #[(Value.pointer x23), (Value.int .i64 1)] w72 fun v74 w75 =>
  AsB v74 fun x76 =>
  Bif x76 (
  J70 [(Value.bool true)] w75) (
  CallR Try.prog 16 #[(Value.pointer x23), (Value.int .i64 2)] w75 fun v77 w78 =>
  AsB v77 fun x79 =>
  J70 [(Value.bool x79)] w78))) ∧
  ∀ (through80 : Bool), ∀ w81, J70 [(Value.bool through80)] w81 →
  CallR Try.prog 17 #[(Value.pointer x23), (Value.int .i64 now8)] w81 fun v82 w83 =>
  AsL v82 fun x84p x84n x84c =>
  CallR Try.prog 17 #[(Value.pointer x23), (Value.int .i64 now8)] w83 fun v85 w86 =>
  AsL v85 fun x87p x87n x87c =>
  Bif (!x59) (
  R (Value.bool false) w86) (
  Bif x62 (
  R (Value.bool false) w86) (
  Bif x66 (
  R (Value.bool false) w86) (
  Bif ((x69n : Int) != 0) (
  R (Value.bool false) w86) (
  Bif through80 (
  R (Value.bool false) w86) (
  Bif ((x84n : Int) != 2) (
  R (Value.bool false) w86) (
  Bif ((x87n : Int) != 0) (
  R (Value.bool false) w86) (
  ∃ (C88 : Cls), Cls.p C88 [] w86 ∧
  Bif x14 (
  IxP x84p x84n 0 7 fun a89 =>
  ∃ (x90 : Int) (x91 : Int) (x92 : Int) (x93 : ByteArray) (x94 : ByteArray) (x95 : Int) (x96 : Int), Qt C88 (Value.agg #[(Value.int .i64 x90), (Value.int .i64 x91), (Value.int .i64 x92), (Value.string x93), (Value.string x94), (Value.int .i64 x95), (Value.int .i64 x96)]) (fun w97 K98 =>
  LdI .i64 (Addr.add a89 0) w97 fun x99 =>
  LdI .i64 (Addr.add a89 1) w97 fun x100 =>
  LdI .i64 (Addr.add a89 2) w97 fun x101 =>
  LdS (Addr.add a89 3) w97 fun x102 =>
  LdS (Addr.add a89 4) w97 fun x103 =>
  LdI .i64 (Addr.add a89 5) w97 fun x104 =>
  LdI .i64 (Addr.add a89 6) w97 fun x105 =>
  K98 (Value.agg #[(Value.int .i64 x99), (Value.int .i64 x100), (Value.int .i64 x101), (Value.string x102), (Value.string x103), (Value.int .i64 x104), (Value.int .i64 x105)]) w97) ∧
  ∃ v106, (∀ w, Sem.run Try.prog (do eqGuard .eql 38 (.tmp 114) (.tmp 115) (Value.agg #[(Value.int .i64 x90), (Value.int .i64 x91), (Value.int .i64 x92), (Value.string x93), (Value.string x94), (Value.int .i64 x95), (Value.int .i64 x96)]) (Value.agg #[(Value.int .i64 1), (Value.int .i64 0), (Value.int .i64 0), (Value.string ⟨#[]⟩), (Value.string ⟨#[]⟩), (Value.int .i64 0), (Value.int .i64 0)]); binOp .eql 38 (Value.agg #[(Value.int .i64 x90), (Value.int .i64 x91), (Value.int .i64 x92), (Value.string x93), (Value.string x94), (Value.int .i64 x95), (Value.int .i64 x96)]) (Value.agg #[(Value.int .i64 1), (Value.int .i64 0), (Value.int .i64 0), (Value.string ⟨#[]⟩), (Value.string ⟨#[]⟩), (Value.int .i64 0), (Value.int .i64 0)])) w = .ok v106 w) ∧
  AsB v106 fun x107 =>
  Bif x107 (
  IxP x84p x84n 1 7 fun a108 =>
  ∃ (x109 : Int) (x110 : Int) (x111 : Int) (x112 : ByteArray) (x113 : ByteArray) (x114 : Int) (x115 : Int), Qt C88 (Value.agg #[(Value.int .i64 x109), (Value.int .i64 x110), (Value.int .i64 x111), (Value.string x112), (Value.string x113), (Value.int .i64 x114), (Value.int .i64 x115)]) (fun w116 K117 =>
  LdI .i64 (Addr.add a108 0) w116 fun x118 =>
  LdI .i64 (Addr.add a108 1) w116 fun x119 =>
  LdI .i64 (Addr.add a108 2) w116 fun x120 =>
  LdS (Addr.add a108 3) w116 fun x121 =>
  LdS (Addr.add a108 4) w116 fun x122 =>
  LdI .i64 (Addr.add a108 5) w116 fun x123 =>
  LdI .i64 (Addr.add a108 6) w116 fun x124 =>
  K117 (Value.agg #[(Value.int .i64 x118), (Value.int .i64 x119), (Value.int .i64 x120), (Value.string x121), (Value.string x122), (Value.int .i64 x123), (Value.int .i64 x124)]) w116) ∧
  ∃ (x125 : ByteArray), Qt C88 (Value.string x125) (fun w126 K127 =>
  LdS (Addr.add ⟨b10, 0, none⟩ 0) w126 fun x128 =>
  K127 (Value.string x128) w126) ∧
  ∃ (x129 : ByteArray), Qt C88 (Value.string x129) (fun w130 K131 =>
  LdS (Addr.add ⟨b10, 0, none⟩ 1) w130 fun x132 =>
  K131 (Value.string x132) w130) ∧
  ∃ v133, (∀ w, Sem.run Try.prog (do eqGuard .eql 38 (.tmp 121) (.tmp 127) (Value.agg #[(Value.int .i64 x109), (Value.int .i64 x110), (Value.int .i64 x111), (Value.string x112), (Value.string x113), (Value.int .i64 x114), (Value.int .i64 x115)]) (Value.agg #[(Value.int .i64 2), (Value.int .i64 0), (Value.int .i64 1), (Value.string x125), (Value.string x129), (Value.int .i64 0), (Value.int .i64 0)]); binOp .eql 38 (Value.agg #[(Value.int .i64 x109), (Value.int .i64 x110), (Value.int .i64 x111), (Value.string x112), (Value.string x113), (Value.int .i64 x114), (Value.int .i64 x115)]) (Value.agg #[(Value.int .i64 2), (Value.int .i64 0), (Value.int .i64 1), (Value.string x125), (Value.string x129), (Value.int .i64 0), (Value.int .i64 0)])) w = .ok v133 w) ∧
  AsB v133 fun x134 =>
  ∀ G135 w136, Cls.p C88 G135 w136 →
  R (Value.bool x134) w136) (
  ∀ G137 w138, Cls.p C88 G137 w138 →
  R (Value.bool false) w138)) (
  ∀ G139 w140, Cls.p C88 G139 w140 →
  R (Value.bool false) w140))))))))))))
theorem F4_eq (p1 : ByteArray) (p2 : ByteArray) (p3 : ByteArray) (p4 : ByteArray) (p5 : Int) (p6 : Int) (l7p : Option Addr) (l7n : Nat) (l7c : Nat) (now8 : Int) (w9 : World) (R : Value → World → Prop) : liftF Try.prog 4 (.step .nil .nil (.step .nil .nil (.step .nil .nil (.step .nil .nil (.step .nil .nil (.step .nil .nil (.step .nil .nil (.step (.loop [(9, .b (.int .i64))] .nil) .nil (.step .nil .nil (.step .nil .nil (.step .nil .nil (.step .nil .nil (.join 1 [(15, .b .bool)] .nil (.step .nil .nil (.step .nil .nil (.step .nil .nil (.step .nil .nil (.draw [(0, false), (1, false), (2, false), (3, false), (5, false), (4, false), (6, false), (7, false), (8, false), (9, false), (10, false), (12, false), (14, false), (11, false), (13, false), (15, false), (16, false), (17, false), (18, false), (19, false), (20, false)] .nil)))))))))))))))))) [(Value.agg #[(Value.string p1), (Value.string p2), (Value.string p3), (Value.string p4), (Value.int .i64 p5), (Value.int .i64 p6)]), (Value.slice l7p l7n l7c), (Value.int .i64 now8)] w9 R = F4 p1 p2 p3 p4 p5 p6 l7p l7n l7c now8 w9 R := by kernel_rfl
theorem F4_of {p1 : ByteArray} {p2 : ByteArray} {p3 : ByteArray} {p4 : ByteArray} {p5 : Int} {p6 : Int} {l7p : Option Addr} {l7n : Nat} {l7c : Nat} {now8 : Int} {w9 : World} {R : Value → World → Prop} (h : F4 p1 p2 p3 p4 p5 p6 l7p l7n l7c now8 w9 R) : CallR Try.prog 4 #[(Value.agg #[(Value.string p1), (Value.string p2), (Value.string p3), (Value.string p4), (Value.int .i64 p5), (Value.int .i64 p6)]), (Value.slice l7p l7n l7c), (Value.int .i64 now8)] w9 R := callR_of_lift _ ((F4_eq p1 p2 p3 p4 p5 p6 l7p l7n l7c now8 w9 R).mpr h)

-- F5 subway/subwaylaw20.AgentOther
def F5 (p1 : ByteArray) (p2 : ByteArray) (p3 : ByteArray) (p4 : ByteArray) (p5 : Int) (p6 : Int) (l7p : Option Addr) (l7n : Nat) (l7c : Nat) (m8 : Int) (m9 : ByteArray) (m10 : ByteArray) (m11 : Int) (m12 : Int) (line13 : Int) (w14 : World) (R : Value → World → Prop) : Prop :=
  NewC #[(Value.string p1), (Value.string p2), (Value.string p3), (Value.string p4), (Value.int .i64 p5), (Value.int .i64 p6)] 23 w14 fun b15 w16 =>
  NewC #[(Value.int .i64 m8), (Value.string m9), (Value.string m10), (Value.int .i64 m11), (Value.int .i64 m12)] 32 w16 fun b17 w18 =>
  CallR Try.prog 6 #[] w18 fun v19 w20 =>
  AsB v19 fun x21 =>
  LdS (Addr.add ⟨b15, 0, none⟩ 0) w20 fun x22 =>
  LdS (Addr.add ⟨b15, 0, none⟩ 1) w20 fun x23 =>
  LdS (Addr.add ⟨b15, 0, none⟩ 2) w20 fun x24 =>
  LdS (Addr.add ⟨b15, 0, none⟩ 3) w20 fun x25 =>
  LdI .i64 (Addr.add ⟨b15, 0, none⟩ 4) w20 fun x26 =>
  LdI .i64 (Addr.add ⟨b15, 0, none⟩ 5) w20 fun x27 =>
  CallR Try.prog 7 #[(Value.agg #[(Value.string x22), (Value.string x23), (Value.string x24), (Value.string x25), (Value.int .i64 x26), (Value.int .i64 x27)])] w20 fun v28 w29 =>
  AsP v28 fun x30 =>
  Bif (isNone' x30) (
  Bif (!(isNone' x30)) (
  R (Value.bool x21) w29) (
  R (Value.bool false) w29)) (
  CallR Try.prog 8 #[(Value.slice l7p l7n l7c)] w29 fun v31 w32 =>
  AsB v31 fun x33 =>
  Bif x33 (
  Bif (!(isNone' x30)) (
  R (Value.bool x21) w32) (
  R (Value.bool false) w32)) (
  LdS (Addr.add ⟨b15, 0, none⟩ 0) w32 fun x34 =>
  LdS (Addr.add ⟨b15, 0, none⟩ 1) w32 fun x35 =>
  LdS (Addr.add ⟨b15, 0, none⟩ 2) w32 fun x36 =>
  LdS (Addr.add ⟨b15, 0, none⟩ 3) w32 fun x37 =>
  LdI .i64 (Addr.add ⟨b15, 0, none⟩ 4) w32 fun x38 =>
  LdI .i64 (Addr.add ⟨b15, 0, none⟩ 5) w32 fun x39 =>
  CallR Try.prog 9 #[(Value.agg #[(Value.string x34), (Value.string x35), (Value.string x36), (Value.string x37), (Value.int .i64 x38), (Value.int .i64 x39)])] w32 fun v40 w41 =>
  AsB v40 fun x42 =>
  Bif x42 (
  Bif (!(isNone' x30)) (
  R (Value.bool x21) w41) (
  R (Value.bool false) w41)) (
  LdI .i64 (Addr.add ⟨b17, 0, none⟩ 0) w41 fun x43 =>
  LdS (Addr.add ⟨b17, 0, none⟩ 1) w41 fun x44 =>
  LdS (Addr.add ⟨b17, 0, none⟩ 2) w41 fun x45 =>
  LdI .i64 (Addr.add ⟨b17, 0, none⟩ 3) w41 fun x46 =>
  LdI .i64 (Addr.add ⟨b17, 0, none⟩ 4) w41 fun x47 =>
  CallR Try.prog 18 #[(Value.agg #[(Value.int .i64 x43), (Value.string x44), (Value.string x45), (Value.int .i64 x46), (Value.int .i64 x47)])] w41 fun v48 w49 =>
  AsB v48 fun x50 =>
  Bif x50 (
  Bif (!(isNone' x30)) (
  R (Value.bool x21) w49) (
  R (Value.bool false) w49)) (
  Lp fun I51 mu52 =>
  I51 [(Value.int .i64 0)] w49 ∧
  ∀ (i53 : Int), ∀ w54, I51 [(Value.int .i64 i53)] w54 →
  Bif (decide (i53 < (l7n : Int))) (
  IxP l7p l7n i53 8 fun a55 =>
  LdI .i64 (Addr.add a55 0) w54 fun x56 =>
  LdI .i64 (Addr.add a55 1) w54 fun x57 =>
  LdI .i64 (Addr.add a55 2) w54 fun x58 =>
  LdS (Addr.add a55 3) w54 fun x59 =>
  LdS (Addr.add a55 4) w54 fun x60 =>
  LdI .i64 (Addr.add a55 5) w54 fun x61 =>
  LdI .i64 (Addr.add a55 6) w54 fun x62 =>
  LdI .i64 (Addr.add a55 7) w54 fun x63 =>
  CallR Try.prog 10 #[(Value.pointer x30), (Value.agg #[(Value.int .i64 x56), (Value.int .i64 x57), (Value.int .i64 x58), (Value.string x59), (Value.string x60), (Value.int .i64 x61), (Value.int .i64 x62), (Value.int .i64 x63)])] w54 fun v64 w65 =>
  AsL v64 fun x66p x66n x66c =>
  I51 [(Value.int .i64 (IntKind.wrap .i64 (i53 + 1)))] w65 ∧ mu52 [(Value.int .i64 (IntKind.wrap .i64 (i53 + 1)))] w65 < mu52 [(Value.int .i64 i53)] w54) (
  CallR Try.prog 14 #[(Value.pointer x30)] w54 fun v67 w68 =>
  ∃ (x69 : Int), ∃ (x70 : Bool), v67 = (Value.tuple #[(Value.int .i64 x69), (Value.bool x70)]) ∧
  CallR Try.prog 16 #[(Value.pointer x30), (Value.int .i64 0)] w68 fun v71 w72 =>
  AsB v71 fun x73 =>
  LdI .i64 (Addr.add ⟨b17, 0, none⟩ 0) w72 fun x74 =>
  LdS (Addr.add ⟨b17, 0, none⟩ 1) w72 fun x75 =>
  LdS (Addr.add ⟨b17, 0, none⟩ 2) w72 fun x76 =>
  LdI .i64 (Addr.add ⟨b17, 0, none⟩ 3) w72 fun x77 =>
  LdI .i64 (Addr.add ⟨b17, 0, none⟩ 4) w72 fun x78 =>
  NewC #[(Value.int .i64 0), (Value.string ⟨#[]⟩), (Value.string ⟨#[]⟩), (Value.int .i64 0), (Value.int .i64 0)] 32 w72 fun b79 w80 =>
  St1 (Addr.add ⟨b79, 0, none⟩ 0) (Value.int .i64 x74) w80 fun w81 =>
  St1 (Addr.add ⟨b79, 0, none⟩ 1) (Value.string x75) w81 fun w82 =>
  St1 (Addr.add ⟨b79, 0, none⟩ 2) (Value.string x76) w82 fun w83 =>
  St1 (Addr.add ⟨b79, 0, none⟩ 3) (Value.int .i64 x77) w83 fun w84 =>
  St1 (Addr.add ⟨b79, 0, none⟩ 4) (Value.int .i64 x78) w84 fun w85 =>
  LdS (Addr.add ⟨b15, 0, none⟩ 3) w85 fun x86 =>
  CatK x86 ⟨#[120]⟩ (
  St1 (Addr.add ⟨b79, 0, none⟩ 1) (Value.string (x86 ++ ⟨#[120]⟩)) w85 fun w87 =>
  Jn fun J88 => (
  Bif x73 (
  LdI .i64 (Addr.add ⟨b79, 0, none⟩ 0) w87 fun x89 =>
  LdS (Addr.add ⟨b79, 0, none⟩ 1) w87 fun x90 =>
  LdS (Addr.add ⟨b79, 0, none⟩ 2) w87 fun x91 =>
  LdI .i64 (Addr.add ⟨b79, 0, none⟩ 3) w87 fun x92 =>
  LdI .i64 (Addr.add ⟨b79, 0, none⟩ 4) w87 fun x93 =>
  CallR Try.prog 15 #[(Value.pointer x30), (Value.int .i64 0), (Value.agg #[(Value.int .i64 x89), (Value.string x90), (Value.string x91), (Value.int .i64 x92), (Value.int .i64 x93)]), (Value.int .i64 1)] w87 fun v94 w95 =>
  AsL v94 fun x96p x96n x96c =>
  J88 [(Value.slice x96p x96n x96c)] w95) (
  J88 [(Value.slice none 0 0)] w87)) ∧
  ∀ (x97p : Option Addr) (x97n : Nat) (x97c : Nat), ∀ w98, J88 [(Value.slice x97p x97n x97c)] w98 →
  LdI .i64 (Addr.add ⟨b17, 0, none⟩ 0) w98 fun x99 =>
  LdS (Addr.add ⟨b17, 0, none⟩ 1) w98 fun x100 =>
  LdS (Addr.add ⟨b17, 0, none⟩ 2) w98 fun x101 =>
  LdI .i64 (Addr.add ⟨b17, 0, none⟩ 3) w98 fun x102 =>
  LdI .i64 (Addr.add ⟨b17, 0, none⟩ 4) w98 fun x103 =>
  CallR Try.prog 15 #[(Value.pointer x30), (Value.int .i64 (-1)), (Value.agg #[(Value.int .i64 x99), (Value.string x100), (Value.string x101), (Value.int .i64 x102), (Value.int .i64 x103)]), (Value.int .i64 1)] w98 fun v104 w105 =>
  AsL v104 fun x106p x106n x106c =>
  LdI .i64 (Addr.add ⟨b17, 0, none⟩ 0) w105 fun x107 =>
  LdS (Addr.add ⟨b17, 0, none⟩ 1) w105 fun x108 =>
  LdS (Addr.add ⟨b17, 0, none⟩ 2) w105 fun x109 =>
  LdI .i64 (Addr.add ⟨b17, 0, none⟩ 3) w105 fun x110 =>
  LdI .i64 (Addr.add ⟨b17, 0, none⟩ 4) w105 fun x111 =>
  CallR Try.prog 15 #[(Value.pointer x30), (Value.int .i64 line13), (Value.agg #[(Value.int .i64 x107), (Value.string x108), (Value.string x109), (Value.int .i64 x110), (Value.int .i64 x111)]), (Value.int .i64 (-1))] w105 fun v112 w113 =>
  AsL v112 fun x114p x114n x114c =>
  LdI .i64 (Addr.add ⟨b17, 0, none⟩ 0) w113 fun x115 =>
  LdS (Addr.add ⟨b17, 0, none⟩ 1) w113 fun x116 =>
  LdS (Addr.add ⟨b17, 0, none⟩ 2) w113 fun x117 =>
  LdI .i64 (Addr.add ⟨b17, 0, none⟩ 3) w113 fun x118 =>
  LdI .i64 (Addr.add ⟨b17, 0, none⟩ 4) w113 fun x119 =>
  CallR Try.prog 15 #[(Value.pointer x30), (Value.int .i64 line13), (Value.agg #[(Value.int .i64 x115), (Value.string x116), (Value.string x117), (Value.int .i64 x118), (Value.int .i64 x119)]), (Value.int .i64 1099511627777)] w113 fun v120 w121 =>
  AsL v120 fun x122p x122n x122c =>
  CallR Try.prog 14 #[(Value.pointer x30)] w121 fun v123 w124 =>
  ∃ (x125 : Int), ∃ (x126 : Bool), v123 = (Value.tuple #[(Value.int .i64 x125), (Value.bool x126)]) ∧
  Bif x21 (
  Bif ((IntKind.wrap .i64 ((IntKind.wrap .i64 ((IntKind.wrap .i64 ((x97n : Int) + (x106n : Int))) + (x114n : Int))) + (x122n : Int))) == 0) (
  Bif (x125 == x69) (
  Bif (x126 == x70) (
  CallR Try.prog 16 #[(Value.pointer x30), (Value.int .i64 0)] w124 fun v127 w128 =>
  AsB v127 fun x129 =>
  Bif (x129 == x73) (
  CallR Try.prog 16 #[(Value.pointer x30), (Value.int .i64 (-1))] w128 fun v130 w131 =>
  AsB v130 fun x132 =>
  R (Value.bool (!x132)) w131) (
  R (Value.bool false) w128)) (
  R (Value.bool false) w124)) (
  R (Value.bool false) w124)) (
  R (Value.bool false) w124)) (
  R (Value.bool false) w124)))))))
theorem F5_eq (p1 : ByteArray) (p2 : ByteArray) (p3 : ByteArray) (p4 : ByteArray) (p5 : Int) (p6 : Int) (l7p : Option Addr) (l7n : Nat) (l7c : Nat) (m8 : Int) (m9 : ByteArray) (m10 : ByteArray) (m11 : Int) (m12 : Int) (line13 : Int) (w14 : World) (R : Value → World → Prop) : liftF Try.prog 5 (.step .nil .nil (.step .nil .nil (.step .nil .nil (.step .nil .nil (.step .nil .nil (.step .nil .nil (.step (.loop [(11, .b (.int .i64))] .nil) .nil (.step .nil .nil (.step .nil .nil (.step .nil .nil (.step .nil .nil (.step .nil .nil (.step .nil .nil (.join 1 [(16, .b .slice)] .nil .nil)))))))))))))) [(Value.agg #[(Value.string p1), (Value.string p2), (Value.string p3), (Value.string p4), (Value.int .i64 p5), (Value.int .i64 p6)]), (Value.slice l7p l7n l7c), (Value.agg #[(Value.int .i64 m8), (Value.string m9), (Value.string m10), (Value.int .i64 m11), (Value.int .i64 m12)]), (Value.int .i64 line13)] w14 R = F5 p1 p2 p3 p4 p5 p6 l7p l7n l7c m8 m9 m10 m11 m12 line13 w14 R := by kernel_rfl
theorem F5_of {p1 : ByteArray} {p2 : ByteArray} {p3 : ByteArray} {p4 : ByteArray} {p5 : Int} {p6 : Int} {l7p : Option Addr} {l7n : Nat} {l7c : Nat} {m8 : Int} {m9 : ByteArray} {m10 : ByteArray} {m11 : Int} {m12 : Int} {line13 : Int} {w14 : World} {R : Value → World → Prop} (h : F5 p1 p2 p3 p4 p5 p6 l7p l7n l7c m8 m9 m10 m11 m12 line13 w14 R) : CallR Try.prog 5 #[(Value.agg #[(Value.string p1), (Value.string p2), (Value.string p3), (Value.string p4), (Value.int .i64 p5), (Value.int .i64 p6)]), (Value.slice l7p l7n l7c), (Value.agg #[(Value.int .i64 m8), (Value.string m9), (Value.string m10), (Value.int .i64 m11), (Value.int .i64 m12)]), (Value.int .i64 line13)] w14 R := callR_of_lift _ ((F5_eq p1 p2 p3 p4 p5 p6 l7p l7n l7c m8 m9 m10 m11 m12 line13 w14 R).mpr h)

-- F6 subway/subwaylaw20.head
def F6  (w1 : World) (R : Value → World → Prop) : Prop :=
  CallR Try.prog 19 #[] w1 fun v2 w3 =>
  ∃ (x4 : ByteArray) (x5 : ByteArray) (x6 : ByteArray) (x7 : ByteArray) (x8 : Int) (x9 : Int), v2 = (Value.agg #[(Value.string x4), (Value.string x5), (Value.string x6), (Value.string x7), (Value.int .i64 x8), (Value.int .i64 x9)]) ∧
  CallR Try.prog 7 #[(Value.agg #[(Value.string x4), (Value.string x5), (Value.string x6), (Value.string x7), (Value.int .i64 x8), (Value.int .i64 x9)])] w3 fun v10 w11 =>
  AsP v10 fun x12 =>
  Bif (isNone' x12) (
  R (Value.bool false) w11) (
  CallR Try.prog 12 #[(Value.pointer x12)] w11 fun v13 w14 =>
  AsL v13 fun x15p x15n x15c =>
  CallR Try.prog 15 #[(Value.pointer x12), (Value.int .i64 0), (Value.agg #[(Value.int .i64 2), (Value.string ⟨#[110]⟩), (Value.string ⟨#[]⟩), (Value.int .i64 0), (Value.int .i64 0)]), (Value.int .i64 0)] w14 fun v16 w17 =>
  AsL v16 fun x18p x18n x18c =>
  CallR Try.prog 15 #[(Value.pointer x12), (Value.int .i64 0), (Value.agg #[(Value.int .i64 4), (Value.string ⟨#[]⟩), (Value.string ⟨#[]⟩), (Value.int .i64 0), (Value.int .i64 0)]), (Value.int .i64 0)] w17 fun v19 w20 =>
  AsL v19 fun x21p x21n x21c =>
  CallR Try.prog 15 #[(Value.pointer x12), (Value.int .i64 0), (Value.agg #[(Value.int .i64 7), (Value.string ⟨#[119, 101, 98]⟩), (Value.string ⟨#[]⟩), (Value.int .i64 3), (Value.int .i64 50)]), (Value.int .i64 0)] w20 fun v22 w23 =>
  AsL v22 fun x24p x24n x24c =>
  CallR Try.prog 15 #[(Value.pointer x12), (Value.int .i64 0), (Value.agg #[(Value.int .i64 11), (Value.string ⟨#[119, 101, 98]⟩), (Value.string ⟨#[116]⟩), (Value.int .i64 0), (Value.int .i64 0)]), (Value.int .i64 1)] w23 fun v25 w26 =>
  AsL v25 fun x27p x27n x27c =>
  CallR Try.prog 17 #[(Value.pointer x12), (Value.int .i64 10)] w26 fun v28 w29 =>
  AsL v28 fun x30p x30n x30c =>
  CallR Try.prog 14 #[(Value.pointer x12)] w29 fun v31 w32 =>
  ∃ (x33 : Int), ∃ (x34 : Bool), v31 = (Value.tuple #[(Value.int .i64 x33), (Value.bool x34)]) ∧
  Bif ((x15n : Int) != 2) (
  R (Value.bool false) w32) (
  Bif ((x18n : Int) != 1) (
  R (Value.bool false) w32) (
  Bif ((x21n : Int) != 1) (
  R (Value.bool false) w32) (
  Bif ((x27n : Int) != 2) (
  R (Value.bool false) w32) (
  Bif ((x30n : Int) != 1) (
  R (Value.bool false) w32) (
  ∃ (C35 : Cls), Cls.p C35 [] w32 ∧
  IxP x15p x15n 0 7 fun a36 =>
  ∃ (x37 : Int) (x38 : Int) (x39 : Int) (x40 : ByteArray) (x41 : ByteArray) (x42 : Int) (x43 : Int), Qt C35 (Value.agg #[(Value.int .i64 x37), (Value.int .i64 x38), (Value.int .i64 x39), (Value.string x40), (Value.string x41), (Value.int .i64 x42), (Value.int .i64 x43)]) (fun w44 K45 =>
  LdI .i64 (Addr.add a36 0) w44 fun x46 =>
  LdI .i64 (Addr.add a36 1) w44 fun x47 =>
  LdI .i64 (Addr.add a36 2) w44 fun x48 =>
  LdS (Addr.add a36 3) w44 fun x49 =>
  LdS (Addr.add a36 4) w44 fun x50 =>
  LdI .i64 (Addr.add a36 5) w44 fun x51 =>
  LdI .i64 (Addr.add a36 6) w44 fun x52 =>
  K45 (Value.agg #[(Value.int .i64 x46), (Value.int .i64 x47), (Value.int .i64 x48), (Value.string x49), (Value.string x50), (Value.int .i64 x51), (Value.int .i64 x52)]) w44) ∧
  ∃ v53, (∀ w, Sem.run Try.prog (do eqGuard .eql 38 (.tmp 60) (.tmp 61) (Value.agg #[(Value.int .i64 x37), (Value.int .i64 x38), (Value.int .i64 x39), (Value.string x40), (Value.string x41), (Value.int .i64 x42), (Value.int .i64 x43)]) (Value.agg #[(Value.int .i64 1), (Value.int .i64 0), (Value.int .i64 0), (Value.string ⟨#[]⟩), (Value.string ⟨#[]⟩), (Value.int .i64 0), (Value.int .i64 0)]); binOp .eql 38 (Value.agg #[(Value.int .i64 x37), (Value.int .i64 x38), (Value.int .i64 x39), (Value.string x40), (Value.string x41), (Value.int .i64 x42), (Value.int .i64 x43)]) (Value.agg #[(Value.int .i64 1), (Value.int .i64 0), (Value.int .i64 0), (Value.string ⟨#[]⟩), (Value.string ⟨#[]⟩), (Value.int .i64 0), (Value.int .i64 0)])) w = .ok v53 w) ∧
  AsB v53 fun x54 =>
  Bif x54 (
  IxP x15p x15n 1 7 fun a55 =>
  ∃ (x56 : Int) (x57 : ByteArray) (x58 : ByteArray) (x59 : Int) (x60 : Int), Qt C35 (Value.agg #[(Value.int .i64 x56), (Value.string x57), (Value.string x58), (Value.int .i64 x59), (Value.int .i64 x60)]) (fun w61 K62 =>
  LdI .i64 (Addr.add (Addr.add a55 2) 0) w61 fun x63 =>
  LdS (Addr.add (Addr.add a55 2) 1) w61 fun x64 =>
  LdS (Addr.add (Addr.add a55 2) 2) w61 fun x65 =>
  LdI .i64 (Addr.add (Addr.add a55 2) 3) w61 fun x66 =>
  LdI .i64 (Addr.add (Addr.add a55 2) 4) w61 fun x67 =>
  K62 (Value.agg #[(Value.int .i64 x63), (Value.string x64), (Value.string x65), (Value.int .i64 x66), (Value.int .i64 x67)]) w61) ∧
  ∃ v68, (∀ w, Sem.run Try.prog (do eqGuard .eql 32 (.tmp 67) (.tmp 68) (Value.agg #[(Value.int .i64 x56), (Value.string x57), (Value.string x58), (Value.int .i64 x59), (Value.int .i64 x60)]) (Value.agg #[(Value.int .i64 1), (Value.string ⟨#[97, 110, 110]⟩), (Value.string ⟨#[107]⟩), (Value.int .i64 0), (Value.int .i64 0)]); binOp .eql 32 (Value.agg #[(Value.int .i64 x56), (Value.string x57), (Value.string x58), (Value.int .i64 x59), (Value.int .i64 x60)]) (Value.agg #[(Value.int .i64 1), (Value.string ⟨#[97, 110, 110]⟩), (Value.string ⟨#[107]⟩), (Value.int .i64 0), (Value.int .i64 0)])) w = .ok v68 w) ∧
  AsB v68 fun x69 =>
  Bif x69 (
  IxP x18p x18n 0 7 fun a70 =>
  ∃ (x71 : ByteArray), Qt C35 (Value.string x71) (fun w72 K73 =>
  LdS (Addr.add (Addr.add a70 2) 1) w72 fun x74 =>
  K73 (Value.string x74) w72) ∧
  ∀ b75 : Nat,
  ∃ (x76p : Option Addr) (x76n : Nat) (x76c : Nat), Qt (Cls.push C35 (b75, .cells #[(Value.int .u8 115)] 5)) (Value.slice x76p x76n x76c) (fun w77 K78 =>
  Run Try.prog (convert 40 40 (Value.slice (some ⟨b75, 0, none⟩) 1 1)) w77 fun v79 w80 =>
  AsL v79 fun x81p x81n x81c =>
  K78 (Value.slice x81p x81n x81c) w80) ∧
  ∀ b82 : Nat,
  Ef (Cls.push (Cls.push C35 (b75, .cells #[(Value.int .u8 115)] 5)) (b82, .cells #[(Value.string ⟨#[97, 110, 110]⟩), (Value.string ⟨#[107]⟩), (Value.string ⟨#[110]⟩)] 9)) (fun w86 K85 =>
  CallR Try.prog 11 #[(Value.slice x76p x76n x76c), (Value.slice (some ⟨b82, 0, none⟩) 3 3)] w86 fun v88 w89 =>
  AsS v88 fun x90 =>
  K85 (Value.string x90) w89) fun v87 D84 =>
  AsS v87 fun x91 =>
  (Qt D84 (Value.string x71) (fun w92 K93 =>
  LdS (Addr.add (Addr.add a70 2) 1) w92 fun x94 =>
  K93 (Value.string x94) w92)) ∧
  Bif (ByteArray.toList x71 == ByteArray.toList x91) (
  IxP x21p x21n 0 7 fun a95 =>
  ∃ (x96 : Int) (x97 : ByteArray) (x98 : ByteArray) (x99 : Int) (x100 : Int), Qt D84 (Value.agg #[(Value.int .i64 x96), (Value.string x97), (Value.string x98), (Value.int .i64 x99), (Value.int .i64 x100)]) (fun w101 K102 =>
  LdI .i64 (Addr.add (Addr.add a95 2) 0) w101 fun x103 =>
  LdS (Addr.add (Addr.add a95 2) 1) w101 fun x104 =>
  LdS (Addr.add (Addr.add a95 2) 2) w101 fun x105 =>
  LdI .i64 (Addr.add (Addr.add a95 2) 3) w101 fun x106 =>
  LdI .i64 (Addr.add (Addr.add a95 2) 4) w101 fun x107 =>
  K102 (Value.agg #[(Value.int .i64 x103), (Value.string x104), (Value.string x105), (Value.int .i64 x106), (Value.int .i64 x107)]) w101) ∧
  ∃ v108, (∀ w, Sem.run Try.prog (do eqGuard .eql 32 (.tmp 87) (.tmp 88) (Value.agg #[(Value.int .i64 x96), (Value.string x97), (Value.string x98), (Value.int .i64 x99), (Value.int .i64 x100)]) (Value.agg #[(Value.int .i64 6), (Value.string ⟨#[119, 101, 98]⟩), (Value.string ⟨#[]⟩), (Value.int .i64 50), (Value.int .i64 0)]); binOp .eql 32 (Value.agg #[(Value.int .i64 x96), (Value.string x97), (Value.string x98), (Value.int .i64 x99), (Value.int .i64 x100)]) (Value.agg #[(Value.int .i64 6), (Value.string ⟨#[119, 101, 98]⟩), (Value.string ⟨#[]⟩), (Value.int .i64 50), (Value.int .i64 0)])) w = .ok v108 w) ∧
  AsB v108 fun x109 =>
  Bif x109 (
  Bif ((x24n : Int) == 0) (
  IxP x27p x27n 0 7 fun a110 =>
  ∃ (x111 : Int) (x112 : Int) (x113 : Int) (x114 : ByteArray) (x115 : ByteArray) (x116 : Int) (x117 : Int), Qt D84 (Value.agg #[(Value.int .i64 x111), (Value.int .i64 x112), (Value.int .i64 x113), (Value.string x114), (Value.string x115), (Value.int .i64 x116), (Value.int .i64 x117)]) (fun w118 K119 =>
  LdI .i64 (Addr.add a110 0) w118 fun x120 =>
  LdI .i64 (Addr.add a110 1) w118 fun x121 =>
  LdI .i64 (Addr.add a110 2) w118 fun x122 =>
  LdS (Addr.add a110 3) w118 fun x123 =>
  LdS (Addr.add a110 4) w118 fun x124 =>
  LdI .i64 (Addr.add a110 5) w118 fun x125 =>
  LdI .i64 (Addr.add a110 6) w118 fun x126 =>
  K119 (Value.agg #[(Value.int .i64 x120), (Value.int .i64 x121), (Value.int .i64 x122), (Value.string x123), (Value.string x124), (Value.int .i64 x125), (Value.int .i64 x126)]) w118) ∧
  ∃ v127, (∀ w, Sem.run Try.prog (do eqGuard .eql 38 (.tmp 99) (.tmp 100) (Value.agg #[(Value.int .i64 x111), (Value.int .i64 x112), (Value.int .i64 x113), (Value.string x114), (Value.string x115), (Value.int .i64 x116), (Value.int .i64 x117)]) (Value.agg #[(Value.int .i64 1), (Value.int .i64 1), (Value.int .i64 0), (Value.string ⟨#[]⟩), (Value.string ⟨#[]⟩), (Value.int .i64 0), (Value.int .i64 0)]); binOp .eql 38 (Value.agg #[(Value.int .i64 x111), (Value.int .i64 x112), (Value.int .i64 x113), (Value.string x114), (Value.string x115), (Value.int .i64 x116), (Value.int .i64 x117)]) (Value.agg #[(Value.int .i64 1), (Value.int .i64 1), (Value.int .i64 0), (Value.string ⟨#[]⟩), (Value.string ⟨#[]⟩), (Value.int .i64 0), (Value.int .i64 0)])) w = .ok v127 w) ∧
  AsB v127 fun x128 =>
  Bif x128 (
  IxP x30p x30n 0 7 fun a129 =>
  ∃ (x130 : Int) (x131 : ByteArray) (x132 : ByteArray) (x133 : Int) (x134 : Int), Qt D84 (Value.agg #[(Value.int .i64 x130), (Value.string x131), (Value.string x132), (Value.int .i64 x133), (Value.int .i64 x134)]) (fun w135 K136 =>
  LdI .i64 (Addr.add (Addr.add a129 2) 0) w135 fun x137 =>
  LdS (Addr.add (Addr.add a129 2) 1) w135 fun x138 =>
  LdS (Addr.add (Addr.add a129 2) 2) w135 fun x139 =>
  LdI .i64 (Addr.add (Addr.add a129 2) 3) w135 fun x140 =>
  LdI .i64 (Addr.add (Addr.add a129 2) 4) w135 fun x141 =>
  K136 (Value.agg #[(Value.int .i64 x137), (Value.string x138), (Value.string x139), (Value.int .i64 x140), (Value.int .i64 x141)]) w135) ∧
  ∃ v142, (∀ w, Sem.run Try.prog (do eqGuard .eql 32 (.tmp 107) (.tmp 108) (Value.agg #[(Value.int .i64 x130), (Value.string x131), (Value.string x132), (Value.int .i64 x133), (Value.int .i64 x134)]) (Value.agg #[(Value.int .i64 8), (Value.string ⟨#[119, 101, 98]⟩), (Value.string ⟨#[]⟩), (Value.int .i64 3), (Value.int .i64 50)]); binOp .eql 32 (Value.agg #[(Value.int .i64 x130), (Value.string x131), (Value.string x132), (Value.int .i64 x133), (Value.int .i64 x134)]) (Value.agg #[(Value.int .i64 8), (Value.string ⟨#[119, 101, 98]⟩), (Value.string ⟨#[]⟩), (Value.int .i64 3), (Value.int .i64 50)])) w = .ok v142 w) ∧
  AsB v142 fun x143 =>
  Bif x143 (
  Bif (x33 == 3) (
  Bif x34 (
  Ef D84 (fun w147 K146 =>
  CallR Try.prog 16 #[(Value.pointer x12), (Value.int .i64 0)] w147 fun v149 w150 =>
  AsB v149 fun x151 =>
  K146 (Value.bool x151) w150) fun v148 D145 =>
  AsB v148 fun x152 =>
  (True) ∧
  Bif x152 (
  Ef D145 (fun w156 K155 =>
  CallR Try.prog 16 #[(Value.pointer x12), (Value.int .i64 1)] w156 fun v158 w159 =>
  AsB v158 fun x160 =>
  K155 (Value.bool x160) w159) fun v157 D154 =>
  AsB v157 fun x161 =>
  (True) ∧
  Bif (!x161) (
  Ef D154 (fun w165 K164 =>
  CallR Try.prog 12 #[(Value.pointer x12)] w165 fun v167 w168 =>
  AsL v167 fun x169p x169n x169c =>
  K164 (Value.slice x169p x169n x169c) w168) fun v166 D163 =>
  AsL v166 fun x170p x170n x170c =>
  (True) ∧
  ∀ G171 w172, Cls.p D163 G171 w172 →
  R (Value.bool ((x170n : Int) == 0)) w172) (
  ∀ G173 w174, Cls.p D154 G173 w174 →
  R (Value.bool false) w174)) (
  ∀ G175 w176, Cls.p D145 G175 w176 →
  R (Value.bool false) w176)) (
  ∀ G177 w178, Cls.p D84 G177 w178 →
  R (Value.bool false) w178)) (
  ∀ G179 w180, Cls.p D84 G179 w180 →
  R (Value.bool false) w180)) (
  ∀ G181 w182, Cls.p D84 G181 w182 →
  R (Value.bool false) w182)) (
  ∀ G183 w184, Cls.p D84 G183 w184 →
  R (Value.bool false) w184)) (
  ∀ G185 w186, Cls.p D84 G185 w186 →
  R (Value.bool false) w186)) (
  ∀ G187 w188, Cls.p D84 G187 w188 →
  R (Value.bool false) w188)) (
  ∀ G189 w190, Cls.p D84 G189 w190 →
  R (Value.bool false) w190)) (
  ∀ G191 w192, Cls.p C35 G191 w192 →
  R (Value.bool false) w192)) (
  ∀ G193 w194, Cls.p C35 G193 w194 →
  R (Value.bool false) w194)))))))
theorem F6_eq  (w1 : World) (R : Value → World → Prop) : liftF Try.prog 6 (.step .nil .nil (.step .nil .nil (.step .nil .nil (.step .nil .nil (.step .nil .nil (.step .nil .nil (.step .nil .nil (.step .nil .nil (.step .nil .nil (.step .nil .nil (.step .nil .nil (.step .nil .nil (.step .nil .nil (.draw [(0, false), (1, false), (3, false), (2, false), (4, false), (5, false), (6, false), (7, false), (8, false), (10, false), (9, false), (11, false), (12, false), (13, false), (14, false), (15, false), (16, false), (17, false), (18, false), (19, false), (20, false), (21, false), (22, true), (23, false), (24, false), (25, false), (26, false), (27, false), (28, false), (30, false), (29, false), (31, false), (32, false), (33, false), (34, false), (35, false), (36, false), (37, false), (38, false), (39, false), (40, false), (42, false), (41, false), (43, false), (44, false), (45, false), (46, false), (47, false), (48, false), (50, false), (49, false), (51, false), (52, false), (53, false), (54, false), (55, false), (56, false), (57, false), (58, false), (59, false), (60, false), (61, false), (62, true), (63, false), (64, false), (65, false), (66, true), (67, false), (68, false), (69, false), (70, false), (71, true), (72, false), (73, false), (74, false), (75, false)] .nil)))))))))))))) [] w1 R = F6  w1 R := by kernel_rfl
theorem F6_of  {w1 : World} {R : Value → World → Prop} (h : F6  w1 R) : CallR Try.prog 6 #[] w1 R := callR_of_lift _ ((F6_eq  w1 R).mpr h)

-- F7 subway/agent.New
def F7 (p1 : ByteArray) (p2 : ByteArray) (p3 : ByteArray) (p4 : ByteArray) (p5 : Int) (p6 : Int) (w7 : World) (R : Value → World → Prop) : Prop :=
  NewC #[(Value.string p1), (Value.string p2), (Value.string p3), (Value.string p4), (Value.int .i64 p5), (Value.int .i64 p6)] 23 w7 fun b8 w9 =>
  LdS (Addr.add ⟨b8, 0, none⟩ 0) w9 fun x10 =>
  LdS (Addr.add ⟨b8, 0, none⟩ 1) w9 fun x11 =>
  LdS (Addr.add ⟨b8, 0, none⟩ 2) w9 fun x12 =>
  LdS (Addr.add ⟨b8, 0, none⟩ 3) w9 fun x13 =>
  LdI .i64 (Addr.add ⟨b8, 0, none⟩ 4) w9 fun x14 =>
  LdI .i64 (Addr.add ⟨b8, 0, none⟩ 5) w9 fun x15 =>
  NewM w9 fun m16 w17 =>
  NewC #[(Value.string x10), (Value.string x11), (Value.string x12), (Value.string x13), (Value.int .i64 x14), (Value.int .i64 x15), (Value.map (some m16)), (Value.bool false), (Value.int .i64 0), (Value.int .i64 0), (Value.int .i64 1)] 55 w17 fun b18 w19 =>
  R (Value.pointer (some ⟨b18, 0, none⟩)) w19
theorem F7_eq (p1 : ByteArray) (p2 : ByteArray) (p3 : ByteArray) (p4 : ByteArray) (p5 : Int) (p6 : Int) (w7 : World) (R : Value → World → Prop) : liftF Try.prog 7 .nil [(Value.agg #[(Value.string p1), (Value.string p2), (Value.string p3), (Value.string p4), (Value.int .i64 p5), (Value.int .i64 p6)])] w7 R = F7 p1 p2 p3 p4 p5 p6 w7 R := by kernel_rfl
theorem F7_of {p1 : ByteArray} {p2 : ByteArray} {p3 : ByteArray} {p4 : ByteArray} {p5 : Int} {p6 : Int} {w7 : World} {R : Value → World → Prop} (h : F7 p1 p2 p3 p4 p5 p6 w7 R) : CallR Try.prog 7 #[(Value.agg #[(Value.string p1), (Value.string p2), (Value.string p3), (Value.string p4), (Value.int .i64 p5), (Value.int .i64 p6)])] w7 R := callR_of_lift _ ((F7_eq p1 p2 p3 p4 p5 p6 w7 R).mpr h)

-- F8 subway/subwaylaw20.great
def F8 (l1p : Option Addr) (l1n : Nat) (l1c : Nat) (w2 : World) (R : Value → World → Prop) : Prop :=
  Lp fun I3 mu4 =>
  I3 [(Value.int .i64 0)] w2 ∧
  ∀ (i5 : Int), ∀ w6, I3 [(Value.int .i64 i5)] w6 →
  Bif (decide (i5 < (l1n : Int))) (
  Bif (decide (i5 < 300)) (
  IxP l1p l1n i5 8 fun a7 =>
  LdI .i64 (Addr.add (Addr.add a7 2) 0) w6 fun x8 =>
  LdS (Addr.add (Addr.add a7 2) 1) w6 fun x9 =>
  LdS (Addr.add (Addr.add a7 2) 2) w6 fun x10 =>
  LdI .i64 (Addr.add (Addr.add a7 2) 3) w6 fun x11 =>
  LdI .i64 (Addr.add (Addr.add a7 2) 4) w6 fun x12 =>
  CallR Try.prog 18 #[(Value.agg #[(Value.int .i64 x8), (Value.string x9), (Value.string x10), (Value.int .i64 x11), (Value.int .i64 x12)])] w6 fun v13 w14 =>
  AsB v13 fun x15 =>
  Bif x15 (
  R (Value.bool true) w14) (
  I3 [(Value.int .i64 (IntKind.wrap .i64 (i5 + 1)))] w14 ∧ mu4 [(Value.int .i64 (IntKind.wrap .i64 (i5 + 1)))] w14 < mu4 [(Value.int .i64 i5)] w6)) (
  R (Value.bool (decide ((l1n : Int) > 200))) w6)) (
  R (Value.bool (decide ((l1n : Int) > 200))) w6)
theorem F8_eq (l1p : Option Addr) (l1n : Nat) (l1c : Nat) (w2 : World) (R : Value → World → Prop) : liftF Try.prog 8 (.step .nil .nil (.step .nil .nil (.step (.loop [(3, .b (.int .i64))] .nil) .nil .nil))) [(Value.slice l1p l1n l1c)] w2 R = F8 l1p l1n l1c w2 R := by kernel_rfl
theorem F8_of {l1p : Option Addr} {l1n : Nat} {l1c : Nat} {w2 : World} {R : Value → World → Prop} (h : F8 l1p l1n l1c w2 R) : CallR Try.prog 8 #[(Value.slice l1p l1n l1c)] w2 R := callR_of_lift _ ((F8_eq l1p l1n l1c w2 R).mpr h)

-- F9 subway/subwaylaw20.greatPlan
def F9 (p1 : ByteArray) (p2 : ByteArray) (p3 : ByteArray) (p4 : ByteArray) (p5 : Int) (p6 : Int) (w7 : World) (R : Value → World → Prop) : Prop :=
  NewC #[(Value.string p1), (Value.string p2), (Value.string p3), (Value.string p4), (Value.int .i64 p5), (Value.int .i64 p6)] 23 w7 fun b8 w9 =>
  LdS (Addr.add ⟨b8, 0, none⟩ 0) w9 fun x10 =>
  LdS (Addr.add ⟨b8, 0, none⟩ 1) w9 fun x11 =>
  LdS (Addr.add ⟨b8, 0, none⟩ 2) w9 fun x12 =>
  LdS (Addr.add ⟨b8, 0, none⟩ 3) w9 fun x13 =>
  R (Value.bool (decide ((IntKind.wrap .i64 ((IntKind.wrap .i64 ((IntKind.wrap .i64 ((x10.size : Int) + (x11.size : Int))) + (x12.size : Int))) + (x13.size : Int))) > 3000))) w9
theorem F9_eq (p1 : ByteArray) (p2 : ByteArray) (p3 : ByteArray) (p4 : ByteArray) (p5 : Int) (p6 : Int) (w7 : World) (R : Value → World → Prop) : liftF Try.prog 9 .nil [(Value.agg #[(Value.string p1), (Value.string p2), (Value.string p3), (Value.string p4), (Value.int .i64 p5), (Value.int .i64 p6)])] w7 R = F9 p1 p2 p3 p4 p5 p6 w7 R := by kernel_rfl
theorem F9_of {p1 : ByteArray} {p2 : ByteArray} {p3 : ByteArray} {p4 : ByteArray} {p5 : Int} {p6 : Int} {w7 : World} {R : Value → World → Prop} (h : F9 p1 p2 p3 p4 p5 p6 w7 R) : CallR Try.prog 9 #[(Value.agg #[(Value.string p1), (Value.string p2), (Value.string p3), (Value.string p4), (Value.int .i64 p5), (Value.int .i64 p6)])] w7 R := callR_of_lift _ ((F9_eq p1 p2 p3 p4 p5 p6 w7 R).mpr h)

-- F10 subway/subwaylaw20.does
def F10 (a1 : Option Addr) (o2 : Int) (o3 : Int) (o4 : Int) (o5 : ByteArray) (o6 : ByteArray) (o7 : Int) (o8 : Int) (o9 : Int) (w10 : World) (R : Value → World → Prop) : Prop :=
  NewC #[(Value.int .i64 o2), (Value.int .i64 o3), (Value.int .i64 o4), (Value.string o5), (Value.string o6), (Value.int .i64 o7), (Value.int .i64 o8), (Value.int .i64 o9)] 34 w10 fun b11 w12 =>
  LdI .i64 (Addr.add ⟨b11, 0, none⟩ 0) w12 fun x13 =>
  Bif (x13 == 4) (
  LdI .i64 (Addr.add ⟨b11, 0, none⟩ 7) w12 fun x14 =>
  CallR Try.prog 17 #[(Value.pointer a1), (Value.int .i64 x14)] w12 fun v15 w16 =>
  AsL v15 fun x17p x17n x17c =>
  R (Value.slice x17p x17n x17c) w16) (
  Bif (x13 == 5) (
  LdI .i64 (Addr.add ⟨b11, 0, none⟩ 1) w12 fun x18 =>
  CallR Try.prog 13 #[(Value.pointer a1), (Value.int .i64 x18)] w12 fun v19 w20 =>
  AsB v19 fun x21 =>
  R (Value.slice none 0 0) w20) (
  Bif (x13 == 6) (
  CallR Try.prog 12 #[(Value.pointer a1)] w12 fun v22 w23 =>
  AsL v22 fun x24p x24n x24c =>
  R (Value.slice x24p x24n x24c) w23) (
  LdI .i64 (Addr.add ⟨b11, 0, none⟩ 0) w12 fun x25 =>
  Bif (decide (x25 < 4)) (
  LdI .i64 (Addr.add ⟨b11, 0, none⟩ 1) w12 fun x26 =>
  LdI .i64 (Addr.add (Addr.add ⟨b11, 0, none⟩ 2) 0) w12 fun x27 =>
  LdS (Addr.add (Addr.add ⟨b11, 0, none⟩ 2) 1) w12 fun x28 =>
  LdS (Addr.add (Addr.add ⟨b11, 0, none⟩ 2) 2) w12 fun x29 =>
  LdI .i64 (Addr.add (Addr.add ⟨b11, 0, none⟩ 2) 3) w12 fun x30 =>
  LdI .i64 (Addr.add (Addr.add ⟨b11, 0, none⟩ 2) 4) w12 fun x31 =>
  LdI .i64 (Addr.add ⟨b11, 0, none⟩ 7) w12 fun x32 =>
  CallR Try.prog 15 #[(Value.pointer a1), (Value.int .i64 x26), (Value.agg #[(Value.int .i64 x27), (Value.string x28), (Value.string x29), (Value.int .i64 x30), (Value.int .i64 x31)]), (Value.int .i64 x32)] w12 fun v33 w34 =>
  AsL v33 fun x35p x35n x35c =>
  R (Value.slice x35p x35n x35c) w34) (
  R (Value.slice none 0 0) w12))))
theorem F10_eq (a1 : Option Addr) (o2 : Int) (o3 : Int) (o4 : Int) (o5 : ByteArray) (o6 : ByteArray) (o7 : Int) (o8 : Int) (o9 : Int) (w10 : World) (R : Value → World → Prop) : liftF Try.prog 10 .nil [(Value.pointer a1), (Value.agg #[(Value.int .i64 o2), (Value.int .i64 o3), (Value.int .i64 o4), (Value.string o5), (Value.string o6), (Value.int .i64 o7), (Value.int .i64 o8), (Value.int .i64 o9)])] w10 R = F10 a1 o2 o3 o4 o5 o6 o7 o8 o9 w10 R := by kernel_rfl
theorem F10_of {a1 : Option Addr} {o2 : Int} {o3 : Int} {o4 : Int} {o5 : ByteArray} {o6 : ByteArray} {o7 : Int} {o8 : Int} {o9 : Int} {w10 : World} {R : Value → World → Prop} (h : F10 a1 o2 o3 o4 o5 o6 o7 o8 o9 w10 R) : CallR Try.prog 10 #[(Value.pointer a1), (Value.agg #[(Value.int .i64 o2), (Value.int .i64 o3), (Value.int .i64 o4), (Value.string o5), (Value.string o6), (Value.int .i64 o7), (Value.int .i64 o8), (Value.int .i64 o9)])] w10 R := callR_of_lift _ ((F10_eq a1 o2 o3 o4 o5 o6 o7 o8 o9 w10 R).mpr h)

-- F11 subway/subwayref03.Proof
def F11 (key1p : Option Addr) (key1n : Nat) (key1c : Nat) (words2p : Option Addr) (words2n : Nat) (words2c : Nat) (w3 : World) (R : Value → World → Prop) : Prop :=
  Lp fun I4 mu5 =>
  I4 [(Value.slice none 0 0), (Value.int .i64 0)] w3 ∧
  ∀ (b6p : Option Addr) (b6n : Nat) (b6c : Nat), ∀ (i7 : Int), ∀ w8, I4 [(Value.slice b6p b6n b6c), (Value.int .i64 i7)] w8 →
  Bif (decide (i7 < (words2n : Int))) (
  IxP words2p words2n i7 1 fun a9 =>
  LdS a9 w8 fun x10 =>
  Bif (decide ((x10.size : Int) > 255)) (
  R (Value.string ⟨#[]⟩) w8) (
  IxP words2p words2n i7 1 fun a11 =>
  LdS a11 w8 fun x12 =>
  CallR Try.prog 20 #[(Value.string x12)] w8 fun v13 w14 =>
  AsL v13 fun x15p x15n x15c =>
  Run Try.prog (Builtin.append_ #[40, 40] 40 #[(Value.slice b6p b6n b6c), (Value.slice x15p x15n x15c)]) w14 fun v16 w17 =>
  AsL v16 fun x18p x18n x18c =>
  I4 [(Value.slice x18p x18n x18c), (Value.int .i64 (IntKind.wrap .i64 (i7 + 1)))] w17 ∧ mu5 [(Value.slice x18p x18n x18c), (Value.int .i64 (IntKind.wrap .i64 (i7 + 1)))] w17 < mu5 [(Value.slice b6p b6n b6c), (Value.int .i64 i7)] w8)) (
  CallR Try.prog 21 #[(Value.slice key1p key1n key1c), (Value.slice b6p b6n b6c)] w8 fun v19 w20 =>
  ∃ (x21 : Array Value), x21.size = 32 ∧ v19 = (Value.agg x21) ∧
  NewC #[(Value.int .u8 0), (Value.int .u8 0), (Value.int .u8 0), (Value.int .u8 0), (Value.int .u8 0), (Value.int .u8 0), (Value.int .u8 0), (Value.int .u8 0), (Value.int .u8 0), (Value.int .u8 0), (Value.int .u8 0), (Value.int .u8 0), (Value.int .u8 0), (Value.int .u8 0), (Value.int .u8 0), (Value.int .u8 0), (Value.int .u8 0), (Value.int .u8 0), (Value.int .u8 0), (Value.int .u8 0), (Value.int .u8 0), (Value.int .u8 0), (Value.int .u8 0), (Value.int .u8 0), (Value.int .u8 0), (Value.int .u8 0), (Value.int .u8 0), (Value.int .u8 0), (Value.int .u8 0), (Value.int .u8 0), (Value.int .u8 0), (Value.int .u8 0)] 57 w20 fun b22 w23 =>
  Array.size x21 = 32 ∧
  StA Try.prog ⟨b22, 0, none⟩ x21 w23 fun w24 =>
  SlP (some ⟨b22, 0, none⟩) 32 32 1 0 (32 : Int) fun x25p x25n x25c =>
  CallR Try.prog 22 #[(Value.slice x25p x25n x25c)] w24 fun v26 w27 =>
  AsS v26 fun x28 =>
  R (Value.string x28) w27)
theorem F11_eq (key1p : Option Addr) (key1n : Nat) (key1c : Nat) (words2p : Option Addr) (words2n : Nat) (words2c : Nat) (w3 : World) (R : Value → World → Prop) : liftF Try.prog 11 (.step .nil .nil (.step .nil .nil (.step .nil .nil (.step (.loop [(5, .b .slice), (6, .b (.int .i64))] .nil) .nil .nil)))) [(Value.slice key1p key1n key1c), (Value.slice words2p words2n words2c)] w3 R = F11 key1p key1n key1c words2p words2n words2c w3 R := by kernel_rfl
theorem F11_of {key1p : Option Addr} {key1n : Nat} {key1c : Nat} {words2p : Option Addr} {words2n : Nat} {words2c : Nat} {w3 : World} {R : Value → World → Prop} (h : F11 key1p key1n key1c words2p words2n words2c w3 R) : CallR Try.prog 11 #[(Value.slice key1p key1n key1c), (Value.slice words2p words2n words2c)] w3 R := callR_of_lift _ ((F11_eq key1p key1n key1c words2p words2n words2c w3 R).mpr h)

-- F12 (*subway/agent.Agent).Start
def F12 (a1 : Option Addr) (w2 : World) (R : Value → World → Prop) : Prop :=
  NilP a1 fun a3 =>
  LdM (Addr.add a3 6) w2 fun x4 =>
  Run Try.prog (Instr.lookup 53 (Value.map x4) (Value.int .i64 0) true) w2 fun v5 w6 =>
  ∃ (x7 : Option Addr), ∃ (x8 : Bool), v5 = (Value.tuple #[(Value.pointer x7), (Value.bool x8)]) ∧
  Bif x8 (
  R (Value.slice none 0 0) w6) (
  CallR Try.prog 23 #[(Value.pointer a1), (Value.int .i64 0), (Value.string ⟨#[]⟩)] w6 fun v9 w10 =>
  AsL v9 fun x11p x11n x11c =>
  R (Value.slice x11p x11n x11c) w10)
theorem F12_eq (a1 : Option Addr) (w2 : World) (R : Value → World → Prop) : liftF Try.prog 12 .nil [(Value.pointer a1)] w2 R = F12 a1 w2 R := by kernel_rfl
theorem F12_of {a1 : Option Addr} {w2 : World} {R : Value → World → Prop} (h : F12 a1 w2 R) : CallR Try.prog 12 #[(Value.pointer a1)] w2 R := callR_of_lift _ ((F12_eq a1 w2 R).mpr h)

-- F13 (*subway/agent.Agent).Lost
def F13 (a1 : Option Addr) (no2 : Int) (w3 : World) (R : Value → World → Prop) : Prop :=
  NilP a1 fun a4 =>
  LdM (Addr.add a4 6) w3 fun x5 =>
  Run Try.prog (Instr.lookup 53 (Value.map x5) (Value.int .i64 no2) true) w3 fun v6 w7 =>
  ∃ (x8 : Option Addr), ∃ (x9 : Bool), v6 = (Value.tuple #[(Value.pointer x8), (Value.bool x9)]) ∧
  NilP a1 fun a10 =>
  LdM (Addr.add a10 6) w7 fun x11 =>
  Run Try.prog (Builtin.delete_ #[53, 3] 0 #[(Value.map x11), (Value.int .i64 no2)]) w7 fun v12 w13 =>
  Bif x9 (
  Bif (no2 == 0) (
  NilP a1 fun a14 =>
  LdM (Addr.add a14 6) w13 fun x15 =>
  Run Try.prog (Builtin.clear_ #[53] 0 #[(Value.map x15)]) w13 fun v16 w17 =>
  NilP a1 fun a18 =>
  St1 (Addr.add a18 7) (Value.bool false) w17 fun w19 =>
  NilP a1 fun a20 =>
  St1 (Addr.add a20 8) (Value.int .i64 0) w19 fun w21 =>
  R (Value.bool x9) w21) (
  R (Value.bool x9) w13)) (
  R (Value.bool x9) w13)
theorem F13_eq (a1 : Option Addr) (no2 : Int) (w3 : World) (R : Value → World → Prop) : liftF Try.prog 13 .nil [(Value.pointer a1), (Value.int .i64 no2)] w3 R = F13 a1 no2 w3 R := by kernel_rfl
theorem F13_of {a1 : Option Addr} {no2 : Int} {w3 : World} {R : Value → World → Prop} (h : F13 a1 no2 w3 R) : CallR Try.prog 13 #[(Value.pointer a1), (Value.int .i64 no2)] w3 R := callR_of_lift _ ((F13_eq a1 no2 w3 R).mpr h)

-- F14 (*subway/agent.Agent).Holds
def F14 (a1 : Option Addr) (w2 : World) (R : Value → World → Prop) : Prop :=
  ∃ (C3 : Cls), Cls.p C3 [] w2 ∧
  NilP a1 fun a4 =>
  NilP a1 fun a5 =>
  ∃ (x6 : Int), Qt C3 (Value.int .i64 x6) (fun w7 K8 =>
  LdI .i64 (Addr.add a4 8) w7 fun x9 =>
  K8 (Value.int .i64 x9) w7) ∧
  ∃ (x10 : Bool), Qt C3 (Value.bool x10) (fun w11 K12 =>
  LdB (Addr.add a5 7) w11 fun x13 =>
  K12 (Value.bool x13) w11) ∧
  ∀ G14 w15, Cls.p C3 G14 w15 →
  R (Value.tuple #[(Value.int .i64 x6), (Value.bool x10)]) w15
theorem F14_eq (a1 : Option Addr) (w2 : World) (R : Value → World → Prop) : liftF Try.prog 14 (.step .nil .nil (.draw [(0, false), (1, false), (2, false), (4, false), (5, false), (6, false), (3, false), (8, false), (7, false), (9, false)] .nil)) [(Value.pointer a1)] w2 R = F14 a1 w2 R := by kernel_rfl
theorem F14_of {a1 : Option Addr} {w2 : World} {R : Value → World → Prop} (h : F14 a1 w2 R) : CallR Try.prog 14 #[(Value.pointer a1)] w2 R := callR_of_lift _ ((F14_eq a1 w2 R).mpr h)

-- F15 (*subway/agent.Agent).Hear
def F15 (a1 : Option Addr) (no2 : Int) (m3 : Int) (m4 : ByteArray) (m5 : ByteArray) (m6 : Int) (m7 : Int) (now8 : Int) (w9 : World) (R : Value → World → Prop) : Prop :=
  NewC #[(Value.int .i64 m3), (Value.string m4), (Value.string m5), (Value.int .i64 m6), (Value.int .i64 m7)] 32 w9 fun b10 w11 =>
  NilP a1 fun a12 =>
  LdM (Addr.add a12 6) w11 fun x13 =>
  Run Try.prog (Instr.lookup 53 (Value.map x13) (Value.int .i64 no2) true) w11 fun v14 w15 =>
  ∃ (x16 : Option Addr), ∃ (x17 : Bool), v14 = (Value.tuple #[(Value.pointer x16), (Value.bool x17)]) ∧
  Bif (!x17) (
  R (Value.slice none 0 0) w15) (
  NilP x16 fun a18 =>
  LdV (Addr.add a18 2) w15 fun x19 =>
  ∃ v20, (∀ w, Sem.run Try.prog (do eqGuard .eql 63 (.tmp 26) (.const Value.nilFunc) x19 Value.nilFunc; binOp .eql 63 x19 Value.nilFunc) w = .ok v20 w) ∧
  AsB v20 fun x21 =>
  Bif x21 (
  R (Value.slice none 0 0) w15) (
  CallR Try.prog 24 #[(Value.int .i64 now8)] w15 fun v22 w23 =>
  AsB v22 fun x24 =>
  Bif (!x24) (
  R (Value.slice none 0 0) w23) (
  ∃ (C25 : Cls), Cls.p C25 [] w23 ∧
  NilP x16 fun a26 =>
  ∃ (x27 : Value), Qt C25 x27 (fun w28 K29 =>
  LdV (Addr.add a26 2) w28 fun x30 =>
  K29 x30 w28) ∧
  ∃ (x31 : Int) (x32 : ByteArray) (x33 : ByteArray) (x34 : Int) (x35 : Int), Qt C25 (Value.agg #[(Value.int .i64 x31), (Value.string x32), (Value.string x33), (Value.int .i64 x34), (Value.int .i64 x35)]) (fun w36 K37 =>
  LdI .i64 (Addr.add ⟨b10, 0, none⟩ 0) w36 fun x38 =>
  LdS (Addr.add ⟨b10, 0, none⟩ 1) w36 fun x39 =>
  LdS (Addr.add ⟨b10, 0, none⟩ 2) w36 fun x40 =>
  LdI .i64 (Addr.add ⟨b10, 0, none⟩ 3) w36 fun x41 =>
  LdI .i64 (Addr.add ⟨b10, 0, none⟩ 4) w36 fun x42 =>
  K37 (Value.agg #[(Value.int .i64 x38), (Value.string x39), (Value.string x40), (Value.int .i64 x41), (Value.int .i64 x42)]) w36) ∧
  Ef C25 (fun w46 K45 =>
  CallF Try.prog 35 x27 [(Value.pointer x16), (Value.agg #[(Value.int .i64 x31), (Value.string x32), (Value.string x33), (Value.int .i64 x34), (Value.int .i64 x35)]), (Value.int .i64 now8)] w46 fun v48 w49 =>
  AsL v48 fun x50p x50n x50c =>
  K45 (Value.slice x50p x50n x50c) w49) fun v47 D44 =>
  AsL v47 fun x51p x51n x51c =>
  (True) ∧
  ∀ G52 w53, Cls.p D44 G52 w53 →
  R (Value.slice x51p x51n x51c) w53)))
theorem F15_eq (a1 : Option Addr) (no2 : Int) (m3 : Int) (m4 : ByteArray) (m5 : ByteArray) (m6 : Int) (m7 : Int) (now8 : Int) (w9 : World) (R : Value → World → Prop) : liftF Try.prog 15 (.step .nil .nil (.step .nil .nil (.step .nil .nil (.step .nil .nil (.draw [(0, false), (1, false), (2, false), (4, false), (6, false), (3, false), (5, false), (7, true), (8, false)] .nil))))) [(Value.pointer a1), (Value.int .i64 no2), (Value.agg #[(Value.int .i64 m3), (Value.string m4), (Value.string m5), (Value.int .i64 m6), (Value.int .i64 m7)]), (Value.int .i64 now8)] w9 R = F15 a1 no2 m3 m4 m5 m6 m7 now8 w9 R := by kernel_rfl
theorem F15_of {a1 : Option Addr} {no2 : Int} {m3 : Int} {m4 : ByteArray} {m5 : ByteArray} {m6 : Int} {m7 : Int} {now8 : Int} {w9 : World} {R : Value → World → Prop} (h : F15 a1 no2 m3 m4 m5 m6 m7 now8 w9 R) : CallR Try.prog 15 #[(Value.pointer a1), (Value.int .i64 no2), (Value.agg #[(Value.int .i64 m3), (Value.string m4), (Value.string m5), (Value.int .i64 m6), (Value.int .i64 m7)]), (Value.int .i64 now8)] w9 R := callR_of_lift _ ((F15_eq a1 no2 m3 m4 m5 m6 m7 now8 w9 R).mpr h)

-- F16 (*subway/agent.Agent).Through
def F16 (a1 : Option Addr) (no2 : Int) (w3 : World) (R : Value → World → Prop) : Prop :=
  NilP a1 fun a4 =>
  LdM (Addr.add a4 6) w3 fun x5 =>
  Run Try.prog (Instr.lookup 53 (Value.map x5) (Value.int .i64 no2) true) w3 fun v6 w7 =>
  ∃ (x8 : Option Addr), ∃ (x9 : Bool), v6 = (Value.tuple #[(Value.pointer x8), (Value.bool x9)]) ∧
  Bif x9 (
  NilP x8 fun a10 =>
  LdB (Addr.add a10 3) w7 fun x11 =>
  R (Value.bool x11) w7) (
  R (Value.bool false) w7)
theorem F16_eq (a1 : Option Addr) (no2 : Int) (w3 : World) (R : Value → World → Prop) : liftF Try.prog 16 .nil [(Value.pointer a1), (Value.int .i64 no2)] w3 R = F16 a1 no2 w3 R := by kernel_rfl
theorem F16_of {a1 : Option Addr} {no2 : Int} {w3 : World} {R : Value → World → Prop} (h : F16 a1 no2 w3 R) : CallR Try.prog 16 #[(Value.pointer a1), (Value.int .i64 no2)] w3 R := callR_of_lift _ ((F16_eq a1 no2 w3 R).mpr h)

-- F17 (*subway/agent.Agent).Tick
def F17 (a1 : Option Addr) (now2 : Int) (w3 : World) (R : Value → World → Prop) : Prop :=
  NilP a1 fun a4 =>
  LdM (Addr.add a4 6) w3 fun x5 =>
  Run Try.prog (Instr.lookup 53 (Value.map x5) (Value.int .i64 0) true) w3 fun v6 w7 =>
  ∃ (x8 : Option Addr), ∃ (x9 : Bool), v6 = (Value.tuple #[(Value.pointer x8), (Value.bool x9)]) ∧
  Bif (!x9) (
  CallR Try.prog 12 #[(Value.pointer a1)] w7 fun v10 w11 =>
  AsL v10 fun x12p x12n x12c =>
  R (Value.slice x12p x12n x12c) w11) (
  ∃ (C13 : Cls), Cls.p C13 [] w7 ∧
  Ef C13 (fun w17 K16 =>
  CallR Try.prog 16 #[(Value.pointer a1), (Value.int .i64 0)] w17 fun v19 w20 =>
  AsB v19 fun x21 =>
  K16 (Value.bool x21) w20) fun v18 D15 =>
  AsB v18 fun x22 =>
  (True) ∧
  Bif (!x22) (
  ∀ G23 w24, Cls.p D15 G23 w24 →
  R (Value.slice none 0 0) w24) (
  NilP a1 fun a25 =>
  ∃ (x26 : Bool), Qt D15 (Value.bool x26) (fun w27 K28 =>
  LdB (Addr.add a25 7) w27 fun x29 =>
  K28 (Value.bool x29) w27) ∧
  Bif (!x26) (
  ∀ G30 w31, Cls.p D15 G30 w31 →
  R (Value.slice none 0 0) w31) (
  Ef D15 (fun w35 K34 =>
  CallR Try.prog 24 #[(Value.int .i64 now2)] w35 fun v37 w38 =>
  AsB v37 fun x39 =>
  K34 (Value.bool x39) w38) fun v36 D33 =>
  AsB v36 fun x40 =>
  (True) ∧
  Bif (!x40) (
  ∀ G41 w42, Cls.p D33 G41 w42 →
  R (Value.slice none 0 0) w42) (
  NilP a1 fun a43 =>
  NilP a1 fun a44 =>
  ∃ (x45 : Int), Qt D33 (Value.int .i64 x45) (fun w46 K47 =>
  LdI .i64 (Addr.add a43 9) w46 fun x48 =>
  K47 (Value.int .i64 x48) w46) ∧
  ∃ (x49 : Int), Qt D33 (Value.int .i64 x49) (fun w50 K51 =>
  LdI .i64 (Addr.add (Addr.add a44 0) 5) w50 fun x52 =>
  K51 (Value.int .i64 x52) w50) ∧
  ∀ G53 w54, Cls.p D33 G53 w54 →
  Bif (decide ((IntKind.wrap .i64 (now2 - x45)) < x49)) (
  R (Value.slice none 0 0) w54) (
  NilP a1 fun a55 =>
  St1 (Addr.add a55 9) (Value.int .i64 now2) w54 fun w56 =>
  ∃ (C57 : Cls), Cls.p C57 [] w56 ∧
  NilP a1 fun a58 =>
  NilP a1 fun a59 =>
  NilP a1 fun a60 =>
  ∃ (x61 : ByteArray), Qt C57 (Value.string x61) (fun w62 K63 =>
  LdS (Addr.add (Addr.add a58 0) 3) w62 fun x64 =>
  K63 (Value.string x64) w62) ∧
  ∃ (x65 : Int), Qt C57 (Value.int .i64 x65) (fun w66 K67 =>
  LdI .i64 (Addr.add a59 8) w66 fun x68 =>
  K67 (Value.int .i64 x68) w66) ∧
  ∃ (x69 : Int), Qt C57 (Value.int .i64 x69) (fun w70 K71 =>
  LdI .i64 (Addr.add (Addr.add a60 0) 4) w70 fun x72 =>
  K71 (Value.int .i64 x72) w70) ∧
  Ef C57 (fun w76 K75 =>
  CallR Try.prog 25 #[(Value.int .i64 0), (Value.agg #[(Value.int .i64 8), (Value.string x61), (Value.string ⟨#[]⟩), (Value.int .i64 x65), (Value.int .i64 x69)])] w76 fun v78 w79 =>
  AsL v78 fun x80p x80n x80c =>
  K75 (Value.slice x80p x80n x80c) w79) fun v77 D74 =>
  AsL v77 fun x81p x81n x81c =>
  (True) ∧
  ∀ G82 w83, Cls.p D74 G82 w83 →
  R (Value.slice x81p x81n x81c) w83)))))
theorem F17_eq (a1 : Option Addr) (now2 : Int) (w3 : World) (R : Value → World → Prop) : liftF Try.prog 17 (.step .nil .nil (.step .nil .nil (.step .nil .nil (.step .nil .nil (.draw [(0, false), (1, true), (2, false), (3, false), (4, false), (5, false), (6, false), (7, false), (8, false), (9, false), (10, false), (11, false), (12, true), (13, false), (14, false), (15, false), (16, false), (17, false), (18, false), (19, false), (22, false), (23, false), (24, false), (25, false), (20, false), (21, false), (26, false), (27, false), (28, false)] (.step .nil .nil (.step .nil .nil (.draw [(0, false), (1, false), (2, false), (3, false), (5, false), (6, false), (7, false), (9, false), (10, false), (11, false), (12, false), (4, false), (8, false), (13, false), (14, false), (15, true), (16, false)] .nil)))))))) [(Value.pointer a1), (Value.int .i64 now2)] w3 R = F17 a1 now2 w3 R := by kernel_rfl
theorem F17_of {a1 : Option Addr} {now2 : Int} {w3 : World} {R : Value → World → Prop} (h : F17 a1 now2 w3 R) : CallR Try.prog 17 #[(Value.pointer a1), (Value.int .i64 now2)] w3 R := callR_of_lift _ ((F17_eq a1 now2 w3 R).mpr h)

-- F18 subway/subwaylaw05.Great
def F18 (m1 : Int) (m2 : ByteArray) (m3 : ByteArray) (m4 : Int) (m5 : Int) (w6 : World) (R : Value → World → Prop) : Prop :=
  NewC #[(Value.int .i64 m1), (Value.string m2), (Value.string m3), (Value.int .i64 m4), (Value.int .i64 m5)] 32 w6 fun b7 w8 =>
  LdS (Addr.add ⟨b7, 0, none⟩ 1) w8 fun x9 =>
  LdS (Addr.add ⟨b7, 0, none⟩ 2) w8 fun x10 =>
  R (Value.bool (decide ((IntKind.wrap .i64 ((x9.size : Int) + (x10.size : Int))) > 9000))) w8
theorem F18_eq (m1 : Int) (m2 : ByteArray) (m3 : ByteArray) (m4 : Int) (m5 : Int) (w6 : World) (R : Value → World → Prop) : liftF Try.prog 18 .nil [(Value.agg #[(Value.int .i64 m1), (Value.string m2), (Value.string m3), (Value.int .i64 m4), (Value.int .i64 m5)])] w6 R = F18 m1 m2 m3 m4 m5 w6 R := by kernel_rfl
theorem F18_of {m1 : Int} {m2 : ByteArray} {m3 : ByteArray} {m4 : Int} {m5 : Int} {w6 : World} {R : Value → World → Prop} (h : F18 m1 m2 m3 m4 m5 w6 R) : CallR Try.prog 18 #[(Value.agg #[(Value.int .i64 m1), (Value.string m2), (Value.string m3), (Value.int .i64 m4), (Value.int .i64 m5)])] w6 R := callR_of_lift _ ((F18_eq m1 m2 m3 m4 m5 w6 R).mpr h)

-- F19 subway/subwaylaw20.Plan
def F19  (w1 : World) (R : Value → World → Prop) : Prop :=
  NewC #[(Value.string ⟨#[]⟩), (Value.string ⟨#[]⟩), (Value.string ⟨#[]⟩), (Value.string ⟨#[]⟩), (Value.int .i64 0), (Value.int .i64 0)] 23 w1 fun b2 w3 =>
  St1 (Addr.add ⟨b2, 0, none⟩ 0) (Value.string ⟨#[97, 110, 110]⟩) w3 fun w4 =>
  St1 (Addr.add ⟨b2, 0, none⟩ 1) (Value.string ⟨#[107]⟩) w4 fun w5 =>
  St1 (Addr.add ⟨b2, 0, none⟩ 2) (Value.string ⟨#[115]⟩) w5 fun w6 =>
  St1 (Addr.add ⟨b2, 0, none⟩ 3) (Value.string ⟨#[119, 101, 98]⟩) w6 fun w7 =>
  St1 (Addr.add ⟨b2, 0, none⟩ 4) (Value.int .i64 50) w7 fun w8 =>
  St1 (Addr.add ⟨b2, 0, none⟩ 5) (Value.int .i64 10) w8 fun w9 =>
  LdS (Addr.add ⟨b2, 0, none⟩ 0) w9 fun res10 =>
  LdS (Addr.add ⟨b2, 0, none⟩ 1) w9 fun res11 =>
  LdS (Addr.add ⟨b2, 0, none⟩ 2) w9 fun res12 =>
  LdS (Addr.add ⟨b2, 0, none⟩ 3) w9 fun res13 =>
  LdI .i64 (Addr.add ⟨b2, 0, none⟩ 4) w9 fun res14 =>
  LdI .i64 (Addr.add ⟨b2, 0, none⟩ 5) w9 fun res15 =>
  R (Value.agg #[(Value.string res10), (Value.string res11), (Value.string res12), (Value.string res13), (Value.int .i64 res14), (Value.int .i64 res15)]) w9
theorem F19_eq  (w1 : World) (R : Value → World → Prop) : liftF Try.prog 19 .nil [] w1 R = F19  w1 R := by kernel_rfl
theorem F19_of  {w1 : World} {R : Value → World → Prop} (h : F19  w1 R) : CallR Try.prog 19 #[] w1 R := callR_of_lift _ ((F19_eq  w1 R).mpr h)

-- F20 subway/subwayref01.Text
def F20 (s1 : ByteArray) (w2 : World) (R : Value → World → Prop) : Prop :=
  Bif (decide ((s1.size : Int) > 255)) (
  R (Value.slice none 0 0) w2) (
  NewC #[(Value.int .u8 (IntKind.wrap .u8 (s1.size : Int)))] 5 w2 fun b3 w4 =>
  Run Try.prog (Builtin.append_ #[40, 9] 40 #[(Value.slice (some ⟨b3, 0, none⟩) 1 1), (Value.string s1)]) w4 fun v5 w6 =>
  AsL v5 fun x7p x7n x7c =>
  R (Value.slice x7p x7n x7c) w6)
theorem F20_eq (s1 : ByteArray) (w2 : World) (R : Value → World → Prop) : liftF Try.prog 20 .nil [(Value.string s1)] w2 R = F20 s1 w2 R := by kernel_rfl
theorem F20_of {s1 : ByteArray} {w2 : World} {R : Value → World → Prop} (h : F20 s1 w2 R) : CallR Try.prog 20 #[(Value.string s1)] w2 R := callR_of_lift _ ((F20_eq s1 w2 R).mpr h)

-- F21 subway/subwayref03.Mac
def F21 (key1p : Option Addr) (key1n : Nat) (key1c : Nat) (b2p : Option Addr) (b2n : Nat) (b2c : Nat) (w3 : World) (R : Value → World → Prop) : Prop :=
  NewC #[(Value.int .u8 0), (Value.int .u8 0), (Value.int .u8 0), (Value.int .u8 0), (Value.int .u8 0), (Value.int .u8 0), (Value.int .u8 0), (Value.int .u8 0), (Value.int .u8 0), (Value.int .u8 0), (Value.int .u8 0), (Value.int .u8 0), (Value.int .u8 0), (Value.int .u8 0), (Value.int .u8 0), (Value.int .u8 0), (Value.int .u8 0), (Value.int .u8 0), (Value.int .u8 0), (Value.int .u8 0), (Value.int .u8 0), (Value.int .u8 0), (Value.int .u8 0), (Value.int .u8 0), (Value.int .u8 0), (Value.int .u8 0), (Value.int .u8 0), (Value.int .u8 0), (Value.int .u8 0), (Value.int .u8 0), (Value.int .u8 0), (Value.int .u8 0)] 57 w3 fun b4 w5 =>
  CallR Try.prog 27 #[(Value.slice key1p key1n key1c), (Value.int .u8 54)] w5 fun v6 w7 =>
  AsL v6 fun x8p x8n x8c =>
  Run Try.prog (Builtin.append_ #[40, 40] 40 #[(Value.slice x8p x8n x8c), (Value.slice b2p b2n b2c)]) w7 fun v9 w10 =>
  AsL v9 fun x11p x11n x11c =>
  CallR Try.prog 26 #[(Value.slice x11p x11n x11c)] w10 fun v12 w13 =>
  ∃ (x14 : Array Value), x14.size = 32 ∧ v12 = (Value.agg x14) ∧
  NewC #[(Value.int .u8 0), (Value.int .u8 0), (Value.int .u8 0), (Value.int .u8 0), (Value.int .u8 0), (Value.int .u8 0), (Value.int .u8 0), (Value.int .u8 0), (Value.int .u8 0), (Value.int .u8 0), (Value.int .u8 0), (Value.int .u8 0), (Value.int .u8 0), (Value.int .u8 0), (Value.int .u8 0), (Value.int .u8 0), (Value.int .u8 0), (Value.int .u8 0), (Value.int .u8 0), (Value.int .u8 0), (Value.int .u8 0), (Value.int .u8 0), (Value.int .u8 0), (Value.int .u8 0), (Value.int .u8 0), (Value.int .u8 0), (Value.int .u8 0), (Value.int .u8 0), (Value.int .u8 0), (Value.int .u8 0), (Value.int .u8 0), (Value.int .u8 0)] 57 w13 fun b15 w16 =>
  Array.size x14 = 32 ∧
  StA Try.prog ⟨b15, 0, none⟩ x14 w16 fun w17 =>
  ∃ (C18 : Cls), Cls.p C18 [] w17 ∧
  SlP (some ⟨b15, 0, none⟩) 32 32 1 0 (32 : Int) fun x19p x19n x19c =>
  Ef C18 (fun w23 K22 =>
  CallR Try.prog 27 #[(Value.slice key1p key1n key1c), (Value.int .u8 92)] w23 fun v25 w26 =>
  AsL v25 fun x27p x27n x27c =>
  K22 (Value.slice x27p x27n x27c) w26) fun v24 D21 =>
  AsL v24 fun x28p x28n x28c =>
  (True) ∧
  Ef D21 (fun w32 K31 =>
  Run Try.prog (Builtin.append_ #[40, 40] 40 #[(Value.slice x28p x28n x28c), (Value.slice x19p x19n x19c)]) w32 fun v34 w35 =>
  AsL v34 fun x36p x36n x36c =>
  K31 (Value.slice x36p x36n x36c) w35) fun v33 D30 =>
  AsL v33 fun x37p x37n x37c =>
  (True) ∧
  Ef D30 (fun w41 K40 =>
  CallR Try.prog 26 #[(Value.slice x37p x37n x37c)] w41 fun v43 w44 =>
  ∃ (x45 : Array Value), x45.size = 32 ∧ v43 = (Value.agg x45) ∧
  K40 (Value.agg x45) w44) fun v42 D39 =>
  ∃ (x46 : Array Value), x46.size = 32 ∧ v42 = (Value.agg x46) ∧
  (True) ∧
  Ef D39 (fun w49 K48 =>
  Array.size x46 = 32 ∧
  StA Try.prog ⟨b4, 0, none⟩ x46 w49 fun w51 =>
  K48 (Value.tuple #[]) w51) fun v50 D47 =>
  v50 = (Value.tuple #[]) ∧
  (True) ∧
  ∀ G52 w53, Cls.p D47 G52 w53 →
  LdA Try.prog 32 ⟨b4, 0, none⟩ w53 fun res54 =>
  R (Value.agg res54) w53
theorem F21_eq (key1p : Option Addr) (key1n : Nat) (key1c : Nat) (b2p : Option Addr) (b2n : Nat) (b2c : Nat) (w3 : World) (R : Value → World → Prop) : liftF Try.prog 21 (.step .nil .nil (.step .nil .nil (.draw [(0, false), (2, false), (1, true), (3, true), (4, true), (5, true)] .nil))) [(Value.slice key1p key1n key1c), (Value.slice b2p b2n b2c)] w3 R = F21 key1p key1n key1c b2p b2n b2c w3 R := by kernel_rfl
theorem F21_of {key1p : Option Addr} {key1n : Nat} {key1c : Nat} {b2p : Option Addr} {b2n : Nat} {b2c : Nat} {w3 : World} {R : Value → World → Prop} (h : F21 key1p key1n key1c b2p b2n b2c w3 R) : CallR Try.prog 21 #[(Value.slice key1p key1n key1c), (Value.slice b2p b2n b2c)] w3 R := callR_of_lift _ ((F21_eq key1p key1n key1c b2p b2n b2c w3 R).mpr h)

-- F22 subway/subwayref02.Hex
def F22 (b1p : Option Addr) (b1n : Nat) (b1c : Nat) (w2 : World) (R : Value → World → Prop) : Prop :=
  Lp fun I3 mu4 =>
  I3 [(Value.slice none 0 0), (Value.int .i64 0)] w2 ∧
  ∀ (out5p : Option Addr) (out5n : Nat) (out5c : Nat), ∀ (i6 : Int), ∀ w7, I3 [(Value.slice out5p out5n out5c), (Value.int .i64 i6)] w7 →
  Bif (decide (i6 < (b1n : Int))) (
  ∃ (C8 : Cls), Cls.p C8 [] w7 ∧
  IxP b1p b1n i6 1 fun a9 =>
  IxP b1p b1n i6 1 fun a10 =>
  ∃ (x11 : Int), Qt C8 (Value.int .u8 x11) (fun w12 K13 =>
  LdI .u8 a9 w12 fun x14 =>
  K13 (Value.int .u8 x14) w12) ∧
  DivK 16 (
  IxS ⟨#[48, 49, 50, 51, 52, 53, 54, 55, 56, 57, 97, 98, 99, 100, 101, 102]⟩ (IntKind.wrap .u8 (Int.tdiv x11 16)) fun b15 =>
  ∃ (x16 : Int), Qt C8 (Value.int .u8 x16) (fun w17 K18 =>
  LdI .u8 a10 w17 fun x19 =>
  K18 (Value.int .u8 x19) w17) ∧
  DivK 16 (
  IxS ⟨#[48, 49, 50, 51, 52, 53, 54, 55, 56, 57, 97, 98, 99, 100, 101, 102]⟩ (Int.tmod x16 16) fun b20 =>
  ∀ b21 : Nat,
  Ef (Cls.push C8 (b21, .cells #[(Value.int .u8 (b15.toNat : Int)), (Value.int .u8 (b20.toNat : Int))] 5)) (fun w25 K24 =>
  Run Try.prog (Builtin.append_ #[40, 40] 40 #[(Value.slice out5p out5n out5c), (Value.slice (some ⟨b21, 0, none⟩) 2 2)]) w25 fun v27 w28 =>
  AsL v27 fun x29p x29n x29c =>
  K24 (Value.slice x29p x29n x29c) w28) fun v26 D23 =>
  AsL v26 fun x30p x30n x30c =>
  (True) ∧
  ∀ G31 w32, Cls.p D23 G31 w32 →
  I3 [(Value.slice x30p x30n x30c), (Value.int .i64 (IntKind.wrap .i64 (i6 + 1)))] w32 ∧ mu4 [(Value.slice x30p x30n x30c), (Value.int .i64 (IntKind.wrap .i64 (i6 + 1)))] w32 < mu4 [(Value.slice out5p out5n out5c), (Value.int .i64 i6)] w7))) (
  Run Try.prog (convert 40 9 (Value.slice out5p out5n out5c)) w7 fun v33 w34 =>
  AsS v33 fun x35 =>
  R (Value.string x35) w34)
theorem F22_eq (b1p : Option Addr) (b1n : Nat) (b1c : Nat) (w2 : World) (R : Value → World → Prop) : liftF Try.prog 22 (.step .nil .nil (.step .nil .nil (.step .nil .nil (.step .nil .nil (.step (.loop [(4, .b .slice), (5, .b (.int .i64))] (.step .nil .nil (.step .nil .nil (.step (.draw [(0, false), (1, false), (2, false), (3, false), (4, false), (8, false), (9, false), (10, false), (11, false), (5, false), (6, false), (7, false), (12, false), (13, false), (14, false), (15, false), (16, true), (17, false)] .nil) .nil .nil)))) .nil .nil))))) [(Value.slice b1p b1n b1c)] w2 R = F22 b1p b1n b1c w2 R := by kernel_rfl
theorem F22_of {b1p : Option Addr} {b1n : Nat} {b1c : Nat} {w2 : World} {R : Value → World → Prop} (h : F22 b1p b1n b1c w2 R) : CallR Try.prog 22 #[(Value.slice b1p b1n b1c)] w2 R := callR_of_lift _ ((F22_eq b1p b1n b1c w2 R).mpr h)

-- F23 (*subway/agent.Agent).open
def F23 (a1 : Option Addr) (no2 : Int) (ticket3 : ByteArray) (w4 : World) (R : Value → World → Prop) : Prop :=
  NilP a1 fun a5 =>
  LdM (Addr.add a5 6) w4 fun x6 =>
  NewC #[(Value.int .i64 no2), (Value.string ticket3), (Value.func (.func 28) #[(Value.pointer a1)] #[]), (Value.bool false)] 65 w4 fun b7 w8 =>
  RunU Try.prog (Instr.mapUpdate 53 (Value.map x6) (Value.int .i64 no2) (Value.pointer (some ⟨b7, 0, none⟩))) w8 fun w9 =>
  ∃ (C10 : Cls), Cls.p C10 [] w9 ∧
  NilP a1 fun a11 =>
  NilP a1 fun a12 =>
  ∃ (x13 : ByteArray), Qt C10 (Value.string x13) (fun w14 K15 =>
  LdS (Addr.add (Addr.add a11 0) 0) w14 fun x16 =>
  K15 (Value.string x16) w14) ∧
  ∃ (x17 : ByteArray), Qt C10 (Value.string x17) (fun w18 K19 =>
  LdS (Addr.add (Addr.add a12 0) 1) w18 fun x20 =>
  K19 (Value.string x20) w18) ∧
  Ef C10 (fun w24 K23 =>
  CallR Try.prog 25 #[(Value.int .i64 no2), (Value.agg #[(Value.int .i64 1), (Value.string x13), (Value.string x17), (Value.int .i64 0), (Value.int .i64 0)])] w24 fun v26 w27 =>
  AsL v26 fun x28p x28n x28c =>
  K23 (Value.slice x28p x28n x28c) w27) fun v25 D22 =>
  AsL v25 fun x29p x29n x29c =>
  (True) ∧
  ∀ b30 : Nat,
  Ef (Cls.push D22 (b30, .cells #[(Value.int .i64 1), (Value.int .i64 no2), (Value.int .i64 0), (Value.string ⟨#[]⟩), (Value.string ⟨#[]⟩), (Value.int .i64 0), (Value.int .i64 0)] 38)) (fun w34 K33 =>
  Run Try.prog (Builtin.append_ #[35, 35] 35 #[(Value.slice (some ⟨b30, 0, none⟩) 1 1), (Value.slice x29p x29n x29c)]) w34 fun v36 w37 =>
  AsL v36 fun x38p x38n x38c =>
  K33 (Value.slice x38p x38n x38c) w37) fun v35 D32 =>
  AsL v35 fun x39p x39n x39c =>
  (True) ∧
  ∀ G40 w41, Cls.p D32 G40 w41 →
  R (Value.slice x39p x39n x39c) w41
theorem F23_eq (a1 : Option Addr) (no2 : Int) (ticket3 : ByteArray) (w4 : World) (R : Value → World → Prop) : liftF Try.prog 23 (.step .nil .nil (.step .nil .nil (.draw [(0, false), (1, false), (3, false), (4, false), (5, false), (6, false), (7, false), (9, false), (10, false), (11, false), (12, false), (8, false), (13, false), (14, false), (15, true), (2, false), (16, true), (17, false)] .nil))) [(Value.pointer a1), (Value.int .i64 no2), (Value.string ticket3)] w4 R = F23 a1 no2 ticket3 w4 R := by kernel_rfl
theorem F23_of {a1 : Option Addr} {no2 : Int} {ticket3 : ByteArray} {w4 : World} {R : Value → World → Prop} (h : F23 a1 no2 ticket3 w4 R) : CallR Try.prog 23 #[(Value.pointer a1), (Value.int .i64 no2), (Value.string ticket3)] w4 R := callR_of_lift _ ((F23_eq a1 no2 ticket3 w4 R).mpr h)

-- F24 subway/agent.time
def F24 (now1 : Int) (w2 : World) (R : Value → World → Prop) : Prop :=
  Bif (decide (now1 ≥ 0)) (
  R (Value.bool (decide (now1 ≤ 1099511627776))) w2) (
  R (Value.bool false) w2)
theorem F24_eq (now1 : Int) (w2 : World) (R : Value → World → Prop) : liftF Try.prog 24 .nil [(Value.int .i64 now1)] w2 R = F24 now1 w2 R := by kernel_rfl
theorem F24_of {now1 : Int} {w2 : World} {R : Value → World → Prop} (h : F24 now1 w2 R) : CallR Try.prog 24 #[(Value.int .i64 now1)] w2 R := callR_of_lift _ ((F24_eq now1 w2 R).mpr h)

-- F25 subway/agent.say
def F25 (no1 : Int) (m2 : Int) (m3 : ByteArray) (m4 : ByteArray) (m5 : Int) (m6 : Int) (w7 : World) (R : Value → World → Prop) : Prop :=
  NewC #[(Value.int .i64 m2), (Value.string m3), (Value.string m4), (Value.int .i64 m5), (Value.int .i64 m6)] 32 w7 fun b8 w9 =>
  LdI .i64 (Addr.add ⟨b8, 0, none⟩ 0) w9 fun x10 =>
  LdS (Addr.add ⟨b8, 0, none⟩ 1) w9 fun x11 =>
  LdS (Addr.add ⟨b8, 0, none⟩ 2) w9 fun x12 =>
  LdI .i64 (Addr.add ⟨b8, 0, none⟩ 3) w9 fun x13 =>
  LdI .i64 (Addr.add ⟨b8, 0, none⟩ 4) w9 fun x14 =>
  NewC #[(Value.int .i64 2), (Value.int .i64 no1), (Value.int .i64 x10), (Value.string x11), (Value.string x12), (Value.int .i64 x13), (Value.int .i64 x14)] 38 w9 fun b15 w16 =>
  R (Value.slice (some ⟨b15, 0, none⟩) 1 1) w16
theorem F25_eq (no1 : Int) (m2 : Int) (m3 : ByteArray) (m4 : ByteArray) (m5 : Int) (m6 : Int) (w7 : World) (R : Value → World → Prop) : liftF Try.prog 25 .nil [(Value.int .i64 no1), (Value.agg #[(Value.int .i64 m2), (Value.string m3), (Value.string m4), (Value.int .i64 m5), (Value.int .i64 m6)])] w7 R = F25 no1 m2 m3 m4 m5 m6 w7 R := by kernel_rfl
theorem F25_of {no1 : Int} {m2 : Int} {m3 : ByteArray} {m4 : ByteArray} {m5 : Int} {m6 : Int} {w7 : World} {R : Value → World → Prop} (h : F25 no1 m2 m3 m4 m5 m6 w7 R) : CallR Try.prog 25 #[(Value.int .i64 no1), (Value.agg #[(Value.int .i64 m2), (Value.string m3), (Value.string m4), (Value.int .i64 m5), (Value.int .i64 m6)])] w7 R := callR_of_lift _ ((F25_eq no1 m2 m3 m4 m5 m6 w7 R).mpr h)

-- F26 subway/subwayref02.Sum
def F26 (b1p : Option Addr) (b1n : Nat) (b1c : Nat) (w2 : World) (R : Value → World → Prop) : Prop :=
  NewC #[(Value.int .u8 0), (Value.int .u8 0), (Value.int .u8 0), (Value.int .u8 0), (Value.int .u8 0), (Value.int .u8 0), (Value.int .u8 0), (Value.int .u8 0), (Value.int .u8 0), (Value.int .u8 0), (Value.int .u8 0), (Value.int .u8 0), (Value.int .u8 0), (Value.int .u8 0), (Value.int .u8 0), (Value.int .u8 0), (Value.int .u8 0), (Value.int .u8 0), (Value.int .u8 0), (Value.int .u8 0), (Value.int .u8 0), (Value.int .u8 0), (Value.int .u8 0), (Value.int .u8 0), (Value.int .u8 0), (Value.int .u8 0), (Value.int .u8 0), (Value.int .u8 0), (Value.int .u8 0), (Value.int .u8 0), (Value.int .u8 0), (Value.int .u8 0)] 57 w2 fun b3 w4 =>
  NewC #[] 5 w4 fun b5 w6 =>
  Run Try.prog (Builtin.append_ #[40, 40] 40 #[(Value.slice (some ⟨b5, 0, none⟩) 0 0), (Value.slice b1p b1n b1c)]) w6 fun v7 w8 =>
  AsL v7 fun x9p x9n x9c =>
  NewC #[(Value.int .u8 128)] 5 w8 fun b10 w11 =>
  Run Try.prog (Builtin.append_ #[40, 40] 40 #[(Value.slice x9p x9n x9c), (Value.slice (some ⟨b10, 0, none⟩) 1 1)]) w11 fun v12 w13 =>
  AsL v12 fun x14p x14n x14c =>
  Lp fun I15 mu16 =>
  I15 [(Value.slice x14p x14n x14c)] w13 ∧
  ∀ (all17p : Option Addr) (all17n : Nat) (all17c : Nat), ∀ w18, I15 [(Value.slice all17p all17n all17c)] w18 →
  DivK 64 (
  Bif ((Int.tmod (all17n : Int) 64) != 56) (
  NewC #[(Value.int .u8 0)] 5 w18 fun b19 w20 =>
  Run Try.prog (Builtin.append_ #[40, 40] 40 #[(Value.slice all17p all17n all17c), (Value.slice (some ⟨b19, 0, none⟩) 1 1)]) w20 fun v21 w22 =>
  AsL v21 fun x23p x23n x23c =>
  I15 [(Value.slice x23p x23n x23c)] w22 ∧ mu16 [(Value.slice x23p x23n x23c)] w22 < mu16 [(Value.slice all17p all17n all17c)] w18) (
  Lp fun I24 mu25 =>
  I24 [(Value.slice all17p all17n all17c), (Value.int .i64 7)] w18 ∧
  ∀ (all26p : Option Addr) (all26n : Nat) (all26c : Nat), ∀ (i27 : Int), ∀ w28, I24 [(Value.slice all26p all26n all26c), (Value.int .i64 i27)] w28 →
  Bif (decide (i27 ≥ 0)) (
  ShK (IntKind.wrap .i64 (8 * i27)) (
  NewC #[(Value.int .u8 (IntKind.wrap .u8 (Int.fdiv (IntKind.wrap .i64 (8 * (b1n : Int))) (2 ^ min (Int.toNat (IntKind.wrap .i64 (8 * i27))) (IntKind.bits .i64)))))] 5 w28 fun b29 w30 =>
  Run Try.prog (Builtin.append_ #[40, 40] 40 #[(Value.slice all26p all26n all26c), (Value.slice (some ⟨b29, 0, none⟩) 1 1)]) w30 fun v31 w32 =>
  AsL v31 fun x33p x33n x33c =>
  I24 [(Value.slice x33p x33n x33c), (Value.int .i64 (IntKind.wrap .i64 (i27 - 1)))] w32 ∧ mu25 [(Value.slice x33p x33n x33c), (Value.int .i64 (IntKind.wrap .i64 (i27 - 1)))] w32 < mu25 [(Value.slice all26p all26n all26c), (Value.int .i64 i27)] w28)) (
  NewC #[(Value.int .u32 0), (Value.int .u32 0), (Value.int .u32 0), (Value.int .u32 0), (Value.int .u32 0), (Value.int .u32 0), (Value.int .u32 0), (Value.int .u32 0)] 71 w28 fun b34 w35 =>
  Array.size (#[(Value.int .u32 1779033703), (Value.int .u32 3144134277), (Value.int .u32 1013904242), (Value.int .u32 2773480762), (Value.int .u32 1359893119), (Value.int .u32 2600822924), (Value.int .u32 528734635), (Value.int .u32 1541459225)]) = 8 ∧
  StA Try.prog ⟨b34, 0, none⟩ (#[(Value.int .u32 1779033703), (Value.int .u32 3144134277), (Value.int .u32 1013904242), (Value.int .u32 2773480762), (Value.int .u32 1359893119), (Value.int .u32 2600822924), (Value.int .u32 528734635), (Value.int .u32 1541459225)]) w35 fun w36 =>
  Lp fun I37 mu38 =>
  I37 [(Value.int .i64 0)] w36 ∧
  ∀ (i39 : Int), ∀ w40, I37 [(Value.int .i64 i39)] w40 →
  Bif (decide (i39 < (all26n : Int))) (
  ∃ (C41 : Cls), Cls.p C41 [] w40 ∧
  SlP all26p all26n all26c 1 i39 (IntKind.wrap .i64 (i39 + 64)) fun x42p x42n x42c =>
  ∃ (x43 : Array Value), x43.size = 8 ∧ Qt C41 (Value.agg x43) (fun w44 K45 =>
  LdA Try.prog 8 ⟨b34, 0, none⟩ w44 fun x46 =>
  K45 (Value.agg x46) w44) ∧
  Ef C41 (fun w50 K49 =>
  CallR Try.prog 29 #[(Value.agg x43), (Value.slice x42p x42n x42c)] w50 fun v52 w53 =>
  ∃ (x54 : Array Value), x54.size = 8 ∧ v52 = (Value.agg x54) ∧
  K49 (Value.agg x54) w53) fun v51 D48 =>
  ∃ (x55 : Array Value), x55.size = 8 ∧ v51 = (Value.agg x55) ∧
  (True) ∧
  Ef D48 (fun w58 K57 =>
  Array.size x55 = 8 ∧
  StA Try.prog ⟨b34, 0, none⟩ x55 w58 fun w60 =>
  K57 (Value.tuple #[]) w60) fun v59 D56 =>
  v59 = (Value.tuple #[]) ∧
  (True) ∧
  ∀ G61 w62, Cls.p D56 G61 w62 →
  I37 [(Value.int .i64 (IntKind.wrap .i64 (i39 + 64)))] w62 ∧ mu38 [(Value.int .i64 (IntKind.wrap .i64 (i39 + 64)))] w62 < mu38 [(Value.int .i64 i39)] w40) (
  NewC #[(Value.int .u8 0), (Value.int .u8 0), (Value.int .u8 0), (Value.int .u8 0), (Value.int .u8 0), (Value.int .u8 0), (Value.int .u8 0), (Value.int .u8 0), (Value.int .u8 0), (Value.int .u8 0), (Value.int .u8 0), (Value.int .u8 0), (Value.int .u8 0), (Value.int .u8 0), (Value.int .u8 0), (Value.int .u8 0), (Value.int .u8 0), (Value.int .u8 0), (Value.int .u8 0), (Value.int .u8 0), (Value.int .u8 0), (Value.int .u8 0), (Value.int .u8 0), (Value.int .u8 0), (Value.int .u8 0), (Value.int .u8 0), (Value.int .u8 0), (Value.int .u8 0), (Value.int .u8 0), (Value.int .u8 0), (Value.int .u8 0), (Value.int .u8 0)] 57 w40 fun b63 w64 =>
  Lp fun I65 mu66 =>
  I65 [(Value.int .i64 0)] w64 ∧
  ∀ (i67 : Int), ∀ w68, I65 [(Value.int .i64 i67)] w68 →
  Bif (decide (i67 < 32)) (
  DivK 4 (
  IxP (some ⟨b34, 0, none⟩) 8 (IntKind.wrap .i64 (Int.tdiv i67 4)) 1 fun a69 =>
  LdI .u32 a69 w68 fun x70 =>
  DivK 4 (
  ShK (IntKind.wrap .i64 (24 - (IntKind.wrap .i64 (8 * (Int.tmod i67 4))))) (
  IxP (some ⟨b63, 0, none⟩) 32 i67 1 fun a71 =>
  St1 a71 (Value.int .u8 (IntKind.wrap .u8 (Int.fdiv x70 (2 ^ min (Int.toNat (IntKind.wrap .i64 (24 - (IntKind.wrap .i64 (8 * (Int.tmod i67 4)))))) (IntKind.bits .u32))))) w68 fun w72 =>
  I65 [(Value.int .i64 (IntKind.wrap .i64 (i67 + 1)))] w72 ∧ mu66 [(Value.int .i64 (IntKind.wrap .i64 (i67 + 1)))] w72 < mu66 [(Value.int .i64 i67)] w68)))) (
  LdA Try.prog 32 ⟨b63, 0, none⟩ w68 fun x73 =>
  Array.size x73 = 32 ∧
  StA Try.prog ⟨b3, 0, none⟩ x73 w68 fun w74 =>
  LdA Try.prog 32 ⟨b3, 0, none⟩ w74 fun res75 =>
  R (Value.agg res75) w74)))))
theorem F26_eq (b1p : Option Addr) (b1n : Nat) (b1c : Nat) (w2 : World) (R : Value → World → Prop) : liftF Try.prog 26 (.step .nil .nil (.step .nil .nil (.step (.loop [(3, .b .slice)] .nil) .nil (.step .nil .nil (.step .nil .nil (.step (.loop [(3, .b .slice), (5, .b (.int .i64))] .nil) .nil (.step .nil .nil (.step .nil .nil (.step (.loop [(7, .b (.int .i64))] (.step .nil .nil (.step .nil .nil (.step (.draw [(1, false), (2, false), (3, false), (4, false), (5, false), (0, false), (6, true), (7, true)] .nil) .nil .nil)))) .nil (.step .nil .nil (.step .nil .nil (.step (.loop [(9, .b (.int .i64))] .nil) .nil .nil)))))))))))) [(Value.slice b1p b1n b1c)] w2 R = F26 b1p b1n b1c w2 R := by kernel_rfl
theorem F26_of {b1p : Option Addr} {b1n : Nat} {b1c : Nat} {w2 : World} {R : Value → World → Prop} (h : F26 b1p b1n b1c w2 R) : CallR Try.prog 26 #[(Value.slice b1p b1n b1c)] w2 R := callR_of_lift _ ((F26_eq b1p b1n b1c w2 R).mpr h)

-- F27 subway/subwayref03.padded
def F27 (key1p : Option Addr) (key1n : Nat) (key1c : Nat) (c2 : Int) (w3 : World) (R : Value → World → Prop) : Prop :=
  NewC #[] 5 w3 fun b4 w5 =>
  Run Try.prog (Builtin.append_ #[40, 40] 40 #[(Value.slice (some ⟨b4, 0, none⟩) 0 0), (Value.slice key1p key1n key1c)]) w5 fun v6 w7 =>
  AsL v6 fun x8p x8n x8c =>
  Jn fun J9 => (
  Bif (decide ((x8n : Int) > 64)) (
  CallR Try.prog 26 #[(Value.slice x8p x8n x8c)] w7 fun v10 w11 =>
  ∃ (x12 : Array Value), x12.size = 32 ∧ v10 = (Value.agg x12) ∧
  NewC #[(Value.int .u8 0), (Value.int .u8 0), (Value.int .u8 0), (Value.int .u8 0), (Value.int .u8 0), (Value.int .u8 0), (Value.int .u8 0), (Value.int .u8 0), (Value.int .u8 0), (Value.int .u8 0), (Value.int .u8 0), (Value.int .u8 0), (Value.int .u8 0), (Value.int .u8 0), (Value.int .u8 0), (Value.int .u8 0), (Value.int .u8 0), (Value.int .u8 0), (Value.int .u8 0), (Value.int .u8 0), (Value.int .u8 0), (Value.int .u8 0), (Value.int .u8 0), (Value.int .u8 0), (Value.int .u8 0), (Value.int .u8 0), (Value.int .u8 0), (Value.int .u8 0), (Value.int .u8 0), (Value.int .u8 0), (Value.int .u8 0), (Value.int .u8 0)] 57 w11 fun b13 w14 =>
  Array.size x12 = 32 ∧
  StA Try.prog ⟨b13, 0, none⟩ x12 w14 fun w15 =>
  NewC #[] 5 w15 fun b16 w17 =>
  SlP (some ⟨b13, 0, none⟩) 32 32 1 0 (32 : Int) fun x18p x18n x18c =>
  Run Try.prog (Builtin.append_ #[40, 40] 40 #[(Value.slice (some ⟨b16, 0, none⟩) 0 0), (Value.slice x18p x18n x18c)]) w17 fun v19 w20 =>
  AsL v19 fun x21p x21n x21c =>
  J9 [(Value.slice x21p x21n x21c)] w20) (
  J9 [(Value.slice x8p x8n x8c)] w7)) ∧
  ∀ (k22p : Option Addr) (k22n : Nat) (k22c : Nat), ∀ w23, J9 [(Value.slice k22p k22n k22c)] w23 →
  Lp fun I24 mu25 =>
  I24 [(Value.slice k22p k22n k22c)] w23 ∧
  ∀ (k26p : Option Addr) (k26n : Nat) (k26c : Nat), ∀ w27, I24 [(Value.slice k26p k26n k26c)] w27 →
  Bif (decide ((k26n : Int) < 64)) (
  NewC #[(Value.int .u8 0)] 5 w27 fun b28 w29 =>
  Run Try.prog (Builtin.append_ #[40, 40] 40 #[(Value.slice k26p k26n k26c), (Value.slice (some ⟨b28, 0, none⟩) 1 1)]) w29 fun v30 w31 =>
  AsL v30 fun x32p x32n x32c =>
  I24 [(Value.slice x32p x32n x32c)] w31 ∧ mu25 [(Value.slice x32p x32n x32c)] w31 < mu25 [(Value.slice k26p k26n k26c)] w27) (
  Lp fun I33 mu34 =>
  I33 [(Value.int .i64 0)] w27 ∧
  ∀ (i35 : Int), ∀ w36, I33 [(Value.int .i64 i35)] w36 →
  Bif (decide (i35 < 64)) (
  IxP k26p k26n i35 1 fun a37 =>
  LdI .u8 a37 w36 fun x38 =>
  IxP k26p k26n i35 1 fun a39 =>
  St1 a39 (Value.int .u8 (IntKind.wrap .u8 ↑((BitVec.ofInt (IntKind.bits .u8) x38 ^^^ BitVec.ofInt (IntKind.bits .u8) c2).toNat))) w36 fun w40 =>
  I33 [(Value.int .i64 (IntKind.wrap .i64 (i35 + 1)))] w40 ∧ mu34 [(Value.int .i64 (IntKind.wrap .i64 (i35 + 1)))] w40 < mu34 [(Value.int .i64 i35)] w36) (
  R (Value.slice k26p k26n k26c) w36))
theorem F27_eq (key1p : Option Addr) (key1n : Nat) (key1c : Nat) (c2 : Int) (w3 : World) (R : Value → World → Prop) : liftF Try.prog 27 (.step .nil .nil (.step .nil .nil (.step .nil .nil (.join 1 [(5, .b .slice)] .nil (.step (.loop [(5, .b .slice)] .nil) .nil (.step .nil .nil (.step (.loop [(7, .b (.int .i64))] .nil) .nil .nil))))))) [(Value.slice key1p key1n key1c), (Value.int .u8 c2)] w3 R = F27 key1p key1n key1c c2 w3 R := by kernel_rfl
theorem F27_of {key1p : Option Addr} {key1n : Nat} {key1c : Nat} {c2 : Int} {w3 : World} {R : Value → World → Prop} (h : F27 key1p key1n key1c c2 w3 R) : CallR Try.prog 27 #[(Value.slice key1p key1n key1c), (Value.int .u8 c2)] w3 R := callR_of_lift _ ((F27_eq key1p key1n key1c c2 w3 R).mpr h)

-- F28 (*subway/agent.Agent).nonce
def F28 (a1 : Option Addr) (l2 : Option Addr) (m3 : Int) (m4 : ByteArray) (m5 : ByteArray) (m6 : Int) (m7 : Int) (_8 : Int) (w9 : World) (R : Value → World → Prop) : Prop :=
  NewC #[(Value.int .i64 m3), (Value.string m4), (Value.string m5), (Value.int .i64 m6), (Value.int .i64 m7)] 32 w9 fun b10 w11 =>
  LdI .i64 (Addr.add ⟨b10, 0, none⟩ 0) w11 fun x12 =>
  Bif (x12 != 2) (
  R (Value.slice none 0 0) w11) (
  NilP l2 fun a13 =>
  NotAgg (Value.func (.func 30) #[(Value.pointer a1)] #[]) ∧
  St1 (Addr.add a13 2) (Value.func (.func 30) #[(Value.pointer a1)] #[]) w11 fun w14 =>
  ∃ (C15 : Cls), Cls.p C15 [] w14 ∧
  NilP l2 fun a16 =>
  NilP a1 fun a17 =>
  NilP a1 fun a18 =>
  NilP a1 fun a19 =>
  ∃ (x20 : Int), Qt C15 (Value.int .i64 x20) (fun w21 K22 =>
  LdI .i64 (Addr.add a16 0) w21 fun x23 =>
  K22 (Value.int .i64 x23) w21) ∧
  ∃ (x24 : ByteArray), Qt C15 (Value.string x24) (fun w25 K26 =>
  LdS (Addr.add (Addr.add a17 0) 2) w25 fun x27 =>
  K26 (Value.string x27) w25) ∧
  ∃ (x28 : ByteArray), Qt C15 (Value.string x28) (fun w29 K30 =>
  LdS (Addr.add (Addr.add a18 0) 0) w29 fun x31 =>
  K30 (Value.string x31) w29) ∧
  ∃ (x32 : ByteArray), Qt C15 (Value.string x32) (fun w33 K34 =>
  LdS (Addr.add (Addr.add a19 0) 1) w33 fun x35 =>
  K34 (Value.string x35) w33) ∧
  ∃ (x36 : ByteArray), Qt C15 (Value.string x36) (fun w37 K38 =>
  LdS (Addr.add ⟨b10, 0, none⟩ 1) w37 fun x39 =>
  K38 (Value.string x39) w37) ∧
  Ef C15 (fun w43 K42 =>
  Run Try.prog (convert 9 40 (Value.string x24)) w43 fun v45 w46 =>
  AsL v45 fun x47p x47n x47c =>
  K42 (Value.slice x47p x47n x47c) w46) fun v44 D41 =>
  AsL v44 fun x48p x48n x48c =>
  (Qt D41 (Value.string x36) (fun w49 K50 =>
  LdS (Addr.add ⟨b10, 0, none⟩ 1) w49 fun x51 =>
  K50 (Value.string x51) w49) ∧
  Qt D41 (Value.string x32) (fun w52 K53 =>
  LdS (Addr.add (Addr.add a19 0) 1) w52 fun x54 =>
  K53 (Value.string x54) w52) ∧
  Qt D41 (Value.string x28) (fun w55 K56 =>
  LdS (Addr.add (Addr.add a18 0) 0) w55 fun x57 =>
  K56 (Value.string x57) w55) ∧
  Qt D41 (Value.int .i64 x20) (fun w58 K59 =>
  LdI .i64 (Addr.add a16 0) w58 fun x60 =>
  K59 (Value.int .i64 x60) w58)) ∧
  ∀ b61 : Nat,
  Ef (Cls.push D41 (b61, .cells #[(Value.string x28), (Value.string x32), (Value.string x36)] 9)) (fun w65 K64 =>
  CallR Try.prog 31 #[(Value.slice x48p x48n x48c), (Value.slice (some ⟨b61, 0, none⟩) 3 3)] w65 fun v67 w68 =>
  AsS v67 fun x69 =>
  K64 (Value.string x69) w68) fun v66 D63 =>
  AsS v66 fun x70 =>
  (Qt D63 (Value.int .i64 x20) (fun w71 K72 =>
  LdI .i64 (Addr.add a16 0) w71 fun x73 =>
  K72 (Value.int .i64 x73) w71)) ∧
  Ef D63 (fun w77 K76 =>
  CallR Try.prog 25 #[(Value.int .i64 x20), (Value.agg #[(Value.int .i64 3), (Value.string x70), (Value.string ⟨#[]⟩), (Value.int .i64 0), (Value.int .i64 0)])] w77 fun v79 w80 =>
  AsL v79 fun x81p x81n x81c =>
  K76 (Value.slice x81p x81n x81c) w80) fun v78 D75 =>
  AsL v78 fun x82p x82n x82c =>
  (True) ∧
  ∀ G83 w84, Cls.p D75 G83 w84 →
  R (Value.slice x82p x82n x82c) w84)
theorem F28_eq (a1 : Option Addr) (l2 : Option Addr) (m3 : Int) (m4 : ByteArray) (m5 : ByteArray) (m6 : Int) (m7 : Int) (_8 : Int) (w9 : World) (R : Value → World → Prop) : liftF Try.prog 28 (.step .nil .nil (.step .nil .nil (.step .nil .nil (.step .nil .nil (.draw [(0, false), (1, false), (2, false), (4, false), (5, false), (6, false), (7, false), (10, false), (11, false), (12, false), (13, false), (15, false), (16, false), (17, false), (18, false), (20, false), (3, false), (8, false), (14, false), (19, false), (21, false), (9, true), (22, false), (23, true), (24, false), (25, true), (26, false)] .nil))))) [(Value.pointer a1), (Value.pointer l2), (Value.agg #[(Value.int .i64 m3), (Value.string m4), (Value.string m5), (Value.int .i64 m6), (Value.int .i64 m7)]), (Value.int .i64 _8)] w9 R = F28 a1 l2 m3 m4 m5 m6 m7 _8 w9 R := by kernel_rfl
theorem F28_of {a1 : Option Addr} {l2 : Option Addr} {m3 : Int} {m4 : ByteArray} {m5 : ByteArray} {m6 : Int} {m7 : Int} {_8 : Int} {w9 : World} {R : Value → World → Prop} (h : F28 a1 l2 m3 m4 m5 m6 m7 _8 w9 R) : CallR Try.prog 28 #[(Value.pointer a1), (Value.pointer l2), (Value.agg #[(Value.int .i64 m3), (Value.string m4), (Value.string m5), (Value.int .i64 m6), (Value.int .i64 m7)]), (Value.int .i64 _8)] w9 R := callR_of_lift _ ((F28_eq a1 l2 m3 m4 m5 m6 m7 _8 w9 R).mpr h)

-- F29 subway/subwayref02.block
def F29 (h1 : Array Value) (b2p : Option Addr) (b2n : Nat) (b2c : Nat) (w3 : World) (R : Value → World → Prop) : Prop :=
  NewC h1 71 w3 fun b4 w5 =>
  NewC #[(Value.int .u32 0), (Value.int .u32 0), (Value.int .u32 0), (Value.int .u32 0), (Value.int .u32 0), (Value.int .u32 0), (Value.int .u32 0), (Value.int .u32 0)] 71 w5 fun b6 w7 =>
  CallR Try.prog 32 #[] w7 fun v8 w9 =>
  ∃ (x10 : Array Value), x10.size = 64 ∧ v8 = (Value.agg x10) ∧
  NewC #[(Value.int .u32 0), (Value.int .u32 0), (Value.int .u32 0), (Value.int .u32 0), (Value.int .u32 0), (Value.int .u32 0), (Value.int .u32 0), (Value.int .u32 0), (Value.int .u32 0), (Value.int .u32 0), (Value.int .u32 0), (Value.int .u32 0), (Value.int .u32 0), (Value.int .u32 0), (Value.int .u32 0), (Value.int .u32 0), (Value.int .u32 0), (Value.int .u32 0), (Value.int .u32 0), (Value.int .u32 0), (Value.int .u32 0), (Value.int .u32 0), (Value.int .u32 0), (Value.int .u32 0), (Value.int .u32 0), (Value.int .u32 0), (Value.int .u32 0), (Value.int .u32 0), (Value.int .u32 0), (Value.int .u32 0), (Value.int .u32 0), (Value.int .u32 0), (Value.int .u32 0), (Value.int .u32 0), (Value.int .u32 0), (Value.int .u32 0), (Value.int .u32 0), (Value.int .u32 0), (Value.int .u32 0), (Value.int .u32 0), (Value.int .u32 0), (Value.int .u32 0), (Value.int .u32 0), (Value.int .u32 0), (Value.int .u32 0), (Value.int .u32 0), (Value.int .u32 0), (Value.int .u32 0), (Value.int .u32 0), (Value.int .u32 0), (Value.int .u32 0), (Value.int .u32 0), (Value.int .u32 0), (Value.int .u32 0), (Value.int .u32 0), (Value.int .u32 0), (Value.int .u32 0), (Value.int .u32 0), (Value.int .u32 0), (Value.int .u32 0), (Value.int .u32 0), (Value.int .u32 0), (Value.int .u32 0), (Value.int .u32 0)] 74 w9 fun b11 w12 =>
  Array.size x10 = 64 ∧
  StA Try.prog ⟨b11, 0, none⟩ x10 w12 fun w13 =>
  CallR Try.prog 33 #[(Value.slice b2p b2n b2c)] w13 fun v14 w15 =>
  ∃ (x16 : Array Value), x16.size = 64 ∧ v14 = (Value.agg x16) ∧
  NewC #[(Value.int .u32 0), (Value.int .u32 0), (Value.int .u32 0), (Value.int .u32 0), (Value.int .u32 0), (Value.int .u32 0), (Value.int .u32 0), (Value.int .u32 0), (Value.int .u32 0), (Value.int .u32 0), (Value.int .u32 0), (Value.int .u32 0), (Value.int .u32 0), (Value.int .u32 0), (Value.int .u32 0), (Value.int .u32 0), (Value.int .u32 0), (Value.int .u32 0), (Value.int .u32 0), (Value.int .u32 0), (Value.int .u32 0), (Value.int .u32 0), (Value.int .u32 0), (Value.int .u32 0), (Value.int .u32 0), (Value.int .u32 0), (Value.int .u32 0), (Value.int .u32 0), (Value.int .u32 0), (Value.int .u32 0), (Value.int .u32 0), (Value.int .u32 0), (Value.int .u32 0), (Value.int .u32 0), (Value.int .u32 0), (Value.int .u32 0), (Value.int .u32 0), (Value.int .u32 0), (Value.int .u32 0), (Value.int .u32 0), (Value.int .u32 0), (Value.int .u32 0), (Value.int .u32 0), (Value.int .u32 0), (Value.int .u32 0), (Value.int .u32 0), (Value.int .u32 0), (Value.int .u32 0), (Value.int .u32 0), (Value.int .u32 0), (Value.int .u32 0), (Value.int .u32 0), (Value.int .u32 0), (Value.int .u32 0), (Value.int .u32 0), (Value.int .u32 0), (Value.int .u32 0), (Value.int .u32 0), (Value.int .u32 0), (Value.int .u32 0), (Value.int .u32 0), (Value.int .u32 0), (Value.int .u32 0), (Value.int .u32 0)] 74 w15 fun b17 w18 =>
  Array.size x16 = 64 ∧
  StA Try.prog ⟨b17, 0, none⟩ x16 w18 fun w19 =>
  LdA Try.prog 8 ⟨b4, 0, none⟩ w19 fun x20 =>
  NewC #[(Value.int .u32 0), (Value.int .u32 0), (Value.int .u32 0), (Value.int .u32 0), (Value.int .u32 0), (Value.int .u32 0), (Value.int .u32 0), (Value.int .u32 0)] 71 w19 fun b21 w22 =>
  Array.size x20 = 8 ∧
  StA Try.prog ⟨b21, 0, none⟩ x20 w22 fun w23 =>
  Lp fun I24 mu25 =>
  I24 [(Value.int .i64 0)] w23 ∧
  ∀ (t26 : Int), ∀ w27, I24 [(Value.int .i64 t26)] w27 →
  Bif (decide (t26 < 64)) (
  ∃ (C28 : Cls), Cls.p C28 [] w27 ∧
  IxP (some ⟨b21, 0, none⟩) 8 7 1 fun a29 =>
  IxP (some ⟨b21, 0, none⟩) 8 4 1 fun a30 =>
  IxP (some ⟨b21, 0, none⟩) 8 4 1 fun a31 =>
  IxP (some ⟨b21, 0, none⟩) 8 5 1 fun a32 =>
  IxP (some ⟨b21, 0, none⟩) 8 4 1 fun a33 =>
  IxP (some ⟨b21, 0, none⟩) 8 6 1 fun a34 =>
  IxP (some ⟨b11, 0, none⟩) 64 t26 1 fun a35 =>
  IxP (some ⟨b17, 0, none⟩) 64 t26 1 fun a36 =>
  ∃ (x37 : Int), Qt C28 (Value.int .u32 x37) (fun w38 K39 =>
  LdI .u32 a29 w38 fun x40 =>
  K39 (Value.int .u32 x40) w38) ∧
  ∃ (x41 : Int), Qt C28 (Value.int .u32 x41) (fun w42 K43 =>
  LdI .u32 a30 w42 fun x44 =>
  K43 (Value.int .u32 x44) w42) ∧
  ∃ (x45 : Int), Qt C28 (Value.int .u32 x45) (fun w46 K47 =>
  LdI .u32 a31 w46 fun x48 =>
  K47 (Value.int .u32 x48) w46) ∧
  ∃ (x49 : Int), Qt C28 (Value.int .u32 x49) (fun w50 K51 =>
  LdI .u32 a32 w50 fun x52 =>
  K51 (Value.int .u32 x52) w50) ∧
  ∃ (x53 : Int), Qt C28 (Value.int .u32 x53) (fun w54 K55 =>
  LdI .u32 a33 w54 fun x56 =>
  K55 (Value.int .u32 x56) w54) ∧
  ∃ (x57 : Int), Qt C28 (Value.int .u32 x57) (fun w58 K59 =>
  LdI .u32 a34 w58 fun x60 =>
  K59 (Value.int .u32 x60) w58) ∧
  ∃ (x61 : Int), Qt C28 (Value.int .u32 x61) (fun w62 K63 =>
  LdI .u32 a35 w62 fun x64 =>
  K63 (Value.int .u32 x64) w62) ∧
  ∃ (x65 : Int), Qt C28 (Value.int .u32 x65) (fun w66 K67 =>
  LdI .u32 a36 w66 fun x68 =>
  K67 (Value.int .u32 x68) w66) ∧
  Ef C28 (fun w72 K71 =>
  CallR Try.prog 34 #[(Value.int .u32 x41), (Value.int .i64 6), (Value.int .i64 11), (Value.int .i64 25)] w72 fun v74 w75 =>
  AsI .u32 v74 fun x76 =>
  K71 (Value.int .u32 x76) w75) fun v73 D70 =>
  AsI .u32 v73 fun x77 =>
  (Qt D70 (Value.int .u32 x65) (fun w78 K79 =>
  LdI .u32 a36 w78 fun x80 =>
  K79 (Value.int .u32 x80) w78) ∧
  Qt D70 (Value.int .u32 x61) (fun w81 K82 =>
  LdI .u32 a35 w81 fun x83 =>
  K82 (Value.int .u32 x83) w81) ∧
  Qt D70 (Value.int .u32 x57) (fun w84 K85 =>
  LdI .u32 a34 w84 fun x86 =>
  K85 (Value.int .u32 x86) w84) ∧
  Qt D70 (Value.int .u32 x53) (fun w87 K88 =>
  LdI .u32 a33 w87 fun x89 =>
  K88 (Value.int .u32 x89) w87) ∧
  Qt D70 (Value.int .u32 x49) (fun w90 K91 =>
  LdI .u32 a32 w90 fun x92 =>
  K91 (Value.int .u32 x92) w90) ∧
  Qt D70 (Value.int .u32 x45) (fun w93 K94 =>
  LdI .u32 a31 w93 fun x95 =>
  K94 (Value.int .u32 x95) w93) ∧
  Qt D70 (Value.int .u32 x37) (fun w96 K97 =>
  LdI .u32 a29 w96 fun x98 =>
  K97 (Value.int .u32 x98) w96)) ∧
  ∀ G99 w100, Cls.p D70 G99 w100 →
  ∃ (C101 : Cls), Cls.p C101 [] w100 ∧
  IxP (some ⟨b21, 0, none⟩) 8 0 1 fun a102 =>
  IxP (some ⟨b21, 0, none⟩) 8 0 1 fun a103 =>
  IxP (some ⟨b21, 0, none⟩) 8 1 1 fun a104 =>
  IxP (some ⟨b21, 0, none⟩) 8 0 1 fun a105 =>
  IxP (some ⟨b21, 0, none⟩) 8 2 1 fun a106 =>
  IxP (some ⟨b21, 0, none⟩) 8 1 1 fun a107 =>
  IxP (some ⟨b21, 0, none⟩) 8 2 1 fun a108 =>
  ∃ (x109 : Int), Qt C101 (Value.int .u32 x109) (fun w110 K111 =>
  LdI .u32 a102 w110 fun x112 =>
  K111 (Value.int .u32 x112) w110) ∧
  ∃ (x113 : Int), Qt C101 (Value.int .u32 x113) (fun w114 K115 =>
  LdI .u32 a103 w114 fun x116 =>
  K115 (Value.int .u32 x116) w114) ∧
  ∃ (x117 : Int), Qt C101 (Value.int .u32 x117) (fun w118 K119 =>
  LdI .u32 a104 w118 fun x120 =>
  K119 (Value.int .u32 x120) w118) ∧
  ∃ (x121 : Int), Qt C101 (Value.int .u32 x121) (fun w122 K123 =>
  LdI .u32 a105 w122 fun x124 =>
  K123 (Value.int .u32 x124) w122) ∧
  ∃ (x125 : Int), Qt C101 (Value.int .u32 x125) (fun w126 K127 =>
  LdI .u32 a106 w126 fun x128 =>
  K127 (Value.int .u32 x128) w126) ∧
  ∃ (x129 : Int), Qt C101 (Value.int .u32 x129) (fun w130 K131 =>
  LdI .u32 a107 w130 fun x132 =>
  K131 (Value.int .u32 x132) w130) ∧
  ∃ (x133 : Int), Qt C101 (Value.int .u32 x133) (fun w134 K135 =>
  LdI .u32 a108 w134 fun x136 =>
  K135 (Value.int .u32 x136) w134) ∧
  Ef C101 (fun w140 K139 =>
  CallR Try.prog 34 #[(Value.int .u32 x109), (Value.int .i64 2), (Value.int .i64 13), (Value.int .i64 22)] w140 fun v142 w143 =>
  AsI .u32 v142 fun x144 =>
  K139 (Value.int .u32 x144) w143) fun v141 D138 =>
  AsI .u32 v141 fun x145 =>
  (Qt D138 (Value.int .u32 x133) (fun w146 K147 =>
  LdI .u32 a108 w146 fun x148 =>
  K147 (Value.int .u32 x148) w146) ∧
  Qt D138 (Value.int .u32 x129) (fun w149 K150 =>
  LdI .u32 a107 w149 fun x151 =>
  K150 (Value.int .u32 x151) w149) ∧
  Qt D138 (Value.int .u32 x125) (fun w152 K153 =>
  LdI .u32 a106 w152 fun x154 =>
  K153 (Value.int .u32 x154) w152) ∧
  Qt D138 (Value.int .u32 x121) (fun w155 K156 =>
  LdI .u32 a105 w155 fun x157 =>
  K156 (Value.int .u32 x157) w155) ∧
  Qt D138 (Value.int .u32 x117) (fun w158 K159 =>
  LdI .u32 a104 w158 fun x160 =>
  K159 (Value.int .u32 x160) w158) ∧
  Qt D138 (Value.int .u32 x113) (fun w161 K162 =>
  LdI .u32 a103 w161 fun x163 =>
  K162 (Value.int .u32 x163) w161)) ∧
  ∀ G164 w165, Cls.p D138 G164 w165 →
  IxP (some ⟨b21, 0, none⟩) 8 0 1 fun a166 =>
  LdI .u32 a166 w165 fun x167 =>
  IxP (some ⟨b21, 0, none⟩) 8 1 1 fun a168 =>
  LdI .u32 a168 w165 fun x169 =>
  IxP (some ⟨b21, 0, none⟩) 8 2 1 fun a170 =>
  LdI .u32 a170 w165 fun x171 =>
  IxP (some ⟨b21, 0, none⟩) 8 3 1 fun a172 =>
  LdI .u32 a172 w165 fun x173 =>
  IxP (some ⟨b21, 0, none⟩) 8 4 1 fun a174 =>
  LdI .u32 a174 w165 fun x175 =>
  IxP (some ⟨b21, 0, none⟩) 8 5 1 fun a176 =>
  LdI .u32 a176 w165 fun x177 =>
  IxP (some ⟨b21, 0, none⟩) 8 6 1 fun a178 =>
  LdI .u32 a178 w165 fun x179 =>
  Array.size (#[(Value.int .u32 (IntKind.wrap .u32 ((IntKind.wrap .u32 ((IntKind.wrap .u32 ((IntKind.wrap .u32 ((IntKind.wrap .u32 (x37 + x77)) + (IntKind.wrap .u32 ↑((BitVec.ofInt (IntKind.bits .u32) (IntKind.wrap .u32 ↑((BitVec.ofInt (IntKind.bits .u32) x45 &&& BitVec.ofInt (IntKind.bits .u32) x49).toNat)) ^^^ BitVec.ofInt (IntKind.bits .u32) (IntKind.wrap .u32 ↑((BitVec.ofInt (IntKind.bits .u32) (IntKind.wrap .u32 ↑((BitVec.ofInt (IntKind.bits .u32) (if (IntKind.signed .u32) = true then -1 else IntKind.max .u32) ^^^ BitVec.ofInt (IntKind.bits .u32) x53).toNat)) &&& BitVec.ofInt (IntKind.bits .u32) x57).toNat))).toNat)))) + x61)) + x65)) + (IntKind.wrap .u32 (x145 + (IntKind.wrap .u32 ↑((BitVec.ofInt (IntKind.bits .u32) (IntKind.wrap .u32 ↑((BitVec.ofInt (IntKind.bits .u32) (IntKind.wrap .u32 ↑((BitVec.ofInt (IntKind.bits .u32) x113 &&& BitVec.ofInt (IntKind.bits .u32) x117).toNat)) ^^^ BitVec.ofInt (IntKind.bits .u32) (IntKind.wrap .u32 ↑((BitVec.ofInt (IntKind.bits .u32) x121 &&& BitVec.ofInt (IntKind.bits .u32) x125).toNat))).toNat)) ^^^ BitVec.ofInt (IntKind.bits .u32) (IntKind.wrap .u32 ↑((BitVec.ofInt (IntKind.bits .u32) x129 &&& BitVec.ofInt (IntKind.bits .u32) x133).toNat))).toNat))))))), (Value.int .u32 x167), (Value.int .u32 x169), (Value.int .u32 x171), (Value.int .u32 (IntKind.wrap .u32 (x173 + (IntKind.wrap .u32 ((IntKind.wrap .u32 ((IntKind.wrap .u32 ((IntKind.wrap .u32 (x37 + x77)) + (IntKind.wrap .u32 ↑((BitVec.ofInt (IntKind.bits .u32) (IntKind.wrap .u32 ↑((BitVec.ofInt (IntKind.bits .u32) x45 &&& BitVec.ofInt (IntKind.bits .u32) x49).toNat)) ^^^ BitVec.ofInt (IntKind.bits .u32) (IntKind.wrap .u32 ↑((BitVec.ofInt (IntKind.bits .u32) (IntKind.wrap .u32 ↑((BitVec.ofInt (IntKind.bits .u32) (if (IntKind.signed .u32) = true then -1 else IntKind.max .u32) ^^^ BitVec.ofInt (IntKind.bits .u32) x53).toNat)) &&& BitVec.ofInt (IntKind.bits .u32) x57).toNat))).toNat)))) + x61)) + x65))))), (Value.int .u32 x175), (Value.int .u32 x177), (Value.int .u32 x179)]) = 8 ∧
  StA Try.prog ⟨b21, 0, none⟩ (#[(Value.int .u32 (IntKind.wrap .u32 ((IntKind.wrap .u32 ((IntKind.wrap .u32 ((IntKind.wrap .u32 ((IntKind.wrap .u32 (x37 + x77)) + (IntKind.wrap .u32 ↑((BitVec.ofInt (IntKind.bits .u32) (IntKind.wrap .u32 ↑((BitVec.ofInt (IntKind.bits .u32) x45 &&& BitVec.ofInt (IntKind.bits .u32) x49).toNat)) ^^^ BitVec.ofInt (IntKind.bits .u32) (IntKind.wrap .u32 ↑((BitVec.ofInt (IntKind.bits .u32) (IntKind.wrap .u32 ↑((BitVec.ofInt (IntKind.bits .u32) (if (IntKind.signed .u32) = true then -1 else IntKind.max .u32) ^^^ BitVec.ofInt (IntKind.bits .u32) x53).toNat)) &&& BitVec.ofInt (IntKind.bits .u32) x57).toNat))).toNat)))) + x61)) + x65)) + (IntKind.wrap .u32 (x145 + (IntKind.wrap .u32 ↑((BitVec.ofInt (IntKind.bits .u32) (IntKind.wrap .u32 ↑((BitVec.ofInt (IntKind.bits .u32) (IntKind.wrap .u32 ↑((BitVec.ofInt (IntKind.bits .u32) x113 &&& BitVec.ofInt (IntKind.bits .u32) x117).toNat)) ^^^ BitVec.ofInt (IntKind.bits .u32) (IntKind.wrap .u32 ↑((BitVec.ofInt (IntKind.bits .u32) x121 &&& BitVec.ofInt (IntKind.bits .u32) x125).toNat))).toNat)) ^^^ BitVec.ofInt (IntKind.bits .u32) (IntKind.wrap .u32 ↑((BitVec.ofInt (IntKind.bits .u32) x129 &&& BitVec.ofInt (IntKind.bits .u32) x133).toNat))).toNat))))))), (Value.int .u32 x167), (Value.int .u32 x169), (Value.int .u32 x171), (Value.int .u32 (IntKind.wrap .u32 (x173 + (IntKind.wrap .u32 ((IntKind.wrap .u32 ((IntKind.wrap .u32 ((IntKind.wrap .u32 (x37 + x77)) + (IntKind.wrap .u32 ↑((BitVec.ofInt (IntKind.bits .u32) (IntKind.wrap .u32 ↑((BitVec.ofInt (IntKind.bits .u32) x45 &&& BitVec.ofInt (IntKind.bits .u32) x49).toNat)) ^^^ BitVec.ofInt (IntKind.bits .u32) (IntKind.wrap .u32 ↑((BitVec.ofInt (IntKind.bits .u32) (IntKind.wrap .u32 ↑((BitVec.ofInt (IntKind.bits .u32) (if (IntKind.signed .u32) = true then -1 else IntKind.max .u32) ^^^ BitVec.ofInt (IntKind.bits .u32) x53).toNat)) &&& BitVec.ofInt (IntKind.bits .u32) x57).toNat))).toNat)))) + x61)) + x65))))), (Value.int .u32 x175), (Value.int .u32 x177), (Value.int .u32 x179)]) w165 fun w180 =>
  I24 [(Value.int .i64 (IntKind.wrap .i64 (t26 + 1)))] w180 ∧ mu25 [(Value.int .i64 (IntKind.wrap .i64 (t26 + 1)))] w180 < mu25 [(Value.int .i64 t26)] w27) (
  Lp fun I181 mu182 =>
  I181 [(Value.int .i64 0)] w27 ∧
  ∀ (i183 : Int), ∀ w184, I181 [(Value.int .i64 i183)] w184 →
  Bif (decide (i183 < 8)) (
  ∃ (C185 : Cls), Cls.p C185 [] w184 ∧
  IxP (some ⟨b4, 0, none⟩) 8 i183 1 fun a186 =>
  IxP (some ⟨b21, 0, none⟩) 8 i183 1 fun a187 =>
  ∃ (x188 : Int), Qt C185 (Value.int .u32 x188) (fun w189 K190 =>
  LdI .u32 a186 w189 fun x191 =>
  K190 (Value.int .u32 x191) w189) ∧
  ∃ (x192 : Int), Qt C185 (Value.int .u32 x192) (fun w193 K194 =>
  LdI .u32 a187 w193 fun x195 =>
  K194 (Value.int .u32 x195) w193) ∧
  IxP (some ⟨b4, 0, none⟩) 8 i183 1 fun a196 =>
  Ef C185 (fun w199 K198 =>
  St1 a196 (Value.int .u32 (IntKind.wrap .u32 (x188 + x192))) w199 fun w201 =>
  K198 (Value.tuple #[]) w201) fun v200 D197 =>
  v200 = (Value.tuple #[]) ∧
  (True) ∧
  ∀ G202 w203, Cls.p D197 G202 w203 →
  I181 [(Value.int .i64 (IntKind.wrap .i64 (i183 + 1)))] w203 ∧ mu182 [(Value.int .i64 (IntKind.wrap .i64 (i183 + 1)))] w203 < mu182 [(Value.int .i64 i183)] w184) (
  LdA Try.prog 8 ⟨b4, 0, none⟩ w184 fun x204 =>
  Array.size x204 = 8 ∧
  StA Try.prog ⟨b6, 0, none⟩ x204 w184 fun w205 =>
  LdA Try.prog 8 ⟨b6, 0, none⟩ w205 fun res206 =>
  R (Value.agg res206) w205))
theorem F29_eq (h1 : Array Value) (b2p : Option Addr) (b2n : Nat) (b2c : Nat) (w3 : World) (R : Value → World → Prop) : liftF Try.prog 29 (.step .nil .nil (.step .nil .nil (.step .nil .nil (.step .nil .nil (.step .nil .nil (.step (.loop [(8, .b (.int .i64))] (.step .nil .nil (.step .nil .nil (.step (.draw [(0, false), (2, false), (6, false), (8, false), (11, false), (14, false), (19, false), (20, false), (23, false), (24, false), (1, false), (3, false), (7, false), (9, false), (10, false), (12, false), (13, false), (15, false), (16, false), (17, false), (21, false), (25, false), (4, true), (5, false), (18, false), (22, false), (26, false), (27, false)] (.draw [(0, false), (3, false), (5, false), (8, false), (10, false), (14, false), (16, false), (1, false), (4, false), (6, false), (7, false), (9, false), (11, false), (12, false), (13, false), (15, false), (17, false), (18, false), (19, false), (2, true), (20, false), (21, false)] .nil)) .nil .nil)))) .nil (.step .nil .nil (.step (.loop [(11, .b (.int .i64))] (.step .nil .nil (.step .nil .nil (.step (.draw [(0, false), (1, false), (2, false), (4, false), (5, false), (3, false), (6, false), (7, false), (8, false), (9, true)] .nil) .nil .nil)))) .nil .nil)))))))) [(Value.agg h1), (Value.slice b2p b2n b2c)] w3 R = F29 h1 b2p b2n b2c w3 R := by kernel_rfl
theorem F29_of {h1 : Array Value} {b2p : Option Addr} {b2n : Nat} {b2c : Nat} {w3 : World} {R : Value → World → Prop} (h : F29 h1 b2p b2n b2c w3 R) : CallR Try.prog 29 #[(Value.agg h1), (Value.slice b2p b2n b2c)] w3 R := callR_of_lift _ ((F29_eq h1 b2p b2n b2c w3 R).mpr h)

-- F30 (*subway/agent.Agent).welcome
def F30 (a1 : Option Addr) (l2 : Option Addr) (m3 : Int) (m4 : ByteArray) (m5 : ByteArray) (m6 : Int) (m7 : Int) (_8 : Int) (w9 : World) (R : Value → World → Prop) : Prop :=
  NewC #[(Value.int .i64 m3), (Value.string m4), (Value.string m5), (Value.int .i64 m6), (Value.int .i64 m7)] 32 w9 fun b10 w11 =>
  LdI .i64 (Addr.add ⟨b10, 0, none⟩ 0) w11 fun x12 =>
  Bif (x12 != 4) (
  R (Value.slice none 0 0) w11) (
  NilP l2 fun a13 =>
  St1 (Addr.add a13 3) (Value.bool true) w11 fun w14 =>
  NilP l2 fun a15 =>
  LdI .i64 (Addr.add a15 0) w14 fun x16 =>
  Bif (x16 == 0) (
  NilP l2 fun a17 =>
  NotAgg (Value.func (.func 35) #[(Value.pointer a1)] #[]) ∧
  St1 (Addr.add a17 2) (Value.func (.func 35) #[(Value.pointer a1)] #[]) w14 fun w18 =>
  CallR Try.prog 36 #[(Value.pointer a1)] w18 fun v19 w20 =>
  AsL v19 fun x21p x21n x21c =>
  R (Value.slice x21p x21n x21c) w20) (
  NilP l2 fun a22 =>
  NotAgg Value.nilFunc ∧
  St1 (Addr.add a22 2) Value.nilFunc w14 fun w23 =>
  ∃ (C24 : Cls), Cls.p C24 [] w23 ∧
  NilP l2 fun a25 =>
  NilP l2 fun a26 =>
  ∃ (x27 : Int), Qt C24 (Value.int .i64 x27) (fun w28 K29 =>
  LdI .i64 (Addr.add a25 0) w28 fun x30 =>
  K29 (Value.int .i64 x30) w28) ∧
  ∃ (x31 : ByteArray), Qt C24 (Value.string x31) (fun w32 K33 =>
  LdS (Addr.add a26 1) w32 fun x34 =>
  K33 (Value.string x34) w32) ∧
  Ef C24 (fun w38 K37 =>
  CallR Try.prog 25 #[(Value.int .i64 x27), (Value.agg #[(Value.int .i64 12), (Value.string ⟨#[]⟩), (Value.string x31), (Value.int .i64 0), (Value.int .i64 0)])] w38 fun v40 w41 =>
  AsL v40 fun x42p x42n x42c =>
  K37 (Value.slice x42p x42n x42c) w41) fun v39 D36 =>
  AsL v39 fun x43p x43n x43c =>
  (True) ∧
  ∀ G44 w45, Cls.p D36 G44 w45 →
  R (Value.slice x43p x43n x43c) w45))
theorem F30_eq (a1 : Option Addr) (l2 : Option Addr) (m3 : Int) (m4 : ByteArray) (m5 : ByteArray) (m6 : Int) (m7 : Int) (_8 : Int) (w9 : World) (R : Value → World → Prop) : liftF Try.prog 30 (.step .nil .nil (.step .nil .nil (.step .nil .nil (.step .nil .nil (.step .nil .nil (.step .nil .nil (.step .nil .nil (.draw [(0, false), (1, false), (2, false), (4, false), (5, false), (6, false), (3, false), (7, false), (8, false), (9, true), (10, false)] .nil)))))))) [(Value.pointer a1), (Value.pointer l2), (Value.agg #[(Value.int .i64 m3), (Value.string m4), (Value.string m5), (Value.int .i64 m6), (Value.int .i64 m7)]), (Value.int .i64 _8)] w9 R = F30 a1 l2 m3 m4 m5 m6 m7 _8 w9 R := by kernel_rfl
theorem F30_of {a1 : Option Addr} {l2 : Option Addr} {m3 : Int} {m4 : ByteArray} {m5 : ByteArray} {m6 : Int} {m7 : Int} {_8 : Int} {w9 : World} {R : Value → World → Prop} (h : F30 a1 l2 m3 m4 m5 m6 m7 _8 w9 R) : CallR Try.prog 30 #[(Value.pointer a1), (Value.pointer l2), (Value.agg #[(Value.int .i64 m3), (Value.string m4), (Value.string m5), (Value.int .i64 m6), (Value.int .i64 m7)]), (Value.int .i64 _8)] w9 R := callR_of_lift _ ((F30_eq a1 l2 m3 m4 m5 m6 m7 _8 w9 R).mpr h)

-- F31 subway/mac.Proof
def F31 (key1p : Option Addr) (key1n : Nat) (key1c : Nat) (words2p : Option Addr) (words2n : Nat) (words2c : Nat) (w3 : World) (R : Value → World → Prop) : Prop :=
  Lp fun I4 mu5 =>
  I4 [(Value.slice none 0 0), (Value.int .i64 0)] w3 ∧
  ∀ (b6p : Option Addr) (b6n : Nat) (b6c : Nat), ∀ (x7 : Int), ∀ w8, I4 [(Value.slice b6p b6n b6c), (Value.int .i64 x7)] w8 →
  Bif (decide (x7 < (words2n : Int))) (
  IxP words2p words2n x7 1 fun a9 =>
  LdS a9 w8 fun x10 =>
  Bif (decide ((x10.size : Int) > 255)) (
  R (Value.string ⟨#[]⟩) w8) (
  CallR Try.prog 37 #[(Value.string x10)] w8 fun v11 w12 =>
  AsL v11 fun x13p x13n x13c =>
  Run Try.prog (Builtin.append_ #[40, 40] 40 #[(Value.slice b6p b6n b6c), (Value.slice x13p x13n x13c)]) w12 fun v14 w15 =>
  AsL v14 fun x16p x16n x16c =>
  I4 [(Value.slice x16p x16n x16c), (Value.int .i64 (IntKind.wrap .i64 (x7 + 1)))] w15 ∧ mu5 [(Value.slice x16p x16n x16c), (Value.int .i64 (IntKind.wrap .i64 (x7 + 1)))] w15 < mu5 [(Value.slice b6p b6n b6c), (Value.int .i64 x7)] w8)) (
  CallR Try.prog 38 #[(Value.slice key1p key1n key1c), (Value.slice b6p b6n b6c)] w8 fun v17 w18 =>
  ∃ (x19 : Array Value), x19.size = 32 ∧ v17 = (Value.agg x19) ∧
  NewC #[(Value.int .u8 0), (Value.int .u8 0), (Value.int .u8 0), (Value.int .u8 0), (Value.int .u8 0), (Value.int .u8 0), (Value.int .u8 0), (Value.int .u8 0), (Value.int .u8 0), (Value.int .u8 0), (Value.int .u8 0), (Value.int .u8 0), (Value.int .u8 0), (Value.int .u8 0), (Value.int .u8 0), (Value.int .u8 0), (Value.int .u8 0), (Value.int .u8 0), (Value.int .u8 0), (Value.int .u8 0), (Value.int .u8 0), (Value.int .u8 0), (Value.int .u8 0), (Value.int .u8 0), (Value.int .u8 0), (Value.int .u8 0), (Value.int .u8 0), (Value.int .u8 0), (Value.int .u8 0), (Value.int .u8 0), (Value.int .u8 0), (Value.int .u8 0)] 57 w18 fun b20 w21 =>
  Array.size x19 = 32 ∧
  StA Try.prog ⟨b20, 0, none⟩ x19 w21 fun w22 =>
  SlP (some ⟨b20, 0, none⟩) 32 32 1 0 (32 : Int) fun x23p x23n x23c =>
  CallR Try.prog 39 #[(Value.slice x23p x23n x23c)] w22 fun v24 w25 =>
  AsS v24 fun x26 =>
  R (Value.string x26) w25)
theorem F31_eq (key1p : Option Addr) (key1n : Nat) (key1c : Nat) (words2p : Option Addr) (words2n : Nat) (words2c : Nat) (w3 : World) (R : Value → World → Prop) : liftF Try.prog 31 (.step .nil .nil (.step .nil .nil (.step .nil .nil (.step (.loop [(5, .b .slice), (11, .b (.int .i64))] .nil) .nil .nil)))) [(Value.slice key1p key1n key1c), (Value.slice words2p words2n words2c)] w3 R = F31 key1p key1n key1c words2p words2n words2c w3 R := by kernel_rfl
theorem F31_of {key1p : Option Addr} {key1n : Nat} {key1c : Nat} {words2p : Option Addr} {words2n : Nat} {words2c : Nat} {w3 : World} {R : Value → World → Prop} (h : F31 key1p key1n key1c words2p words2n words2c w3 R) : CallR Try.prog 31 #[(Value.slice key1p key1n key1c), (Value.slice words2p words2n words2c)] w3 R := callR_of_lift _ ((F31_eq key1p key1n key1c words2p words2n words2c w3 R).mpr h)

-- F32 subway/subwayref02.roots
def F32  (w1 : World) (R : Value → World → Prop) : Prop :=
  NewC #[(Value.int .u32 0), (Value.int .u32 0), (Value.int .u32 0), (Value.int .u32 0), (Value.int .u32 0), (Value.int .u32 0), (Value.int .u32 0), (Value.int .u32 0), (Value.int .u32 0), (Value.int .u32 0), (Value.int .u32 0), (Value.int .u32 0), (Value.int .u32 0), (Value.int .u32 0), (Value.int .u32 0), (Value.int .u32 0), (Value.int .u32 0), (Value.int .u32 0), (Value.int .u32 0), (Value.int .u32 0), (Value.int .u32 0), (Value.int .u32 0), (Value.int .u32 0), (Value.int .u32 0), (Value.int .u32 0), (Value.int .u32 0), (Value.int .u32 0), (Value.int .u32 0), (Value.int .u32 0), (Value.int .u32 0), (Value.int .u32 0), (Value.int .u32 0), (Value.int .u32 0), (Value.int .u32 0), (Value.int .u32 0), (Value.int .u32 0), (Value.int .u32 0), (Value.int .u32 0), (Value.int .u32 0), (Value.int .u32 0), (Value.int .u32 0), (Value.int .u32 0), (Value.int .u32 0), (Value.int .u32 0), (Value.int .u32 0), (Value.int .u32 0), (Value.int .u32 0), (Value.int .u32 0), (Value.int .u32 0), (Value.int .u32 0), (Value.int .u32 0), (Value.int .u32 0), (Value.int .u32 0), (Value.int .u32 0), (Value.int .u32 0), (Value.int .u32 0), (Value.int .u32 0), (Value.int .u32 0), (Value.int .u32 0), (Value.int .u32 0), (Value.int .u32 0), (Value.int .u32 0), (Value.int .u32 0), (Value.int .u32 0)] 74 w1 fun b2 w3 =>
  Array.size (#[(Value.int .u32 1116352408), (Value.int .u32 1899447441), (Value.int .u32 3049323471), (Value.int .u32 3921009573), (Value.int .u32 961987163), (Value.int .u32 1508970993), (Value.int .u32 2453635748), (Value.int .u32 2870763221), (Value.int .u32 3624381080), (Value.int .u32 310598401), (Value.int .u32 607225278), (Value.int .u32 1426881987), (Value.int .u32 1925078388), (Value.int .u32 2162078206), (Value.int .u32 2614888103), (Value.int .u32 3248222580), (Value.int .u32 3835390401), (Value.int .u32 4022224774), (Value.int .u32 264347078), (Value.int .u32 604807628), (Value.int .u32 770255983), (Value.int .u32 1249150122), (Value.int .u32 1555081692), (Value.int .u32 1996064986), (Value.int .u32 2554220882), (Value.int .u32 2821834349), (Value.int .u32 2952996808), (Value.int .u32 3210313671), (Value.int .u32 3336571891), (Value.int .u32 3584528711), (Value.int .u32 113926993), (Value.int .u32 338241895), (Value.int .u32 666307205), (Value.int .u32 773529912), (Value.int .u32 1294757372), (Value.int .u32 1396182291), (Value.int .u32 1695183700), (Value.int .u32 1986661051), (Value.int .u32 2177026350), (Value.int .u32 2456956037), (Value.int .u32 2730485921), (Value.int .u32 2820302411), (Value.int .u32 3259730800), (Value.int .u32 3345764771), (Value.int .u32 3516065817), (Value.int .u32 3600352804), (Value.int .u32 4094571909), (Value.int .u32 275423344), (Value.int .u32 430227734), (Value.int .u32 506948616), (Value.int .u32 659060556), (Value.int .u32 883997877), (Value.int .u32 958139571), (Value.int .u32 1322822218), (Value.int .u32 1537002063), (Value.int .u32 1747873779), (Value.int .u32 1955562222), (Value.int .u32 2024104815), (Value.int .u32 2227730452), (Value.int .u32 2361852424), (Value.int .u32 2428436474), (Value.int .u32 2756734187), (Value.int .u32 3204031479), (Value.int .u32 3329325298)]) = 64 ∧
  StA Try.prog ⟨b2, 0, none⟩ (#[(Value.int .u32 1116352408), (Value.int .u32 1899447441), (Value.int .u32 3049323471), (Value.int .u32 3921009573), (Value.int .u32 961987163), (Value.int .u32 1508970993), (Value.int .u32 2453635748), (Value.int .u32 2870763221), (Value.int .u32 3624381080), (Value.int .u32 310598401), (Value.int .u32 607225278), (Value.int .u32 1426881987), (Value.int .u32 1925078388), (Value.int .u32 2162078206), (Value.int .u32 2614888103), (Value.int .u32 3248222580), (Value.int .u32 3835390401), (Value.int .u32 4022224774), (Value.int .u32 264347078), (Value.int .u32 604807628), (Value.int .u32 770255983), (Value.int .u32 1249150122), (Value.int .u32 1555081692), (Value.int .u32 1996064986), (Value.int .u32 2554220882), (Value.int .u32 2821834349), (Value.int .u32 2952996808), (Value.int .u32 3210313671), (Value.int .u32 3336571891), (Value.int .u32 3584528711), (Value.int .u32 113926993), (Value.int .u32 338241895), (Value.int .u32 666307205), (Value.int .u32 773529912), (Value.int .u32 1294757372), (Value.int .u32 1396182291), (Value.int .u32 1695183700), (Value.int .u32 1986661051), (Value.int .u32 2177026350), (Value.int .u32 2456956037), (Value.int .u32 2730485921), (Value.int .u32 2820302411), (Value.int .u32 3259730800), (Value.int .u32 3345764771), (Value.int .u32 3516065817), (Value.int .u32 3600352804), (Value.int .u32 4094571909), (Value.int .u32 275423344), (Value.int .u32 430227734), (Value.int .u32 506948616), (Value.int .u32 659060556), (Value.int .u32 883997877), (Value.int .u32 958139571), (Value.int .u32 1322822218), (Value.int .u32 1537002063), (Value.int .u32 1747873779), (Value.int .u32 1955562222), (Value.int .u32 2024104815), (Value.int .u32 2227730452), (Value.int .u32 2361852424), (Value.int .u32 2428436474), (Value.int .u32 2756734187), (Value.int .u32 3204031479), (Value.int .u32 3329325298)]) w3 fun w4 =>
  LdA Try.prog 64 ⟨b2, 0, none⟩ w4 fun res5 =>
  R (Value.agg res5) w4
theorem F32_eq  (w1 : World) (R : Value → World → Prop) : liftF Try.prog 32 .nil [] w1 R = F32  w1 R := by kernel_rfl
theorem F32_of  {w1 : World} {R : Value → World → Prop} (h : F32  w1 R) : CallR Try.prog 32 #[] w1 R := callR_of_lift _ ((F32_eq  w1 R).mpr h)

-- F33 subway/subwayref02.schedule
def F33 (b1p : Option Addr) (b1n : Nat) (b1c : Nat) (w2 : World) (R : Value → World → Prop) : Prop :=
  NewC #[(Value.int .u32 0), (Value.int .u32 0), (Value.int .u32 0), (Value.int .u32 0), (Value.int .u32 0), (Value.int .u32 0), (Value.int .u32 0), (Value.int .u32 0), (Value.int .u32 0), (Value.int .u32 0), (Value.int .u32 0), (Value.int .u32 0), (Value.int .u32 0), (Value.int .u32 0), (Value.int .u32 0), (Value.int .u32 0), (Value.int .u32 0), (Value.int .u32 0), (Value.int .u32 0), (Value.int .u32 0), (Value.int .u32 0), (Value.int .u32 0), (Value.int .u32 0), (Value.int .u32 0), (Value.int .u32 0), (Value.int .u32 0), (Value.int .u32 0), (Value.int .u32 0), (Value.int .u32 0), (Value.int .u32 0), (Value.int .u32 0), (Value.int .u32 0), (Value.int .u32 0), (Value.int .u32 0), (Value.int .u32 0), (Value.int .u32 0), (Value.int .u32 0), (Value.int .u32 0), (Value.int .u32 0), (Value.int .u32 0), (Value.int .u32 0), (Value.int .u32 0), (Value.int .u32 0), (Value.int .u32 0), (Value.int .u32 0), (Value.int .u32 0), (Value.int .u32 0), (Value.int .u32 0), (Value.int .u32 0), (Value.int .u32 0), (Value.int .u32 0), (Value.int .u32 0), (Value.int .u32 0), (Value.int .u32 0), (Value.int .u32 0), (Value.int .u32 0), (Value.int .u32 0), (Value.int .u32 0), (Value.int .u32 0), (Value.int .u32 0), (Value.int .u32 0), (Value.int .u32 0), (Value.int .u32 0), (Value.int .u32 0)] 74 w2 fun b3 w4 =>
  NewC #[(Value.int .u32 0), (Value.int .u32 0), (Value.int .u32 0), (Value.int .u32 0), (Value.int .u32 0), (Value.int .u32 0), (Value.int .u32 0), (Value.int .u32 0), (Value.int .u32 0), (Value.int .u32 0), (Value.int .u32 0), (Value.int .u32 0), (Value.int .u32 0), (Value.int .u32 0), (Value.int .u32 0), (Value.int .u32 0), (Value.int .u32 0), (Value.int .u32 0), (Value.int .u32 0), (Value.int .u32 0), (Value.int .u32 0), (Value.int .u32 0), (Value.int .u32 0), (Value.int .u32 0), (Value.int .u32 0), (Value.int .u32 0), (Value.int .u32 0), (Value.int .u32 0), (Value.int .u32 0), (Value.int .u32 0), (Value.int .u32 0), (Value.int .u32 0), (Value.int .u32 0), (Value.int .u32 0), (Value.int .u32 0), (Value.int .u32 0), (Value.int .u32 0), (Value.int .u32 0), (Value.int .u32 0), (Value.int .u32 0), (Value.int .u32 0), (Value.int .u32 0), (Value.int .u32 0), (Value.int .u32 0), (Value.int .u32 0), (Value.int .u32 0), (Value.int .u32 0), (Value.int .u32 0), (Value.int .u32 0), (Value.int .u32 0), (Value.int .u32 0), (Value.int .u32 0), (Value.int .u32 0), (Value.int .u32 0), (Value.int .u32 0), (Value.int .u32 0), (Value.int .u32 0), (Value.int .u32 0), (Value.int .u32 0), (Value.int .u32 0), (Value.int .u32 0), (Value.int .u32 0), (Value.int .u32 0), (Value.int .u32 0)] 74 w4 fun b5 w6 =>
  Lp fun I7 mu8 =>
  I7 [(Value.int .i64 0)] w6 ∧
  ∀ (t9 : Int), ∀ w10, I7 [(Value.int .i64 t9)] w10 →
  Bif (decide (t9 < 64)) (
  Bif (decide (t9 < 16)) (
  ∃ (C11 : Cls), Cls.p C11 [] w10 ∧
  IxP b1p b1n (IntKind.wrap .i64 (4 * t9)) 1 fun a12 =>
  IxP b1p b1n (IntKind.wrap .i64 ((IntKind.wrap .i64 (4 * t9)) + 1)) 1 fun a13 =>
  IxP b1p b1n (IntKind.wrap .i64 ((IntKind.wrap .i64 (4 * t9)) + 2)) 1 fun a14 =>
  IxP b1p b1n (IntKind.wrap .i64 ((IntKind.wrap .i64 (4 * t9)) + 3)) 1 fun a15 =>
  ∃ (x16 : Int), Qt C11 (Value.int .u8 x16) (fun w17 K18 =>
  LdI .u8 a12 w17 fun x19 =>
  K18 (Value.int .u8 x19) w17) ∧
  ShK 24 (
  ∃ (x20 : Int), Qt C11 (Value.int .u8 x20) (fun w21 K22 =>
  LdI .u8 a13 w21 fun x23 =>
  K22 (Value.int .u8 x23) w21) ∧
  ShK 16 (
  ∃ (x24 : Int), Qt C11 (Value.int .u8 x24) (fun w25 K26 =>
  LdI .u8 a14 w25 fun x27 =>
  K26 (Value.int .u8 x27) w25) ∧
  ShK 8 (
  ∃ (x28 : Int), Qt C11 (Value.int .u8 x28) (fun w29 K30 =>
  LdI .u8 a15 w29 fun x31 =>
  K30 (Value.int .u8 x31) w29) ∧
  IxP (some ⟨b5, 0, none⟩) 64 t9 1 fun a32 =>
  Ef C11 (fun w35 K34 =>
  St1 a32 (Value.int .u32 (IntKind.wrap .u32 ↑((BitVec.ofInt (IntKind.bits .u32) (IntKind.wrap .u32 ↑((BitVec.ofInt (IntKind.bits .u32) (IntKind.wrap .u32 ↑((BitVec.ofInt (IntKind.bits .u32) (IntKind.wrap .u32 ((IntKind.wrap .u32 x16) * 2 ^ min (Int.toNat 24) (IntKind.bits .u32))) ||| BitVec.ofInt (IntKind.bits .u32) (IntKind.wrap .u32 ((IntKind.wrap .u32 x20) * 2 ^ min (Int.toNat 16) (IntKind.bits .u32)))).toNat)) ||| BitVec.ofInt (IntKind.bits .u32) (IntKind.wrap .u32 ((IntKind.wrap .u32 x24) * 2 ^ min (Int.toNat 8) (IntKind.bits .u32)))).toNat)) ||| BitVec.ofInt (IntKind.bits .u32) (IntKind.wrap .u32 x28)).toNat))) w35 fun w37 =>
  K34 (Value.tuple #[]) w37) fun v36 D33 =>
  v36 = (Value.tuple #[]) ∧
  (True) ∧
  ∀ G38 w39, Cls.p D33 G38 w39 →
  I7 [(Value.int .i64 (IntKind.wrap .i64 (t9 + 1)))] w39 ∧ mu8 [(Value.int .i64 (IntKind.wrap .i64 (t9 + 1)))] w39 < mu8 [(Value.int .i64 t9)] w10)))) (
  ∃ (C40 : Cls), Cls.p C40 [] w10 ∧
  IxP (some ⟨b5, 0, none⟩) 64 (IntKind.wrap .i64 (t9 - 2)) 1 fun a41 =>
  IxP (some ⟨b5, 0, none⟩) 64 (IntKind.wrap .i64 (t9 - 7)) 1 fun a42 =>
  IxP (some ⟨b5, 0, none⟩) 64 (IntKind.wrap .i64 (t9 - 15)) 1 fun a43 =>
  IxP (some ⟨b5, 0, none⟩) 64 (IntKind.wrap .i64 (t9 - 16)) 1 fun a44 =>
  ∃ (x45 : Int), Qt C40 (Value.int .u32 x45) (fun w46 K47 =>
  LdI .u32 a41 w46 fun x48 =>
  K47 (Value.int .u32 x48) w46) ∧
  ∃ (x49 : Int), Qt C40 (Value.int .u32 x49) (fun w50 K51 =>
  LdI .u32 a42 w50 fun x52 =>
  K51 (Value.int .u32 x52) w50) ∧
  ∃ (x53 : Int), Qt C40 (Value.int .u32 x53) (fun w54 K55 =>
  LdI .u32 a43 w54 fun x56 =>
  K55 (Value.int .u32 x56) w54) ∧
  ∃ (x57 : Int), Qt C40 (Value.int .u32 x57) (fun w58 K59 =>
  LdI .u32 a44 w58 fun x60 =>
  K59 (Value.int .u32 x60) w58) ∧
  Ef C40 (fun w64 K63 =>
  CallR Try.prog 40 #[(Value.int .u32 x45), (Value.int .i64 17), (Value.int .i64 19), (Value.int .i64 10)] w64 fun v66 w67 =>
  AsI .u32 v66 fun x68 =>
  K63 (Value.int .u32 x68) w67) fun v65 D62 =>
  AsI .u32 v65 fun x69 =>
  (Qt D62 (Value.int .u32 x57) (fun w70 K71 =>
  LdI .u32 a44 w70 fun x72 =>
  K71 (Value.int .u32 x72) w70) ∧
  Qt D62 (Value.int .u32 x53) (fun w73 K74 =>
  LdI .u32 a43 w73 fun x75 =>
  K74 (Value.int .u32 x75) w73) ∧
  Qt D62 (Value.int .u32 x49) (fun w76 K77 =>
  LdI .u32 a42 w76 fun x78 =>
  K77 (Value.int .u32 x78) w76)) ∧
  Ef D62 (fun w82 K81 =>
  CallR Try.prog 40 #[(Value.int .u32 x53), (Value.int .i64 7), (Value.int .i64 18), (Value.int .i64 3)] w82 fun v84 w85 =>
  AsI .u32 v84 fun x86 =>
  K81 (Value.int .u32 x86) w85) fun v83 D80 =>
  AsI .u32 v83 fun x87 =>
  (Qt D80 (Value.int .u32 x57) (fun w88 K89 =>
  LdI .u32 a44 w88 fun x90 =>
  K89 (Value.int .u32 x90) w88) ∧
  Qt D80 (Value.int .u32 x49) (fun w91 K92 =>
  LdI .u32 a42 w91 fun x93 =>
  K92 (Value.int .u32 x93) w91)) ∧
  IxP (some ⟨b5, 0, none⟩) 64 t9 1 fun a94 =>
  Ef D80 (fun w97 K96 =>
  St1 a94 (Value.int .u32 (IntKind.wrap .u32 ((IntKind.wrap .u32 ((IntKind.wrap .u32 (x69 + x49)) + x87)) + x57))) w97 fun w99 =>
  K96 (Value.tuple #[]) w99) fun v98 D95 =>
  v98 = (Value.tuple #[]) ∧
  (True) ∧
  ∀ G100 w101, Cls.p D95 G100 w101 →
  I7 [(Value.int .i64 (IntKind.wrap .i64 (t9 + 1)))] w101 ∧ mu8 [(Value.int .i64 (IntKind.wrap .i64 (t9 + 1)))] w101 < mu8 [(Value.int .i64 t9)] w10)) (
  LdA Try.prog 64 ⟨b5, 0, none⟩ w10 fun x102 =>
  Array.size x102 = 64 ∧
  StA Try.prog ⟨b3, 0, none⟩ x102 w10 fun w103 =>
  LdA Try.prog 64 ⟨b3, 0, none⟩ w103 fun res104 =>
  R (Value.agg res104) w103)
theorem F33_eq (b1p : Option Addr) (b1n : Nat) (b1c : Nat) (w2 : World) (R : Value → World → Prop) : liftF Try.prog 33 (.step .nil .nil (.step .nil .nil (.step .nil .nil (.step (.loop [(4, .b (.int .i64))] (.step .nil .nil (.step .nil .nil (.step (.step .nil .nil (.step (.draw [(0, false), (1, false), (2, false), (3, false), (4, false), (8, false), (9, false), (10, false), (11, false), (12, false), (17, false), (18, false), (19, false), (20, false), (21, false), (26, false), (27, false), (28, false), (29, false), (30, false), (5, false), (6, false), (7, false), (13, false), (14, false), (15, false), (16, false), (22, false), (23, false), (24, false), (25, false), (31, false), (32, false), (33, false), (34, false), (35, true)] .nil) (.draw [(0, false), (1, false), (2, false), (3, false), (6, false), (7, false), (8, false), (11, false), (12, false), (13, false), (17, false), (18, false), (19, false), (4, false), (9, false), (14, false), (20, false), (5, true), (10, false), (15, true), (16, false), (21, false), (22, false), (23, true)] .nil) .nil)) .nil .nil)))) .nil .nil)))) [(Value.slice b1p b1n b1c)] w2 R = F33 b1p b1n b1c w2 R := by kernel_rfl
theorem F33_of {b1p : Option Addr} {b1n : Nat} {b1c : Nat} {w2 : World} {R : Value → World → Prop} (h : F33 b1p b1n b1c w2 R) : CallR Try.prog 33 #[(Value.slice b1p b1n b1c)] w2 R := callR_of_lift _ ((F33_eq b1p b1n b1c w2 R).mpr h)

-- F34 subway/subwayref02.great
def F34 (x1 : Int) (a2 : Int) (b3 : Int) (c4 : Int) (w5 : World) (R : Value → World → Prop) : Prop :=
  CallR Try.prog 41 #[(Value.int .u32 x1), (Value.int .i64 a2)] w5 fun v6 w7 =>
  AsI .u32 v6 fun x8 =>
  CallR Try.prog 41 #[(Value.int .u32 x1), (Value.int .i64 b3)] w7 fun v9 w10 =>
  AsI .u32 v9 fun x11 =>
  CallR Try.prog 41 #[(Value.int .u32 x1), (Value.int .i64 c4)] w10 fun v12 w13 =>
  AsI .u32 v12 fun x14 =>
  R (Value.int .u32 (IntKind.wrap .u32 ↑((BitVec.ofInt (IntKind.bits .u32) (IntKind.wrap .u32 ↑((BitVec.ofInt (IntKind.bits .u32) x8 ^^^ BitVec.ofInt (IntKind.bits .u32) x11).toNat)) ^^^ BitVec.ofInt (IntKind.bits .u32) x14).toNat))) w13
theorem F34_eq (x1 : Int) (a2 : Int) (b3 : Int) (c4 : Int) (w5 : World) (R : Value → World → Prop) : liftF Try.prog 34 .nil [(Value.int .u32 x1), (Value.int .i64 a2), (Value.int .i64 b3), (Value.int .i64 c4)] w5 R = F34 x1 a2 b3 c4 w5 R := by kernel_rfl
theorem F34_of {x1 : Int} {a2 : Int} {b3 : Int} {c4 : Int} {w5 : World} {R : Value → World → Prop} (h : F34 x1 a2 b3 c4 w5 R) : CallR Try.prog 34 #[(Value.int .u32 x1), (Value.int .i64 a2), (Value.int .i64 b3), (Value.int .i64 c4)] w5 R := callR_of_lift _ ((F34_eq x1 a2 b3 c4 w5 R).mpr h)

-- F35 (*subway/agent.Agent).called
def F35 (a1 : Option Addr) (_2 : Option Addr) (m3 : Int) (m4 : ByteArray) (m5 : ByteArray) (m6 : Int) (m7 : Int) (now8 : Int) (w9 : World) (R : Value → World → Prop) : Prop :=
  NewC #[(Value.int .i64 m3), (Value.string m4), (Value.string m5), (Value.int .i64 m6), (Value.int .i64 m7)] 32 w9 fun b10 w11 =>
  ∃ (C12 : Cls), Cls.p C12 [] w11 ∧
  NilP a1 fun a13 =>
  ∃ (x14 : ByteArray), Qt C12 (Value.string x14) (fun w15 K16 =>
  LdS (Addr.add ⟨b10, 0, none⟩ 1) w15 fun x17 =>
  K16 (Value.string x17) w15) ∧
  ∃ (x18 : ByteArray), Qt C12 (Value.string x18) (fun w19 K20 =>
  LdS (Addr.add (Addr.add a13 0) 3) w19 fun x21 =>
  K20 (Value.string x21) w19) ∧
  ∀ G22 w23, Cls.p C12 G22 w23 →
  Bif (ByteArray.toList x14 == ByteArray.toList x18) (
  LdI .i64 (Addr.add ⟨b10, 0, none⟩ 0) w23 fun x24 =>
  Bif (x24 == 7) (
  ∃ (C25 : Cls), Cls.p C25 [] w23 ∧
  NilP a1 fun a26 =>
  ∃ (x27 : Int), Qt C25 (Value.int .i64 x27) (fun w28 K29 =>
  LdI .i64 (Addr.add ⟨b10, 0, none⟩ 3) w28 fun x30 =>
  K29 (Value.int .i64 x30) w28) ∧
  Ef C25 (fun w33 K32 =>
  St1 (Addr.add a26 7) (Value.bool true) w33 fun w35 =>
  K32 (Value.tuple #[]) w35) fun v34 D31 =>
  v34 = (Value.tuple #[]) ∧
  (Qt D31 (Value.int .i64 x27) (fun w36 K37 =>
  LdI .i64 (Addr.add ⟨b10, 0, none⟩ 3) w36 fun x38 =>
  K37 (Value.int .i64 x38) w36)) ∧
  NilP a1 fun a39 =>
  Ef D31 (fun w42 K41 =>
  St1 (Addr.add a39 8) (Value.int .i64 x27) w42 fun w44 =>
  K41 (Value.tuple #[]) w44) fun v43 D40 =>
  v43 = (Value.tuple #[]) ∧
  (True) ∧
  NilP a1 fun a45 =>
  Ef D40 (fun w48 K47 =>
  St1 (Addr.add a45 9) (Value.int .i64 now8) w48 fun w50 =>
  K47 (Value.tuple #[]) w50) fun v49 D46 =>
  v49 = (Value.tuple #[]) ∧
  (True) ∧
  ∀ G51 w52, Cls.p D46 G51 w52 →
  R (Value.slice none 0 0) w52) (
  ∃ (C53 : Cls), Cls.p C53 [] w23 ∧
  Bif (ByteArray.toList x14 == ByteArray.toList x18) (
  ∃ (x54 : Int), Qt C53 (Value.int .i64 x54) (fun w55 K56 =>
  LdI .i64 (Addr.add ⟨b10, 0, none⟩ 0) w55 fun x57 =>
  K56 (Value.int .i64 x57) w55) ∧
  Bif (x54 == 10) (
  NilP a1 fun a58 =>
  ∃ (x59 : Bool), Qt C53 (Value.bool x59) (fun w60 K61 =>
  LdB (Addr.add a58 7) w60 fun x62 =>
  K61 (Value.bool x62) w60) ∧
  Bif x59 (
  NilP a1 fun a63 =>
  ∃ (x64 : Int), Qt C53 (Value.int .i64 x64) (fun w65 K66 =>
  LdI .i64 (Addr.add ⟨b10, 0, none⟩ 3) w65 fun x67 =>
  K66 (Value.int .i64 x67) w65) ∧
  ∃ (x68 : Int), Qt C53 (Value.int .i64 x68) (fun w69 K70 =>
  LdI .i64 (Addr.add a63 8) w69 fun x71 =>
  K70 (Value.int .i64 x71) w69) ∧
  ∀ G72 w73, Cls.p C53 G72 w73 →
  Bif (x64 == x68) (
  NilP a1 fun a74 =>
  St1 (Addr.add a74 7) (Value.bool false) w73 fun w75 =>
  NilP a1 fun a76 =>
  St1 (Addr.add a76 8) (Value.int .i64 0) w75 fun w77 =>
  CallR Try.prog 36 #[(Value.pointer a1)] w77 fun v78 w79 =>
  AsL v78 fun x80p x80n x80c =>
  R (Value.slice x80p x80n x80c) w79) (
  Bif (ByteArray.toList x14 == ByteArray.toList x18) (
  LdI .i64 (Addr.add ⟨b10, 0, none⟩ 0) w73 fun x81 =>
  Bif (x81 == 11) (
  NilP a1 fun a82 =>
  LdI .i64 (Addr.add a82 10) w73 fun x83 =>
  Bif (decide (x83 < 1000)) (
  NilP a1 fun a84 =>
  LdI .i64 (Addr.add a84 10) w73 fun x85 =>
  NilP a1 fun a86 =>
  St1 (Addr.add a86 10) (Value.int .i64 (IntKind.wrap .i64 (x85 + 1))) w73 fun w87 =>
  ∃ (C88 : Cls), Cls.p C88 [] w87 ∧
  NilP a1 fun a89 =>
  ∃ (x90 : Int), Qt C88 (Value.int .i64 x90) (fun w91 K92 =>
  LdI .i64 (Addr.add a89 10) w91 fun x93 =>
  K92 (Value.int .i64 x93) w91) ∧
  ∃ (x94 : ByteArray), Qt C88 (Value.string x94) (fun w95 K96 =>
  LdS (Addr.add ⟨b10, 0, none⟩ 2) w95 fun x97 =>
  K96 (Value.string x97) w95) ∧
  Ef C88 (fun w101 K100 =>
  CallR Try.prog 23 #[(Value.pointer a1), (Value.int .i64 (IntKind.wrap .i64 (x90 - 1))), (Value.string x94)] w101 fun v103 w104 =>
  AsL v103 fun x105p x105n x105c =>
  K100 (Value.slice x105p x105n x105c) w104) fun v102 D99 =>
  AsL v102 fun x106p x106n x106c =>
  (True) ∧
  ∀ G107 w108, Cls.p D99 G107 w108 →
  R (Value.slice x106p x106n x106c) w108) (
  R (Value.slice none 0 0) w73)) (
  R (Value.slice none 0 0) w73)) (
  R (Value.slice none 0 0) w73))) (
  ∀ G109 w110, Cls.p C53 G109 w110 →
  Bif (ByteArray.toList x14 == ByteArray.toList x18) (
  LdI .i64 (Addr.add ⟨b10, 0, none⟩ 0) w110 fun x111 =>
  Bif (x111 == 11) (
  NilP a1 fun a112 =>
  LdI .i64 (Addr.add a112 10) w110 fun x113 =>
  Bif (decide (x113 < 1000)) (
  NilP a1 fun a114 =>
  LdI .i64 (Addr.add a114 10) w110 fun x115 =>
  NilP a1 fun a116 =>
  St1 (Addr.add a116 10) (Value.int .i64 (IntKind.wrap .i64 (x115 + 1))) w110 fun w117 =>
  ∃ (C118 : Cls), Cls.p C118 [] w117 ∧
  NilP a1 fun a119 =>
  ∃ (x120 : Int), Qt C118 (Value.int .i64 x120) (fun w121 K122 =>
  LdI .i64 (Addr.add a119 10) w121 fun x123 =>
  K122 (Value.int .i64 x123) w121) ∧
  ∃ (x124 : ByteArray), Qt C118 (Value.string x124) (fun w125 K126 =>
  LdS (Addr.add ⟨b10, 0, none⟩ 2) w125 fun x127 =>
  K126 (Value.string x127) w125) ∧
  Ef C118 (fun w131 K130 =>
  CallR Try.prog 23 #[(Value.pointer a1), (Value.int .i64 (IntKind.wrap .i64 (x120 - 1))), (Value.string x124)] w131 fun v133 w134 =>
  AsL v133 fun x135p x135n x135c =>
  K130 (Value.slice x135p x135n x135c) w134) fun v132 D129 =>
  AsL v132 fun x136p x136n x136c =>
  (True) ∧
  ∀ G137 w138, Cls.p D129 G137 w138 →
  R (Value.slice x136p x136n x136c) w138) (
  R (Value.slice none 0 0) w110)) (
  R (Value.slice none 0 0) w110)) (
  R (Value.slice none 0 0) w110))) (
  ∀ G139 w140, Cls.p C53 G139 w140 →
  Bif (ByteArray.toList x14 == ByteArray.toList x18) (
  LdI .i64 (Addr.add ⟨b10, 0, none⟩ 0) w140 fun x141 =>
  Bif (x141 == 11) (
  NilP a1 fun a142 =>
  LdI .i64 (Addr.add a142 10) w140 fun x143 =>
  Bif (decide (x143 < 1000)) (
  NilP a1 fun a144 =>
  LdI .i64 (Addr.add a144 10) w140 fun x145 =>
  NilP a1 fun a146 =>
  St1 (Addr.add a146 10) (Value.int .i64 (IntKind.wrap .i64 (x145 + 1))) w140 fun w147 =>
  ∃ (C148 : Cls), Cls.p C148 [] w147 ∧
  NilP a1 fun a149 =>
  ∃ (x150 : Int), Qt C148 (Value.int .i64 x150) (fun w151 K152 =>
  LdI .i64 (Addr.add a149 10) w151 fun x153 =>
  K152 (Value.int .i64 x153) w151) ∧
  ∃ (x154 : ByteArray), Qt C148 (Value.string x154) (fun w155 K156 =>
  LdS (Addr.add ⟨b10, 0, none⟩ 2) w155 fun x157 =>
  K156 (Value.string x157) w155) ∧
  Ef C148 (fun w161 K160 =>
  CallR Try.prog 23 #[(Value.pointer a1), (Value.int .i64 (IntKind.wrap .i64 (x150 - 1))), (Value.string x154)] w161 fun v163 w164 =>
  AsL v163 fun x165p x165n x165c =>
  K160 (Value.slice x165p x165n x165c) w164) fun v162 D159 =>
  AsL v162 fun x166p x166n x166c =>
  (True) ∧
  ∀ G167 w168, Cls.p D159 G167 w168 →
  R (Value.slice x166p x166n x166c) w168) (
  R (Value.slice none 0 0) w140)) (
  R (Value.slice none 0 0) w140)) (
  R (Value.slice none 0 0) w140))) (
  ∀ G169 w170, Cls.p C53 G169 w170 →
  Bif (ByteArray.toList x14 == ByteArray.toList x18) (
  LdI .i64 (Addr.add ⟨b10, 0, none⟩ 0) w170 fun x171 =>
  Bif (x171 == 11) (
  NilP a1 fun a172 =>
  LdI .i64 (Addr.add a172 10) w170 fun x173 =>
  Bif (decide (x173 < 1000)) (
  NilP a1 fun a174 =>
  LdI .i64 (Addr.add a174 10) w170 fun x175 =>
  NilP a1 fun a176 =>
  St1 (Addr.add a176 10) (Value.int .i64 (IntKind.wrap .i64 (x175 + 1))) w170 fun w177 =>
  ∃ (C178 : Cls), Cls.p C178 [] w177 ∧
  NilP a1 fun a179 =>
  ∃ (x180 : Int), Qt C178 (Value.int .i64 x180) (fun w181 K182 =>
  LdI .i64 (Addr.add a179 10) w181 fun x183 =>
  K182 (Value.int .i64 x183) w181) ∧
  ∃ (x184 : ByteArray), Qt C178 (Value.string x184) (fun w185 K186 =>
  LdS (Addr.add ⟨b10, 0, none⟩ 2) w185 fun x187 =>
  K186 (Value.string x187) w185) ∧
  Ef C178 (fun w191 K190 =>
  CallR Try.prog 23 #[(Value.pointer a1), (Value.int .i64 (IntKind.wrap .i64 (x180 - 1))), (Value.string x184)] w191 fun v193 w194 =>
  AsL v193 fun x195p x195n x195c =>
  K190 (Value.slice x195p x195n x195c) w194) fun v192 D189 =>
  AsL v192 fun x196p x196n x196c =>
  (True) ∧
  ∀ G197 w198, Cls.p D189 G197 w198 →
  R (Value.slice x196p x196n x196c) w198) (
  R (Value.slice none 0 0) w170)) (
  R (Value.slice none 0 0) w170)) (
  R (Value.slice none 0 0) w170)))) (
  ∃ (C199 : Cls), Cls.p C199 [] w23 ∧
  Bif (ByteArray.toList x14 == ByteArray.toList x18) (
  ∃ (x200 : Int), Qt C199 (Value.int .i64 x200) (fun w201 K202 =>
  LdI .i64 (Addr.add ⟨b10, 0, none⟩ 0) w201 fun x203 =>
  K202 (Value.int .i64 x203) w201) ∧
  Bif (x200 == 10) (
  NilP a1 fun a204 =>
  ∃ (x205 : Bool), Qt C199 (Value.bool x205) (fun w206 K207 =>
  LdB (Addr.add a204 7) w206 fun x208 =>
  K207 (Value.bool x208) w206) ∧
  Bif x205 (
  NilP a1 fun a209 =>
  ∃ (x210 : Int), Qt C199 (Value.int .i64 x210) (fun w211 K212 =>
  LdI .i64 (Addr.add ⟨b10, 0, none⟩ 3) w211 fun x213 =>
  K212 (Value.int .i64 x213) w211) ∧
  ∃ (x214 : Int), Qt C199 (Value.int .i64 x214) (fun w215 K216 =>
  LdI .i64 (Addr.add a209 8) w215 fun x217 =>
  K216 (Value.int .i64 x217) w215) ∧
  ∀ G218 w219, Cls.p C199 G218 w219 →
  Bif (x210 == x214) (
  NilP a1 fun a220 =>
  St1 (Addr.add a220 7) (Value.bool false) w219 fun w221 =>
  NilP a1 fun a222 =>
  St1 (Addr.add a222 8) (Value.int .i64 0) w221 fun w223 =>
  CallR Try.prog 36 #[(Value.pointer a1)] w223 fun v224 w225 =>
  AsL v224 fun x226p x226n x226c =>
  R (Value.slice x226p x226n x226c) w225) (
  Bif (ByteArray.toList x14 == ByteArray.toList x18) (
  LdI .i64 (Addr.add ⟨b10, 0, none⟩ 0) w219 fun x227 =>
  Bif (x227 == 11) (
  NilP a1 fun a228 =>
  LdI .i64 (Addr.add a228 10) w219 fun x229 =>
  Bif (decide (x229 < 1000)) (
  NilP a1 fun a230 =>
  LdI .i64 (Addr.add a230 10) w219 fun x231 =>
  NilP a1 fun a232 =>
  St1 (Addr.add a232 10) (Value.int .i64 (IntKind.wrap .i64 (x231 + 1))) w219 fun w233 =>
  ∃ (C234 : Cls), Cls.p C234 [] w233 ∧
  NilP a1 fun a235 =>
  ∃ (x236 : Int), Qt C234 (Value.int .i64 x236) (fun w237 K238 =>
  LdI .i64 (Addr.add a235 10) w237 fun x239 =>
  K238 (Value.int .i64 x239) w237) ∧
  ∃ (x240 : ByteArray), Qt C234 (Value.string x240) (fun w241 K242 =>
  LdS (Addr.add ⟨b10, 0, none⟩ 2) w241 fun x243 =>
  K242 (Value.string x243) w241) ∧
  Ef C234 (fun w247 K246 =>
  CallR Try.prog 23 #[(Value.pointer a1), (Value.int .i64 (IntKind.wrap .i64 (x236 - 1))), (Value.string x240)] w247 fun v249 w250 =>
  AsL v249 fun x251p x251n x251c =>
  K246 (Value.slice x251p x251n x251c) w250) fun v248 D245 =>
  AsL v248 fun x252p x252n x252c =>
  (True) ∧
  ∀ G253 w254, Cls.p D245 G253 w254 →
  R (Value.slice x252p x252n x252c) w254) (
  R (Value.slice none 0 0) w219)) (
  R (Value.slice none 0 0) w219)) (
  R (Value.slice none 0 0) w219))) (
  ∀ G255 w256, Cls.p C199 G255 w256 →
  Bif (ByteArray.toList x14 == ByteArray.toList x18) (
  LdI .i64 (Addr.add ⟨b10, 0, none⟩ 0) w256 fun x257 =>
  Bif (x257 == 11) (
  NilP a1 fun a258 =>
  LdI .i64 (Addr.add a258 10) w256 fun x259 =>
  Bif (decide (x259 < 1000)) (
  NilP a1 fun a260 =>
  LdI .i64 (Addr.add a260 10) w256 fun x261 =>
  NilP a1 fun a262 =>
  St1 (Addr.add a262 10) (Value.int .i64 (IntKind.wrap .i64 (x261 + 1))) w256 fun w263 =>
  ∃ (C264 : Cls), Cls.p C264 [] w263 ∧
  NilP a1 fun a265 =>
  ∃ (x266 : Int), Qt C264 (Value.int .i64 x266) (fun w267 K268 =>
  LdI .i64 (Addr.add a265 10) w267 fun x269 =>
  K268 (Value.int .i64 x269) w267) ∧
  ∃ (x270 : ByteArray), Qt C264 (Value.string x270) (fun w271 K272 =>
  LdS (Addr.add ⟨b10, 0, none⟩ 2) w271 fun x273 =>
  K272 (Value.string x273) w271) ∧
  Ef C264 (fun w277 K276 =>
  CallR Try.prog 23 #[(Value.pointer a1), (Value.int .i64 (IntKind.wrap .i64 (x266 - 1))), (Value.string x270)] w277 fun v279 w280 =>
  AsL v279 fun x281p x281n x281c =>
  K276 (Value.slice x281p x281n x281c) w280) fun v278 D275 =>
  AsL v278 fun x282p x282n x282c =>
  (True) ∧
  ∀ G283 w284, Cls.p D275 G283 w284 →
  R (Value.slice x282p x282n x282c) w284) (
  R (Value.slice none 0 0) w256)) (
  R (Value.slice none 0 0) w256)) (
  R (Value.slice none 0 0) w256))) (
  ∀ G285 w286, Cls.p C199 G285 w286 →
  Bif (ByteArray.toList x14 == ByteArray.toList x18) (
  LdI .i64 (Addr.add ⟨b10, 0, none⟩ 0) w286 fun x287 =>
  Bif (x287 == 11) (
  NilP a1 fun a288 =>
  LdI .i64 (Addr.add a288 10) w286 fun x289 =>
  Bif (decide (x289 < 1000)) (
  NilP a1 fun a290 =>
  LdI .i64 (Addr.add a290 10) w286 fun x291 =>
  NilP a1 fun a292 =>
  St1 (Addr.add a292 10) (Value.int .i64 (IntKind.wrap .i64 (x291 + 1))) w286 fun w293 =>
  ∃ (C294 : Cls), Cls.p C294 [] w293 ∧
  NilP a1 fun a295 =>
  ∃ (x296 : Int), Qt C294 (Value.int .i64 x296) (fun w297 K298 =>
  LdI .i64 (Addr.add a295 10) w297 fun x299 =>
  K298 (Value.int .i64 x299) w297) ∧
  ∃ (x300 : ByteArray), Qt C294 (Value.string x300) (fun w301 K302 =>
  LdS (Addr.add ⟨b10, 0, none⟩ 2) w301 fun x303 =>
  K302 (Value.string x303) w301) ∧
  Ef C294 (fun w307 K306 =>
  CallR Try.prog 23 #[(Value.pointer a1), (Value.int .i64 (IntKind.wrap .i64 (x296 - 1))), (Value.string x300)] w307 fun v309 w310 =>
  AsL v309 fun x311p x311n x311c =>
  K306 (Value.slice x311p x311n x311c) w310) fun v308 D305 =>
  AsL v308 fun x312p x312n x312c =>
  (True) ∧
  ∀ G313 w314, Cls.p D305 G313 w314 →
  R (Value.slice x312p x312n x312c) w314) (
  R (Value.slice none 0 0) w286)) (
  R (Value.slice none 0 0) w286)) (
  R (Value.slice none 0 0) w286))) (
  ∀ G315 w316, Cls.p C199 G315 w316 →
  Bif (ByteArray.toList x14 == ByteArray.toList x18) (
  LdI .i64 (Addr.add ⟨b10, 0, none⟩ 0) w316 fun x317 =>
  Bif (x317 == 11) (
  NilP a1 fun a318 =>
  LdI .i64 (Addr.add a318 10) w316 fun x319 =>
  Bif (decide (x319 < 1000)) (
  NilP a1 fun a320 =>
  LdI .i64 (Addr.add a320 10) w316 fun x321 =>
  NilP a1 fun a322 =>
  St1 (Addr.add a322 10) (Value.int .i64 (IntKind.wrap .i64 (x321 + 1))) w316 fun w323 =>
  ∃ (C324 : Cls), Cls.p C324 [] w323 ∧
  NilP a1 fun a325 =>
  ∃ (x326 : Int), Qt C324 (Value.int .i64 x326) (fun w327 K328 =>
  LdI .i64 (Addr.add a325 10) w327 fun x329 =>
  K328 (Value.int .i64 x329) w327) ∧
  ∃ (x330 : ByteArray), Qt C324 (Value.string x330) (fun w331 K332 =>
  LdS (Addr.add ⟨b10, 0, none⟩ 2) w331 fun x333 =>
  K332 (Value.string x333) w331) ∧
  Ef C324 (fun w337 K336 =>
  CallR Try.prog 23 #[(Value.pointer a1), (Value.int .i64 (IntKind.wrap .i64 (x326 - 1))), (Value.string x330)] w337 fun v339 w340 =>
  AsL v339 fun x341p x341n x341c =>
  K336 (Value.slice x341p x341n x341c) w340) fun v338 D335 =>
  AsL v338 fun x342p x342n x342c =>
  (True) ∧
  ∀ G343 w344, Cls.p D335 G343 w344 →
  R (Value.slice x342p x342n x342c) w344) (
  R (Value.slice none 0 0) w316)) (
  R (Value.slice none 0 0) w316)) (
  R (Value.slice none 0 0) w316)))
theorem F35_eq (a1 : Option Addr) (_2 : Option Addr) (m3 : Int) (m4 : ByteArray) (m5 : ByteArray) (m6 : Int) (m7 : Int) (now8 : Int) (w9 : World) (R : Value → World → Prop) : liftF Try.prog 35 (.step .nil .nil (.draw [(0, false), (2, false), (3, false), (4, false), (5, false), (1, false), (6, false), (7, false), (8, false)] (.step (.step .nil .nil (.step (.draw [(0, false), (1, false), (2, false), (3, false), (5, false), (6, false), (7, false), (4, false), (8, true), (9, false), (10, false), (11, true), (12, false), (13, false), (14, true)] .nil) (.draw [(0, false), (1, false), (2, false), (3, false), (4, false), (5, false), (6, false), (7, false), (8, false), (9, false), (10, false), (11, false), (12, false), (13, false), (15, false), (16, false), (17, false), (14, false), (18, false), (19, false), (20, false), (21, false)] (.step .nil (.step .nil .nil (.step (.step .nil .nil (.draw [(0, false), (1, false), (2, false), (3, false), (6, false), (4, false), (5, false), (7, false), (8, true), (9, false)] .nil)) .nil .nil)) .nil)) .nil)) .nil .nil))) [(Value.pointer a1), (Value.pointer _2), (Value.agg #[(Value.int .i64 m3), (Value.string m4), (Value.string m5), (Value.int .i64 m6), (Value.int .i64 m7)]), (Value.int .i64 now8)] w9 R = F35 a1 _2 m3 m4 m5 m6 m7 now8 w9 R := by kernel_rfl
theorem F35_of {a1 : Option Addr} {_2 : Option Addr} {m3 : Int} {m4 : ByteArray} {m5 : ByteArray} {m6 : Int} {m7 : Int} {now8 : Int} {w9 : World} {R : Value → World → Prop} (h : F35 a1 _2 m3 m4 m5 m6 m7 now8 w9 R) : CallR Try.prog 35 #[(Value.pointer a1), (Value.pointer _2), (Value.agg #[(Value.int .i64 m3), (Value.string m4), (Value.string m5), (Value.int .i64 m6), (Value.int .i64 m7)]), (Value.int .i64 now8)] w9 R := callR_of_lift _ ((F35_eq a1 _2 m3 m4 m5 m6 m7 now8 w9 R).mpr h)

-- F36 (*subway/agent.Agent).claim
def F36 (a1 : Option Addr) (w2 : World) (R : Value → World → Prop) : Prop :=
  ∃ (C3 : Cls), Cls.p C3 [] w2 ∧
  NilP a1 fun a4 =>
  NilP a1 fun a5 =>
  ∃ (x6 : ByteArray), Qt C3 (Value.string x6) (fun w7 K8 =>
  LdS (Addr.add (Addr.add a4 0) 3) w7 fun x9 =>
  K8 (Value.string x9) w7) ∧
  ∃ (x10 : Int), Qt C3 (Value.int .i64 x10) (fun w11 K12 =>
  LdI .i64 (Addr.add (Addr.add a5 0) 4) w11 fun x13 =>
  K12 (Value.int .i64 x13) w11) ∧
  Ef C3 (fun w17 K16 =>
  CallR Try.prog 25 #[(Value.int .i64 0), (Value.agg #[(Value.int .i64 6), (Value.string x6), (Value.string ⟨#[]⟩), (Value.int .i64 x10), (Value.int .i64 0)])] w17 fun v19 w20 =>
  AsL v19 fun x21p x21n x21c =>
  K16 (Value.slice x21p x21n x21c) w20) fun v18 D15 =>
  AsL v18 fun x22p x22n x22c =>
  (True) ∧
  ∀ G23 w24, Cls.p D15 G23 w24 →
  R (Value.slice x22p x22n x22c) w24
theorem F36_eq (a1 : Option Addr) (w2 : World) (R : Value → World → Prop) : liftF Try.prog 36 (.step .nil .nil (.draw [(0, false), (1, false), (2, false), (3, false), (5, false), (6, false), (7, false), (8, false), (4, false), (9, false), (10, false), (11, true), (12, false)] .nil)) [(Value.pointer a1)] w2 R = F36 a1 w2 R := by kernel_rfl
theorem F36_of {a1 : Option Addr} {w2 : World} {R : Value → World → Prop} (h : F36 a1 w2 R) : CallR Try.prog 36 #[(Value.pointer a1)] w2 R := callR_of_lift _ ((F36_eq a1 w2 R).mpr h)

-- F37 subway/num.Text
def F37 (s1 : ByteArray) (w2 : World) (R : Value → World → Prop) : Prop :=
  Bif (decide ((s1.size : Int) > 255)) (
  R (Value.slice none 0 0) w2) (
  NewC #[(Value.int .u8 (IntKind.wrap .u8 (s1.size : Int)))] 5 w2 fun b3 w4 =>
  Run Try.prog (Builtin.append_ #[40, 9] 40 #[(Value.slice (some ⟨b3, 0, none⟩) 1 1), (Value.string s1)]) w4 fun v5 w6 =>
  AsL v5 fun x7p x7n x7c =>
  R (Value.slice x7p x7n x7c) w6)
theorem F37_eq (s1 : ByteArray) (w2 : World) (R : Value → World → Prop) : liftF Try.prog 37 .nil [(Value.string s1)] w2 R = F37 s1 w2 R := by kernel_rfl
theorem F37_of {s1 : ByteArray} {w2 : World} {R : Value → World → Prop} (h : F37 s1 w2 R) : CallR Try.prog 37 #[(Value.string s1)] w2 R := callR_of_lift _ ((F37_eq s1 w2 R).mpr h)

-- F38 subway/mac.Mac
def F38 (key1p : Option Addr) (key1n : Nat) (key1c : Nat) (b2p : Option Addr) (b2n : Nat) (b2c : Nat) (w3 : World) (R : Value → World → Prop) : Prop :=
  NewC #[(Value.int .u8 0), (Value.int .u8 0), (Value.int .u8 0), (Value.int .u8 0), (Value.int .u8 0), (Value.int .u8 0), (Value.int .u8 0), (Value.int .u8 0), (Value.int .u8 0), (Value.int .u8 0), (Value.int .u8 0), (Value.int .u8 0), (Value.int .u8 0), (Value.int .u8 0), (Value.int .u8 0), (Value.int .u8 0), (Value.int .u8 0), (Value.int .u8 0), (Value.int .u8 0), (Value.int .u8 0), (Value.int .u8 0), (Value.int .u8 0), (Value.int .u8 0), (Value.int .u8 0), (Value.int .u8 0), (Value.int .u8 0), (Value.int .u8 0), (Value.int .u8 0), (Value.int .u8 0), (Value.int .u8 0), (Value.int .u8 0), (Value.int .u8 0)] 57 w3 fun b4 w5 =>
  CallR Try.prog 43 #[(Value.slice key1p key1n key1c)] w5 fun v6 w7 =>
  ∃ (x8 : Array Value), x8.size = 64 ∧ v6 = (Value.agg x8) ∧
  NewC #[(Value.int .u8 0), (Value.int .u8 0), (Value.int .u8 0), (Value.int .u8 0), (Value.int .u8 0), (Value.int .u8 0), (Value.int .u8 0), (Value.int .u8 0), (Value.int .u8 0), (Value.int .u8 0), (Value.int .u8 0), (Value.int .u8 0), (Value.int .u8 0), (Value.int .u8 0), (Value.int .u8 0), (Value.int .u8 0), (Value.int .u8 0), (Value.int .u8 0), (Value.int .u8 0), (Value.int .u8 0), (Value.int .u8 0), (Value.int .u8 0), (Value.int .u8 0), (Value.int .u8 0), (Value.int .u8 0), (Value.int .u8 0), (Value.int .u8 0), (Value.int .u8 0), (Value.int .u8 0), (Value.int .u8 0), (Value.int .u8 0), (Value.int .u8 0), (Value.int .u8 0), (Value.int .u8 0), (Value.int .u8 0), (Value.int .u8 0), (Value.int .u8 0), (Value.int .u8 0), (Value.int .u8 0), (Value.int .u8 0), (Value.int .u8 0), (Value.int .u8 0), (Value.int .u8 0), (Value.int .u8 0), (Value.int .u8 0), (Value.int .u8 0), (Value.int .u8 0), (Value.int .u8 0), (Value.int .u8 0), (Value.int .u8 0), (Value.int .u8 0), (Value.int .u8 0), (Value.int .u8 0), (Value.int .u8 0), (Value.int .u8 0), (Value.int .u8 0), (Value.int .u8 0), (Value.int .u8 0), (Value.int .u8 0), (Value.int .u8 0), (Value.int .u8 0), (Value.int .u8 0), (Value.int .u8 0), (Value.int .u8 0)] 83 w7 fun b9 w10 =>
  Array.size x8 = 64 ∧
  StA Try.prog ⟨b9, 0, none⟩ x8 w10 fun w11 =>
  LdA Try.prog 64 ⟨b9, 0, none⟩ w11 fun x12 =>
  CallV Try.prog 57 (Value.func (.func 42) #[] #[]) [(Value.agg x12), (Value.int .u8 54), (Value.slice b2p b2n b2c)] w11 fun v13 w14 =>
  ∃ (x15 : Array Value), x15.size = 32 ∧ v13 = (Value.agg x15) ∧
  NewC #[(Value.int .u8 0), (Value.int .u8 0), (Value.int .u8 0), (Value.int .u8 0), (Value.int .u8 0), (Value.int .u8 0), (Value.int .u8 0), (Value.int .u8 0), (Value.int .u8 0), (Value.int .u8 0), (Value.int .u8 0), (Value.int .u8 0), (Value.int .u8 0), (Value.int .u8 0), (Value.int .u8 0), (Value.int .u8 0), (Value.int .u8 0), (Value.int .u8 0), (Value.int .u8 0), (Value.int .u8 0), (Value.int .u8 0), (Value.int .u8 0), (Value.int .u8 0), (Value.int .u8 0), (Value.int .u8 0), (Value.int .u8 0), (Value.int .u8 0), (Value.int .u8 0), (Value.int .u8 0), (Value.int .u8 0), (Value.int .u8 0), (Value.int .u8 0)] 57 w14 fun b16 w17 =>
  Array.size x15 = 32 ∧
  StA Try.prog ⟨b16, 0, none⟩ x15 w17 fun w18 =>
  ∃ (C19 : Cls), Cls.p C19 [] w18 ∧
  SlP (some ⟨b16, 0, none⟩) 32 32 1 0 (32 : Int) fun x20p x20n x20c =>
  ∃ (x21 : Array Value), x21.size = 64 ∧ Qt C19 (Value.agg x21) (fun w22 K23 =>
  LdA Try.prog 64 ⟨b9, 0, none⟩ w22 fun x24 =>
  K23 (Value.agg x24) w22) ∧
  Ef C19 (fun w28 K27 =>
  CallF Try.prog 57 (Value.func (.func 42) #[] #[]) [(Value.agg x21), (Value.int .u8 92), (Value.slice x20p x20n x20c)] w28 fun v30 w31 =>
  ∃ (x32 : Array Value), x32.size = 32 ∧ v30 = (Value.agg x32) ∧
  K27 (Value.agg x32) w31) fun v29 D26 =>
  ∃ (x33 : Array Value), x33.size = 32 ∧ v29 = (Value.agg x33) ∧
  (True) ∧
  Ef D26 (fun w36 K35 =>
  Array.size x33 = 32 ∧
  StA Try.prog ⟨b4, 0, none⟩ x33 w36 fun w38 =>
  K35 (Value.tuple #[]) w38) fun v37 D34 =>
  v37 = (Value.tuple #[]) ∧
  (True) ∧
  ∀ G39 w40, Cls.p D34 G39 w40 →
  LdA Try.prog 32 ⟨b4, 0, none⟩ w40 fun res41 =>
  R (Value.agg res41) w40
theorem F38_eq (key1p : Option Addr) (key1n : Nat) (key1c : Nat) (b2p : Option Addr) (b2n : Nat) (b2c : Nat) (w3 : World) (R : Value → World → Prop) : liftF Try.prog 38 (.step .nil .nil (.step .nil .nil (.step .nil .nil (.draw [(0, false), (2, false), (1, false), (3, true), (4, true)] .nil)))) [(Value.slice key1p key1n key1c), (Value.slice b2p b2n b2c)] w3 R = F38 key1p key1n key1c b2p b2n b2c w3 R := by kernel_rfl
theorem F38_of {key1p : Option Addr} {key1n : Nat} {key1c : Nat} {b2p : Option Addr} {b2n : Nat} {b2c : Nat} {w3 : World} {R : Value → World → Prop} (h : F38 key1p key1n key1c b2p b2n b2c w3 R) : CallR Try.prog 38 #[(Value.slice key1p key1n key1c), (Value.slice b2p b2n b2c)] w3 R := callR_of_lift _ ((F38_eq key1p key1n key1c b2p b2n b2c w3 R).mpr h)

-- F39 subway/digest.Hex
def F39 (b1p : Option Addr) (b1n : Nat) (b1c : Nat) (w2 : World) (R : Value → World → Prop) : Prop :=
  MkS (#[(Value.int .u8 0)]) 1 1 5 (IntKind.wrap .i64 (2 * (b1n : Int))) (IntKind.wrap .i64 (2 * (b1n : Int))) w2 fun b3 w4 =>
  Lp fun I5 mu6 =>
  I5 [(Value.int .i64 0)] w4 ∧
  ∀ (x7 : Int), ∀ w8, I5 [(Value.int .i64 x7)] w8 →
  Bif (decide (x7 < (b1n : Int))) (
  IxP b1p b1n x7 1 fun a9 =>
  LdI .u8 a9 w8 fun x10 =>
  ∃ (C11 : Cls), Cls.p C11 [] w8 ∧
  ShK 4 (
  IxS ⟨#[48, 49, 50, 51, 52, 53, 54, 55, 56, 57, 97, 98, 99, 100, 101, 102]⟩ (Int.fdiv x10 (2 ^ min (Int.toNat 4) (IntKind.bits .u8))) fun b12 =>
  IxS ⟨#[48, 49, 50, 51, 52, 53, 54, 55, 56, 57, 97, 98, 99, 100, 101, 102]⟩ (IntKind.wrap .u8 ↑((BitVec.ofInt (IntKind.bits .u8) x10 &&& BitVec.ofInt (IntKind.bits .u8) 15).toNat)) fun b13 =>
  IxP (some ⟨b3, 0, none⟩) (Int.toNat (IntKind.wrap .i64 (2 * (b1n : Int)))) (IntKind.wrap .i64 (2 * x7)) 1 fun a14 =>
  Ef C11 (fun w17 K16 =>
  St1 a14 (Value.int .u8 (b12.toNat : Int)) w17 fun w19 =>
  K16 (Value.tuple #[]) w19) fun v18 D15 =>
  v18 = (Value.tuple #[]) ∧
  (True) ∧
  IxP (some ⟨b3, 0, none⟩) (Int.toNat (IntKind.wrap .i64 (2 * (b1n : Int)))) (IntKind.wrap .i64 ((IntKind.wrap .i64 (2 * x7)) + 1)) 1 fun a20 =>
  Ef D15 (fun w23 K22 =>
  St1 a20 (Value.int .u8 (b13.toNat : Int)) w23 fun w25 =>
  K22 (Value.tuple #[]) w25) fun v24 D21 =>
  v24 = (Value.tuple #[]) ∧
  (True) ∧
  ∀ G26 w27, Cls.p D21 G26 w27 →
  I5 [(Value.int .i64 (IntKind.wrap .i64 (x7 + 1)))] w27 ∧ mu6 [(Value.int .i64 (IntKind.wrap .i64 (x7 + 1)))] w27 < mu6 [(Value.int .i64 x7)] w8)) (
  Run Try.prog (convert 40 9 (Value.slice (some ⟨b3, 0, none⟩) (Int.toNat (IntKind.wrap .i64 (2 * (b1n : Int)))) (Int.toNat (IntKind.wrap .i64 (2 * (b1n : Int)))))) w8 fun v28 w29 =>
  AsS v28 fun x30 =>
  R (Value.string x30) w29)
theorem F39_eq (b1p : Option Addr) (b1n : Nat) (b1c : Nat) (w2 : World) (R : Value → World → Prop) : liftF Try.prog 39 (.step .nil .nil (.step .nil .nil (.step .nil .nil (.step (.loop [(12, .b (.int .i64))] (.step .nil .nil (.step .nil .nil (.step (.step .nil .nil (.draw [(0, false), (1, false), (2, false), (3, false), (4, false), (5, false), (6, false), (7, false), (8, false), (9, false), (10, false), (11, false), (12, false), (13, false), (14, true), (15, false), (16, true)] .nil)) .nil .nil)))) .nil .nil)))) [(Value.slice b1p b1n b1c)] w2 R = F39 b1p b1n b1c w2 R := by kernel_rfl
theorem F39_of {b1p : Option Addr} {b1n : Nat} {b1c : Nat} {w2 : World} {R : Value → World → Prop} (h : F39 b1p b1n b1c w2 R) : CallR Try.prog 39 #[(Value.slice b1p b1n b1c)] w2 R := callR_of_lift _ ((F39_eq b1p b1n b1c w2 R).mpr h)

-- F40 subway/subwayref02.small
def F40 (x1 : Int) (a2 : Int) (b3 : Int) (c4 : Int) (w5 : World) (R : Value → World → Prop) : Prop :=
  ∃ (C6 : Cls), Cls.p C6 [] w5 ∧
  ShK c4 (
  Ef C6 (fun w10 K9 =>
  CallR Try.prog 41 #[(Value.int .u32 x1), (Value.int .i64 a2)] w10 fun v12 w13 =>
  AsI .u32 v12 fun x14 =>
  K9 (Value.int .u32 x14) w13) fun v11 D8 =>
  AsI .u32 v11 fun x15 =>
  (True) ∧
  Ef D8 (fun w19 K18 =>
  CallR Try.prog 41 #[(Value.int .u32 x1), (Value.int .i64 b3)] w19 fun v21 w22 =>
  AsI .u32 v21 fun x23 =>
  K18 (Value.int .u32 x23) w22) fun v20 D17 =>
  AsI .u32 v20 fun x24 =>
  (True) ∧
  ∀ G25 w26, Cls.p D17 G25 w26 →
  R (Value.int .u32 (IntKind.wrap .u32 ↑((BitVec.ofInt (IntKind.bits .u32) (IntKind.wrap .u32 ↑((BitVec.ofInt (IntKind.bits .u32) x15 ^^^ BitVec.ofInt (IntKind.bits .u32) x24).toNat)) ^^^ BitVec.ofInt (IntKind.bits .u32) (Int.fdiv x1 (2 ^ min (Int.toNat c4) (IntKind.bits .u32)))).toNat))) w26)
theorem F40_eq (x1 : Int) (a2 : Int) (b3 : Int) (c4 : Int) (w5 : World) (R : Value → World → Prop) : liftF Try.prog 40 (.step .nil .nil (.draw [(0, false), (1, false), (3, false), (4, false), (7, false), (8, false), (9, false), (2, true), (5, true), (6, false), (10, false), (11, false)] .nil)) [(Value.int .u32 x1), (Value.int .i64 a2), (Value.int .i64 b3), (Value.int .i64 c4)] w5 R = F40 x1 a2 b3 c4 w5 R := by kernel_rfl
theorem F40_of {x1 : Int} {a2 : Int} {b3 : Int} {c4 : Int} {w5 : World} {R : Value → World → Prop} (h : F40 x1 a2 b3 c4 w5 R) : CallR Try.prog 40 #[(Value.int .u32 x1), (Value.int .i64 a2), (Value.int .i64 b3), (Value.int .i64 c4)] w5 R := callR_of_lift _ ((F40_eq x1 a2 b3 c4 w5 R).mpr h)

-- F41 subway/subwayref02.turn
def F41 (x1 : Int) (n2 : Int) (w3 : World) (R : Value → World → Prop) : Prop :=
  ∃ (C4 : Cls), Cls.p C4 [] w3 ∧
  ShK n2 (
  ShK (IntKind.wrap .i64 (32 - n2)) (
  ∀ G5 w6, Cls.p C4 G5 w6 →
  R (Value.int .u32 (IntKind.wrap .u32 ↑((BitVec.ofInt (IntKind.bits .u32) (Int.fdiv x1 (2 ^ min (Int.toNat n2) (IntKind.bits .u32))) ||| BitVec.ofInt (IntKind.bits .u32) (IntKind.wrap .u32 (x1 * 2 ^ min (Int.toNat (IntKind.wrap .i64 (32 - n2))) (IntKind.bits .u32)))).toNat))) w6))
theorem F41_eq (x1 : Int) (n2 : Int) (w3 : World) (R : Value → World → Prop) : liftF Try.prog 41 (.step .nil .nil (.draw [(0, false), (1, false), (2, false), (3, false), (4, false), (5, false), (6, false), (7, false), (8, false)] .nil)) [(Value.int .u32 x1), (Value.int .i64 n2)] w3 R = F41 x1 n2 w3 R := by kernel_rfl
theorem F41_of {x1 : Int} {n2 : Int} {w3 : World} {R : Value → World → Prop} (h : F41 x1 n2 w3 R) : CallR Try.prog 41 #[(Value.int .u32 x1), (Value.int .i64 n2)] w3 R := callR_of_lift _ ((F41_eq x1 n2 w3 R).mpr h)

-- F42 (subway/mac.pad).sum
def F42 (p1 : Array Value) (c2 : Int) (b3p : Option Addr) (b3n : Nat) (b3c : Nat) (w4 : World) (R : Value → World → Prop) : Prop :=
  NewC p1 83 w4 fun b5 w6 =>
  NewC #[(Value.int .u8 0), (Value.int .u8 0), (Value.int .u8 0), (Value.int .u8 0), (Value.int .u8 0), (Value.int .u8 0), (Value.int .u8 0), (Value.int .u8 0), (Value.int .u8 0), (Value.int .u8 0), (Value.int .u8 0), (Value.int .u8 0), (Value.int .u8 0), (Value.int .u8 0), (Value.int .u8 0), (Value.int .u8 0), (Value.int .u8 0), (Value.int .u8 0), (Value.int .u8 0), (Value.int .u8 0), (Value.int .u8 0), (Value.int .u8 0), (Value.int .u8 0), (Value.int .u8 0), (Value.int .u8 0), (Value.int .u8 0), (Value.int .u8 0), (Value.int .u8 0), (Value.int .u8 0), (Value.int .u8 0), (Value.int .u8 0), (Value.int .u8 0)] 57 w6 fun b7 w8 =>
  Lp fun I9 mu10 =>
  I9 [(Value.int .i64 0)] w8 ∧
  ∀ (x11 : Int), ∀ w12, I9 [(Value.int .i64 x11)] w12 →
  Bif (decide (x11 < 64)) (
  IxP (some ⟨b5, 0, none⟩) 64 x11 1 fun a13 =>
  LdI .u8 a13 w12 fun x14 =>
  IxP (some ⟨b5, 0, none⟩) 64 x11 1 fun a15 =>
  St1 a15 (Value.int .u8 (IntKind.wrap .u8 ↑((BitVec.ofInt (IntKind.bits .u8) x14 ^^^ BitVec.ofInt (IntKind.bits .u8) c2).toNat))) w12 fun w16 =>
  I9 [(Value.int .i64 (IntKind.wrap .i64 (x11 + 1)))] w16 ∧ mu10 [(Value.int .i64 (IntKind.wrap .i64 (x11 + 1)))] w16 < mu10 [(Value.int .i64 x11)] w12) (
  SlP (some ⟨b5, 0, none⟩) 64 64 1 0 (64 : Int) fun x17p x17n x17c =>
  Run Try.prog (Builtin.append_ #[40, 40] 40 #[(Value.slice x17p x17n x17c), (Value.slice b3p b3n b3c)]) w12 fun v18 w19 =>
  AsL v18 fun x20p x20n x20c =>
  CallR Try.prog 44 #[(Value.slice x20p x20n x20c)] w19 fun v21 w22 =>
  ∃ (x23 : Array Value), x23.size = 32 ∧ v21 = (Value.agg x23) ∧
  Array.size x23 = 32 ∧
  StA Try.prog ⟨b7, 0, none⟩ x23 w22 fun w24 =>
  LdA Try.prog 32 ⟨b7, 0, none⟩ w24 fun res25 =>
  R (Value.agg res25) w24)
theorem F42_eq (p1 : Array Value) (c2 : Int) (b3p : Option Addr) (b3n : Nat) (b3c : Nat) (w4 : World) (R : Value → World → Prop) : liftF Try.prog 42 (.step .nil .nil (.step .nil .nil (.step (.loop [(8, .b (.int .i64))] .nil) .nil .nil))) [(Value.agg p1), (Value.int .u8 c2), (Value.slice b3p b3n b3c)] w4 R = F42 p1 c2 b3p b3n b3c w4 R := by kernel_rfl
theorem F42_of {p1 : Array Value} {c2 : Int} {b3p : Option Addr} {b3n : Nat} {b3c : Nat} {w4 : World} {R : Value → World → Prop} (h : F42 p1 c2 b3p b3n b3c w4 R) : CallR Try.prog 42 #[(Value.agg p1), (Value.int .u8 c2), (Value.slice b3p b3n b3c)] w4 R := callR_of_lift _ ((F42_eq p1 c2 b3p b3n b3c w4 R).mpr h)

-- F43 subway/mac.of
def F43 (key1p : Option Addr) (key1n : Nat) (key1c : Nat) (w2 : World) (R : Value → World → Prop) : Prop :=
  NewC #[(Value.int .u8 0), (Value.int .u8 0), (Value.int .u8 0), (Value.int .u8 0), (Value.int .u8 0), (Value.int .u8 0), (Value.int .u8 0), (Value.int .u8 0), (Value.int .u8 0), (Value.int .u8 0), (Value.int .u8 0), (Value.int .u8 0), (Value.int .u8 0), (Value.int .u8 0), (Value.int .u8 0), (Value.int .u8 0), (Value.int .u8 0), (Value.int .u8 0), (Value.int .u8 0), (Value.int .u8 0), (Value.int .u8 0), (Value.int .u8 0), (Value.int .u8 0), (Value.int .u8 0), (Value.int .u8 0), (Value.int .u8 0), (Value.int .u8 0), (Value.int .u8 0), (Value.int .u8 0), (Value.int .u8 0), (Value.int .u8 0), (Value.int .u8 0), (Value.int .u8 0), (Value.int .u8 0), (Value.int .u8 0), (Value.int .u8 0), (Value.int .u8 0), (Value.int .u8 0), (Value.int .u8 0), (Value.int .u8 0), (Value.int .u8 0), (Value.int .u8 0), (Value.int .u8 0), (Value.int .u8 0), (Value.int .u8 0), (Value.int .u8 0), (Value.int .u8 0), (Value.int .u8 0), (Value.int .u8 0), (Value.int .u8 0), (Value.int .u8 0), (Value.int .u8 0), (Value.int .u8 0), (Value.int .u8 0), (Value.int .u8 0), (Value.int .u8 0), (Value.int .u8 0), (Value.int .u8 0), (Value.int .u8 0), (Value.int .u8 0), (Value.int .u8 0), (Value.int .u8 0), (Value.int .u8 0), (Value.int .u8 0)] 83 w2 fun b3 w4 =>
  NewC #[(Value.int .u8 0), (Value.int .u8 0), (Value.int .u8 0), (Value.int .u8 0), (Value.int .u8 0), (Value.int .u8 0), (Value.int .u8 0), (Value.int .u8 0), (Value.int .u8 0), (Value.int .u8 0), (Value.int .u8 0), (Value.int .u8 0), (Value.int .u8 0), (Value.int .u8 0), (Value.int .u8 0), (Value.int .u8 0), (Value.int .u8 0), (Value.int .u8 0), (Value.int .u8 0), (Value.int .u8 0), (Value.int .u8 0), (Value.int .u8 0), (Value.int .u8 0), (Value.int .u8 0), (Value.int .u8 0), (Value.int .u8 0), (Value.int .u8 0), (Value.int .u8 0), (Value.int .u8 0), (Value.int .u8 0), (Value.int .u8 0), (Value.int .u8 0), (Value.int .u8 0), (Value.int .u8 0), (Value.int .u8 0), (Value.int .u8 0), (Value.int .u8 0), (Value.int .u8 0), (Value.int .u8 0), (Value.int .u8 0), (Value.int .u8 0), (Value.int .u8 0), (Value.int .u8 0), (Value.int .u8 0), (Value.int .u8 0), (Value.int .u8 0), (Value.int .u8 0), (Value.int .u8 0), (Value.int .u8 0), (Value.int .u8 0), (Value.int .u8 0), (Value.int .u8 0), (Value.int .u8 0), (Value.int .u8 0), (Value.int .u8 0), (Value.int .u8 0), (Value.int .u8 0), (Value.int .u8 0), (Value.int .u8 0), (Value.int .u8 0), (Value.int .u8 0), (Value.int .u8 0), (Value.int .u8 0), (Value.int .u8 0)] 83 w4 fun b5 w6 =>
  Bif (decide ((key1n : Int) > 64)) (
  CallR Try.prog 44 #[(Value.slice key1p key1n key1c)] w6 fun v7 w8 =>
  ∃ (x9 : Array Value), x9.size = 32 ∧ v7 = (Value.agg x9) ∧
  NewC #[(Value.int .u8 0), (Value.int .u8 0), (Value.int .u8 0), (Value.int .u8 0), (Value.int .u8 0), (Value.int .u8 0), (Value.int .u8 0), (Value.int .u8 0), (Value.int .u8 0), (Value.int .u8 0), (Value.int .u8 0), (Value.int .u8 0), (Value.int .u8 0), (Value.int .u8 0), (Value.int .u8 0), (Value.int .u8 0), (Value.int .u8 0), (Value.int .u8 0), (Value.int .u8 0), (Value.int .u8 0), (Value.int .u8 0), (Value.int .u8 0), (Value.int .u8 0), (Value.int .u8 0), (Value.int .u8 0), (Value.int .u8 0), (Value.int .u8 0), (Value.int .u8 0), (Value.int .u8 0), (Value.int .u8 0), (Value.int .u8 0), (Value.int .u8 0)] 57 w8 fun b10 w11 =>
  Array.size x9 = 32 ∧
  StA Try.prog ⟨b10, 0, none⟩ x9 w11 fun w12 =>
  SlP (some ⟨b10, 0, none⟩) 32 32 1 0 (32 : Int) fun x13p x13n x13c =>
  SlP (some ⟨b5, 0, none⟩) 64 64 1 0 (64 : Int) fun x14p x14n x14c =>
  Run Try.prog (Builtin.copy_ #[40, 40] 3 #[(Value.slice x14p x14n x14c), (Value.slice x13p x13n x13c)]) w12 fun v15 w16 =>
  AsI .i64 v15 fun x17 =>
  LdA Try.prog 64 ⟨b5, 0, none⟩ w16 fun x18 =>
  Array.size x18 = 64 ∧
  StA Try.prog ⟨b3, 0, none⟩ x18 w16 fun w19 =>
  LdA Try.prog 64 ⟨b3, 0, none⟩ w19 fun res20 =>
  R (Value.agg res20) w19) (
  SlP (some ⟨b5, 0, none⟩) 64 64 1 0 (64 : Int) fun x21p x21n x21c =>
  Run Try.prog (Builtin.copy_ #[40, 40] 3 #[(Value.slice x21p x21n x21c), (Value.slice key1p key1n key1c)]) w6 fun v22 w23 =>
  AsI .i64 v22 fun x24 =>
  LdA Try.prog 64 ⟨b5, 0, none⟩ w23 fun x25 =>
  Array.size x25 = 64 ∧
  StA Try.prog ⟨b3, 0, none⟩ x25 w23 fun w26 =>
  LdA Try.prog 64 ⟨b3, 0, none⟩ w26 fun res27 =>
  R (Value.agg res27) w26)
theorem F43_eq (key1p : Option Addr) (key1n : Nat) (key1c : Nat) (w2 : World) (R : Value → World → Prop) : liftF Try.prog 43 .nil [(Value.slice key1p key1n key1c)] w2 R = F43 key1p key1n key1c w2 R := by kernel_rfl
theorem F43_of {key1p : Option Addr} {key1n : Nat} {key1c : Nat} {w2 : World} {R : Value → World → Prop} (h : F43 key1p key1n key1c w2 R) : CallR Try.prog 43 #[(Value.slice key1p key1n key1c)] w2 R := callR_of_lift _ ((F43_eq key1p key1n key1c w2 R).mpr h)

-- F44 subway/digest.Sum
def F44 (b1p : Option Addr) (b1n : Nat) (b1c : Nat) (w2 : World) (R : Value → World → Prop) : Prop :=
  NewC #[(Value.int .u8 0), (Value.int .u8 0), (Value.int .u8 0), (Value.int .u8 0), (Value.int .u8 0), (Value.int .u8 0), (Value.int .u8 0), (Value.int .u8 0), (Value.int .u8 0), (Value.int .u8 0), (Value.int .u8 0), (Value.int .u8 0), (Value.int .u8 0), (Value.int .u8 0), (Value.int .u8 0), (Value.int .u8 0), (Value.int .u8 0), (Value.int .u8 0), (Value.int .u8 0), (Value.int .u8 0), (Value.int .u8 0), (Value.int .u8 0), (Value.int .u8 0), (Value.int .u8 0), (Value.int .u8 0), (Value.int .u8 0), (Value.int .u8 0), (Value.int .u8 0), (Value.int .u8 0), (Value.int .u8 0), (Value.int .u8 0), (Value.int .u8 0)] 57 w2 fun b3 w4 =>
  CallR Try.prog 45 #[] w4 fun v5 w6 =>
  ∃ (x7 : Array Value), x7.size = 8 ∧ v5 = (Value.agg x7) ∧
  NewC #[(Value.int .u32 0), (Value.int .u32 0), (Value.int .u32 0), (Value.int .u32 0), (Value.int .u32 0), (Value.int .u32 0), (Value.int .u32 0), (Value.int .u32 0)] 85 w6 fun b8 w9 =>
  Array.size x7 = 8 ∧
  StA Try.prog ⟨b8, 0, none⟩ x7 w9 fun w10 =>
  DivK 64 (
  Lp fun I11 mu12 =>
  I11 [(Value.int .i64 0)] w10 ∧
  ∀ (atv13 : Int), ∀ w14, I11 [(Value.int .i64 atv13)] w14 →
  Bif (decide (atv13 < (IntKind.wrap .i64 ((IntKind.wrap .i64 (Int.tdiv (b1n : Int) 64)) * 64)))) (
  ∃ (C15 : Cls), Cls.p C15 [] w14 ∧
  SlP b1p b1n b1c 1 atv13 (b1n : Int) fun x16p x16n x16c =>
  ∃ (x17 : Array Value), x17.size = 8 ∧ Qt C15 (Value.agg x17) (fun w18 K19 =>
  LdA Try.prog 8 ⟨b8, 0, none⟩ w18 fun x20 =>
  K19 (Value.agg x20) w18) ∧
  Ef C15 (fun w24 K23 =>
  CallR Try.prog 47 #[(Value.slice x16p x16n x16c)] w24 fun v26 w27 =>
  ∃ (x28 : Array Value), x28.size = 64 ∧ v26 = (Value.agg x28) ∧
  K23 (Value.agg x28) w27) fun v25 D22 =>
  ∃ (x29 : Array Value), x29.size = 64 ∧ v25 = (Value.agg x29) ∧
  (Qt D22 (Value.agg x17) (fun w30 K31 =>
  LdA Try.prog 8 ⟨b8, 0, none⟩ w30 fun x32 =>
  K31 (Value.agg x32) w30)) ∧
  Ef D22 (fun w36 K35 =>
  CallR Try.prog 46 #[(Value.agg x17), (Value.agg x29)] w36 fun v38 w39 =>
  ∃ (x40 : Array Value), x40.size = 8 ∧ v38 = (Value.agg x40) ∧
  K35 (Value.agg x40) w39) fun v37 D34 =>
  ∃ (x41 : Array Value), x41.size = 8 ∧ v37 = (Value.agg x41) ∧
  (True) ∧
  Ef D34 (fun w44 K43 =>
  Array.size x41 = 8 ∧
  StA Try.prog ⟨b8, 0, none⟩ x41 w44 fun w46 =>
  K43 (Value.tuple #[]) w46) fun v45 D42 =>
  v45 = (Value.tuple #[]) ∧
  (True) ∧
  ∀ G47 w48, Cls.p D42 G47 w48 →
  I11 [(Value.int .i64 (IntKind.wrap .i64 (atv13 + 64)))] w48 ∧ mu12 [(Value.int .i64 (IntKind.wrap .i64 (atv13 + 64)))] w48 < mu12 [(Value.int .i64 atv13)] w14) (
  NewC #[(Value.int .u8 0), (Value.int .u8 0), (Value.int .u8 0), (Value.int .u8 0), (Value.int .u8 0), (Value.int .u8 0), (Value.int .u8 0), (Value.int .u8 0), (Value.int .u8 0), (Value.int .u8 0), (Value.int .u8 0), (Value.int .u8 0), (Value.int .u8 0), (Value.int .u8 0), (Value.int .u8 0), (Value.int .u8 0), (Value.int .u8 0), (Value.int .u8 0), (Value.int .u8 0), (Value.int .u8 0), (Value.int .u8 0), (Value.int .u8 0), (Value.int .u8 0), (Value.int .u8 0), (Value.int .u8 0), (Value.int .u8 0), (Value.int .u8 0), (Value.int .u8 0), (Value.int .u8 0), (Value.int .u8 0), (Value.int .u8 0), (Value.int .u8 0), (Value.int .u8 0), (Value.int .u8 0), (Value.int .u8 0), (Value.int .u8 0), (Value.int .u8 0), (Value.int .u8 0), (Value.int .u8 0), (Value.int .u8 0), (Value.int .u8 0), (Value.int .u8 0), (Value.int .u8 0), (Value.int .u8 0), (Value.int .u8 0), (Value.int .u8 0), (Value.int .u8 0), (Value.int .u8 0), (Value.int .u8 0), (Value.int .u8 0), (Value.int .u8 0), (Value.int .u8 0), (Value.int .u8 0), (Value.int .u8 0), (Value.int .u8 0), (Value.int .u8 0), (Value.int .u8 0), (Value.int .u8 0), (Value.int .u8 0), (Value.int .u8 0), (Value.int .u8 0), (Value.int .u8 0), (Value.int .u8 0), (Value.int .u8 0), (Value.int .u8 0), (Value.int .u8 0), (Value.int .u8 0), (Value.int .u8 0), (Value.int .u8 0), (Value.int .u8 0), (Value.int .u8 0), (Value.int .u8 0), (Value.int .u8 0), (Value.int .u8 0), (Value.int .u8 0), (Value.int .u8 0), (Value.int .u8 0), (Value.int .u8 0), (Value.int .u8 0), (Value.int .u8 0), (Value.int .u8 0), (Value.int .u8 0), (Value.int .u8 0), (Value.int .u8 0), (Value.int .u8 0), (Value.int .u8 0), (Value.int .u8 0), (Value.int .u8 0), (Value.int .u8 0), (Value.int .u8 0), (Value.int .u8 0), (Value.int .u8 0), (Value.int .u8 0), (Value.int .u8 0), (Value.int .u8 0), (Value.int .u8 0), (Value.int .u8 0), (Value.int .u8 0), (Value.int .u8 0), (Value.int .u8 0), (Value.int .u8 0), (Value.int .u8 0), (Value.int .u8 0), (Value.int .u8 0), (Value.int .u8 0), (Value.int .u8 0), (Value.int .u8 0), (Value.int .u8 0), (Value.int .u8 0), (Value.int .u8 0), (Value.int .u8 0), (Value.int .u8 0), (Value.int .u8 0), (Value.int .u8 0), (Value.int .u8 0), (Value.int .u8 0), (Value.int .u8 0), (Value.int .u8 0), (Value.int .u8 0), (Value.int .u8 0), (Value.int .u8 0), (Value.int .u8 0), (Value.int .u8 0), (Value.int .u8 0), (Value.int .u8 0), (Value.int .u8 0), (Value.int .u8 0), (Value.int .u8 0)] 88 w14 fun b49 w50 =>
  ∃ (C51 : Cls), Cls.p C51 [] w50 ∧
  SlP (some ⟨b49, 0, none⟩) 128 128 1 0 (128 : Int) fun x52p x52n x52c =>
  SlP b1p b1n b1c 1 (IntKind.wrap .i64 ((IntKind.wrap .i64 (Int.tdiv (b1n : Int) 64)) * 64)) (b1n : Int) fun x53p x53n x53c =>
  Ef C51 (fun w57 K56 =>
  Run Try.prog (Builtin.copy_ #[40, 40] 3 #[(Value.slice x52p x52n x52c), (Value.slice x53p x53n x53c)]) w57 fun v59 w60 =>
  AsI .i64 v59 fun x61 =>
  K56 (Value.int .i64 x61) w60) fun v58 D55 =>
  AsI .i64 v58 fun x62 =>
  (True) ∧
  ∀ G63 w64, Cls.p D55 G63 w64 →
  IxP (some ⟨b49, 0, none⟩) 128 x62 1 fun a65 =>
  St1 a65 (Value.int .u8 128) w64 fun w66 =>
  Jn fun J67 => (
  Bif (decide ((IntKind.wrap .i64 ((IntKind.wrap .i64 (x62 + 1)) + 8)) > 64)) (
  J67 [(Value.int .i64 128)] w66) (
  J67 [(Value.int .i64 64)] w66)) ∧
  ∀ (last68 : Int), ∀ w69, J67 [(Value.int .i64 last68)] w69 →
  Lp fun I70 mu71 =>
  I70 [(Value.int .i64 0)] w69 ∧
  ∀ (x72 : Int), ∀ w73, I70 [(Value.int .i64 x72)] w73 →
  Bif (decide (x72 < 8)) (
  ShK (IntKind.wrap .i64 (8 * x72)) (
  IxP (some ⟨b49, 0, none⟩) 128 (IntKind.wrap .i64 ((IntKind.wrap .i64 (last68 - 1)) - x72)) 1 fun a74 =>
  St1 a74 (Value.int .u8 (IntKind.wrap .u8 (Int.fdiv (IntKind.wrap .u64 ((IntKind.wrap .u64 (b1n : Int)) * 8)) (2 ^ min (Int.toNat (IntKind.wrap .i64 (8 * x72))) (IntKind.bits .u64))))) w73 fun w75 =>
  I70 [(Value.int .i64 (IntKind.wrap .i64 (x72 + 1)))] w75 ∧ mu71 [(Value.int .i64 (IntKind.wrap .i64 (x72 + 1)))] w75 < mu71 [(Value.int .i64 x72)] w73)) (
  Lp fun I76 mu77 =>
  I76 [(Value.int .i64 0)] w73 ∧
  ∀ (atv78 : Int), ∀ w79, I76 [(Value.int .i64 atv78)] w79 →
  Bif (decide (atv78 < last68)) (
  ∃ (C80 : Cls), Cls.p C80 [] w79 ∧
  SlP (some ⟨b49, 0, none⟩) 128 128 1 atv78 (128 : Int) fun x81p x81n x81c =>
  ∃ (x82 : Array Value), x82.size = 8 ∧ Qt C80 (Value.agg x82) (fun w83 K84 =>
  LdA Try.prog 8 ⟨b8, 0, none⟩ w83 fun x85 =>
  K84 (Value.agg x85) w83) ∧
  Ef C80 (fun w89 K88 =>
  CallR Try.prog 47 #[(Value.slice x81p x81n x81c)] w89 fun v91 w92 =>
  ∃ (x93 : Array Value), x93.size = 64 ∧ v91 = (Value.agg x93) ∧
  K88 (Value.agg x93) w92) fun v90 D87 =>
  ∃ (x94 : Array Value), x94.size = 64 ∧ v90 = (Value.agg x94) ∧
  (Qt D87 (Value.agg x82) (fun w95 K96 =>
  LdA Try.prog 8 ⟨b8, 0, none⟩ w95 fun x97 =>
  K96 (Value.agg x97) w95)) ∧
  Ef D87 (fun w101 K100 =>
  CallR Try.prog 46 #[(Value.agg x82), (Value.agg x94)] w101 fun v103 w104 =>
  ∃ (x105 : Array Value), x105.size = 8 ∧ v103 = (Value.agg x105) ∧
  K100 (Value.agg x105) w104) fun v102 D99 =>
  ∃ (x106 : Array Value), x106.size = 8 ∧ v102 = (Value.agg x106) ∧
  (True) ∧
  Ef D99 (fun w109 K108 =>
  Array.size x106 = 8 ∧
  StA Try.prog ⟨b8, 0, none⟩ x106 w109 fun w111 =>
  K108 (Value.tuple #[]) w111) fun v110 D107 =>
  v110 = (Value.tuple #[]) ∧
  (True) ∧
  ∀ G112 w113, Cls.p D107 G112 w113 →
  I76 [(Value.int .i64 (IntKind.wrap .i64 (atv78 + 64)))] w113 ∧ mu77 [(Value.int .i64 (IntKind.wrap .i64 (atv78 + 64)))] w113 < mu77 [(Value.int .i64 atv78)] w79) (
  NewC #[(Value.int .u8 0), (Value.int .u8 0), (Value.int .u8 0), (Value.int .u8 0), (Value.int .u8 0), (Value.int .u8 0), (Value.int .u8 0), (Value.int .u8 0), (Value.int .u8 0), (Value.int .u8 0), (Value.int .u8 0), (Value.int .u8 0), (Value.int .u8 0), (Value.int .u8 0), (Value.int .u8 0), (Value.int .u8 0), (Value.int .u8 0), (Value.int .u8 0), (Value.int .u8 0), (Value.int .u8 0), (Value.int .u8 0), (Value.int .u8 0), (Value.int .u8 0), (Value.int .u8 0), (Value.int .u8 0), (Value.int .u8 0), (Value.int .u8 0), (Value.int .u8 0), (Value.int .u8 0), (Value.int .u8 0), (Value.int .u8 0), (Value.int .u8 0)] 57 w79 fun b114 w115 =>
  Lp fun I116 mu117 =>
  I116 [(Value.int .i64 0)] w115 ∧
  ∀ (x118 : Int), ∀ w119, I116 [(Value.int .i64 x118)] w119 →
  Bif (decide (x118 < 32)) (
  DivK 4 (
  IxP (some ⟨b8, 0, none⟩) 8 (IntKind.wrap .i64 (Int.tdiv x118 4)) 1 fun a120 =>
  LdI .u32 a120 w119 fun x121 =>
  DivK 4 (
  ShK (IntKind.wrap .i64 (24 - (IntKind.wrap .i64 ((Int.tmod x118 4) * 8)))) (
  IxP (some ⟨b114, 0, none⟩) 32 x118 1 fun a122 =>
  St1 a122 (Value.int .u8 (IntKind.wrap .u8 (Int.fdiv x121 (2 ^ min (Int.toNat (IntKind.wrap .i64 (24 - (IntKind.wrap .i64 ((Int.tmod x118 4) * 8))))) (IntKind.bits .u32))))) w119 fun w123 =>
  I116 [(Value.int .i64 (IntKind.wrap .i64 (x118 + 1)))] w123 ∧ mu117 [(Value.int .i64 (IntKind.wrap .i64 (x118 + 1)))] w123 < mu117 [(Value.int .i64 x118)] w119)))) (
  LdA Try.prog 32 ⟨b114, 0, none⟩ w119 fun x124 =>
  Array.size x124 = 32 ∧
  StA Try.prog ⟨b3, 0, none⟩ x124 w119 fun w125 =>
  LdA Try.prog 32 ⟨b3, 0, none⟩ w125 fun res126 =>
  R (Value.agg res126) w125)))))
theorem F44_eq (b1p : Option Addr) (b1n : Nat) (b1c : Nat) (w2 : World) (R : Value → World → Prop) : liftF Try.prog 44 (.step .nil .nil (.step .nil .nil (.step .nil .nil (.step .nil .nil (.step (.loop [(5, .b (.int .i64))] (.step .nil .nil (.step .nil .nil (.step (.draw [(1, false), (2, false), (3, false), (0, false), (4, true), (5, true), (6, true)] .nil) .nil .nil)))) .nil (.step .nil .nil (.draw [(0, false), (1, false), (2, false), (3, false), (4, true), (5, false)] (.step .nil .nil (.step .nil .nil (.step .nil .nil (.join 1 [(8, .b (.int .i64))] .nil (.step .nil .nil (.step (.loop [(40, .b (.int .i64))] .nil) .nil (.step .nil .nil (.step (.loop [(10, .b (.int .i64))] (.step .nil .nil (.step .nil .nil (.step (.draw [(1, false), (2, false), (0, false), (3, true), (4, true), (5, true)] .nil) .nil .nil)))) .nil (.step .nil .nil (.step .nil .nil (.step (.loop [(67, .b (.int .i64))] .nil) .nil .nil)))))))))))))))))) [(Value.slice b1p b1n b1c)] w2 R = F44 b1p b1n b1c w2 R := by kernel_rfl
theorem F44_of {b1p : Option Addr} {b1n : Nat} {b1c : Nat} {w2 : World} {R : Value → World → Prop} (h : F44 b1p b1n b1c w2 R) : CallR Try.prog 44 #[(Value.slice b1p b1n b1c)] w2 R := callR_of_lift _ ((F44_eq b1p b1n b1c w2 R).mpr h)

-- F45 subway/digest.beginning
def F45  (w1 : World) (R : Value → World → Prop) : Prop :=
  NewC #[(Value.int .u32 0), (Value.int .u32 0), (Value.int .u32 0), (Value.int .u32 0), (Value.int .u32 0), (Value.int .u32 0), (Value.int .u32 0), (Value.int .u32 0)] 85 w1 fun b2 w3 =>
  Array.size (#[(Value.int .u32 1779033703), (Value.int .u32 3144134277), (Value.int .u32 1013904242), (Value.int .u32 2773480762), (Value.int .u32 1359893119), (Value.int .u32 2600822924), (Value.int .u32 528734635), (Value.int .u32 1541459225)]) = 8 ∧
  StA Try.prog ⟨b2, 0, none⟩ (#[(Value.int .u32 1779033703), (Value.int .u32 3144134277), (Value.int .u32 1013904242), (Value.int .u32 2773480762), (Value.int .u32 1359893119), (Value.int .u32 2600822924), (Value.int .u32 528734635), (Value.int .u32 1541459225)]) w3 fun w4 =>
  LdA Try.prog 8 ⟨b2, 0, none⟩ w4 fun res5 =>
  R (Value.agg res5) w4
theorem F45_eq  (w1 : World) (R : Value → World → Prop) : liftF Try.prog 45 .nil [] w1 R = F45  w1 R := by kernel_rfl
theorem F45_of  {w1 : World} {R : Value → World → Prop} (h : F45  w1 R) : CallR Try.prog 45 #[] w1 R := callR_of_lift _ ((F45_eq  w1 R).mpr h)

-- F46 (subway/digest.state).behind
def F46 (h1 : Array Value) (w2 : Array Value) (w3 : World) (R : Value → World → Prop) : Prop :=
  NewC h1 85 w3 fun b4 w5 =>
  NewC w2 74 w5 fun b6 w7 =>
  NewC #[(Value.int .u32 0), (Value.int .u32 0), (Value.int .u32 0), (Value.int .u32 0), (Value.int .u32 0), (Value.int .u32 0), (Value.int .u32 0), (Value.int .u32 0)] 85 w7 fun b8 w9 =>
  ∃ (C10 : Cls), Cls.p C10 [] w9 ∧
  ∃ (x11 : Array Value), x11.size = 8 ∧ Qt C10 (Value.agg x11) (fun w12 K13 =>
  LdA Try.prog 8 ⟨b4, 0, none⟩ w12 fun x14 =>
  K13 (Value.agg x14) w12) ∧
  Ef C10 (fun w18 K17 =>
  CallR Try.prog 48 #[] w18 fun v20 w21 =>
  ∃ (x22 : Array Value), x22.size = 64 ∧ v20 = (Value.agg x22) ∧
  K17 (Value.agg x22) w21) fun v19 D16 =>
  ∃ (x23 : Array Value), x23.size = 64 ∧ v19 = (Value.agg x23) ∧
  (Qt D16 (Value.agg x11) (fun w24 K25 =>
  LdA Try.prog 8 ⟨b4, 0, none⟩ w24 fun x26 =>
  K25 (Value.agg x26) w24)) ∧
  ∀ b27 : Nat,
  ∀ b28 : Nat,
  Ef (Cls.push (Cls.push D16 (b27, .cells #[(Value.int .u32 0), (Value.int .u32 0), (Value.int .u32 0), (Value.int .u32 0), (Value.int .u32 0), (Value.int .u32 0), (Value.int .u32 0), (Value.int .u32 0)] 85)) (b28, .cells #[(Value.int .u32 0), (Value.int .u32 0), (Value.int .u32 0), (Value.int .u32 0), (Value.int .u32 0), (Value.int .u32 0), (Value.int .u32 0), (Value.int .u32 0), (Value.int .u32 0), (Value.int .u32 0), (Value.int .u32 0), (Value.int .u32 0), (Value.int .u32 0), (Value.int .u32 0), (Value.int .u32 0), (Value.int .u32 0), (Value.int .u32 0), (Value.int .u32 0), (Value.int .u32 0), (Value.int .u32 0), (Value.int .u32 0), (Value.int .u32 0), (Value.int .u32 0), (Value.int .u32 0), (Value.int .u32 0), (Value.int .u32 0), (Value.int .u32 0), (Value.int .u32 0), (Value.int .u32 0), (Value.int .u32 0), (Value.int .u32 0), (Value.int .u32 0), (Value.int .u32 0), (Value.int .u32 0), (Value.int .u32 0), (Value.int .u32 0), (Value.int .u32 0), (Value.int .u32 0), (Value.int .u32 0), (Value.int .u32 0), (Value.int .u32 0), (Value.int .u32 0), (Value.int .u32 0), (Value.int .u32 0), (Value.int .u32 0), (Value.int .u32 0), (Value.int .u32 0), (Value.int .u32 0), (Value.int .u32 0), (Value.int .u32 0), (Value.int .u32 0), (Value.int .u32 0), (Value.int .u32 0), (Value.int .u32 0), (Value.int .u32 0), (Value.int .u32 0), (Value.int .u32 0), (Value.int .u32 0), (Value.int .u32 0), (Value.int .u32 0), (Value.int .u32 0), (Value.int .u32 0), (Value.int .u32 0), (Value.int .u32 0)] 74)) (fun w31 K30 =>
  Array.size x11 = 8 ∧
  StA Try.prog ⟨b27, 0, none⟩ x11 w31 fun w33 =>
  K30 (Value.tuple #[]) w33) fun v32 D29 =>
  v32 = (Value.tuple #[]) ∧
  (True) ∧
  Ef D29 (fun w36 K35 =>
  Array.size x23 = 64 ∧
  StA Try.prog ⟨b28, 0, none⟩ x23 w36 fun w38 =>
  K35 (Value.tuple #[]) w38) fun v37 D34 =>
  v37 = (Value.tuple #[]) ∧
  (True) ∧
  ∀ G39 w40, Cls.p D34 G39 w40 →
  Lp fun I41 mu42 =>
  I41 [(Value.int .i64 0)] w40 ∧
  ∀ (x43 : Int), ∀ w44, I41 [(Value.int .i64 x43)] w44 →
  Bif (decide (x43 < 64)) (
  ∃ (C45 : Cls), Cls.p C45 [] w44 ∧
  IxP (some ⟨b27, 0, none⟩) 8 0 1 fun a46 =>
  IxP (some ⟨b27, 0, none⟩) 8 1 1 fun a47 =>
  IxP (some ⟨b27, 0, none⟩) 8 2 1 fun a48 =>
  IxP (some ⟨b27, 0, none⟩) 8 4 1 fun a49 =>
  ∃ (x50 : Int), Qt C45 (Value.int .u32 x50) (fun w51 K52 =>
  LdI .u32 a46 w51 fun x53 =>
  K52 (Value.int .u32 x53) w51) ∧
  ∃ (x54 : Int), Qt C45 (Value.int .u32 x54) (fun w55 K56 =>
  LdI .u32 a47 w55 fun x57 =>
  K56 (Value.int .u32 x57) w55) ∧
  ∃ (x58 : Int), Qt C45 (Value.int .u32 x58) (fun w59 K60 =>
  LdI .u32 a48 w59 fun x61 =>
  K60 (Value.int .u32 x61) w59) ∧
  ∃ (x62 : Int), Qt C45 (Value.int .u32 x62) (fun w63 K64 =>
  LdI .u32 a49 w63 fun x65 =>
  K64 (Value.int .u32 x65) w63) ∧
  ∀ G66 w67, Cls.p C45 G66 w67 →
  ∃ (C68 : Cls), Cls.p C68 [] w67 ∧
  IxP (some ⟨b27, 0, none⟩) 8 7 1 fun a69 =>
  IxP (some ⟨b27, 0, none⟩) 8 6 1 fun a70 =>
  IxP (some ⟨b27, 0, none⟩) 8 5 1 fun a71 =>
  IxP (some ⟨b27, 0, none⟩) 8 6 1 fun a72 =>
  IxP (some ⟨b28, 0, none⟩) 64 x43 1 fun a73 =>
  IxP (some ⟨b6, 0, none⟩) 64 x43 1 fun a74 =>
  ∃ (x75 : Int), Qt C68 (Value.int .u32 x75) (fun w76 K77 =>
  LdI .u32 a69 w76 fun x78 =>
  K77 (Value.int .u32 x78) w76) ∧
  ∃ (x79 : Int), Qt C68 (Value.int .u32 x79) (fun w80 K81 =>
  LdI .u32 a70 w80 fun x82 =>
  K81 (Value.int .u32 x82) w80) ∧
  ∃ (x83 : Int), Qt C68 (Value.int .u32 x83) (fun w84 K85 =>
  LdI .u32 a71 w84 fun x86 =>
  K85 (Value.int .u32 x86) w84) ∧
  ∃ (x87 : Int), Qt C68 (Value.int .u32 x87) (fun w88 K89 =>
  LdI .u32 a72 w88 fun x90 =>
  K89 (Value.int .u32 x90) w88) ∧
  ∃ (x91 : Int), Qt C68 (Value.int .u32 x91) (fun w92 K93 =>
  LdI .u32 a73 w92 fun x94 =>
  K93 (Value.int .u32 x94) w92) ∧
  ∃ (x95 : Int), Qt C68 (Value.int .u32 x95) (fun w96 K97 =>
  LdI .u32 a74 w96 fun x98 =>
  K97 (Value.int .u32 x98) w96) ∧
  Ef C68 (fun w102 K101 =>
  CallR Try.prog 49 #[(Value.int .u32 x62), (Value.agg #[(Value.int .i64 6), (Value.int .i64 11), (Value.int .i64 25)]), (Value.bool false)] w102 fun v104 w105 =>
  AsI .u32 v104 fun x106 =>
  K101 (Value.int .u32 x106) w105) fun v103 D100 =>
  AsI .u32 v103 fun x107 =>
  (Qt D100 (Value.int .u32 x95) (fun w108 K109 =>
  LdI .u32 a74 w108 fun x110 =>
  K109 (Value.int .u32 x110) w108) ∧
  Qt D100 (Value.int .u32 x91) (fun w111 K112 =>
  LdI .u32 a73 w111 fun x113 =>
  K112 (Value.int .u32 x113) w111) ∧
  Qt D100 (Value.int .u32 x87) (fun w114 K115 =>
  LdI .u32 a72 w114 fun x116 =>
  K115 (Value.int .u32 x116) w114) ∧
  Qt D100 (Value.int .u32 x83) (fun w117 K118 =>
  LdI .u32 a71 w117 fun x119 =>
  K118 (Value.int .u32 x119) w117) ∧
  Qt D100 (Value.int .u32 x79) (fun w120 K121 =>
  LdI .u32 a70 w120 fun x122 =>
  K121 (Value.int .u32 x122) w120) ∧
  Qt D100 (Value.int .u32 x75) (fun w123 K124 =>
  LdI .u32 a69 w123 fun x125 =>
  K124 (Value.int .u32 x125) w123)) ∧
  ∀ G126 w127, Cls.p D100 G126 w127 →
  CallR Try.prog 49 #[(Value.int .u32 x50), (Value.agg #[(Value.int .i64 2), (Value.int .i64 13), (Value.int .i64 22)]), (Value.bool false)] w127 fun v128 w129 =>
  AsI .u32 v128 fun x130 =>
  ∃ (C131 : Cls), Cls.p C131 [] w129 ∧
  SlP (some ⟨b27, 0, none⟩) 8 8 1 1 (8 : Int) fun x132p x132n x132c =>
  SlP (some ⟨b27, 0, none⟩) 8 8 1 0 7 fun x133p x133n x133c =>
  Ef C131 (fun w137 K136 =>
  Run Try.prog (Builtin.copy_ #[92, 92] 3 #[(Value.slice x132p x132n x132c), (Value.slice x133p x133n x133c)]) w137 fun v139 w140 =>
  AsI .i64 v139 fun x141 =>
  K136 (Value.int .i64 x141) w140) fun v138 D135 =>
  AsI .i64 v138 fun x142 =>
  (True) ∧
  ∀ G143 w144, Cls.p D135 G143 w144 →
  IxP (some ⟨b27, 0, none⟩) 8 4 1 fun a145 =>
  LdI .u32 a145 w144 fun x146 =>
  IxP (some ⟨b27, 0, none⟩) 8 0 1 fun a147 =>
  St1 a147 (Value.int .u32 (IntKind.wrap .u32 ((IntKind.wrap .u32 ((IntKind.wrap .u32 ((IntKind.wrap .u32 ((IntKind.wrap .u32 (x75 + x107)) + (IntKind.wrap .u32 ↑((BitVec.ofInt (IntKind.bits .u32) x79 ^^^ BitVec.ofInt (IntKind.bits .u32) (IntKind.wrap .u32 ↑((BitVec.ofInt (IntKind.bits .u32) x62 &&& BitVec.ofInt (IntKind.bits .u32) (IntKind.wrap .u32 ↑((BitVec.ofInt (IntKind.bits .u32) x83 ^^^ BitVec.ofInt (IntKind.bits .u32) x87).toNat))).toNat))).toNat)))) + x91)) + x95)) + (IntKind.wrap .u32 (x130 + (IntKind.wrap .u32 ↑((BitVec.ofInt (IntKind.bits .u32) (IntKind.wrap .u32 ↑((BitVec.ofInt (IntKind.bits .u32) x50 &&& BitVec.ofInt (IntKind.bits .u32) (IntKind.wrap .u32 ↑((BitVec.ofInt (IntKind.bits .u32) x54 ||| BitVec.ofInt (IntKind.bits .u32) x58).toNat))).toNat)) ||| BitVec.ofInt (IntKind.bits .u32) (IntKind.wrap .u32 ↑((BitVec.ofInt (IntKind.bits .u32) x54 &&& BitVec.ofInt (IntKind.bits .u32) x58).toNat))).toNat))))))) w144 fun w148 =>
  IxP (some ⟨b27, 0, none⟩) 8 4 1 fun a149 =>
  St1 a149 (Value.int .u32 (IntKind.wrap .u32 (x146 + (IntKind.wrap .u32 ((IntKind.wrap .u32 ((IntKind.wrap .u32 ((IntKind.wrap .u32 (x75 + x107)) + (IntKind.wrap .u32 ↑((BitVec.ofInt (IntKind.bits .u32) x79 ^^^ BitVec.ofInt (IntKind.bits .u32) (IntKind.wrap .u32 ↑((BitVec.ofInt (IntKind.bits .u32) x62 &&& BitVec.ofInt (IntKind.bits .u32) (IntKind.wrap .u32 ↑((BitVec.ofInt (IntKind.bits .u32) x83 ^^^ BitVec.ofInt (IntKind.bits .u32) x87).toNat))).toNat))).toNat)))) + x91)) + x95))))) w148 fun w150 =>
  I41 [(Value.int .i64 (IntKind.wrap .i64 (x43 + 1)))] w150 ∧ mu42 [(Value.int .i64 (IntKind.wrap .i64 (x43 + 1)))] w150 < mu42 [(Value.int .i64 x43)] w44) (
  Lp fun I151 mu152 =>
  I151 [(Value.int .i64 0)] w44 ∧
  ∀ (x153 : Int), ∀ w154, I151 [(Value.int .i64 x153)] w154 →
  Bif (decide (x153 < 8)) (
  ∃ (C155 : Cls), Cls.p C155 [] w154 ∧
  IxP (some ⟨b27, 0, none⟩) 8 x153 1 fun a156 =>
  IxP (some ⟨b4, 0, none⟩) 8 x153 1 fun a157 =>
  ∃ (x158 : Int), Qt C155 (Value.int .u32 x158) (fun w159 K160 =>
  LdI .u32 a156 w159 fun x161 =>
  K160 (Value.int .u32 x161) w159) ∧
  ∃ (x162 : Int), Qt C155 (Value.int .u32 x162) (fun w163 K164 =>
  LdI .u32 a157 w163 fun x165 =>
  K164 (Value.int .u32 x165) w163) ∧
  IxP (some ⟨b27, 0, none⟩) 8 x153 1 fun a166 =>
  Ef C155 (fun w169 K168 =>
  St1 a166 (Value.int .u32 (IntKind.wrap .u32 (x158 + x162))) w169 fun w171 =>
  K168 (Value.tuple #[]) w171) fun v170 D167 =>
  v170 = (Value.tuple #[]) ∧
  (True) ∧
  ∀ G172 w173, Cls.p D167 G172 w173 →
  I151 [(Value.int .i64 (IntKind.wrap .i64 (x153 + 1)))] w173 ∧ mu152 [(Value.int .i64 (IntKind.wrap .i64 (x153 + 1)))] w173 < mu152 [(Value.int .i64 x153)] w154) (
  LdA Try.prog 8 ⟨b27, 0, none⟩ w154 fun x174 =>
  Array.size x174 = 8 ∧
  StA Try.prog ⟨b8, 0, none⟩ x174 w154 fun w175 =>
  LdA Try.prog 8 ⟨b8, 0, none⟩ w175 fun res176 =>
  R (Value.agg res176) w175))
theorem F46_eq (h1 : Array Value) (w2 : Array Value) (w3 : World) (R : Value → World → Prop) : liftF Try.prog 46 (.step .nil .nil (.draw [(0, false), (1, true), (2, false), (3, false), (4, true), (5, true)] (.step .nil .nil (.step (.loop [(17, .b (.int .i64))] (.step .nil .nil (.step .nil .nil (.step (.step .nil .nil (.draw [(0, false), (2, false), (4, false), (6, false), (1, false), (8, false), (3, false), (9, false), (5, false), (10, false), (7, false), (11, false)] (.draw [(0, false), (2, false), (3, false), (6, false), (8, false), (9, false), (11, false), (17, false), (18, false), (21, false), (22, false), (1, false), (7, false), (10, false), (12, false), (13, false), (14, false), (15, false), (19, false), (23, false), (4, true), (5, false), (16, false), (20, false), (24, false), (25, false)] (.step .nil .nil (.draw [(0, false), (1, false), (2, true)] .nil))))) .nil .nil)))) .nil (.step .nil .nil (.step (.loop [(79, .b (.int .i64))] (.step .nil .nil (.step .nil .nil (.step (.step .nil .nil (.draw [(0, false), (1, false), (3, false), (4, false), (2, false), (5, false), (6, false), (7, false), (8, true)] .nil)) .nil .nil)))) .nil .nil)))))) [(Value.agg h1), (Value.agg w2)] w3 R = F46 h1 w2 w3 R := by kernel_rfl
theorem F46_of {h1 : Array Value} {w2 : Array Value} {w3 : World} {R : Value → World → Prop} (h : F46 h1 w2 w3 R) : CallR Try.prog 46 #[(Value.agg h1), (Value.agg w2)] w3 R := callR_of_lift _ ((F46_eq h1 w2 w3 R).mpr h)

-- F47 subway/digest.words
def F47 (b1p : Option Addr) (b1n : Nat) (b1c : Nat) (w2 : World) (R : Value → World → Prop) : Prop :=
  NewC #[(Value.int .u32 0), (Value.int .u32 0), (Value.int .u32 0), (Value.int .u32 0), (Value.int .u32 0), (Value.int .u32 0), (Value.int .u32 0), (Value.int .u32 0), (Value.int .u32 0), (Value.int .u32 0), (Value.int .u32 0), (Value.int .u32 0), (Value.int .u32 0), (Value.int .u32 0), (Value.int .u32 0), (Value.int .u32 0), (Value.int .u32 0), (Value.int .u32 0), (Value.int .u32 0), (Value.int .u32 0), (Value.int .u32 0), (Value.int .u32 0), (Value.int .u32 0), (Value.int .u32 0), (Value.int .u32 0), (Value.int .u32 0), (Value.int .u32 0), (Value.int .u32 0), (Value.int .u32 0), (Value.int .u32 0), (Value.int .u32 0), (Value.int .u32 0), (Value.int .u32 0), (Value.int .u32 0), (Value.int .u32 0), (Value.int .u32 0), (Value.int .u32 0), (Value.int .u32 0), (Value.int .u32 0), (Value.int .u32 0), (Value.int .u32 0), (Value.int .u32 0), (Value.int .u32 0), (Value.int .u32 0), (Value.int .u32 0), (Value.int .u32 0), (Value.int .u32 0), (Value.int .u32 0), (Value.int .u32 0), (Value.int .u32 0), (Value.int .u32 0), (Value.int .u32 0), (Value.int .u32 0), (Value.int .u32 0), (Value.int .u32 0), (Value.int .u32 0), (Value.int .u32 0), (Value.int .u32 0), (Value.int .u32 0), (Value.int .u32 0), (Value.int .u32 0), (Value.int .u32 0), (Value.int .u32 0), (Value.int .u32 0)] 74 w2 fun b3 w4 =>
  NewC #[(Value.int .u32 0), (Value.int .u32 0), (Value.int .u32 0), (Value.int .u32 0), (Value.int .u32 0), (Value.int .u32 0), (Value.int .u32 0), (Value.int .u32 0), (Value.int .u32 0), (Value.int .u32 0), (Value.int .u32 0), (Value.int .u32 0), (Value.int .u32 0), (Value.int .u32 0), (Value.int .u32 0), (Value.int .u32 0), (Value.int .u32 0), (Value.int .u32 0), (Value.int .u32 0), (Value.int .u32 0), (Value.int .u32 0), (Value.int .u32 0), (Value.int .u32 0), (Value.int .u32 0), (Value.int .u32 0), (Value.int .u32 0), (Value.int .u32 0), (Value.int .u32 0), (Value.int .u32 0), (Value.int .u32 0), (Value.int .u32 0), (Value.int .u32 0), (Value.int .u32 0), (Value.int .u32 0), (Value.int .u32 0), (Value.int .u32 0), (Value.int .u32 0), (Value.int .u32 0), (Value.int .u32 0), (Value.int .u32 0), (Value.int .u32 0), (Value.int .u32 0), (Value.int .u32 0), (Value.int .u32 0), (Value.int .u32 0), (Value.int .u32 0), (Value.int .u32 0), (Value.int .u32 0), (Value.int .u32 0), (Value.int .u32 0), (Value.int .u32 0), (Value.int .u32 0), (Value.int .u32 0), (Value.int .u32 0), (Value.int .u32 0), (Value.int .u32 0), (Value.int .u32 0), (Value.int .u32 0), (Value.int .u32 0), (Value.int .u32 0), (Value.int .u32 0), (Value.int .u32 0), (Value.int .u32 0), (Value.int .u32 0)] 74 w4 fun b5 w6 =>
  SlP b1p b1n b1c 1 0 64 fun x7p x7n x7c =>
  Lp fun I8 mu9 =>
  I8 [(Value.int .i64 0)] w6 ∧
  ∀ (x10 : Int), ∀ w11, I8 [(Value.int .i64 x10)] w11 →
  Bif (decide (x10 < (x7n : Int))) (
  IxP x7p x7n x10 1 fun a12 =>
  LdI .u8 a12 w11 fun x13 =>
  DivK 4 (
  DivK 4 (
  IxP (some ⟨b5, 0, none⟩) 64 (IntKind.wrap .i64 (Int.tdiv x10 4)) 1 fun a14 =>
  LdI .u32 a14 w11 fun x15 =>
  ShK 8 (
  IxP (some ⟨b5, 0, none⟩) 64 (IntKind.wrap .i64 (Int.tdiv x10 4)) 1 fun a16 =>
  St1 a16 (Value.int .u32 (IntKind.wrap .u32 ↑((BitVec.ofInt (IntKind.bits .u32) (IntKind.wrap .u32 (x15 * 2 ^ min (Int.toNat 8) (IntKind.bits .u32))) ||| BitVec.ofInt (IntKind.bits .u32) (IntKind.wrap .u32 x13)).toNat))) w11 fun w17 =>
  I8 [(Value.int .i64 (IntKind.wrap .i64 (x10 + 1)))] w17 ∧ mu9 [(Value.int .i64 (IntKind.wrap .i64 (x10 + 1)))] w17 < mu9 [(Value.int .i64 x10)] w11)))) (
  Lp fun I18 mu19 =>
  I18 [(Value.int .i64 16)] w11 ∧
  ∀ (i20 : Int), ∀ w21, I18 [(Value.int .i64 i20)] w21 →
  Bif (decide (i20 < 64)) (
  ∃ (C22 : Cls), Cls.p C22 [] w21 ∧
  IxP (some ⟨b5, 0, none⟩) 64 (IntKind.wrap .i64 (i20 - 2)) 1 fun a23 =>
  IxP (some ⟨b5, 0, none⟩) 64 (IntKind.wrap .i64 (i20 - 7)) 1 fun a24 =>
  IxP (some ⟨b5, 0, none⟩) 64 (IntKind.wrap .i64 (i20 - 15)) 1 fun a25 =>
  IxP (some ⟨b5, 0, none⟩) 64 (IntKind.wrap .i64 (i20 - 16)) 1 fun a26 =>
  ∃ (x27 : Int), Qt C22 (Value.int .u32 x27) (fun w28 K29 =>
  LdI .u32 a23 w28 fun x30 =>
  K29 (Value.int .u32 x30) w28) ∧
  ∃ (x31 : Int), Qt C22 (Value.int .u32 x31) (fun w32 K33 =>
  LdI .u32 a24 w32 fun x34 =>
  K33 (Value.int .u32 x34) w32) ∧
  ∃ (x35 : Int), Qt C22 (Value.int .u32 x35) (fun w36 K37 =>
  LdI .u32 a25 w36 fun x38 =>
  K37 (Value.int .u32 x38) w36) ∧
  ∃ (x39 : Int), Qt C22 (Value.int .u32 x39) (fun w40 K41 =>
  LdI .u32 a26 w40 fun x42 =>
  K41 (Value.int .u32 x42) w40) ∧
  Ef C22 (fun w46 K45 =>
  CallR Try.prog 49 #[(Value.int .u32 x27), (Value.agg #[(Value.int .i64 17), (Value.int .i64 19), (Value.int .i64 10)]), (Value.bool true)] w46 fun v48 w49 =>
  AsI .u32 v48 fun x50 =>
  K45 (Value.int .u32 x50) w49) fun v47 D44 =>
  AsI .u32 v47 fun x51 =>
  (Qt D44 (Value.int .u32 x39) (fun w52 K53 =>
  LdI .u32 a26 w52 fun x54 =>
  K53 (Value.int .u32 x54) w52) ∧
  Qt D44 (Value.int .u32 x35) (fun w55 K56 =>
  LdI .u32 a25 w55 fun x57 =>
  K56 (Value.int .u32 x57) w55) ∧
  Qt D44 (Value.int .u32 x31) (fun w58 K59 =>
  LdI .u32 a24 w58 fun x60 =>
  K59 (Value.int .u32 x60) w58)) ∧
  Ef D44 (fun w64 K63 =>
  CallR Try.prog 49 #[(Value.int .u32 x35), (Value.agg #[(Value.int .i64 7), (Value.int .i64 18), (Value.int .i64 3)]), (Value.bool true)] w64 fun v66 w67 =>
  AsI .u32 v66 fun x68 =>
  K63 (Value.int .u32 x68) w67) fun v65 D62 =>
  AsI .u32 v65 fun x69 =>
  (Qt D62 (Value.int .u32 x39) (fun w70 K71 =>
  LdI .u32 a26 w70 fun x72 =>
  K71 (Value.int .u32 x72) w70) ∧
  Qt D62 (Value.int .u32 x31) (fun w73 K74 =>
  LdI .u32 a24 w73 fun x75 =>
  K74 (Value.int .u32 x75) w73)) ∧
  IxP (some ⟨b5, 0, none⟩) 64 i20 1 fun a76 =>
  Ef D62 (fun w79 K78 =>
  St1 a76 (Value.int .u32 (IntKind.wrap .u32 ((IntKind.wrap .u32 ((IntKind.wrap .u32 (x51 + x31)) + x69)) + x39))) w79 fun w81 =>
  K78 (Value.tuple #[]) w81) fun v80 D77 =>
  v80 = (Value.tuple #[]) ∧
  (True) ∧
  ∀ G82 w83, Cls.p D77 G82 w83 →
  I18 [(Value.int .i64 (IntKind.wrap .i64 (i20 + 1)))] w83 ∧ mu19 [(Value.int .i64 (IntKind.wrap .i64 (i20 + 1)))] w83 < mu19 [(Value.int .i64 i20)] w21) (
  LdA Try.prog 64 ⟨b5, 0, none⟩ w21 fun x84 =>
  Array.size x84 = 64 ∧
  StA Try.prog ⟨b3, 0, none⟩ x84 w21 fun w85 =>
  LdA Try.prog 64 ⟨b3, 0, none⟩ w85 fun res86 =>
  R (Value.agg res86) w85))
theorem F47_eq (b1p : Option Addr) (b1n : Nat) (b1c : Nat) (w2 : World) (R : Value → World → Prop) : liftF Try.prog 47 (.step .nil .nil (.step .nil .nil (.step .nil .nil (.step (.loop [(10, .b (.int .i64))] .nil) .nil (.step .nil .nil (.step (.loop [(6, .b (.int .i64))] (.step .nil .nil (.step .nil .nil (.step (.draw [(0, false), (1, false), (2, false), (3, false), (5, false), (7, false), (8, false), (9, false), (12, false), (13, false), (14, false), (16, false), (19, false), (20, false), (21, false), (4, false), (10, false), (15, false), (22, false), (6, true), (11, false), (17, true), (18, false), (23, false), (24, false), (25, true)] .nil) .nil .nil)))) .nil .nil)))))) [(Value.slice b1p b1n b1c)] w2 R = F47 b1p b1n b1c w2 R := by kernel_rfl
theorem F47_of {b1p : Option Addr} {b1n : Nat} {b1c : Nat} {w2 : World} {R : Value → World → Prop} (h : F47 b1p b1n b1c w2 R) : CallR Try.prog 47 #[(Value.slice b1p b1n b1c)] w2 R := callR_of_lift _ ((F47_eq b1p b1n b1c w2 R).mpr h)

-- F48 subway/digest.roots
def F48  (w1 : World) (R : Value → World → Prop) : Prop :=
  NewC #[(Value.int .u32 0), (Value.int .u32 0), (Value.int .u32 0), (Value.int .u32 0), (Value.int .u32 0), (Value.int .u32 0), (Value.int .u32 0), (Value.int .u32 0), (Value.int .u32 0), (Value.int .u32 0), (Value.int .u32 0), (Value.int .u32 0), (Value.int .u32 0), (Value.int .u32 0), (Value.int .u32 0), (Value.int .u32 0), (Value.int .u32 0), (Value.int .u32 0), (Value.int .u32 0), (Value.int .u32 0), (Value.int .u32 0), (Value.int .u32 0), (Value.int .u32 0), (Value.int .u32 0), (Value.int .u32 0), (Value.int .u32 0), (Value.int .u32 0), (Value.int .u32 0), (Value.int .u32 0), (Value.int .u32 0), (Value.int .u32 0), (Value.int .u32 0), (Value.int .u32 0), (Value.int .u32 0), (Value.int .u32 0), (Value.int .u32 0), (Value.int .u32 0), (Value.int .u32 0), (Value.int .u32 0), (Value.int .u32 0), (Value.int .u32 0), (Value.int .u32 0), (Value.int .u32 0), (Value.int .u32 0), (Value.int .u32 0), (Value.int .u32 0), (Value.int .u32 0), (Value.int .u32 0), (Value.int .u32 0), (Value.int .u32 0), (Value.int .u32 0), (Value.int .u32 0), (Value.int .u32 0), (Value.int .u32 0), (Value.int .u32 0), (Value.int .u32 0), (Value.int .u32 0), (Value.int .u32 0), (Value.int .u32 0), (Value.int .u32 0), (Value.int .u32 0), (Value.int .u32 0), (Value.int .u32 0), (Value.int .u32 0)] 74 w1 fun b2 w3 =>
  Array.size (#[(Value.int .u32 1116352408), (Value.int .u32 1899447441), (Value.int .u32 3049323471), (Value.int .u32 3921009573), (Value.int .u32 961987163), (Value.int .u32 1508970993), (Value.int .u32 2453635748), (Value.int .u32 2870763221), (Value.int .u32 3624381080), (Value.int .u32 310598401), (Value.int .u32 607225278), (Value.int .u32 1426881987), (Value.int .u32 1925078388), (Value.int .u32 2162078206), (Value.int .u32 2614888103), (Value.int .u32 3248222580), (Value.int .u32 3835390401), (Value.int .u32 4022224774), (Value.int .u32 264347078), (Value.int .u32 604807628), (Value.int .u32 770255983), (Value.int .u32 1249150122), (Value.int .u32 1555081692), (Value.int .u32 1996064986), (Value.int .u32 2554220882), (Value.int .u32 2821834349), (Value.int .u32 2952996808), (Value.int .u32 3210313671), (Value.int .u32 3336571891), (Value.int .u32 3584528711), (Value.int .u32 113926993), (Value.int .u32 338241895), (Value.int .u32 666307205), (Value.int .u32 773529912), (Value.int .u32 1294757372), (Value.int .u32 1396182291), (Value.int .u32 1695183700), (Value.int .u32 1986661051), (Value.int .u32 2177026350), (Value.int .u32 2456956037), (Value.int .u32 2730485921), (Value.int .u32 2820302411), (Value.int .u32 3259730800), (Value.int .u32 3345764771), (Value.int .u32 3516065817), (Value.int .u32 3600352804), (Value.int .u32 4094571909), (Value.int .u32 275423344), (Value.int .u32 430227734), (Value.int .u32 506948616), (Value.int .u32 659060556), (Value.int .u32 883997877), (Value.int .u32 958139571), (Value.int .u32 1322822218), (Value.int .u32 1537002063), (Value.int .u32 1747873779), (Value.int .u32 1955562222), (Value.int .u32 2024104815), (Value.int .u32 2227730452), (Value.int .u32 2361852424), (Value.int .u32 2428436474), (Value.int .u32 2756734187), (Value.int .u32 3204031479), (Value.int .u32 3329325298)]) = 64 ∧
  StA Try.prog ⟨b2, 0, none⟩ (#[(Value.int .u32 1116352408), (Value.int .u32 1899447441), (Value.int .u32 3049323471), (Value.int .u32 3921009573), (Value.int .u32 961987163), (Value.int .u32 1508970993), (Value.int .u32 2453635748), (Value.int .u32 2870763221), (Value.int .u32 3624381080), (Value.int .u32 310598401), (Value.int .u32 607225278), (Value.int .u32 1426881987), (Value.int .u32 1925078388), (Value.int .u32 2162078206), (Value.int .u32 2614888103), (Value.int .u32 3248222580), (Value.int .u32 3835390401), (Value.int .u32 4022224774), (Value.int .u32 264347078), (Value.int .u32 604807628), (Value.int .u32 770255983), (Value.int .u32 1249150122), (Value.int .u32 1555081692), (Value.int .u32 1996064986), (Value.int .u32 2554220882), (Value.int .u32 2821834349), (Value.int .u32 2952996808), (Value.int .u32 3210313671), (Value.int .u32 3336571891), (Value.int .u32 3584528711), (Value.int .u32 113926993), (Value.int .u32 338241895), (Value.int .u32 666307205), (Value.int .u32 773529912), (Value.int .u32 1294757372), (Value.int .u32 1396182291), (Value.int .u32 1695183700), (Value.int .u32 1986661051), (Value.int .u32 2177026350), (Value.int .u32 2456956037), (Value.int .u32 2730485921), (Value.int .u32 2820302411), (Value.int .u32 3259730800), (Value.int .u32 3345764771), (Value.int .u32 3516065817), (Value.int .u32 3600352804), (Value.int .u32 4094571909), (Value.int .u32 275423344), (Value.int .u32 430227734), (Value.int .u32 506948616), (Value.int .u32 659060556), (Value.int .u32 883997877), (Value.int .u32 958139571), (Value.int .u32 1322822218), (Value.int .u32 1537002063), (Value.int .u32 1747873779), (Value.int .u32 1955562222), (Value.int .u32 2024104815), (Value.int .u32 2227730452), (Value.int .u32 2361852424), (Value.int .u32 2428436474), (Value.int .u32 2756734187), (Value.int .u32 3204031479), (Value.int .u32 3329325298)]) w3 fun w4 =>
  LdA Try.prog 64 ⟨b2, 0, none⟩ w4 fun res5 =>
  R (Value.agg res5) w4
theorem F48_eq  (w1 : World) (R : Value → World → Prop) : liftF Try.prog 48 .nil [] w1 R = F48  w1 R := by kernel_rfl
theorem F48_of  {w1 : World} {R : Value → World → Prop} (h : F48  w1 R) : CallR Try.prog 48 #[] w1 R := callR_of_lift _ ((F48_eq  w1 R).mpr h)

-- F49 subway/digest.mixed
def F49 (x1 : Int) (byv2 : Array Value) (fall3 : Bool) (w4 : World) (R : Value → World → Prop) : Prop :=
  NewC byv2 91 w4 fun b5 w6 =>
  IxP (some ⟨b5, 0, none⟩) 3 2 1 fun a7 =>
  LdI .i64 a7 w6 fun x8 =>
  CallR Try.prog 50 #[(Value.int .u32 x1), (Value.int .i64 (IntKind.wrap .i64 (0 - x8)))] w6 fun v9 w10 =>
  AsI .u32 v9 fun x11 =>
  Jn fun J12 => (
  Bif fall3 (
  IxP (some ⟨b5, 0, none⟩) 3 2 1 fun a13 =>
  LdI .i64 a13 w10 fun x14 =>
  ShK x14 (
  J12 [(Value.int .u32 (Int.fdiv x1 (2 ^ min (Int.toNat x14) (IntKind.bits .u32))))] w10)) (
  J12 [(Value.int .u32 x11)] w10)) ∧
  ∀ (last15 : Int), ∀ w16, J12 [(Value.int .u32 last15)] w16 →
  ∃ (C17 : Cls), Cls.p C17 [] w16 ∧
  IxP (some ⟨b5, 0, none⟩) 3 0 1 fun a18 =>
  IxP (some ⟨b5, 0, none⟩) 3 1 1 fun a19 =>
  ∃ (x20 : Int), Qt C17 (Value.int .i64 x20) (fun w21 K22 =>
  LdI .i64 a18 w21 fun x23 =>
  K22 (Value.int .i64 x23) w21) ∧
  ∃ (x24 : Int), Qt C17 (Value.int .i64 x24) (fun w25 K26 =>
  LdI .i64 a19 w25 fun x27 =>
  K26 (Value.int .i64 x27) w25) ∧
  Ef C17 (fun w31 K30 =>
  CallR Try.prog 50 #[(Value.int .u32 x1), (Value.int .i64 (IntKind.wrap .i64 (0 - x20)))] w31 fun v33 w34 =>
  AsI .u32 v33 fun x35 =>
  K30 (Value.int .u32 x35) w34) fun v32 D29 =>
  AsI .u32 v32 fun x36 =>
  (Qt D29 (Value.int .i64 x24) (fun w37 K38 =>
  LdI .i64 a19 w37 fun x39 =>
  K38 (Value.int .i64 x39) w37)) ∧
  Ef D29 (fun w43 K42 =>
  CallR Try.prog 50 #[(Value.int .u32 x1), (Value.int .i64 (IntKind.wrap .i64 (0 - x24)))] w43 fun v45 w46 =>
  AsI .u32 v45 fun x47 =>
  K42 (Value.int .u32 x47) w46) fun v44 D41 =>
  AsI .u32 v44 fun x48 =>
  (True) ∧
  ∀ G49 w50, Cls.p D41 G49 w50 →
  R (Value.int .u32 (IntKind.wrap .u32 ↑((BitVec.ofInt (IntKind.bits .u32) (IntKind.wrap .u32 ↑((BitVec.ofInt (IntKind.bits .u32) x36 ^^^ BitVec.ofInt (IntKind.bits .u32) x48).toNat)) ^^^ BitVec.ofInt (IntKind.bits .u32) last15).toNat))) w50
theorem F49_eq (x1 : Int) (byv2 : Array Value) (fall3 : Bool) (w4 : World) (R : Value → World → Prop) : liftF Try.prog 49 (.step .nil .nil (.step .nil .nil (.step .nil .nil (.join 1 [(7, .b (.int .u32))] .nil (.draw [(0, false), (1, false), (5, false), (6, false), (11, false), (2, false), (3, false), (7, false), (8, false), (4, true), (9, true), (10, false), (12, false), (13, false)] .nil))))) [(Value.int .u32 x1), (Value.agg byv2), (Value.bool fall3)] w4 R = F49 x1 byv2 fall3 w4 R := by kernel_rfl
theorem F49_of {x1 : Int} {byv2 : Array Value} {fall3 : Bool} {w4 : World} {R : Value → World → Prop} (h : F49 x1 byv2 fall3 w4 R) : CallR Try.prog 49 #[(Value.int .u32 x1), (Value.agg byv2), (Value.bool fall3)] w4 R := callR_of_lift _ ((F49_eq x1 byv2 fall3 w4 R).mpr h)

-- F50 math/bits.RotateLeft32
def F50 (x1 : Int) (k2 : Int) (w3 : World) (R : Value → World → Prop) : Prop :=
  ShK (IntKind.wrap .u64 ↑((BitVec.ofInt (IntKind.bits .u64) (IntKind.wrap .u64 k2) &&& BitVec.ofInt (IntKind.bits .u64) 31).toNat)) (
  ShK (IntKind.wrap .u64 (32 - (IntKind.wrap .u64 ↑((BitVec.ofInt (IntKind.bits .u64) (IntKind.wrap .u64 k2) &&& BitVec.ofInt (IntKind.bits .u64) 31).toNat)))) (
  R (Value.int .u32 (IntKind.wrap .u32 ↑((BitVec.ofInt (IntKind.bits .u32) (IntKind.wrap .u32 (x1 * 2 ^ min (Int.toNat (IntKind.wrap .u64 ↑((BitVec.ofInt (IntKind.bits .u64) (IntKind.wrap .u64 k2) &&& BitVec.ofInt (IntKind.bits .u64) 31).toNat))) (IntKind.bits .u32))) ||| BitVec.ofInt (IntKind.bits .u32) (Int.fdiv x1 (2 ^ min (Int.toNat (IntKind.wrap .u64 (32 - (IntKind.wrap .u64 ↑((BitVec.ofInt (IntKind.bits .u64) (IntKind.wrap .u64 k2) &&& BitVec.ofInt (IntKind.bits .u64) 31).toNat))))) (IntKind.bits .u32)))).toNat))) w3))
theorem F50_eq (x1 : Int) (k2 : Int) (w3 : World) (R : Value → World → Prop) : liftF Try.prog 50 .nil [(Value.int .u32 x1), (Value.int .i64 k2)] w3 R = F50 x1 k2 w3 R := by kernel_rfl
theorem F50_of {x1 : Int} {k2 : Int} {w3 : World} {R : Value → World → Prop} (h : F50 x1 k2 w3 R) : CallR Try.prog 50 #[(Value.int .u32 x1), (Value.int .i64 k2)] w3 R := callR_of_lift _ ((F50_eq x1 k2 w3 R).mpr h)

end Go.Proofs.Ytlkbjkmpanohfaa
