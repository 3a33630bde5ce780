/- The lifted forms of this seat's functions, printed by a program; each is met by the kernel. -/
import Derived.Test.YtbfccpbijimjmaaLift
import Derived.Test.YtbfccpbijimjmaaProg
set_option linter.unusedVariables false
set_option maxRecDepth 100000
namespace Go.Proofs.Ytbfccpbijimjmaa
open Go
-- F3 subway/subwaylaw03.MacTells
def F3 (key1p : Option Addr) (key1n : Nat) (key1c : Nat) (b2p : Option Addr) (b2n : Nat) (b2c : Nat) (words3p : Option Addr) (words3n : Nat) (words3c : Nat) (w4 : World) (R : Value → World → Prop) : Prop :=
  CallR Try.prog 9 #[] w4 fun v5 w6 =>
  AsB v5 fun x7 =>
  Bif (decide ((key1n : Int) > 9000)) (
  R (Value.bool x7) w6) (
  Bif (decide ((b2n : Int) > 9000)) (
  R (Value.bool x7) w6) (
  CallR Try.prog 10 #[(Value.slice words3p words3n words3c)] w6 fun v8 w9 =>
  AsB v8 fun x10 =>
  Bif x10 (
  R (Value.bool x7) w9) (
  Bif x7 (
  CallR Try.prog 11 #[(Value.slice key1p key1n key1c), (Value.slice b2p b2n b2c)] w9 fun v11 w12 =>
  ∃ (x13 : Array Value), x13.size = 32 ∧ v11 = (Value.agg x13) ∧
  CallR Try.prog 12 #[(Value.slice key1p key1n key1c), (Value.slice b2p b2n b2c)] w12 fun v14 w15 =>
  ∃ (x16 : Array Value), x16.size = 32 ∧ v14 = (Value.agg x16) ∧
  ∃ v17, (∀ w, Sem.run Try.prog (do eqGuard .eql 26 (.tmp 26) (.tmp 29) (Value.agg x13) (Value.agg x16); binOp .eql 26 (Value.agg x13) (Value.agg x16)) w = .ok v17 w) ∧
  AsB v17 fun x18 =>
  Bif x18 (
  CallR Try.prog 13 #[(Value.slice key1p key1n key1c), (Value.slice b2p b2n b2c)] w15 fun v19 w20 =>
  AsB v19 fun x21 =>
  CallR Try.prog 14 #[(Value.slice key1p key1n key1c), (Value.slice b2p b2n b2c)] w20 fun v22 w23 =>
  AsB v22 fun x24 =>
  Bif (x21 == x24) (
  CallR Try.prog 15 #[(Value.slice key1p key1n key1c), (Value.slice words3p words3n words3c)] w23 fun v25 w26 =>
  AsS v25 fun x27 =>
  CallR Try.prog 16 #[(Value.slice key1p key1n key1c), (Value.slice words3p words3n words3c)] w26 fun v28 w29 =>
  AsS v28 fun x30 =>
  R (Value.bool (ByteArray.toList x27 == ByteArray.toList x30)) w29) (
  R (Value.bool false) w23)) (
  R (Value.bool false) w15)) (
  R (Value.bool false) w9))))
theorem F3_eq (key1p : Option Addr) (key1n : Nat) (key1c : Nat) (b2p : Option Addr) (b2n : Nat) (b2c : Nat) (words3p : Option Addr) (words3n : Nat) (words3c : Nat) (w4 : World) (R : Value → World → Prop) : liftF Try.prog 3 .nil [(Value.slice key1p key1n key1c), (Value.slice b2p b2n b2c), (Value.slice words3p words3n words3c)] w4 R = F3 key1p key1n key1c b2p b2n b2c words3p words3n words3c w4 R := by kernel_rfl
theorem F3_of {key1p : Option Addr} {key1n : Nat} {key1c : Nat} {b2p : Option Addr} {b2n : Nat} {b2c : Nat} {words3p : Option Addr} {words3n : Nat} {words3c : Nat} {w4 : World} {R : Value → World → Prop} (h : F3 key1p key1n key1c b2p b2n b2c words3p words3n words3c w4 R) : CallR Try.prog 3 #[(Value.slice key1p key1n key1c), (Value.slice b2p b2n b2c), (Value.slice words3p words3n words3c)] w4 R := callR_of_lift _ ((F3_eq key1p key1n key1c b2p b2n b2c words3p words3n words3c w4 R).mpr h)

-- F4 subway/subwaylaw03.MacKeys
def F4 (key1p : Option Addr) (key1n : Nat) (key1c : Nat) (zeros2 : Int) (b3p : Option Addr) (b3n : Nat) (b3c : Nat) (w4 : World) (R : Value → World → Prop) : Prop :=
  CallR Try.prog 9 #[] w4 fun v5 w6 =>
  AsB v5 fun x7 =>
  Bif (decide ((key1n : Int) > 9000)) (
  R (Value.bool x7) w6) (
  Bif (decide ((b3n : Int) > 9000)) (
  R (Value.bool x7) w6) (
  Bif (decide ((key1n : Int) > 64)) (
  CallR Try.prog 17 #[(Value.slice key1p key1n key1c)] w6 fun v8 w9 =>
  ∃ (x10 : Array Value), x10.size = 32 ∧ v8 = (Value.agg x10) ∧
  NewC #[(Value.int .u8 0), (Value.int .u8 0), (Value.int .u8 0), (Value.int .u8 0), (Value.int .u8 0), (Value.int .u8 0), (Value.int .u8 0), (Value.int .u8 0), (Value.int .u8 0), (Value.int .u8 0), (Value.int .u8 0), (Value.int .u8 0), (Value.int .u8 0), (Value.int .u8 0), (Value.int .u8 0), (Value.int .u8 0), (Value.int .u8 0), (Value.int .u8 0), (Value.int .u8 0), (Value.int .u8 0), (Value.int .u8 0), (Value.int .u8 0), (Value.int .u8 0), (Value.int .u8 0), (Value.int .u8 0), (Value.int .u8 0), (Value.int .u8 0), (Value.int .u8 0), (Value.int .u8 0), (Value.int .u8 0), (Value.int .u8 0), (Value.int .u8 0)] 26 w9 fun b11 w12 =>
  Array.size x10 = 32 ∧
  StA Try.prog ⟨b11, 0, none⟩ x10 w12 fun w13 =>
  ∃ (C14 : Cls), Cls.p C14 [] w13 ∧
  Bif x7 (
  SlP (some ⟨b11, 0, none⟩) 32 32 1 0 (32 : Int) fun x15p x15n x15c =>
  Ef C14 (fun w19 K18 =>
  CallR Try.prog 11 #[(Value.slice key1p key1n key1c), (Value.slice b3p b3n b3c)] w19 fun v21 w22 =>
  ∃ (x23 : Array Value), x23.size = 32 ∧ v21 = (Value.agg x23) ∧
  K18 (Value.agg x23) w22) fun v20 D17 =>
  ∃ (x24 : Array Value), x24.size = 32 ∧ v20 = (Value.agg x24) ∧
  (True) ∧
  Ef D17 (fun w28 K27 =>
  CallR Try.prog 11 #[(Value.slice x15p x15n x15c), (Value.slice b3p b3n b3c)] w28 fun v30 w31 =>
  ∃ (x32 : Array Value), x32.size = 32 ∧ v30 = (Value.agg x32) ∧
  K27 (Value.agg x32) w31) fun v29 D26 =>
  ∃ (x33 : Array Value), x33.size = 32 ∧ v29 = (Value.agg x33) ∧
  (True) ∧
  ∃ v34, (∀ w, Sem.run Try.prog (do eqGuard .eql 26 (.tmp 29) (.tmp 32) (Value.agg x24) (Value.agg x33); binOp .eql 26 (Value.agg x24) (Value.agg x33)) w = .ok v34 w) ∧
  AsB v34 fun x35 =>
  ∀ G36 w37, Cls.p D26 G36 w37 →
  R (Value.bool x35) w37) (
  ∀ G38 w39, Cls.p C14 G38 w39 →
  R (Value.bool false) w39)) (
  Bif x7 (
  NewC #[] 5 w6 fun b40 w41 =>
  Run Try.prog (Builtin.append_ #[22, 22] 22 #[(Value.slice (some ⟨b40, 0, none⟩) 0 0), (Value.slice key1p key1n key1c)]) w41 fun v42 w43 =>
  AsL v42 fun x44p x44n x44c =>
  Run Try.prog (Builtin.append_ #[22, 3] 22 #[(Value.slice x44p x44n x44c), (Value.int .i64 (if (IntKind.wrap .i64 (64 - (key1n : Int))) < (IntKind.wrap .i64 zeros2) then (IntKind.wrap .i64 (64 - (key1n : Int))) else (IntKind.wrap .i64 zeros2)))]) w43 fun v45 w46 =>
  AsL v45 fun x47p x47n x47c =>
  CallR Try.prog 11 #[(Value.slice x47p x47n x47c), (Value.slice b3p b3n b3c)] w46 fun v48 w49 =>
  ∃ (x50 : Array Value), x50.size = 32 ∧ v48 = (Value.agg x50) ∧
  CallR Try.prog 11 #[(Value.slice key1p key1n key1c), (Value.slice b3p b3n b3c)] w49 fun v51 w52 =>
  ∃ (x53 : Array Value), x53.size = 32 ∧ v51 = (Value.agg x53) ∧
  ∃ v54, (∀ w, Sem.run Try.prog (do eqGuard .eql 26 (.tmp 49) (.tmp 52) (Value.agg x50) (Value.agg x53); binOp .eql 26 (Value.agg x50) (Value.agg x53)) w = .ok v54 w) ∧
  AsB v54 fun x55 =>
  R (Value.bool x55) w52) (
  R (Value.bool false) w6))))
theorem F4_eq (key1p : Option Addr) (key1n : Nat) (key1c : Nat) (zeros2 : Int) (b3p : Option Addr) (b3n : Nat) (b3c : Nat) (w4 : World) (R : Value → World → Prop) : liftF Try.prog 4 (.step .nil .nil (.step .nil .nil (.step .nil .nil (.step .nil .nil (.step .nil .nil (.step (.step .nil .nil (.draw [(0, false), (1, false), (2, false), (3, false), (5, false), (6, false), (4, true), (7, true), (8, false), (9, false), (10, false)] .nil)) .nil .nil)))))) [(Value.slice key1p key1n key1c), (Value.int .u8 zeros2), (Value.slice b3p b3n b3c)] w4 R = F4 key1p key1n key1c zeros2 b3p b3n b3c w4 R := by kernel_rfl
theorem F4_of {key1p : Option Addr} {key1n : Nat} {key1c : Nat} {zeros2 : Int} {b3p : Option Addr} {b3n : Nat} {b3c : Nat} {w4 : World} {R : Value → World → Prop} (h : F4 key1p key1n key1c zeros2 b3p b3n b3c w4 R) : CallR Try.prog 4 #[(Value.slice key1p key1n key1c), (Value.int .u8 zeros2), (Value.slice b3p b3n b3c)] w4 R := callR_of_lift _ ((F4_eq key1p key1n key1c zeros2 b3p b3n b3c w4 R).mpr h)

-- F5 subway/subwaylaw03.MacWords
def F5 (key1p : Option Addr) (key1n : Nat) (key1c : Nat) (words2p : Option Addr) (words2n : Nat) (words2c : Nat) (w3 : World) (R : Value → World → Prop) : Prop :=
  CallR Try.prog 9 #[] w3 fun v4 w5 =>
  AsB v4 fun x6 =>
  Bif (decide ((key1n : Int) > 9000)) (
  R (Value.bool x6) w5) (
  CallR Try.prog 10 #[(Value.slice words2p words2n words2c)] w5 fun v7 w8 =>
  AsB v7 fun x9 =>
  Bif x9 (
  R (Value.bool x6) w8) (
  Lp fun I10 mu11 =>
  I10 [(Value.slice none 0 0), (Value.bool false), (Value.int .i64 0)] w8 ∧
  ∀ (b12p : Option Addr) (b12n : Nat) (b12c : Nat), ∀ (long13 : Bool), ∀ (i14 : Int), ∀ w15, I10 [(Value.slice b12p b12n b12c), (Value.bool long13), (Value.int .i64 i14)] w15 →
  Bif (decide (i14 < (words2n : Int))) (
  Jn fun J16 => (
  Bif long13 (
  J16 [(Value.bool true)] w15) (
  IxP words2p words2n i14 1 fun a17 =>
  LdS a17 w15 fun x18 =>
  J16 [(Value.bool (decide ((x18.size : Int) > 255)))] w15)) ∧
  ∀ (long19 : Bool), ∀ w20, J16 [(Value.bool long19)] w20 →
  ∃ (C21 : Cls), Cls.p C21 [] w20 ∧
  IxP words2p words2n i14 1 fun a22 =>
  IxP words2p words2n i14 1 fun a23 =>
  ∃ (x24 : ByteArray), Qt C21 (Value.string x24) (fun w25 K26 =>
  LdS a22 w25 fun x27 =>
  K26 (Value.string x27) w25) ∧
  ∃ (x28 : ByteArray), Qt C21 (Value.string x28) (fun w29 K30 =>
  LdS a23 w29 fun x31 =>
  K30 (Value.string x31) w29) ∧
  ∀ b32 : Nat,
  Ef (Cls.push C21 (b32, .cells #[(Value.int .u8 (IntKind.wrap .u8 (x24.size : Int)))] 5)) (fun w36 K35 =>
  Run Try.prog (Builtin.append_ #[22, 22] 22 #[(Value.slice b12p b12n b12c), (Value.slice (some ⟨b32, 0, none⟩) 1 1)]) w36 fun v38 w39 =>
  AsL v38 fun x40p x40n x40c =>
  K35 (Value.slice x40p x40n x40c) w39) fun v37 D34 =>
  AsL v37 fun x41p x41n x41c =>
  (Qt D34 (Value.string x28) (fun w42 K43 =>
  LdS a23 w42 fun x44 =>
  K43 (Value.string x44) w42)) ∧
  Ef D34 (fun w48 K47 =>
  Run Try.prog (Builtin.append_ #[22, 9] 22 #[(Value.slice x41p x41n x41c), (Value.string x28)]) w48 fun v50 w51 =>
  AsL v50 fun x52p x52n x52c =>
  K47 (Value.slice x52p x52n x52c) w51) fun v49 D46 =>
  AsL v49 fun x53p x53n x53c =>
  (True) ∧
  ∀ G54 w55, Cls.p D46 G54 w55 →
  I10 [(Value.slice x53p x53n x53c), (Value.bool long19), (Value.int .i64 (IntKind.wrap .i64 (i14 + 1)))] w55 ∧ mu11 [(Value.slice x53p x53n x53c), (Value.bool long19), (Value.int .i64 (IntKind.wrap .i64 (i14 + 1)))] w55 < mu11 [(Value.slice b12p b12n b12c), (Value.bool long13), (Value.int .i64 i14)] w15) (
  CallR Try.prog 15 #[(Value.slice key1p key1n key1c), (Value.slice words2p words2n words2c)] w15 fun v56 w57 =>
  AsS v56 fun x58 =>
  Bif long13 (
  Bif x6 (
  R (Value.bool (ByteArray.toList x58 == ByteArray.toList ⟨#[]⟩)) w57) (
  R (Value.bool false) w57)) (
  CallR Try.prog 11 #[(Value.slice key1p key1n key1c), (Value.slice b12p b12n b12c)] w57 fun v59 w60 =>
  ∃ (x61 : Array Value), x61.size = 32 ∧ v59 = (Value.agg x61) ∧
  NewC #[(Value.int .u8 0), (Value.int .u8 0), (Value.int .u8 0), (Value.int .u8 0), (Value.int .u8 0), (Value.int .u8 0), (Value.int .u8 0), (Value.int .u8 0), (Value.int .u8 0), (Value.int .u8 0), (Value.int .u8 0), (Value.int .u8 0), (Value.int .u8 0), (Value.int .u8 0), (Value.int .u8 0), (Value.int .u8 0), (Value.int .u8 0), (Value.int .u8 0), (Value.int .u8 0), (Value.int .u8 0), (Value.int .u8 0), (Value.int .u8 0), (Value.int .u8 0), (Value.int .u8 0), (Value.int .u8 0), (Value.int .u8 0), (Value.int .u8 0), (Value.int .u8 0), (Value.int .u8 0), (Value.int .u8 0), (Value.int .u8 0), (Value.int .u8 0)] 26 w60 fun b62 w63 =>
  Array.size x61 = 32 ∧
  StA Try.prog ⟨b62, 0, none⟩ x61 w63 fun w64 =>
  Bif x6 (
  SlP (some ⟨b62, 0, none⟩) 32 32 1 0 (32 : Int) fun x65p x65n x65c =>
  CallR Try.prog 18 #[(Value.slice x65p x65n x65c)] w64 fun v66 w67 =>
  AsS v66 fun x68 =>
  R (Value.bool (ByteArray.toList x58 == ByteArray.toList x68)) w67) (
  R (Value.bool false) w64)))))
theorem F5_eq (key1p : Option Addr) (key1n : Nat) (key1c : Nat) (words2p : Option Addr) (words2n : Nat) (words2c : Nat) (w3 : World) (R : Value → World → Prop) : liftF Try.prog 5 (.step .nil .nil (.step .nil .nil (.step .nil .nil (.step .nil .nil (.step .nil .nil (.step .nil .nil (.step .nil .nil (.step (.loop [(6, .b .slice), (7, .b .bool), (8, .b (.int .i64))] (.step .nil .nil (.step .nil .nil (.step (.join 1 [(7, .b .bool)] .nil (.draw [(0, false), (1, false), (2, false), (3, false), (9, false), (10, false), (11, false), (4, false), (5, false), (6, false), (12, false), (7, false), (8, true), (13, true), (14, false)] .nil)) .nil .nil)))) .nil .nil)))))))) [(Value.slice key1p key1n key1c), (Value.slice words2p words2n words2c)] w3 R = F5 key1p key1n key1c words2p words2n words2c w3 R := by kernel_rfl
theorem F5_of {key1p : Option Addr} {key1n : Nat} {key1c : Nat} {words2p : Option Addr} {words2n : Nat} {words2c : Nat} {w3 : World} {R : Value → World → Prop} (h : F5 key1p key1n key1c words2p words2n words2c w3 R) : CallR Try.prog 5 #[(Value.slice key1p key1n key1c), (Value.slice words2p words2n words2c)] w3 R := callR_of_lift _ ((F5_eq key1p key1n key1c words2p words2n words2c w3 R).mpr h)

-- F6 subway/subwaylaw03.MacSame
def F6 (b1p : Option Addr) (b1n : Nat) (b1c : Nat) (atv2 : Int) (c3 : Int) (w4 : World) (R : Value → World → Prop) : Prop :=
  CallR Try.prog 9 #[] w4 fun v5 w6 =>
  AsB v5 fun x7 =>
  Bif (decide ((b1n : Int) > 9000)) (
  R (Value.bool x7) w6) (
  NewC #[] 5 w6 fun b8 w9 =>
  Run Try.prog (Builtin.append_ #[22, 22] 22 #[(Value.slice (some ⟨b8, 0, none⟩) 0 0), (Value.slice b1p b1n b1c)]) w9 fun v10 w11 =>
  AsL v10 fun x12p x12n x12c =>
  CallR Try.prog 13 #[(Value.slice b1p b1n b1c), (Value.slice x12p x12n x12c)] w11 fun v13 w14 =>
  AsB v13 fun x15 =>
  Bif (!x15) (
  R (Value.bool false) w14) (
  NewC #[] 5 w14 fun b16 w17 =>
  Run Try.prog (Builtin.append_ #[22, 22] 22 #[(Value.slice (some ⟨b16, 0, none⟩) 0 0), (Value.slice b1p b1n b1c)]) w17 fun v18 w19 =>
  AsL v18 fun x20p x20n x20c =>
  NewC #[(Value.int .u8 c3)] 5 w19 fun b21 w22 =>
  Run Try.prog (Builtin.append_ #[22, 22] 22 #[(Value.slice x20p x20n x20c), (Value.slice (some ⟨b21, 0, none⟩) 1 1)]) w22 fun v23 w24 =>
  AsL v23 fun x25p x25n x25c =>
  CallR Try.prog 13 #[(Value.slice b1p b1n b1c), (Value.slice x25p x25n x25c)] w24 fun v26 w27 =>
  AsB v26 fun x28 =>
  Bif x28 (
  R (Value.bool false) w27) (
  Bif ((b1n : Int) == 0) (
  R (Value.bool x7) w27) (
  DivK (b1n : Int) (
  IxP x12p x12n (Int.tmod (IntKind.wrap .i64 atv2) (b1n : Int)) 1 fun a29 =>
  St1 a29 (Value.int .u8 c3) w27 fun w30 =>
  ∃ (C31 : Cls), Cls.p C31 [] w30 ∧
  Bif x7 (
  IxP b1p b1n (Int.tmod (IntKind.wrap .i64 atv2) (b1n : Int)) 1 fun a32 =>
  ∃ (x33 : Int), Qt C31 (Value.int .u8 x33) (fun w34 K35 =>
  LdI .u8 a32 w34 fun x36 =>
  K35 (Value.int .u8 x36) w34) ∧
  Ef C31 (fun w40 K39 =>
  CallR Try.prog 13 #[(Value.slice b1p b1n b1c), (Value.slice x12p x12n x12c)] w40 fun v42 w43 =>
  AsB v42 fun x44 =>
  K39 (Value.bool x44) w43) fun v41 D38 =>
  AsB v41 fun x45 =>
  (Qt D38 (Value.int .u8 x33) (fun w46 K47 =>
  LdI .u8 a32 w46 fun x48 =>
  K47 (Value.int .u8 x48) w46)) ∧
  Bif (x45 == (x33 == c3)) (
  IxP b1p b1n (Int.tmod (IntKind.wrap .i64 atv2) (b1n : Int)) 1 fun a49 =>
  ∃ (x50 : Int), Qt D38 (Value.int .u8 x50) (fun w51 K52 =>
  LdI .u8 a49 w51 fun x53 =>
  K52 (Value.int .u8 x53) w51) ∧
  Ef D38 (fun w57 K56 =>
  CallR Try.prog 13 #[(Value.slice x12p x12n x12c), (Value.slice b1p b1n b1c)] w57 fun v59 w60 =>
  AsB v59 fun x61 =>
  K56 (Value.bool x61) w60) fun v58 D55 =>
  AsB v58 fun x62 =>
  (Qt D55 (Value.int .u8 x50) (fun w63 K64 =>
  LdI .u8 a49 w63 fun x65 =>
  K64 (Value.int .u8 x65) w63)) ∧
  Bif (x62 == (x50 == c3)) (
  SlP b1p b1n b1c 1 1 (b1n : Int) fun x66p x66n x66c =>
  Ef D55 (fun w70 K69 =>
  CallR Try.prog 13 #[(Value.slice b1p b1n b1c), (Value.slice x66p x66n x66c)] w70 fun v72 w73 =>
  AsB v72 fun x74 =>
  K69 (Value.bool x74) w73) fun v71 D68 =>
  AsB v71 fun x75 =>
  (True) ∧
  ∀ G76 w77, Cls.p D68 G76 w77 →
  R (Value.bool (!x75)) w77) (
  ∀ G78 w79, Cls.p D55 G78 w79 →
  R (Value.bool false) w79)) (
  ∀ G80 w81, Cls.p D38 G80 w81 →
  R (Value.bool false) w81)) (
  ∀ G82 w83, Cls.p C31 G82 w83 →
  R (Value.bool false) w83))))))
theorem F6_eq (b1p : Option Addr) (b1n : Nat) (b1c : Nat) (atv2 : Int) (c3 : Int) (w4 : World) (R : Value → World → Prop) : liftF Try.prog 6 (.step .nil .nil (.step .nil .nil (.step .nil .nil (.step .nil .nil (.step .nil .nil (.step .nil .nil (.step .nil .nil (.step .nil .nil (.step .nil .nil (.step .nil .nil (.step .nil .nil (.draw [(0, false), (1, false), (2, false), (3, false), (5, false), (6, false), (7, false), (9, false), (8, false), (10, false), (4, true), (11, false), (12, false), (13, false), (14, false), (15, false), (17, false), (18, false), (19, false), (21, false), (20, false), (22, false), (16, true), (23, false), (24, false), (25, false), (26, false), (27, false), (28, false), (29, true), (30, false), (31, false), (32, false)] .nil)))))))))))) [(Value.slice b1p b1n b1c), (Value.int .u16 atv2), (Value.int .u8 c3)] w4 R = F6 b1p b1n b1c atv2 c3 w4 R := by kernel_rfl
theorem F6_of {b1p : Option Addr} {b1n : Nat} {b1c : Nat} {atv2 : Int} {c3 : Int} {w4 : World} {R : Value → World → Prop} (h : F6 b1p b1n b1c atv2 c3 w4 R) : CallR Try.prog 6 #[(Value.slice b1p b1n b1c), (Value.int .u16 atv2), (Value.int .u8 c3)] w4 R := callR_of_lift _ ((F6_eq b1p b1n b1c atv2 c3 w4 R).mpr h)

-- F7 subway/subwaylaw03.MacInner
def F7 (key1p : Option Addr) (key1n : Nat) (key1c : Nat) (b2p : Option Addr) (b2n : Nat) (b2c : Nat) (w3 : World) (R : Value → World → Prop) : Prop :=
  CallR Try.prog 9 #[] w3 fun v4 w5 =>
  AsB v4 fun x6 =>
  Bif (decide ((key1n : Int) > 64)) (
  R (Value.bool x6) w5) (
  Bif (decide ((b2n : Int) > 9000)) (
  R (Value.bool x6) w5) (
  MkS (#[(Value.int .u8 0)]) 1 1 5 64 64 w5 fun b7 w8 =>
  MkS (#[(Value.int .u8 0)]) 1 1 5 64 64 w8 fun b9 w10 =>
  Lp fun I11 mu12 =>
  I11 [(Value.int .i64 0)] w10 ∧
  ∀ (i13 : Int), ∀ w14, I11 [(Value.int .i64 i13)] w14 →
  Bif (decide (i13 < 64)) (
  Jn fun J15 => (
  Bif (decide (i13 < (key1n : Int))) (
  IxP key1p key1n i13 1 fun a16 =>
  LdI .u8 a16 w14 fun x17 =>
  J15 [(Value.int .u8 x17)] w14) (
  J15 [(Value.int .u8 0)] w14)) ∧
  ∀ (c18 : Int), ∀ w19, J15 [(Value.int .u8 c18)] w19 →
  IxP (some ⟨b7, 0, none⟩) (Int.toNat 64) i13 1 fun a20 =>
  St1 a20 (Value.int .u8 (IntKind.wrap .u8 ↑((BitVec.ofInt (IntKind.bits .u8) c18 ^^^ BitVec.ofInt (IntKind.bits .u8) 54).toNat))) w19 fun w21 =>
  IxP (some ⟨b9, 0, none⟩) (Int.toNat 64) i13 1 fun a22 =>
  St1 a22 (Value.int .u8 (IntKind.wrap .u8 ↑((BitVec.ofInt (IntKind.bits .u8) c18 ^^^ BitVec.ofInt (IntKind.bits .u8) 92).toNat))) w21 fun w23 =>
  I11 [(Value.int .i64 (IntKind.wrap .i64 (i13 + 1)))] w23 ∧ mu12 [(Value.int .i64 (IntKind.wrap .i64 (i13 + 1)))] w23 < mu12 [(Value.int .i64 i13)] w14) (
  Run Try.prog (Builtin.append_ #[22, 22] 22 #[(Value.slice (some ⟨b7, 0, none⟩) (Int.toNat 64) (Int.toNat 64)), (Value.slice b2p b2n b2c)]) w14 fun v24 w25 =>
  AsL v24 fun x26p x26n x26c =>
  CallR Try.prog 17 #[(Value.slice x26p x26n x26c)] w25 fun v27 w28 =>
  ∃ (x29 : Array Value), x29.size = 32 ∧ v27 = (Value.agg x29) ∧
  NewC #[(Value.int .u8 0), (Value.int .u8 0), (Value.int .u8 0), (Value.int .u8 0), (Value.int .u8 0), (Value.int .u8 0), (Value.int .u8 0), (Value.int .u8 0), (Value.int .u8 0), (Value.int .u8 0), (Value.int .u8 0), (Value.int .u8 0), (Value.int .u8 0), (Value.int .u8 0), (Value.int .u8 0), (Value.int .u8 0), (Value.int .u8 0), (Value.int .u8 0), (Value.int .u8 0), (Value.int .u8 0), (Value.int .u8 0), (Value.int .u8 0), (Value.int .u8 0), (Value.int .u8 0), (Value.int .u8 0), (Value.int .u8 0), (Value.int .u8 0), (Value.int .u8 0), (Value.int .u8 0), (Value.int .u8 0), (Value.int .u8 0), (Value.int .u8 0)] 26 w28 fun b30 w31 =>
  Array.size x29 = 32 ∧
  StA Try.prog ⟨b30, 0, none⟩ x29 w31 fun w32 =>
  ∃ (C33 : Cls), Cls.p C33 [] w32 ∧
  Bif x6 (
  SlP (some ⟨b30, 0, none⟩) 32 32 1 0 (32 : Int) fun x34p x34n x34c =>
  Ef C33 (fun w38 K37 =>
  CallR Try.prog 11 #[(Value.slice key1p key1n key1c), (Value.slice b2p b2n b2c)] w38 fun v40 w41 =>
  ∃ (x42 : Array Value), x42.size = 32 ∧ v40 = (Value.agg x42) ∧
  K37 (Value.agg x42) w41) fun v39 D36 =>
  ∃ (x43 : Array Value), x43.size = 32 ∧ v39 = (Value.agg x43) ∧
  (True) ∧
  Ef D36 (fun w47 K46 =>
  Run Try.prog (Builtin.append_ #[22, 22] 22 #[(Value.slice (some ⟨b9, 0, none⟩) (Int.toNat 64) (Int.toNat 64)), (Value.slice x34p x34n x34c)]) w47 fun v49 w50 =>
  AsL v49 fun x51p x51n x51c =>
  K46 (Value.slice x51p x51n x51c) w50) fun v48 D45 =>
  AsL v48 fun x52p x52n x52c =>
  (True) ∧
  Ef D45 (fun w56 K55 =>
  CallR Try.prog 17 #[(Value.slice x52p x52n x52c)] w56 fun v58 w59 =>
  ∃ (x60 : Array Value), x60.size = 32 ∧ v58 = (Value.agg x60) ∧
  K55 (Value.agg x60) w59) fun v57 D54 =>
  ∃ (x61 : Array Value), x61.size = 32 ∧ v57 = (Value.agg x61) ∧
  (True) ∧
  ∃ v62, (∀ w, Sem.run Try.prog (do eqGuard .eql 26 (.tmp 53) (.tmp 57) (Value.agg x43) (Value.agg x61); binOp .eql 26 (Value.agg x43) (Value.agg x61)) w = .ok v62 w) ∧
  AsB v62 fun x63 =>
  ∀ G64 w65, Cls.p D54 G64 w65 →
  R (Value.bool x63) w65) (
  ∀ G66 w67, Cls.p C33 G66 w67 →
  R (Value.bool false) w67))))
theorem F7_eq (key1p : Option Addr) (key1n : Nat) (key1c : Nat) (b2p : Option Addr) (b2n : Nat) (b2c : Nat) (w3 : World) (R : Value → World → Prop) : liftF Try.prog 7 (.step .nil .nil (.step .nil .nil (.step .nil .nil (.step .nil .nil (.step .nil .nil (.step .nil .nil (.step .nil .nil (.step (.loop [(8, .b (.int .i64))] (.step .nil .nil (.step .nil .nil (.step (.step .nil .nil (.step .nil .nil (.join 1 [(9, .b (.int .u8))] .nil .nil))) .nil .nil)))) .nil (.step .nil .nil (.draw [(0, false), (1, false), (2, false), (3, false), (5, false), (6, false), (4, true), (7, true), (8, true), (9, false), (10, false), (11, false)] .nil)))))))))) [(Value.slice key1p key1n key1c), (Value.slice b2p b2n b2c)] w3 R = F7 key1p key1n key1c b2p b2n b2c w3 R := by kernel_rfl
theorem F7_of {key1p : Option Addr} {key1n : Nat} {key1c : Nat} {b2p : Option Addr} {b2n : Nat} {b2c : Nat} {w3 : World} {R : Value → World → Prop} (h : F7 key1p key1n key1c b2p b2n b2c w3 R) : CallR Try.prog 7 #[(Value.slice key1p key1n key1c), (Value.slice b2p b2n b2c)] w3 R := callR_of_lift _ ((F7_eq key1p key1n key1c b2p b2n b2c w3 R).mpr h)

-- F8 subway/subwaylaw03.MacStill
def F8 (key1p : Option Addr) (key1n : Nat) (key1c : Nat) (b2p : Option Addr) (b2n : Nat) (b2c : Nat) (words3p : Option Addr) (words3n : Nat) (words3c : Nat) (w4 : World) (R : Value → World → Prop) : Prop :=
  CallR Try.prog 9 #[] w4 fun v5 w6 =>
  AsB v5 fun x7 =>
  Bif (decide ((key1n : Int) > 9000)) (
  R (Value.bool x7) w6) (
  Bif (decide ((b2n : Int) > 9000)) (
  R (Value.bool x7) w6) (
  CallR Try.prog 10 #[(Value.slice words3p words3n words3c)] w6 fun v8 w9 =>
  AsB v8 fun x10 =>
  Bif x10 (
  R (Value.bool x7) w9) (
  Run Try.prog (convert 22 9 (Value.slice key1p key1n key1c)) w9 fun v11 w12 =>
  AsS v11 fun x13 =>
  Run Try.prog (convert 22 9 (Value.slice b2p b2n b2c)) w12 fun v14 w15 =>
  AsS v14 fun x16 =>
  CallR Try.prog 11 #[(Value.slice key1p key1n key1c), (Value.slice b2p b2n b2c)] w15 fun v17 w18 =>
  ∃ (x19 : Array Value), x19.size = 32 ∧ v17 = (Value.agg x19) ∧
  NewC #[(Value.int .u8 0), (Value.int .u8 0), (Value.int .u8 0), (Value.int .u8 0), (Value.int .u8 0), (Value.int .u8 0), (Value.int .u8 0), (Value.int .u8 0), (Value.int .u8 0), (Value.int .u8 0), (Value.int .u8 0), (Value.int .u8 0), (Value.int .u8 0), (Value.int .u8 0), (Value.int .u8 0), (Value.int .u8 0), (Value.int .u8 0), (Value.int .u8 0), (Value.int .u8 0), (Value.int .u8 0), (Value.int .u8 0), (Value.int .u8 0), (Value.int .u8 0), (Value.int .u8 0), (Value.int .u8 0), (Value.int .u8 0), (Value.int .u8 0), (Value.int .u8 0), (Value.int .u8 0), (Value.int .u8 0), (Value.int .u8 0), (Value.int .u8 0)] 26 w18 fun b20 w21 =>
  Array.size x19 = 32 ∧
  StA Try.prog ⟨b20, 0, none⟩ x19 w21 fun w22 =>
  CallR Try.prog 15 #[(Value.slice b2p b2n b2c), (Value.slice words3p words3n words3c)] w22 fun v23 w24 =>
  AsS v23 fun x25 =>
  ∃ (C26 : Cls), Cls.p C26 [] w24 ∧
  Bif x7 (
  ∃ (x27 : ByteArray), Qt C26 (Value.string x27) (fun w28 K29 =>
  Run Try.prog (convert 22 9 (Value.slice key1p key1n key1c)) w28 fun v30 w31 =>
  AsS v30 fun x32 =>
  K29 (Value.string x32) w31) ∧
  Bif (ByteArray.toList x27 == ByteArray.toList x13) (
  ∃ (x33 : ByteArray), Qt C26 (Value.string x33) (fun w34 K35 =>
  Run Try.prog (convert 22 9 (Value.slice b2p b2n b2c)) w34 fun v36 w37 =>
  AsS v36 fun x38 =>
  K35 (Value.string x38) w37) ∧
  Bif (ByteArray.toList x33 == ByteArray.toList x16) (
  ∃ (x39 : Array Value), x39.size = 32 ∧ Qt C26 (Value.agg x39) (fun w40 K41 =>
  LdA Try.prog 32 ⟨b20, 0, none⟩ w40 fun x42 =>
  K41 (Value.agg x42) w40) ∧
  ∀ k44 b43 : Nat,
  ∀ k46 b45 : Nat,
  Ef (Cls.push (Cls.push C26 (b43, Prod.fst (Two.rowB x13 5) k44)) (b45, Prod.fst (Two.rowB x16 5) k46)) (fun w50 K49 =>
  CallR Try.prog 11 #[(Value.slice (some ⟨b43, 0, none⟩) (ByteArray.size x13) (ByteArray.size x13 + k44)), (Value.slice (some ⟨b45, 0, none⟩) (ByteArray.size x16) (ByteArray.size x16 + k46))] w50 fun v52 w53 =>
  ∃ (x54 : Array Value), x54.size = 32 ∧ v52 = (Value.agg x54) ∧
  K49 (Value.agg x54) w53) fun v51 D48 =>
  ∃ (x55 : Array Value), x55.size = 32 ∧ v51 = (Value.agg x55) ∧
  (Qt D48 (Value.agg x39) (fun w56 K57 =>
  LdA Try.prog 32 ⟨b20, 0, none⟩ w56 fun x58 =>
  K57 (Value.agg x58) w56)) ∧
  ∃ v59, (∀ w, Sem.run Try.prog (do eqGuard .eql 26 (.tmp 53) (.tmp 54) (Value.agg x55) (Value.agg x39); binOp .eql 26 (Value.agg x55) (Value.agg x39)) w = .ok v59 w) ∧
  AsB v59 fun x60 =>
  Bif x60 (
  Ef D48 (fun w64 K63 =>
  CallR Try.prog 15 #[(Value.slice key1p key1n key1c), (Value.slice words3p words3n words3c)] w64 fun v66 w67 =>
  AsS v66 fun x68 =>
  K63 (Value.string x68) w67) fun v65 D62 =>
  AsS v65 fun x69 =>
  (True) ∧
  ∀ k71 b70 : Nat,
  Ef (Cls.push D62 (b70, Prod.fst (Two.rowB x13 5) k71)) (fun w75 K74 =>
  CallR Try.prog 15 #[(Value.slice (some ⟨b70, 0, none⟩) (ByteArray.size x13) (ByteArray.size x13 + k71)), (Value.slice words3p words3n words3c)] w75 fun v77 w78 =>
  AsS v77 fun x79 =>
  K74 (Value.string x79) w78) fun v76 D73 =>
  AsS v76 fun x80 =>
  (True) ∧
  ∀ G81 w82, Cls.p D73 G81 w82 →
  R (Value.bool (ByteArray.toList x69 == ByteArray.toList x80)) w82) (
  ∀ G83 w84, Cls.p D48 G83 w84 →
  R (Value.bool false) w84)) (
  ∀ G85 w86, Cls.p C26 G85 w86 →
  R (Value.bool false) w86)) (
  ∀ G87 w88, Cls.p C26 G87 w88 →
  R (Value.bool false) w88)) (
  ∀ G89 w90, Cls.p C26 G89 w90 →
  R (Value.bool false) w90))))
theorem F8_eq (key1p : Option Addr) (key1n : Nat) (key1c : Nat) (b2p : Option Addr) (b2n : Nat) (b2c : Nat) (words3p : Option Addr) (words3n : Nat) (words3c : Nat) (w4 : World) (R : Value → World → Prop) : liftF Try.prog 8 (.step .nil .nil (.step .nil .nil (.step .nil .nil (.step .nil .nil (.step .nil .nil (.step .nil .nil (.step .nil .nil (.step .nil .nil (.draw2 [(0, false), (1, false), (2, false), (4, false), (3, false), (5, false), (6, false), (7, false), (8, false), (10, false), (9, false), (11, false), (12, false), (13, false), (14, false), (16, false), (19, false), (15, false), (17, false), (18, true), (20, false), (21, false), (22, false), (23, false), (24, false), (26, false), (28, false), (25, true), (27, false), (29, true), (30, false), (31, false), (32, false)] .nil))))))))) [(Value.slice key1p key1n key1c), (Value.slice b2p b2n b2c), (Value.slice words3p words3n words3c)] w4 R = F8 key1p key1n key1c b2p b2n b2c words3p words3n words3c w4 R := by kernel_rfl
theorem F8_of {key1p : Option Addr} {key1n : Nat} {key1c : Nat} {b2p : Option Addr} {b2n : Nat} {b2c : Nat} {words3p : Option Addr} {words3n : Nat} {words3c : Nat} {w4 : World} {R : Value → World → Prop} (h : F8 key1p key1n key1c b2p b2n b2c words3p words3n words3c w4 R) : CallR Try.prog 8 #[(Value.slice key1p key1n key1c), (Value.slice b2p b2n b2c), (Value.slice words3p words3n words3c)] w4 R := callR_of_lift _ ((F8_eq key1p key1n key1c b2p b2n b2c words3p words3n words3c w4 R).mpr h)

-- F9 subway/subwaylaw03.head
def F9  (w1 : World) (R : Value → World → Prop) : Prop :=
  NewC #[(Value.int .u8 107), (Value.int .u8 101), (Value.int .u8 121)] 5 w1 fun b2 w3 =>
  Run Try.prog (convert 22 22 (Value.slice (some ⟨b2, 0, none⟩) 3 3)) w3 fun v4 w5 =>
  AsL v4 fun x6p x6n x6c =>
  NewC #[(Value.int .u8 84), (Value.int .u8 104), (Value.int .u8 101), (Value.int .u8 32), (Value.int .u8 113), (Value.int .u8 117), (Value.int .u8 105), (Value.int .u8 99), (Value.int .u8 107), (Value.int .u8 32), (Value.int .u8 98), (Value.int .u8 114), (Value.int .u8 111), (Value.int .u8 119), (Value.int .u8 110), (Value.int .u8 32), (Value.int .u8 102), (Value.int .u8 111), (Value.int .u8 120), (Value.int .u8 32), (Value.int .u8 106), (Value.int .u8 117), (Value.int .u8 109), (Value.int .u8 112), (Value.int .u8 115), (Value.int .u8 32), (Value.int .u8 111), (Value.int .u8 118), (Value.int .u8 101), (Value.int .u8 114), (Value.int .u8 32), (Value.int .u8 116), (Value.int .u8 104), (Value.int .u8 101), (Value.int .u8 32), (Value.int .u8 108), (Value.int .u8 97), (Value.int .u8 122), (Value.int .u8 121), (Value.int .u8 32), (Value.int .u8 100), (Value.int .u8 111), (Value.int .u8 103)] 5 w5 fun b7 w8 =>
  Run Try.prog (convert 22 22 (Value.slice (some ⟨b7, 0, none⟩) 43 43)) w8 fun v9 w10 =>
  AsL v9 fun x11p x11n x11c =>
  CallR Try.prog 11 #[(Value.slice x6p x6n x6c), (Value.slice x11p x11n x11c)] w10 fun v12 w13 =>
  ∃ (x14 : Array Value), x14.size = 32 ∧ v12 = (Value.agg x14) ∧
  NewC #[(Value.int .u8 0), (Value.int .u8 0), (Value.int .u8 0), (Value.int .u8 0), (Value.int .u8 0), (Value.int .u8 0), (Value.int .u8 0), (Value.int .u8 0), (Value.int .u8 0), (Value.int .u8 0), (Value.int .u8 0), (Value.int .u8 0), (Value.int .u8 0), (Value.int .u8 0), (Value.int .u8 0), (Value.int .u8 0), (Value.int .u8 0), (Value.int .u8 0), (Value.int .u8 0), (Value.int .u8 0), (Value.int .u8 0), (Value.int .u8 0), (Value.int .u8 0), (Value.int .u8 0), (Value.int .u8 0), (Value.int .u8 0), (Value.int .u8 0), (Value.int .u8 0), (Value.int .u8 0), (Value.int .u8 0), (Value.int .u8 0), (Value.int .u8 0)] 26 w13 fun b15 w16 =>
  Array.size x14 = 32 ∧
  StA Try.prog ⟨b15, 0, none⟩ x14 w16 fun w17 =>
  NewC #[(Value.int .u8 107), (Value.int .u8 101), (Value.int .u8 121)] 5 w17 fun b18 w19 =>
  Run Try.prog (convert 22 22 (Value.slice (some ⟨b18, 0, none⟩) 3 3)) w19 fun v20 w21 =>
  AsL v20 fun x22p x22n x22c =>
  NewC #[(Value.string ⟨#[97]⟩), (Value.string ⟨#[98, 99]⟩)] 9 w21 fun b23 w24 =>
  CallR Try.prog 15 #[(Value.slice x22p x22n x22c), (Value.slice (some ⟨b23, 0, none⟩) 2 2)] w24 fun v25 w26 =>
  AsS v25 fun x27 =>
  NewC #[(Value.int .u8 107), (Value.int .u8 101), (Value.int .u8 121)] 5 w26 fun b28 w29 =>
  Run Try.prog (convert 22 22 (Value.slice (some ⟨b28, 0, none⟩) 3 3)) w29 fun v30 w31 =>
  AsL v30 fun x32p x32n x32c =>
  NewC #[(Value.int .u8 1), (Value.int .u8 97), (Value.int .u8 2), (Value.int .u8 98), (Value.int .u8 99)] 5 w31 fun b33 w34 =>
  Run Try.prog (convert 22 22 (Value.slice (some ⟨b33, 0, none⟩) 5 5)) w34 fun v35 w36 =>
  AsL v35 fun x37p x37n x37c =>
  CallR Try.prog 11 #[(Value.slice x32p x32n x32c), (Value.slice x37p x37n x37c)] w36 fun v38 w39 =>
  ∃ (x40 : Array Value), x40.size = 32 ∧ v38 = (Value.agg x40) ∧
  NewC #[(Value.int .u8 0), (Value.int .u8 0), (Value.int .u8 0), (Value.int .u8 0), (Value.int .u8 0), (Value.int .u8 0), (Value.int .u8 0), (Value.int .u8 0), (Value.int .u8 0), (Value.int .u8 0), (Value.int .u8 0), (Value.int .u8 0), (Value.int .u8 0), (Value.int .u8 0), (Value.int .u8 0), (Value.int .u8 0), (Value.int .u8 0), (Value.int .u8 0), (Value.int .u8 0), (Value.int .u8 0), (Value.int .u8 0), (Value.int .u8 0), (Value.int .u8 0), (Value.int .u8 0), (Value.int .u8 0), (Value.int .u8 0), (Value.int .u8 0), (Value.int .u8 0), (Value.int .u8 0), (Value.int .u8 0), (Value.int .u8 0), (Value.int .u8 0)] 26 w39 fun b41 w42 =>
  Array.size x40 = 32 ∧
  StA Try.prog ⟨b41, 0, none⟩ x40 w42 fun w43 =>
  SlP (some ⟨b15, 0, none⟩) 32 32 1 0 (32 : Int) fun x44p x44n x44c =>
  CallR Try.prog 18 #[(Value.slice x44p x44n x44c)] w43 fun v45 w46 =>
  AsS v45 fun x47 =>
  Bif (ByteArray.toList x47 == ByteArray.toList ⟨#[102, 55, 98, 99, 56, 51, 102, 52, 51, 48, 53, 51, 56, 52, 50, 52, 98, 49, 51, 50, 57, 56, 101, 54, 97, 97, 54, 102, 98, 49, 52, 51, 101, 102, 52, 100, 53, 57, 97, 49, 52, 57, 52, 54, 49, 55, 53, 57, 57, 55, 52, 55, 57, 100, 98, 99, 50, 100, 49, 97, 51, 99, 100, 56]⟩) (
  SlP (some ⟨b41, 0, none⟩) 32 32 1 0 (32 : Int) fun x48p x48n x48c =>
  CallR Try.prog 18 #[(Value.slice x48p x48n x48c)] w46 fun v49 w50 =>
  AsS v49 fun x51 =>
  Bif (ByteArray.toList x27 == ByteArray.toList x51) (
  Bif ((x27.size : Int) == 64) (
  NewC #[(Value.int .u8 97), (Value.int .u8 98)] 5 w50 fun b52 w53 =>
  Run Try.prog (convert 22 22 (Value.slice (some ⟨b52, 0, none⟩) 2 2)) w53 fun v54 w55 =>
  AsL v54 fun x56p x56n x56c =>
  NewC #[(Value.int .u8 97), (Value.int .u8 98)] 5 w55 fun b57 w58 =>
  Run Try.prog (convert 22 22 (Value.slice (some ⟨b57, 0, none⟩) 2 2)) w58 fun v59 w60 =>
  AsL v59 fun x61p x61n x61c =>
  CallR Try.prog 13 #[(Value.slice x56p x56n x56c), (Value.slice x61p x61n x61c)] w60 fun v62 w63 =>
  AsB v62 fun x64 =>
  Bif x64 (
  NewC #[(Value.int .u8 97), (Value.int .u8 98)] 5 w63 fun b65 w66 =>
  Run Try.prog (convert 22 22 (Value.slice (some ⟨b65, 0, none⟩) 2 2)) w66 fun v67 w68 =>
  AsL v67 fun x69p x69n x69c =>
  NewC #[(Value.int .u8 97)] 5 w68 fun b70 w71 =>
  Run Try.prog (convert 22 22 (Value.slice (some ⟨b70, 0, none⟩) 1 1)) w71 fun v72 w73 =>
  AsL v72 fun x74p x74n x74c =>
  CallR Try.prog 13 #[(Value.slice x69p x69n x69c), (Value.slice x74p x74n x74c)] w73 fun v75 w76 =>
  AsB v75 fun x77 =>
  R (Value.bool (!x77)) w76) (
  R (Value.bool false) w63)) (
  R (Value.bool false) w50)) (
  R (Value.bool false) w50)) (
  R (Value.bool false) w46)
theorem F9_eq  (w1 : World) (R : Value → World → Prop) : liftF Try.prog 9 .nil [] w1 R = F9  w1 R := by kernel_rfl
theorem F9_of  {w1 : World} {R : Value → World → Prop} (h : F9  w1 R) : CallR Try.prog 9 #[] w1 R := callR_of_lift _ ((F9_eq  w1 R).mpr h)

-- F10 subway/subwaylaw03.great
def F10 (l1p : Option Addr) (l1n : Nat) (l1c : Nat) (w2 : World) (R : Value → World → Prop) : Prop :=
  Lp fun I3 mu4 =>
  I3 [(Value.int .i64 (l1n : Int)), (Value.int .i64 0)] w2 ∧
  ∀ (n5 : Int), ∀ (i6 : Int), ∀ w7, I3 [(Value.int .i64 n5), (Value.int .i64 i6)] w7 →
  Bif (decide (i6 < (l1n : Int))) (
  Bif (decide (n5 < 9000)) (
  IxP l1p l1n i6 1 fun a8 =>
  LdS a8 w7 fun x9 =>
  I3 [(Value.int .i64 (IntKind.wrap .i64 (n5 + (if 9000 < (x9.size : Int) then 9000 else (x9.size : Int))))), (Value.int .i64 (IntKind.wrap .i64 (i6 + 1)))] w7 ∧ mu4 [(Value.int .i64 (IntKind.wrap .i64 (n5 + (if 9000 < (x9.size : Int) then 9000 else (x9.size : Int))))), (Value.int .i64 (IntKind.wrap .i64 (i6 + 1)))] w7 < mu4 [(Value.int .i64 n5), (Value.int .i64 i6)] w7) (
  R (Value.bool (decide (n5 ≥ 9000))) w7)) (
  R (Value.bool (decide (n5 ≥ 9000))) w7)
theorem F10_eq (l1p : Option Addr) (l1n : Nat) (l1c : Nat) (w2 : World) (R : Value → World → Prop) : liftF Try.prog 10 (.step .nil .nil (.step .nil .nil (.step .nil .nil (.step (.loop [(3, .b (.int .i64)), (4, .b (.int .i64))] .nil) .nil .nil)))) [(Value.slice l1p l1n l1c)] w2 R = F10 l1p l1n l1c w2 R := by kernel_rfl
theorem F10_of {l1p : Option Addr} {l1n : Nat} {l1c : Nat} {w2 : World} {R : Value → World → Prop} (h : F10 l1p l1n l1c w2 R) : CallR Try.prog 10 #[(Value.slice l1p l1n l1c)] w2 R := callR_of_lift _ ((F10_eq l1p l1n l1c w2 R).mpr h)

-- F11 subway/mac.Mac
def F11 (key1p : Option Addr) (key1n : Nat) (key1c : Nat) (b2p : Option Addr) (b2n : Nat) (b2c : Nat) (w3 : World) (R : Value → World → Prop) : Prop :=
  NewC #[(Value.int .u8 0), (Value.int .u8 0), (Value.int .u8 0), (Value.int .u8 0), (Value.int .u8 0), (Value.int .u8 0), (Value.int .u8 0), (Value.int .u8 0), (Value.int .u8 0), (Value.int .u8 0), (Value.int .u8 0), (Value.int .u8 0), (Value.int .u8 0), (Value.int .u8 0), (Value.int .u8 0), (Value.int .u8 0), (Value.int .u8 0), (Value.int .u8 0), (Value.int .u8 0), (Value.int .u8 0), (Value.int .u8 0), (Value.int .u8 0), (Value.int .u8 0), (Value.int .u8 0), (Value.int .u8 0), (Value.int .u8 0), (Value.int .u8 0), (Value.int .u8 0), (Value.int .u8 0), (Value.int .u8 0), (Value.int .u8 0), (Value.int .u8 0)] 26 w3 fun b4 w5 =>
  CallR Try.prog 20 #[(Value.slice key1p key1n key1c)] w5 fun v6 w7 =>
  ∃ (x8 : Array Value), x8.size = 64 ∧ v6 = (Value.agg x8) ∧
  NewC #[(Value.int .u8 0), (Value.int .u8 0), (Value.int .u8 0), (Value.int .u8 0), (Value.int .u8 0), (Value.int .u8 0), (Value.int .u8 0), (Value.int .u8 0), (Value.int .u8 0), (Value.int .u8 0), (Value.int .u8 0), (Value.int .u8 0), (Value.int .u8 0), (Value.int .u8 0), (Value.int .u8 0), (Value.int .u8 0), (Value.int .u8 0), (Value.int .u8 0), (Value.int .u8 0), (Value.int .u8 0), (Value.int .u8 0), (Value.int .u8 0), (Value.int .u8 0), (Value.int .u8 0), (Value.int .u8 0), (Value.int .u8 0), (Value.int .u8 0), (Value.int .u8 0), (Value.int .u8 0), (Value.int .u8 0), (Value.int .u8 0), (Value.int .u8 0), (Value.int .u8 0), (Value.int .u8 0), (Value.int .u8 0), (Value.int .u8 0), (Value.int .u8 0), (Value.int .u8 0), (Value.int .u8 0), (Value.int .u8 0), (Value.int .u8 0), (Value.int .u8 0), (Value.int .u8 0), (Value.int .u8 0), (Value.int .u8 0), (Value.int .u8 0), (Value.int .u8 0), (Value.int .u8 0), (Value.int .u8 0), (Value.int .u8 0), (Value.int .u8 0), (Value.int .u8 0), (Value.int .u8 0), (Value.int .u8 0), (Value.int .u8 0), (Value.int .u8 0), (Value.int .u8 0), (Value.int .u8 0), (Value.int .u8 0), (Value.int .u8 0), (Value.int .u8 0), (Value.int .u8 0), (Value.int .u8 0), (Value.int .u8 0)] 41 w7 fun b9 w10 =>
  Array.size x8 = 64 ∧
  StA Try.prog ⟨b9, 0, none⟩ x8 w10 fun w11 =>
  LdA Try.prog 64 ⟨b9, 0, none⟩ w11 fun x12 =>
  CallR Try.prog 19 #[(Value.agg x12), (Value.int .u8 54), (Value.slice b2p b2n b2c)] w11 fun v13 w14 =>
  ∃ (x15 : Array Value), x15.size = 32 ∧ v13 = (Value.agg x15) ∧
  NewC #[(Value.int .u8 0), (Value.int .u8 0), (Value.int .u8 0), (Value.int .u8 0), (Value.int .u8 0), (Value.int .u8 0), (Value.int .u8 0), (Value.int .u8 0), (Value.int .u8 0), (Value.int .u8 0), (Value.int .u8 0), (Value.int .u8 0), (Value.int .u8 0), (Value.int .u8 0), (Value.int .u8 0), (Value.int .u8 0), (Value.int .u8 0), (Value.int .u8 0), (Value.int .u8 0), (Value.int .u8 0), (Value.int .u8 0), (Value.int .u8 0), (Value.int .u8 0), (Value.int .u8 0), (Value.int .u8 0), (Value.int .u8 0), (Value.int .u8 0), (Value.int .u8 0), (Value.int .u8 0), (Value.int .u8 0), (Value.int .u8 0), (Value.int .u8 0)] 26 w14 fun b16 w17 =>
  Array.size x15 = 32 ∧
  StA Try.prog ⟨b16, 0, none⟩ x15 w17 fun w18 =>
  ∃ (C19 : Cls), Cls.p C19 [] w18 ∧
  SlP (some ⟨b16, 0, none⟩) 32 32 1 0 (32 : Int) fun x20p x20n x20c =>
  ∃ (x21 : Array Value), x21.size = 64 ∧ Qt C19 (Value.agg x21) (fun w22 K23 =>
  LdA Try.prog 64 ⟨b9, 0, none⟩ w22 fun x24 =>
  K23 (Value.agg x24) w22) ∧
  Ef C19 (fun w28 K27 =>
  CallR Try.prog 19 #[(Value.agg x21), (Value.int .u8 92), (Value.slice x20p x20n x20c)] w28 fun v30 w31 =>
  ∃ (x32 : Array Value), x32.size = 32 ∧ v30 = (Value.agg x32) ∧
  K27 (Value.agg x32) w31) fun v29 D26 =>
  ∃ (x33 : Array Value), x33.size = 32 ∧ v29 = (Value.agg x33) ∧
  (True) ∧
  Ef D26 (fun w36 K35 =>
  Array.size x33 = 32 ∧
  StA Try.prog ⟨b4, 0, none⟩ x33 w36 fun w38 =>
  K35 (Value.tuple #[]) w38) fun v37 D34 =>
  v37 = (Value.tuple #[]) ∧
  (True) ∧
  ∀ G39 w40, Cls.p D34 G39 w40 →
  LdA Try.prog 32 ⟨b4, 0, none⟩ w40 fun res41 =>
  R (Value.agg res41) w40
theorem F11_eq (key1p : Option Addr) (key1n : Nat) (key1c : Nat) (b2p : Option Addr) (b2n : Nat) (b2c : Nat) (w3 : World) (R : Value → World → Prop) : liftF Try.prog 11 (.step .nil .nil (.step .nil .nil (.step .nil .nil (.draw [(0, false), (2, false), (1, false), (3, true), (4, true)] .nil)))) [(Value.slice key1p key1n key1c), (Value.slice b2p b2n b2c)] w3 R = F11 key1p key1n key1c b2p b2n b2c w3 R := by kernel_rfl
theorem F11_of {key1p : Option Addr} {key1n : Nat} {key1c : Nat} {b2p : Option Addr} {b2n : Nat} {b2c : Nat} {w3 : World} {R : Value → World → Prop} (h : F11 key1p key1n key1c b2p b2n b2c w3 R) : CallR Try.prog 11 #[(Value.slice key1p key1n key1c), (Value.slice b2p b2n b2c)] w3 R := callR_of_lift _ ((F11_eq key1p key1n key1c b2p b2n b2c w3 R).mpr h)

-- F12 subway/subwayref03.Mac
def F12 (key1p : Option Addr) (key1n : Nat) (key1c : Nat) (b2p : Option Addr) (b2n : Nat) (b2c : Nat) (w3 : World) (R : Value → World → Prop) : Prop :=
  NewC #[(Value.int .u8 0), (Value.int .u8 0), (Value.int .u8 0), (Value.int .u8 0), (Value.int .u8 0), (Value.int .u8 0), (Value.int .u8 0), (Value.int .u8 0), (Value.int .u8 0), (Value.int .u8 0), (Value.int .u8 0), (Value.int .u8 0), (Value.int .u8 0), (Value.int .u8 0), (Value.int .u8 0), (Value.int .u8 0), (Value.int .u8 0), (Value.int .u8 0), (Value.int .u8 0), (Value.int .u8 0), (Value.int .u8 0), (Value.int .u8 0), (Value.int .u8 0), (Value.int .u8 0), (Value.int .u8 0), (Value.int .u8 0), (Value.int .u8 0), (Value.int .u8 0), (Value.int .u8 0), (Value.int .u8 0), (Value.int .u8 0), (Value.int .u8 0)] 26 w3 fun b4 w5 =>
  CallR Try.prog 21 #[(Value.slice key1p key1n key1c), (Value.int .u8 54)] w5 fun v6 w7 =>
  AsL v6 fun x8p x8n x8c =>
  Run Try.prog (Builtin.append_ #[22, 22] 22 #[(Value.slice x8p x8n x8c), (Value.slice b2p b2n b2c)]) w7 fun v9 w10 =>
  AsL v9 fun x11p x11n x11c =>
  CallR Try.prog 17 #[(Value.slice x11p x11n x11c)] w10 fun v12 w13 =>
  ∃ (x14 : Array Value), x14.size = 32 ∧ v12 = (Value.agg x14) ∧
  NewC #[(Value.int .u8 0), (Value.int .u8 0), (Value.int .u8 0), (Value.int .u8 0), (Value.int .u8 0), (Value.int .u8 0), (Value.int .u8 0), (Value.int .u8 0), (Value.int .u8 0), (Value.int .u8 0), (Value.int .u8 0), (Value.int .u8 0), (Value.int .u8 0), (Value.int .u8 0), (Value.int .u8 0), (Value.int .u8 0), (Value.int .u8 0), (Value.int .u8 0), (Value.int .u8 0), (Value.int .u8 0), (Value.int .u8 0), (Value.int .u8 0), (Value.int .u8 0), (Value.int .u8 0), (Value.int .u8 0), (Value.int .u8 0), (Value.int .u8 0), (Value.int .u8 0), (Value.int .u8 0), (Value.int .u8 0), (Value.int .u8 0), (Value.int .u8 0)] 26 w13 fun b15 w16 =>
  Array.size x14 = 32 ∧
  StA Try.prog ⟨b15, 0, none⟩ x14 w16 fun w17 =>
  ∃ (C18 : Cls), Cls.p C18 [] w17 ∧
  SlP (some ⟨b15, 0, none⟩) 32 32 1 0 (32 : Int) fun x19p x19n x19c =>
  Ef C18 (fun w23 K22 =>
  CallR Try.prog 21 #[(Value.slice key1p key1n key1c), (Value.int .u8 92)] w23 fun v25 w26 =>
  AsL v25 fun x27p x27n x27c =>
  K22 (Value.slice x27p x27n x27c) w26) fun v24 D21 =>
  AsL v24 fun x28p x28n x28c =>
  (True) ∧
  Ef D21 (fun w32 K31 =>
  Run Try.prog (Builtin.append_ #[22, 22] 22 #[(Value.slice x28p x28n x28c), (Value.slice x19p x19n x19c)]) w32 fun v34 w35 =>
  AsL v34 fun x36p x36n x36c =>
  K31 (Value.slice x36p x36n x36c) w35) fun v33 D30 =>
  AsL v33 fun x37p x37n x37c =>
  (True) ∧
  Ef D30 (fun w41 K40 =>
  CallR Try.prog 17 #[(Value.slice x37p x37n x37c)] w41 fun v43 w44 =>
  ∃ (x45 : Array Value), x45.size = 32 ∧ v43 = (Value.agg x45) ∧
  K40 (Value.agg x45) w44) fun v42 D39 =>
  ∃ (x46 : Array Value), x46.size = 32 ∧ v42 = (Value.agg x46) ∧
  (True) ∧
  Ef D39 (fun w49 K48 =>
  Array.size x46 = 32 ∧
  StA Try.prog ⟨b4, 0, none⟩ x46 w49 fun w51 =>
  K48 (Value.tuple #[]) w51) fun v50 D47 =>
  v50 = (Value.tuple #[]) ∧
  (True) ∧
  ∀ G52 w53, Cls.p D47 G52 w53 →
  LdA Try.prog 32 ⟨b4, 0, none⟩ w53 fun res54 =>
  R (Value.agg res54) w53
theorem F12_eq (key1p : Option Addr) (key1n : Nat) (key1c : Nat) (b2p : Option Addr) (b2n : Nat) (b2c : Nat) (w3 : World) (R : Value → World → Prop) : liftF Try.prog 12 (.step .nil .nil (.step .nil .nil (.draw [(0, false), (2, false), (1, true), (3, true), (4, true), (5, true)] .nil))) [(Value.slice key1p key1n key1c), (Value.slice b2p b2n b2c)] w3 R = F12 key1p key1n key1c b2p b2n b2c w3 R := by kernel_rfl
theorem F12_of {key1p : Option Addr} {key1n : Nat} {key1c : Nat} {b2p : Option Addr} {b2n : Nat} {b2c : Nat} {w3 : World} {R : Value → World → Prop} (h : F12 key1p key1n key1c b2p b2n b2c w3 R) : CallR Try.prog 12 #[(Value.slice key1p key1n key1c), (Value.slice b2p b2n b2c)] w3 R := callR_of_lift _ ((F12_eq key1p key1n key1c b2p b2n b2c w3 R).mpr h)

-- F13 subway/mac.Same
def F13 (a1p : Option Addr) (a1n : Nat) (a1c : Nat) (b2p : Option Addr) (b2n : Nat) (b2c : Nat) (w3 : World) (R : Value → World → Prop) : Prop :=
  Bif ((a1n : Int) != (b2n : Int)) (
  R (Value.bool false) w3) (
  Lp fun I4 mu5 =>
  I4 [(Value.int .u8 0), (Value.int .i64 0)] w3 ∧
  ∀ (unlike6 : Int), ∀ (x7 : Int), ∀ w8, I4 [(Value.int .u8 unlike6), (Value.int .i64 x7)] w8 →
  Bif (decide (x7 < (a1n : Int))) (
  ∃ (C9 : Cls), Cls.p C9 [] w8 ∧
  IxP a1p a1n x7 1 fun a10 =>
  IxP b2p b2n x7 1 fun a11 =>
  ∃ (x12 : Int), Qt C9 (Value.int .u8 x12) (fun w13 K14 =>
  LdI .u8 a10 w13 fun x15 =>
  K14 (Value.int .u8 x15) w13) ∧
  ∃ (x16 : Int), Qt C9 (Value.int .u8 x16) (fun w17 K18 =>
  LdI .u8 a11 w17 fun x19 =>
  K18 (Value.int .u8 x19) w17) ∧
  ∀ G20 w21, Cls.p C9 G20 w21 →
  I4 [(Value.int .u8 (IntKind.wrap .u8 ↑((BitVec.ofInt (IntKind.bits .u8) unlike6 ||| BitVec.ofInt (IntKind.bits .u8) (IntKind.wrap .u8 ↑((BitVec.ofInt (IntKind.bits .u8) x12 ^^^ BitVec.ofInt (IntKind.bits .u8) x16).toNat))).toNat))), (Value.int .i64 (IntKind.wrap .i64 (x7 + 1)))] w21 ∧ mu5 [(Value.int .u8 (IntKind.wrap .u8 ↑((BitVec.ofInt (IntKind.bits .u8) unlike6 ||| BitVec.ofInt (IntKind.bits .u8) (IntKind.wrap .u8 ↑((BitVec.ofInt (IntKind.bits .u8) x12 ^^^ BitVec.ofInt (IntKind.bits .u8) x16).toNat))).toNat))), (Value.int .i64 (IntKind.wrap .i64 (x7 + 1)))] w21 < mu5 [(Value.int .u8 unlike6), (Value.int .i64 x7)] w8) (
  R (Value.bool (unlike6 == 0)) w8))
theorem F13_eq (a1p : Option Addr) (a1n : Nat) (a1c : Nat) (b2p : Option Addr) (b2n : Nat) (b2c : Nat) (w3 : World) (R : Value → World → Prop) : liftF Try.prog 13 (.step .nil .nil (.step .nil .nil (.step .nil .nil (.step .nil .nil (.step .nil .nil (.step (.loop [(5, .b (.int .u8)), (14, .b (.int .i64))] (.step .nil .nil (.step .nil .nil (.step (.step .nil .nil (.draw [(0, false), (1, false), (2, false), (3, false), (5, false), (6, false), (7, false), (4, false), (8, false), (9, false), (10, false), (11, false)] .nil)) .nil .nil)))) .nil .nil)))))) [(Value.slice a1p a1n a1c), (Value.slice b2p b2n b2c)] w3 R = F13 a1p a1n a1c b2p b2n b2c w3 R := by kernel_rfl
theorem F13_of {a1p : Option Addr} {a1n : Nat} {a1c : Nat} {b2p : Option Addr} {b2n : Nat} {b2c : Nat} {w3 : World} {R : Value → World → Prop} (h : F13 a1p a1n a1c b2p b2n b2c w3 R) : CallR Try.prog 13 #[(Value.slice a1p a1n a1c), (Value.slice b2p b2n b2c)] w3 R := callR_of_lift _ ((F13_eq a1p a1n a1c b2p b2n b2c w3 R).mpr h)

-- F14 subway/subwayref03.Same
def F14 (a1p : Option Addr) (a1n : Nat) (a1c : Nat) (b2p : Option Addr) (b2n : Nat) (b2c : Nat) (w3 : World) (R : Value → World → Prop) : Prop :=
  Run Try.prog (convert 22 9 (Value.slice a1p a1n a1c)) w3 fun v4 w5 =>
  AsS v4 fun x6 =>
  Run Try.prog (convert 22 9 (Value.slice b2p b2n b2c)) w5 fun v7 w8 =>
  AsS v7 fun x9 =>
  R (Value.bool (ByteArray.toList x6 == ByteArray.toList x9)) w8
theorem F14_eq (a1p : Option Addr) (a1n : Nat) (a1c : Nat) (b2p : Option Addr) (b2n : Nat) (b2c : Nat) (w3 : World) (R : Value → World → Prop) : liftF Try.prog 14 .nil [(Value.slice a1p a1n a1c), (Value.slice b2p b2n b2c)] w3 R = F14 a1p a1n a1c b2p b2n b2c w3 R := by kernel_rfl
theorem F14_of {a1p : Option Addr} {a1n : Nat} {a1c : Nat} {b2p : Option Addr} {b2n : Nat} {b2c : Nat} {w3 : World} {R : Value → World → Prop} (h : F14 a1p a1n a1c b2p b2n b2c w3 R) : CallR Try.prog 14 #[(Value.slice a1p a1n a1c), (Value.slice b2p b2n b2c)] w3 R := callR_of_lift _ ((F14_eq a1p a1n a1c b2p b2n b2c w3 R).mpr h)

-- F15 subway/mac.Proof
def F15 (key1p : Option Addr) (key1n : Nat) (key1c : Nat) (words2p : Option Addr) (words2n : Nat) (words2c : Nat) (w3 : World) (R : Value → World → Prop) : Prop :=
  Lp fun I4 mu5 =>
  I4 [(Value.slice none 0 0), (Value.int .i64 0)] w3 ∧
  ∀ (b6p : Option Addr) (b6n : Nat) (b6c : Nat), ∀ (x7 : Int), ∀ w8, I4 [(Value.slice b6p b6n b6c), (Value.int .i64 x7)] w8 →
  Bif (decide (x7 < (words2n : Int))) (
  IxP words2p words2n x7 1 fun a9 =>
  LdS a9 w8 fun x10 =>
  Bif (decide ((x10.size : Int) > 255)) (
  R (Value.string ⟨#[]⟩) w8) (
  CallR Try.prog 22 #[(Value.string x10)] w8 fun v11 w12 =>
  AsL v11 fun x13p x13n x13c =>
  Run Try.prog (Builtin.append_ #[22, 22] 22 #[(Value.slice b6p b6n b6c), (Value.slice x13p x13n x13c)]) w12 fun v14 w15 =>
  AsL v14 fun x16p x16n x16c =>
  I4 [(Value.slice x16p x16n x16c), (Value.int .i64 (IntKind.wrap .i64 (x7 + 1)))] w15 ∧ mu5 [(Value.slice x16p x16n x16c), (Value.int .i64 (IntKind.wrap .i64 (x7 + 1)))] w15 < mu5 [(Value.slice b6p b6n b6c), (Value.int .i64 x7)] w8)) (
  CallR Try.prog 11 #[(Value.slice key1p key1n key1c), (Value.slice b6p b6n b6c)] w8 fun v17 w18 =>
  ∃ (x19 : Array Value), x19.size = 32 ∧ v17 = (Value.agg x19) ∧
  NewC #[(Value.int .u8 0), (Value.int .u8 0), (Value.int .u8 0), (Value.int .u8 0), (Value.int .u8 0), (Value.int .u8 0), (Value.int .u8 0), (Value.int .u8 0), (Value.int .u8 0), (Value.int .u8 0), (Value.int .u8 0), (Value.int .u8 0), (Value.int .u8 0), (Value.int .u8 0), (Value.int .u8 0), (Value.int .u8 0), (Value.int .u8 0), (Value.int .u8 0), (Value.int .u8 0), (Value.int .u8 0), (Value.int .u8 0), (Value.int .u8 0), (Value.int .u8 0), (Value.int .u8 0), (Value.int .u8 0), (Value.int .u8 0), (Value.int .u8 0), (Value.int .u8 0), (Value.int .u8 0), (Value.int .u8 0), (Value.int .u8 0), (Value.int .u8 0)] 26 w18 fun b20 w21 =>
  Array.size x19 = 32 ∧
  StA Try.prog ⟨b20, 0, none⟩ x19 w21 fun w22 =>
  SlP (some ⟨b20, 0, none⟩) 32 32 1 0 (32 : Int) fun x23p x23n x23c =>
  CallR Try.prog 23 #[(Value.slice x23p x23n x23c)] w22 fun v24 w25 =>
  AsS v24 fun x26 =>
  R (Value.string x26) w25)
theorem F15_eq (key1p : Option Addr) (key1n : Nat) (key1c : Nat) (words2p : Option Addr) (words2n : Nat) (words2c : Nat) (w3 : World) (R : Value → World → Prop) : liftF Try.prog 15 (.step .nil .nil (.step .nil .nil (.step .nil .nil (.step (.loop [(5, .b .slice), (11, .b (.int .i64))] .nil) .nil .nil)))) [(Value.slice key1p key1n key1c), (Value.slice words2p words2n words2c)] w3 R = F15 key1p key1n key1c words2p words2n words2c w3 R := by kernel_rfl
theorem F15_of {key1p : Option Addr} {key1n : Nat} {key1c : Nat} {words2p : Option Addr} {words2n : Nat} {words2c : Nat} {w3 : World} {R : Value → World → Prop} (h : F15 key1p key1n key1c words2p words2n words2c w3 R) : CallR Try.prog 15 #[(Value.slice key1p key1n key1c), (Value.slice words2p words2n words2c)] w3 R := callR_of_lift _ ((F15_eq key1p key1n key1c words2p words2n words2c w3 R).mpr h)

-- F16 subway/subwayref03.Proof
def F16 (key1p : Option Addr) (key1n : Nat) (key1c : Nat) (words2p : Option Addr) (words2n : Nat) (words2c : Nat) (w3 : World) (R : Value → World → Prop) : Prop :=
  Lp fun I4 mu5 =>
  I4 [(Value.slice none 0 0), (Value.int .i64 0)] w3 ∧
  ∀ (b6p : Option Addr) (b6n : Nat) (b6c : Nat), ∀ (i7 : Int), ∀ w8, I4 [(Value.slice b6p b6n b6c), (Value.int .i64 i7)] w8 →
  Bif (decide (i7 < (words2n : Int))) (
  IxP words2p words2n i7 1 fun a9 =>
  LdS a9 w8 fun x10 =>
  Bif (decide ((x10.size : Int) > 255)) (
  R (Value.string ⟨#[]⟩) w8) (
  IxP words2p words2n i7 1 fun a11 =>
  LdS a11 w8 fun x12 =>
  CallR Try.prog 24 #[(Value.string x12)] w8 fun v13 w14 =>
  AsL v13 fun x15p x15n x15c =>
  Run Try.prog (Builtin.append_ #[22, 22] 22 #[(Value.slice b6p b6n b6c), (Value.slice x15p x15n x15c)]) w14 fun v16 w17 =>
  AsL v16 fun x18p x18n x18c =>
  I4 [(Value.slice x18p x18n x18c), (Value.int .i64 (IntKind.wrap .i64 (i7 + 1)))] w17 ∧ mu5 [(Value.slice x18p x18n x18c), (Value.int .i64 (IntKind.wrap .i64 (i7 + 1)))] w17 < mu5 [(Value.slice b6p b6n b6c), (Value.int .i64 i7)] w8)) (
  CallR Try.prog 12 #[(Value.slice key1p key1n key1c), (Value.slice b6p b6n b6c)] w8 fun v19 w20 =>
  ∃ (x21 : Array Value), x21.size = 32 ∧ v19 = (Value.agg x21) ∧
  NewC #[(Value.int .u8 0), (Value.int .u8 0), (Value.int .u8 0), (Value.int .u8 0), (Value.int .u8 0), (Value.int .u8 0), (Value.int .u8 0), (Value.int .u8 0), (Value.int .u8 0), (Value.int .u8 0), (Value.int .u8 0), (Value.int .u8 0), (Value.int .u8 0), (Value.int .u8 0), (Value.int .u8 0), (Value.int .u8 0), (Value.int .u8 0), (Value.int .u8 0), (Value.int .u8 0), (Value.int .u8 0), (Value.int .u8 0), (Value.int .u8 0), (Value.int .u8 0), (Value.int .u8 0), (Value.int .u8 0), (Value.int .u8 0), (Value.int .u8 0), (Value.int .u8 0), (Value.int .u8 0), (Value.int .u8 0), (Value.int .u8 0), (Value.int .u8 0)] 26 w20 fun b22 w23 =>
  Array.size x21 = 32 ∧
  StA Try.prog ⟨b22, 0, none⟩ x21 w23 fun w24 =>
  SlP (some ⟨b22, 0, none⟩) 32 32 1 0 (32 : Int) fun x25p x25n x25c =>
  CallR Try.prog 18 #[(Value.slice x25p x25n x25c)] w24 fun v26 w27 =>
  AsS v26 fun x28 =>
  R (Value.string x28) w27)
theorem F16_eq (key1p : Option Addr) (key1n : Nat) (key1c : Nat) (words2p : Option Addr) (words2n : Nat) (words2c : Nat) (w3 : World) (R : Value → World → Prop) : liftF Try.prog 16 (.step .nil .nil (.step .nil .nil (.step .nil .nil (.step (.loop [(5, .b .slice), (6, .b (.int .i64))] .nil) .nil .nil)))) [(Value.slice key1p key1n key1c), (Value.slice words2p words2n words2c)] w3 R = F16 key1p key1n key1c words2p words2n words2c w3 R := by kernel_rfl
theorem F16_of {key1p : Option Addr} {key1n : Nat} {key1c : Nat} {words2p : Option Addr} {words2n : Nat} {words2c : Nat} {w3 : World} {R : Value → World → Prop} (h : F16 key1p key1n key1c words2p words2n words2c w3 R) : CallR Try.prog 16 #[(Value.slice key1p key1n key1c), (Value.slice words2p words2n words2c)] w3 R := callR_of_lift _ ((F16_eq key1p key1n key1c words2p words2n words2c w3 R).mpr h)

-- F17 subway/subwayref02.Sum
def F17 (b1p : Option Addr) (b1n : Nat) (b1c : Nat) (w2 : World) (R : Value → World → Prop) : Prop :=
  NewC #[(Value.int .u8 0), (Value.int .u8 0), (Value.int .u8 0), (Value.int .u8 0), (Value.int .u8 0), (Value.int .u8 0), (Value.int .u8 0), (Value.int .u8 0), (Value.int .u8 0), (Value.int .u8 0), (Value.int .u8 0), (Value.int .u8 0), (Value.int .u8 0), (Value.int .u8 0), (Value.int .u8 0), (Value.int .u8 0), (Value.int .u8 0), (Value.int .u8 0), (Value.int .u8 0), (Value.int .u8 0), (Value.int .u8 0), (Value.int .u8 0), (Value.int .u8 0), (Value.int .u8 0), (Value.int .u8 0), (Value.int .u8 0), (Value.int .u8 0), (Value.int .u8 0), (Value.int .u8 0), (Value.int .u8 0), (Value.int .u8 0), (Value.int .u8 0)] 26 w2 fun b3 w4 =>
  NewC #[] 5 w4 fun b5 w6 =>
  Run Try.prog (Builtin.append_ #[22, 22] 22 #[(Value.slice (some ⟨b5, 0, none⟩) 0 0), (Value.slice b1p b1n b1c)]) w6 fun v7 w8 =>
  AsL v7 fun x9p x9n x9c =>
  NewC #[(Value.int .u8 128)] 5 w8 fun b10 w11 =>
  Run Try.prog (Builtin.append_ #[22, 22] 22 #[(Value.slice x9p x9n x9c), (Value.slice (some ⟨b10, 0, none⟩) 1 1)]) w11 fun v12 w13 =>
  AsL v12 fun x14p x14n x14c =>
  Lp fun I15 mu16 =>
  I15 [(Value.slice x14p x14n x14c)] w13 ∧
  ∀ (all17p : Option Addr) (all17n : Nat) (all17c : Nat), ∀ w18, I15 [(Value.slice all17p all17n all17c)] w18 →
  DivK 64 (
  Bif ((Int.tmod (all17n : Int) 64) != 56) (
  NewC #[(Value.int .u8 0)] 5 w18 fun b19 w20 =>
  Run Try.prog (Builtin.append_ #[22, 22] 22 #[(Value.slice all17p all17n all17c), (Value.slice (some ⟨b19, 0, none⟩) 1 1)]) w20 fun v21 w22 =>
  AsL v21 fun x23p x23n x23c =>
  I15 [(Value.slice x23p x23n x23c)] w22 ∧ mu16 [(Value.slice x23p x23n x23c)] w22 < mu16 [(Value.slice all17p all17n all17c)] w18) (
  Lp fun I24 mu25 =>
  I24 [(Value.slice all17p all17n all17c), (Value.int .i64 7)] w18 ∧
  ∀ (all26p : Option Addr) (all26n : Nat) (all26c : Nat), ∀ (i27 : Int), ∀ w28, I24 [(Value.slice all26p all26n all26c), (Value.int .i64 i27)] w28 →
  Bif (decide (i27 ≥ 0)) (
  ShK (IntKind.wrap .i64 (8 * i27)) (
  NewC #[(Value.int .u8 (IntKind.wrap .u8 (Int.fdiv (IntKind.wrap .i64 (8 * (b1n : Int))) (2 ^ min (Int.toNat (IntKind.wrap .i64 (8 * i27))) (IntKind.bits .i64)))))] 5 w28 fun b29 w30 =>
  Run Try.prog (Builtin.append_ #[22, 22] 22 #[(Value.slice all26p all26n all26c), (Value.slice (some ⟨b29, 0, none⟩) 1 1)]) w30 fun v31 w32 =>
  AsL v31 fun x33p x33n x33c =>
  I24 [(Value.slice x33p x33n x33c), (Value.int .i64 (IntKind.wrap .i64 (i27 - 1)))] w32 ∧ mu25 [(Value.slice x33p x33n x33c), (Value.int .i64 (IntKind.wrap .i64 (i27 - 1)))] w32 < mu25 [(Value.slice all26p all26n all26c), (Value.int .i64 i27)] w28)) (
  NewC #[(Value.int .u32 0), (Value.int .u32 0), (Value.int .u32 0), (Value.int .u32 0), (Value.int .u32 0), (Value.int .u32 0), (Value.int .u32 0), (Value.int .u32 0)] 46 w28 fun b34 w35 =>
  Array.size (#[(Value.int .u32 1779033703), (Value.int .u32 3144134277), (Value.int .u32 1013904242), (Value.int .u32 2773480762), (Value.int .u32 1359893119), (Value.int .u32 2600822924), (Value.int .u32 528734635), (Value.int .u32 1541459225)]) = 8 ∧
  StA Try.prog ⟨b34, 0, none⟩ (#[(Value.int .u32 1779033703), (Value.int .u32 3144134277), (Value.int .u32 1013904242), (Value.int .u32 2773480762), (Value.int .u32 1359893119), (Value.int .u32 2600822924), (Value.int .u32 528734635), (Value.int .u32 1541459225)]) w35 fun w36 =>
  Lp fun I37 mu38 =>
  I37 [(Value.int .i64 0)] w36 ∧
  ∀ (i39 : Int), ∀ w40, I37 [(Value.int .i64 i39)] w40 →
  Bif (decide (i39 < (all26n : Int))) (
  ∃ (C41 : Cls), Cls.p C41 [] w40 ∧
  SlP all26p all26n all26c 1 i39 (IntKind.wrap .i64 (i39 + 64)) fun x42p x42n x42c =>
  ∃ (x43 : Array Value), x43.size = 8 ∧ Qt C41 (Value.agg x43) (fun w44 K45 =>
  LdA Try.prog 8 ⟨b34, 0, none⟩ w44 fun x46 =>
  K45 (Value.agg x46) w44) ∧
  Ef C41 (fun w50 K49 =>
  CallR Try.prog 25 #[(Value.agg x43), (Value.slice x42p x42n x42c)] w50 fun v52 w53 =>
  ∃ (x54 : Array Value), x54.size = 8 ∧ v52 = (Value.agg x54) ∧
  K49 (Value.agg x54) w53) fun v51 D48 =>
  ∃ (x55 : Array Value), x55.size = 8 ∧ v51 = (Value.agg x55) ∧
  (True) ∧
  Ef D48 (fun w58 K57 =>
  Array.size x55 = 8 ∧
  StA Try.prog ⟨b34, 0, none⟩ x55 w58 fun w60 =>
  K57 (Value.tuple #[]) w60) fun v59 D56 =>
  v59 = (Value.tuple #[]) ∧
  (True) ∧
  ∀ G61 w62, Cls.p D56 G61 w62 →
  I37 [(Value.int .i64 (IntKind.wrap .i64 (i39 + 64)))] w62 ∧ mu38 [(Value.int .i64 (IntKind.wrap .i64 (i39 + 64)))] w62 < mu38 [(Value.int .i64 i39)] w40) (
  NewC #[(Value.int .u8 0), (Value.int .u8 0), (Value.int .u8 0), (Value.int .u8 0), (Value.int .u8 0), (Value.int .u8 0), (Value.int .u8 0), (Value.int .u8 0), (Value.int .u8 0), (Value.int .u8 0), (Value.int .u8 0), (Value.int .u8 0), (Value.int .u8 0), (Value.int .u8 0), (Value.int .u8 0), (Value.int .u8 0), (Value.int .u8 0), (Value.int .u8 0), (Value.int .u8 0), (Value.int .u8 0), (Value.int .u8 0), (Value.int .u8 0), (Value.int .u8 0), (Value.int .u8 0), (Value.int .u8 0), (Value.int .u8 0), (Value.int .u8 0), (Value.int .u8 0), (Value.int .u8 0), (Value.int .u8 0), (Value.int .u8 0), (Value.int .u8 0)] 26 w40 fun b63 w64 =>
  Lp fun I65 mu66 =>
  I65 [(Value.int .i64 0)] w64 ∧
  ∀ (i67 : Int), ∀ w68, I65 [(Value.int .i64 i67)] w68 →
  Bif (decide (i67 < 32)) (
  DivK 4 (
  IxP (some ⟨b34, 0, none⟩) 8 (IntKind.wrap .i64 (Int.tdiv i67 4)) 1 fun a69 =>
  LdI .u32 a69 w68 fun x70 =>
  DivK 4 (
  ShK (IntKind.wrap .i64 (24 - (IntKind.wrap .i64 (8 * (Int.tmod i67 4))))) (
  IxP (some ⟨b63, 0, none⟩) 32 i67 1 fun a71 =>
  St1 a71 (Value.int .u8 (IntKind.wrap .u8 (Int.fdiv x70 (2 ^ min (Int.toNat (IntKind.wrap .i64 (24 - (IntKind.wrap .i64 (8 * (Int.tmod i67 4)))))) (IntKind.bits .u32))))) w68 fun w72 =>
  I65 [(Value.int .i64 (IntKind.wrap .i64 (i67 + 1)))] w72 ∧ mu66 [(Value.int .i64 (IntKind.wrap .i64 (i67 + 1)))] w72 < mu66 [(Value.int .i64 i67)] w68)))) (
  LdA Try.prog 32 ⟨b63, 0, none⟩ w68 fun x73 =>
  Array.size x73 = 32 ∧
  StA Try.prog ⟨b3, 0, none⟩ x73 w68 fun w74 =>
  LdA Try.prog 32 ⟨b3, 0, none⟩ w74 fun res75 =>
  R (Value.agg res75) w74)))))
theorem F17_eq (b1p : Option Addr) (b1n : Nat) (b1c : Nat) (w2 : World) (R : Value → World → Prop) : liftF Try.prog 17 (.step .nil .nil (.step .nil .nil (.step (.loop [(3, .b .slice)] .nil) .nil (.step .nil .nil (.step .nil .nil (.step (.loop [(3, .b .slice), (5, .b (.int .i64))] .nil) .nil (.step .nil .nil (.step .nil .nil (.step (.loop [(7, .b (.int .i64))] (.step .nil .nil (.step .nil .nil (.step (.draw [(1, false), (2, false), (3, false), (4, false), (5, false), (0, false), (6, true), (7, true)] .nil) .nil .nil)))) .nil (.step .nil .nil (.step .nil .nil (.step (.loop [(9, .b (.int .i64))] .nil) .nil .nil)))))))))))) [(Value.slice b1p b1n b1c)] w2 R = F17 b1p b1n b1c w2 R := by kernel_rfl
theorem F17_of {b1p : Option Addr} {b1n : Nat} {b1c : Nat} {w2 : World} {R : Value → World → Prop} (h : F17 b1p b1n b1c w2 R) : CallR Try.prog 17 #[(Value.slice b1p b1n b1c)] w2 R := callR_of_lift _ ((F17_eq b1p b1n b1c w2 R).mpr h)

-- F18 subway/subwayref02.Hex
def F18 (b1p : Option Addr) (b1n : Nat) (b1c : Nat) (w2 : World) (R : Value → World → Prop) : Prop :=
  Lp fun I3 mu4 =>
  I3 [(Value.slice none 0 0), (Value.int .i64 0)] w2 ∧
  ∀ (out5p : Option Addr) (out5n : Nat) (out5c : Nat), ∀ (i6 : Int), ∀ w7, I3 [(Value.slice out5p out5n out5c), (Value.int .i64 i6)] w7 →
  Bif (decide (i6 < (b1n : Int))) (
  ∃ (C8 : Cls), Cls.p C8 [] w7 ∧
  IxP b1p b1n i6 1 fun a9 =>
  IxP b1p b1n i6 1 fun a10 =>
  ∃ (x11 : Int), Qt C8 (Value.int .u8 x11) (fun w12 K13 =>
  LdI .u8 a9 w12 fun x14 =>
  K13 (Value.int .u8 x14) w12) ∧
  DivK 16 (
  IxS ⟨#[48, 49, 50, 51, 52, 53, 54, 55, 56, 57, 97, 98, 99, 100, 101, 102]⟩ (IntKind.wrap .u8 (Int.tdiv x11 16)) fun b15 =>
  ∃ (x16 : Int), Qt C8 (Value.int .u8 x16) (fun w17 K18 =>
  LdI .u8 a10 w17 fun x19 =>
  K18 (Value.int .u8 x19) w17) ∧
  DivK 16 (
  IxS ⟨#[48, 49, 50, 51, 52, 53, 54, 55, 56, 57, 97, 98, 99, 100, 101, 102]⟩ (Int.tmod x16 16) fun b20 =>
  ∀ b21 : Nat,
  Ef (Cls.push C8 (b21, .cells #[(Value.int .u8 (b15.toNat : Int)), (Value.int .u8 (b20.toNat : Int))] 5)) (fun w25 K24 =>
  Run Try.prog (Builtin.append_ #[22, 22] 22 #[(Value.slice out5p out5n out5c), (Value.slice (some ⟨b21, 0, none⟩) 2 2)]) w25 fun v27 w28 =>
  AsL v27 fun x29p x29n x29c =>
  K24 (Value.slice x29p x29n x29c) w28) fun v26 D23 =>
  AsL v26 fun x30p x30n x30c =>
  (True) ∧
  ∀ G31 w32, Cls.p D23 G31 w32 →
  I3 [(Value.slice x30p x30n x30c), (Value.int .i64 (IntKind.wrap .i64 (i6 + 1)))] w32 ∧ mu4 [(Value.slice x30p x30n x30c), (Value.int .i64 (IntKind.wrap .i64 (i6 + 1)))] w32 < mu4 [(Value.slice out5p out5n out5c), (Value.int .i64 i6)] w7))) (
  Run Try.prog (convert 22 9 (Value.slice out5p out5n out5c)) w7 fun v33 w34 =>
  AsS v33 fun x35 =>
  R (Value.string x35) w34)
theorem F18_eq (b1p : Option Addr) (b1n : Nat) (b1c : Nat) (w2 : World) (R : Value → World → Prop) : liftF Try.prog 18 (.step .nil .nil (.step .nil .nil (.step .nil .nil (.step .nil .nil (.step (.loop [(4, .b .slice), (5, .b (.int .i64))] (.step .nil .nil (.step .nil .nil (.step (.draw [(0, false), (1, false), (2, false), (3, false), (4, false), (8, false), (9, false), (10, false), (11, false), (5, false), (6, false), (7, false), (12, false), (13, false), (14, false), (15, false), (16, true), (17, false)] .nil) .nil .nil)))) .nil .nil))))) [(Value.slice b1p b1n b1c)] w2 R = F18 b1p b1n b1c w2 R := by kernel_rfl
theorem F18_of {b1p : Option Addr} {b1n : Nat} {b1c : Nat} {w2 : World} {R : Value → World → Prop} (h : F18 b1p b1n b1c w2 R) : CallR Try.prog 18 #[(Value.slice b1p b1n b1c)] w2 R := callR_of_lift _ ((F18_eq b1p b1n b1c w2 R).mpr h)

-- F19 (subway/mac.pad).sum
def F19 (p1 : Array Value) (c2 : Int) (b3p : Option Addr) (b3n : Nat) (b3c : Nat) (w4 : World) (R : Value → World → Prop) : Prop :=
  NewC p1 41 w4 fun b5 w6 =>
  NewC #[(Value.int .u8 0), (Value.int .u8 0), (Value.int .u8 0), (Value.int .u8 0), (Value.int .u8 0), (Value.int .u8 0), (Value.int .u8 0), (Value.int .u8 0), (Value.int .u8 0), (Value.int .u8 0), (Value.int .u8 0), (Value.int .u8 0), (Value.int .u8 0), (Value.int .u8 0), (Value.int .u8 0), (Value.int .u8 0), (Value.int .u8 0), (Value.int .u8 0), (Value.int .u8 0), (Value.int .u8 0), (Value.int .u8 0), (Value.int .u8 0), (Value.int .u8 0), (Value.int .u8 0), (Value.int .u8 0), (Value.int .u8 0), (Value.int .u8 0), (Value.int .u8 0), (Value.int .u8 0), (Value.int .u8 0), (Value.int .u8 0), (Value.int .u8 0)] 26 w6 fun b7 w8 =>
  Lp fun I9 mu10 =>
  I9 [(Value.int .i64 0)] w8 ∧
  ∀ (x11 : Int), ∀ w12, I9 [(Value.int .i64 x11)] w12 →
  Bif (decide (x11 < 64)) (
  IxP (some ⟨b5, 0, none⟩) 64 x11 1 fun a13 =>
  LdI .u8 a13 w12 fun x14 =>
  IxP (some ⟨b5, 0, none⟩) 64 x11 1 fun a15 =>
  St1 a15 (Value.int .u8 (IntKind.wrap .u8 ↑((BitVec.ofInt (IntKind.bits .u8) x14 ^^^ BitVec.ofInt (IntKind.bits .u8) c2).toNat))) w12 fun w16 =>
  I9 [(Value.int .i64 (IntKind.wrap .i64 (x11 + 1)))] w16 ∧ mu10 [(Value.int .i64 (IntKind.wrap .i64 (x11 + 1)))] w16 < mu10 [(Value.int .i64 x11)] w12) (
  SlP (some ⟨b5, 0, none⟩) 64 64 1 0 (64 : Int) fun x17p x17n x17c =>
  Run Try.prog (Builtin.append_ #[22, 22] 22 #[(Value.slice x17p x17n x17c), (Value.slice b3p b3n b3c)]) w12 fun v18 w19 =>
  AsL v18 fun x20p x20n x20c =>
  CallR Try.prog 26 #[(Value.slice x20p x20n x20c)] w19 fun v21 w22 =>
  ∃ (x23 : Array Value), x23.size = 32 ∧ v21 = (Value.agg x23) ∧
  Array.size x23 = 32 ∧
  StA Try.prog ⟨b7, 0, none⟩ x23 w22 fun w24 =>
  LdA Try.prog 32 ⟨b7, 0, none⟩ w24 fun res25 =>
  R (Value.agg res25) w24)
theorem F19_eq (p1 : Array Value) (c2 : Int) (b3p : Option Addr) (b3n : Nat) (b3c : Nat) (w4 : World) (R : Value → World → Prop) : liftF Try.prog 19 (.step .nil .nil (.step .nil .nil (.step (.loop [(8, .b (.int .i64))] .nil) .nil .nil))) [(Value.agg p1), (Value.int .u8 c2), (Value.slice b3p b3n b3c)] w4 R = F19 p1 c2 b3p b3n b3c w4 R := by kernel_rfl
theorem F19_of {p1 : Array Value} {c2 : Int} {b3p : Option Addr} {b3n : Nat} {b3c : Nat} {w4 : World} {R : Value → World → Prop} (h : F19 p1 c2 b3p b3n b3c w4 R) : CallR Try.prog 19 #[(Value.agg p1), (Value.int .u8 c2), (Value.slice b3p b3n b3c)] w4 R := callR_of_lift _ ((F19_eq p1 c2 b3p b3n b3c w4 R).mpr h)

-- F20 subway/mac.of
def F20 (key1p : Option Addr) (key1n : Nat) (key1c : Nat) (w2 : World) (R : Value → World → Prop) : Prop :=
  NewC #[(Value.int .u8 0), (Value.int .u8 0), (Value.int .u8 0), (Value.int .u8 0), (Value.int .u8 0), (Value.int .u8 0), (Value.int .u8 0), (Value.int .u8 0), (Value.int .u8 0), (Value.int .u8 0), (Value.int .u8 0), (Value.int .u8 0), (Value.int .u8 0), (Value.int .u8 0), (Value.int .u8 0), (Value.int .u8 0), (Value.int .u8 0), (Value.int .u8 0), (Value.int .u8 0), (Value.int .u8 0), (Value.int .u8 0), (Value.int .u8 0), (Value.int .u8 0), (Value.int .u8 0), (Value.int .u8 0), (Value.int .u8 0), (Value.int .u8 0), (Value.int .u8 0), (Value.int .u8 0), (Value.int .u8 0), (Value.int .u8 0), (Value.int .u8 0), (Value.int .u8 0), (Value.int .u8 0), (Value.int .u8 0), (Value.int .u8 0), (Value.int .u8 0), (Value.int .u8 0), (Value.int .u8 0), (Value.int .u8 0), (Value.int .u8 0), (Value.int .u8 0), (Value.int .u8 0), (Value.int .u8 0), (Value.int .u8 0), (Value.int .u8 0), (Value.int .u8 0), (Value.int .u8 0), (Value.int .u8 0), (Value.int .u8 0), (Value.int .u8 0), (Value.int .u8 0), (Value.int .u8 0), (Value.int .u8 0), (Value.int .u8 0), (Value.int .u8 0), (Value.int .u8 0), (Value.int .u8 0), (Value.int .u8 0), (Value.int .u8 0), (Value.int .u8 0), (Value.int .u8 0), (Value.int .u8 0), (Value.int .u8 0)] 41 w2 fun b3 w4 =>
  NewC #[(Value.int .u8 0), (Value.int .u8 0), (Value.int .u8 0), (Value.int .u8 0), (Value.int .u8 0), (Value.int .u8 0), (Value.int .u8 0), (Value.int .u8 0), (Value.int .u8 0), (Value.int .u8 0), (Value.int .u8 0), (Value.int .u8 0), (Value.int .u8 0), (Value.int .u8 0), (Value.int .u8 0), (Value.int .u8 0), (Value.int .u8 0), (Value.int .u8 0), (Value.int .u8 0), (Value.int .u8 0), (Value.int .u8 0), (Value.int .u8 0), (Value.int .u8 0), (Value.int .u8 0), (Value.int .u8 0), (Value.int .u8 0), (Value.int .u8 0), (Value.int .u8 0), (Value.int .u8 0), (Value.int .u8 0), (Value.int .u8 0), (Value.int .u8 0), (Value.int .u8 0), (Value.int .u8 0), (Value.int .u8 0), (Value.int .u8 0), (Value.int .u8 0), (Value.int .u8 0), (Value.int .u8 0), (Value.int .u8 0), (Value.int .u8 0), (Value.int .u8 0), (Value.int .u8 0), (Value.int .u8 0), (Value.int .u8 0), (Value.int .u8 0), (Value.int .u8 0), (Value.int .u8 0), (Value.int .u8 0), (Value.int .u8 0), (Value.int .u8 0), (Value.int .u8 0), (Value.int .u8 0), (Value.int .u8 0), (Value.int .u8 0), (Value.int .u8 0), (Value.int .u8 0), (Value.int .u8 0), (Value.int .u8 0), (Value.int .u8 0), (Value.int .u8 0), (Value.int .u8 0), (Value.int .u8 0), (Value.int .u8 0)] 41 w4 fun b5 w6 =>
  Bif (decide ((key1n : Int) > 64)) (
  CallR Try.prog 26 #[(Value.slice key1p key1n key1c)] w6 fun v7 w8 =>
  ∃ (x9 : Array Value), x9.size = 32 ∧ v7 = (Value.agg x9) ∧
  NewC #[(Value.int .u8 0), (Value.int .u8 0), (Value.int .u8 0), (Value.int .u8 0), (Value.int .u8 0), (Value.int .u8 0), (Value.int .u8 0), (Value.int .u8 0), (Value.int .u8 0), (Value.int .u8 0), (Value.int .u8 0), (Value.int .u8 0), (Value.int .u8 0), (Value.int .u8 0), (Value.int .u8 0), (Value.int .u8 0), (Value.int .u8 0), (Value.int .u8 0), (Value.int .u8 0), (Value.int .u8 0), (Value.int .u8 0), (Value.int .u8 0), (Value.int .u8 0), (Value.int .u8 0), (Value.int .u8 0), (Value.int .u8 0), (Value.int .u8 0), (Value.int .u8 0), (Value.int .u8 0), (Value.int .u8 0), (Value.int .u8 0), (Value.int .u8 0)] 26 w8 fun b10 w11 =>
  Array.size x9 = 32 ∧
  StA Try.prog ⟨b10, 0, none⟩ x9 w11 fun w12 =>
  SlP (some ⟨b10, 0, none⟩) 32 32 1 0 (32 : Int) fun x13p x13n x13c =>
  SlP (some ⟨b5, 0, none⟩) 64 64 1 0 (64 : Int) fun x14p x14n x14c =>
  Run Try.prog (Builtin.copy_ #[22, 22] 3 #[(Value.slice x14p x14n x14c), (Value.slice x13p x13n x13c)]) w12 fun v15 w16 =>
  AsI .i64 v15 fun x17 =>
  LdA Try.prog 64 ⟨b5, 0, none⟩ w16 fun x18 =>
  Array.size x18 = 64 ∧
  StA Try.prog ⟨b3, 0, none⟩ x18 w16 fun w19 =>
  LdA Try.prog 64 ⟨b3, 0, none⟩ w19 fun res20 =>
  R (Value.agg res20) w19) (
  SlP (some ⟨b5, 0, none⟩) 64 64 1 0 (64 : Int) fun x21p x21n x21c =>
  Run Try.prog (Builtin.copy_ #[22, 22] 3 #[(Value.slice x21p x21n x21c), (Value.slice key1p key1n key1c)]) w6 fun v22 w23 =>
  AsI .i64 v22 fun x24 =>
  LdA Try.prog 64 ⟨b5, 0, none⟩ w23 fun x25 =>
  Array.size x25 = 64 ∧
  StA Try.prog ⟨b3, 0, none⟩ x25 w23 fun w26 =>
  LdA Try.prog 64 ⟨b3, 0, none⟩ w26 fun res27 =>
  R (Value.agg res27) w26)
theorem F20_eq (key1p : Option Addr) (key1n : Nat) (key1c : Nat) (w2 : World) (R : Value → World → Prop) : liftF Try.prog 20 .nil [(Value.slice key1p key1n key1c)] w2 R = F20 key1p key1n key1c w2 R := by kernel_rfl
theorem F20_of {key1p : Option Addr} {key1n : Nat} {key1c : Nat} {w2 : World} {R : Value → World → Prop} (h : F20 key1p key1n key1c w2 R) : CallR Try.prog 20 #[(Value.slice key1p key1n key1c)] w2 R := callR_of_lift _ ((F20_eq key1p key1n key1c w2 R).mpr h)

-- F21 subway/subwayref03.padded
def F21 (key1p : Option Addr) (key1n : Nat) (key1c : Nat) (c2 : Int) (w3 : World) (R : Value → World → Prop) : Prop :=
  NewC #[] 5 w3 fun b4 w5 =>
  Run Try.prog (Builtin.append_ #[22, 22] 22 #[(Value.slice (some ⟨b4, 0, none⟩) 0 0), (Value.slice key1p key1n key1c)]) w5 fun v6 w7 =>
  AsL v6 fun x8p x8n x8c =>
  Jn fun J9 => (
  Bif (decide ((x8n : Int) > 64)) (
  CallR Try.prog 17 #[(Value.slice x8p x8n x8c)] w7 fun v10 w11 =>
  ∃ (x12 : Array Value), x12.size = 32 ∧ v10 = (Value.agg x12) ∧
  NewC #[(Value.int .u8 0), (Value.int .u8 0), (Value.int .u8 0), (Value.int .u8 0), (Value.int .u8 0), (Value.int .u8 0), (Value.int .u8 0), (Value.int .u8 0), (Value.int .u8 0), (Value.int .u8 0), (Value.int .u8 0), (Value.int .u8 0), (Value.int .u8 0), (Value.int .u8 0), (Value.int .u8 0), (Value.int .u8 0), (Value.int .u8 0), (Value.int .u8 0), (Value.int .u8 0), (Value.int .u8 0), (Value.int .u8 0), (Value.int .u8 0), (Value.int .u8 0), (Value.int .u8 0), (Value.int .u8 0), (Value.int .u8 0), (Value.int .u8 0), (Value.int .u8 0), (Value.int .u8 0), (Value.int .u8 0), (Value.int .u8 0), (Value.int .u8 0)] 26 w11 fun b13 w14 =>
  Array.size x12 = 32 ∧
  StA Try.prog ⟨b13, 0, none⟩ x12 w14 fun w15 =>
  NewC #[] 5 w15 fun b16 w17 =>
  SlP (some ⟨b13, 0, none⟩) 32 32 1 0 (32 : Int) fun x18p x18n x18c =>
  Run Try.prog (Builtin.append_ #[22, 22] 22 #[(Value.slice (some ⟨b16, 0, none⟩) 0 0), (Value.slice x18p x18n x18c)]) w17 fun v19 w20 =>
  AsL v19 fun x21p x21n x21c =>
  J9 [(Value.slice x21p x21n x21c)] w20) (
  J9 [(Value.slice x8p x8n x8c)] w7)) ∧
  ∀ (k22p : Option Addr) (k22n : Nat) (k22c : Nat), ∀ w23, J9 [(Value.slice k22p k22n k22c)] w23 →
  Lp fun I24 mu25 =>
  I24 [(Value.slice k22p k22n k22c)] w23 ∧
  ∀ (k26p : Option Addr) (k26n : Nat) (k26c : Nat), ∀ w27, I24 [(Value.slice k26p k26n k26c)] w27 →
  Bif (decide ((k26n : Int) < 64)) (
  NewC #[(Value.int .u8 0)] 5 w27 fun b28 w29 =>
  Run Try.prog (Builtin.append_ #[22, 22] 22 #[(Value.slice k26p k26n k26c), (Value.slice (some ⟨b28, 0, none⟩) 1 1)]) w29 fun v30 w31 =>
  AsL v30 fun x32p x32n x32c =>
  I24 [(Value.slice x32p x32n x32c)] w31 ∧ mu25 [(Value.slice x32p x32n x32c)] w31 < mu25 [(Value.slice k26p k26n k26c)] w27) (
  Lp fun I33 mu34 =>
  I33 [(Value.int .i64 0)] w27 ∧
  ∀ (i35 : Int), ∀ w36, I33 [(Value.int .i64 i35)] w36 →
  Bif (decide (i35 < 64)) (
  IxP k26p k26n i35 1 fun a37 =>
  LdI .u8 a37 w36 fun x38 =>
  IxP k26p k26n i35 1 fun a39 =>
  St1 a39 (Value.int .u8 (IntKind.wrap .u8 ↑((BitVec.ofInt (IntKind.bits .u8) x38 ^^^ BitVec.ofInt (IntKind.bits .u8) c2).toNat))) w36 fun w40 =>
  I33 [(Value.int .i64 (IntKind.wrap .i64 (i35 + 1)))] w40 ∧ mu34 [(Value.int .i64 (IntKind.wrap .i64 (i35 + 1)))] w40 < mu34 [(Value.int .i64 i35)] w36) (
  R (Value.slice k26p k26n k26c) w36))
theorem F21_eq (key1p : Option Addr) (key1n : Nat) (key1c : Nat) (c2 : Int) (w3 : World) (R : Value → World → Prop) : liftF Try.prog 21 (.step .nil .nil (.step .nil .nil (.step .nil .nil (.join 1 [(5, .b .slice)] .nil (.step (.loop [(5, .b .slice)] .nil) .nil (.step .nil .nil (.step (.loop [(7, .b (.int .i64))] .nil) .nil .nil))))))) [(Value.slice key1p key1n key1c), (Value.int .u8 c2)] w3 R = F21 key1p key1n key1c c2 w3 R := by kernel_rfl
theorem F21_of {key1p : Option Addr} {key1n : Nat} {key1c : Nat} {c2 : Int} {w3 : World} {R : Value → World → Prop} (h : F21 key1p key1n key1c c2 w3 R) : CallR Try.prog 21 #[(Value.slice key1p key1n key1c), (Value.int .u8 c2)] w3 R := callR_of_lift _ ((F21_eq key1p key1n key1c c2 w3 R).mpr h)

-- F22 subway/num.Text
def F22 (s1 : ByteArray) (w2 : World) (R : Value → World → Prop) : Prop :=
  Bif (decide ((s1.size : Int) > 255)) (
  R (Value.slice none 0 0) w2) (
  NewC #[(Value.int .u8 (IntKind.wrap .u8 (s1.size : Int)))] 5 w2 fun b3 w4 =>
  Run Try.prog (Builtin.append_ #[22, 9] 22 #[(Value.slice (some ⟨b3, 0, none⟩) 1 1), (Value.string s1)]) w4 fun v5 w6 =>
  AsL v5 fun x7p x7n x7c =>
  R (Value.slice x7p x7n x7c) w6)
theorem F22_eq (s1 : ByteArray) (w2 : World) (R : Value → World → Prop) : liftF Try.prog 22 .nil [(Value.string s1)] w2 R = F22 s1 w2 R := by kernel_rfl
theorem F22_of {s1 : ByteArray} {w2 : World} {R : Value → World → Prop} (h : F22 s1 w2 R) : CallR Try.prog 22 #[(Value.string s1)] w2 R := callR_of_lift _ ((F22_eq s1 w2 R).mpr h)

-- F23 subway/digest.Hex
def F23 (b1p : Option Addr) (b1n : Nat) (b1c : Nat) (w2 : World) (R : Value → World → Prop) : Prop :=
  MkS (#[(Value.int .u8 0)]) 1 1 5 (IntKind.wrap .i64 (2 * (b1n : Int))) (IntKind.wrap .i64 (2 * (b1n : Int))) w2 fun b3 w4 =>
  Lp fun I5 mu6 =>
  I5 [(Value.int .i64 0)] w4 ∧
  ∀ (x7 : Int), ∀ w8, I5 [(Value.int .i64 x7)] w8 →
  Bif (decide (x7 < (b1n : Int))) (
  IxP b1p b1n x7 1 fun a9 =>
  LdI .u8 a9 w8 fun x10 =>
  ∃ (C11 : Cls), Cls.p C11 [] w8 ∧
  ShK 4 (
  IxS ⟨#[48, 49, 50, 51, 52, 53, 54, 55, 56, 57, 97, 98, 99, 100, 101, 102]⟩ (Int.fdiv x10 (2 ^ min (Int.toNat 4) (IntKind.bits .u8))) fun b12 =>
  IxS ⟨#[48, 49, 50, 51, 52, 53, 54, 55, 56, 57, 97, 98, 99, 100, 101, 102]⟩ (IntKind.wrap .u8 ↑((BitVec.ofInt (IntKind.bits .u8) x10 &&& BitVec.ofInt (IntKind.bits .u8) 15).toNat)) fun b13 =>
  IxP (some ⟨b3, 0, none⟩) (Int.toNat (IntKind.wrap .i64 (2 * (b1n : Int)))) (IntKind.wrap .i64 (2 * x7)) 1 fun a14 =>
  Ef C11 (fun w17 K16 =>
  St1 a14 (Value.int .u8 (b12.toNat : Int)) w17 fun w19 =>
  K16 (Value.tuple #[]) w19) fun v18 D15 =>
  v18 = (Value.tuple #[]) ∧
  (True) ∧
  IxP (some ⟨b3, 0, none⟩) (Int.toNat (IntKind.wrap .i64 (2 * (b1n : Int)))) (IntKind.wrap .i64 ((IntKind.wrap .i64 (2 * x7)) + 1)) 1 fun a20 =>
  Ef D15 (fun w23 K22 =>
  St1 a20 (Value.int .u8 (b13.toNat : Int)) w23 fun w25 =>
  K22 (Value.tuple #[]) w25) fun v24 D21 =>
  v24 = (Value.tuple #[]) ∧
  (True) ∧
  ∀ G26 w27, Cls.p D21 G26 w27 →
  I5 [(Value.int .i64 (IntKind.wrap .i64 (x7 + 1)))] w27 ∧ mu6 [(Value.int .i64 (IntKind.wrap .i64 (x7 + 1)))] w27 < mu6 [(Value.int .i64 x7)] w8)) (
  Run Try.prog (convert 22 9 (Value.slice (some ⟨b3, 0, none⟩) (Int.toNat (IntKind.wrap .i64 (2 * (b1n : Int)))) (Int.toNat (IntKind.wrap .i64 (2 * (b1n : Int)))))) w8 fun v28 w29 =>
  AsS v28 fun x30 =>
  R (Value.string x30) w29)
theorem F23_eq (b1p : Option Addr) (b1n : Nat) (b1c : Nat) (w2 : World) (R : Value → World → Prop) : liftF Try.prog 23 (.step .nil .nil (.step .nil .nil (.step .nil .nil (.step (.loop [(12, .b (.int .i64))] (.step .nil .nil (.step .nil .nil (.step (.step .nil .nil (.draw [(0, false), (1, false), (2, false), (3, false), (4, false), (5, false), (6, false), (7, false), (8, false), (9, false), (10, false), (11, false), (12, false), (13, false), (14, true), (15, false), (16, true)] .nil)) .nil .nil)))) .nil .nil)))) [(Value.slice b1p b1n b1c)] w2 R = F23 b1p b1n b1c w2 R := by kernel_rfl
theorem F23_of {b1p : Option Addr} {b1n : Nat} {b1c : Nat} {w2 : World} {R : Value → World → Prop} (h : F23 b1p b1n b1c w2 R) : CallR Try.prog 23 #[(Value.slice b1p b1n b1c)] w2 R := callR_of_lift _ ((F23_eq b1p b1n b1c w2 R).mpr h)

-- F24 subway/subwayref01.Text
def F24 (s1 : ByteArray) (w2 : World) (R : Value → World → Prop) : Prop :=
  Bif (decide ((s1.size : Int) > 255)) (
  R (Value.slice none 0 0) w2) (
  NewC #[(Value.int .u8 (IntKind.wrap .u8 (s1.size : Int)))] 5 w2 fun b3 w4 =>
  Run Try.prog (Builtin.append_ #[22, 9] 22 #[(Value.slice (some ⟨b3, 0, none⟩) 1 1), (Value.string s1)]) w4 fun v5 w6 =>
  AsL v5 fun x7p x7n x7c =>
  R (Value.slice x7p x7n x7c) w6)
theorem F24_eq (s1 : ByteArray) (w2 : World) (R : Value → World → Prop) : liftF Try.prog 24 .nil [(Value.string s1)] w2 R = F24 s1 w2 R := by kernel_rfl
theorem F24_of {s1 : ByteArray} {w2 : World} {R : Value → World → Prop} (h : F24 s1 w2 R) : CallR Try.prog 24 #[(Value.string s1)] w2 R := callR_of_lift _ ((F24_eq s1 w2 R).mpr h)

-- F25 subway/subwayref02.block
def F25 (h1 : Array Value) (b2p : Option Addr) (b2n : Nat) (b2c : Nat) (w3 : World) (R : Value → World → Prop) : Prop :=
  NewC h1 46 w3 fun b4 w5 =>
  NewC #[(Value.int .u32 0), (Value.int .u32 0), (Value.int .u32 0), (Value.int .u32 0), (Value.int .u32 0), (Value.int .u32 0), (Value.int .u32 0), (Value.int .u32 0)] 46 w5 fun b6 w7 =>
  CallR Try.prog 27 #[] w7 fun v8 w9 =>
  ∃ (x10 : Array Value), x10.size = 64 ∧ v8 = (Value.agg x10) ∧
  NewC #[(Value.int .u32 0), (Value.int .u32 0), (Value.int .u32 0), (Value.int .u32 0), (Value.int .u32 0), (Value.int .u32 0), (Value.int .u32 0), (Value.int .u32 0), (Value.int .u32 0), (Value.int .u32 0), (Value.int .u32 0), (Value.int .u32 0), (Value.int .u32 0), (Value.int .u32 0), (Value.int .u32 0), (Value.int .u32 0), (Value.int .u32 0), (Value.int .u32 0), (Value.int .u32 0), (Value.int .u32 0), (Value.int .u32 0), (Value.int .u32 0), (Value.int .u32 0), (Value.int .u32 0), (Value.int .u32 0), (Value.int .u32 0), (Value.int .u32 0), (Value.int .u32 0), (Value.int .u32 0), (Value.int .u32 0), (Value.int .u32 0), (Value.int .u32 0), (Value.int .u32 0), (Value.int .u32 0), (Value.int .u32 0), (Value.int .u32 0), (Value.int .u32 0), (Value.int .u32 0), (Value.int .u32 0), (Value.int .u32 0), (Value.int .u32 0), (Value.int .u32 0), (Value.int .u32 0), (Value.int .u32 0), (Value.int .u32 0), (Value.int .u32 0), (Value.int .u32 0), (Value.int .u32 0), (Value.int .u32 0), (Value.int .u32 0), (Value.int .u32 0), (Value.int .u32 0), (Value.int .u32 0), (Value.int .u32 0), (Value.int .u32 0), (Value.int .u32 0), (Value.int .u32 0), (Value.int .u32 0), (Value.int .u32 0), (Value.int .u32 0), (Value.int .u32 0), (Value.int .u32 0), (Value.int .u32 0), (Value.int .u32 0)] 49 w9 fun b11 w12 =>
  Array.size x10 = 64 ∧
  StA Try.prog ⟨b11, 0, none⟩ x10 w12 fun w13 =>
  CallR Try.prog 28 #[(Value.slice b2p b2n b2c)] w13 fun v14 w15 =>
  ∃ (x16 : Array Value), x16.size = 64 ∧ v14 = (Value.agg x16) ∧
  NewC #[(Value.int .u32 0), (Value.int .u32 0), (Value.int .u32 0), (Value.int .u32 0), (Value.int .u32 0), (Value.int .u32 0), (Value.int .u32 0), (Value.int .u32 0), (Value.int .u32 0), (Value.int .u32 0), (Value.int .u32 0), (Value.int .u32 0), (Value.int .u32 0), (Value.int .u32 0), (Value.int .u32 0), (Value.int .u32 0), (Value.int .u32 0), (Value.int .u32 0), (Value.int .u32 0), (Value.int .u32 0), (Value.int .u32 0), (Value.int .u32 0), (Value.int .u32 0), (Value.int .u32 0), (Value.int .u32 0), (Value.int .u32 0), (Value.int .u32 0), (Value.int .u32 0), (Value.int .u32 0), (Value.int .u32 0), (Value.int .u32 0), (Value.int .u32 0), (Value.int .u32 0), (Value.int .u32 0), (Value.int .u32 0), (Value.int .u32 0), (Value.int .u32 0), (Value.int .u32 0), (Value.int .u32 0), (Value.int .u32 0), (Value.int .u32 0), (Value.int .u32 0), (Value.int .u32 0), (Value.int .u32 0), (Value.int .u32 0), (Value.int .u32 0), (Value.int .u32 0), (Value.int .u32 0), (Value.int .u32 0), (Value.int .u32 0), (Value.int .u32 0), (Value.int .u32 0), (Value.int .u32 0), (Value.int .u32 0), (Value.int .u32 0), (Value.int .u32 0), (Value.int .u32 0), (Value.int .u32 0), (Value.int .u32 0), (Value.int .u32 0), (Value.int .u32 0), (Value.int .u32 0), (Value.int .u32 0), (Value.int .u32 0)] 49 w15 fun b17 w18 =>
  Array.size x16 = 64 ∧
  StA Try.prog ⟨b17, 0, none⟩ x16 w18 fun w19 =>
  LdA Try.prog 8 ⟨b4, 0, none⟩ w19 fun x20 =>
  NewC #[(Value.int .u32 0), (Value.int .u32 0), (Value.int .u32 0), (Value.int .u32 0), (Value.int .u32 0), (Value.int .u32 0), (Value.int .u32 0), (Value.int .u32 0)] 46 w19 fun b21 w22 =>
  Array.size x20 = 8 ∧
  StA Try.prog ⟨b21, 0, none⟩ x20 w22 fun w23 =>
  Lp fun I24 mu25 =>
  I24 [(Value.int .i64 0)] w23 ∧
  ∀ (t26 : Int), ∀ w27, I24 [(Value.int .i64 t26)] w27 →
  Bif (decide (t26 < 64)) (
  ∃ (C28 : Cls), Cls.p C28 [] w27 ∧
  IxP (some ⟨b21, 0, none⟩) 8 7 1 fun a29 =>
  IxP (some ⟨b21, 0, none⟩) 8 4 1 fun a30 =>
  IxP (some ⟨b21, 0, none⟩) 8 4 1 fun a31 =>
  IxP (some ⟨b21, 0, none⟩) 8 5 1 fun a32 =>
  IxP (some ⟨b21, 0, none⟩) 8 4 1 fun a33 =>
  IxP (some ⟨b21, 0, none⟩) 8 6 1 fun a34 =>
  IxP (some ⟨b11, 0, none⟩) 64 t26 1 fun a35 =>
  IxP (some ⟨b17, 0, none⟩) 64 t26 1 fun a36 =>
  ∃ (x37 : Int), Qt C28 (Value.int .u32 x37) (fun w38 K39 =>
  LdI .u32 a29 w38 fun x40 =>
  K39 (Value.int .u32 x40) w38) ∧
  ∃ (x41 : Int), Qt C28 (Value.int .u32 x41) (fun w42 K43 =>
  LdI .u32 a30 w42 fun x44 =>
  K43 (Value.int .u32 x44) w42) ∧
  ∃ (x45 : Int), Qt C28 (Value.int .u32 x45) (fun w46 K47 =>
  LdI .u32 a31 w46 fun x48 =>
  K47 (Value.int .u32 x48) w46) ∧
  ∃ (x49 : Int), Qt C28 (Value.int .u32 x49) (fun w50 K51 =>
  LdI .u32 a32 w50 fun x52 =>
  K51 (Value.int .u32 x52) w50) ∧
  ∃ (x53 : Int), Qt C28 (Value.int .u32 x53) (fun w54 K55 =>
  LdI .u32 a33 w54 fun x56 =>
  K55 (Value.int .u32 x56) w54) ∧
  ∃ (x57 : Int), Qt C28 (Value.int .u32 x57) (fun w58 K59 =>
  LdI .u32 a34 w58 fun x60 =>
  K59 (Value.int .u32 x60) w58) ∧
  ∃ (x61 : Int), Qt C28 (Value.int .u32 x61) (fun w62 K63 =>
  LdI .u32 a35 w62 fun x64 =>
  K63 (Value.int .u32 x64) w62) ∧
  ∃ (x65 : Int), Qt C28 (Value.int .u32 x65) (fun w66 K67 =>
  LdI .u32 a36 w66 fun x68 =>
  K67 (Value.int .u32 x68) w66) ∧
  Ef C28 (fun w72 K71 =>
  CallR Try.prog 29 #[(Value.int .u32 x41), (Value.int .i64 6), (Value.int .i64 11), (Value.int .i64 25)] w72 fun v74 w75 =>
  AsI .u32 v74 fun x76 =>
  K71 (Value.int .u32 x76) w75) fun v73 D70 =>
  AsI .u32 v73 fun x77 =>
  (Qt D70 (Value.int .u32 x65) (fun w78 K79 =>
  LdI .u32 a36 w78 fun x80 =>
  K79 (Value.int .u32 x80) w78) ∧
  Qt D70 (Value.int .u32 x61) (fun w81 K82 =>
  LdI .u32 a35 w81 fun x83 =>
  K82 (Value.int .u32 x83) w81) ∧
  Qt D70 (Value.int .u32 x57) (fun w84 K85 =>
  LdI .u32 a34 w84 fun x86 =>
  K85 (Value.int .u32 x86) w84) ∧
  Qt D70 (Value.int .u32 x53) (fun w87 K88 =>
  LdI .u32 a33 w87 fun x89 =>
  K88 (Value.int .u32 x89) w87) ∧
  Qt D70 (Value.int .u32 x49) (fun w90 K91 =>
  LdI .u32 a32 w90 fun x92 =>
  K91 (Value.int .u32 x92) w90) ∧
  Qt D70 (Value.int .u32 x45) (fun w93 K94 =>
  LdI .u32 a31 w93 fun x95 =>
  K94 (Value.int .u32 x95) w93) ∧
  Qt D70 (Value.int .u32 x37) (fun w96 K97 =>
  LdI .u32 a29 w96 fun x98 =>
  K97 (Value.int .u32 x98) w96)) ∧
  ∀ G99 w100, Cls.p D70 G99 w100 →
  ∃ (C101 : Cls), Cls.p C101 [] w100 ∧
  IxP (some ⟨b21, 0, none⟩) 8 0 1 fun a102 =>
  IxP (some ⟨b21, 0, none⟩) 8 0 1 fun a103 =>
  IxP (some ⟨b21, 0, none⟩) 8 1 1 fun a104 =>
  IxP (some ⟨b21, 0, none⟩) 8 0 1 fun a105 =>
  IxP (some ⟨b21, 0, none⟩) 8 2 1 fun a106 =>
  IxP (some ⟨b21, 0, none⟩) 8 1 1 fun a107 =>
  IxP (some ⟨b21, 0, none⟩) 8 2 1 fun a108 =>
  ∃ (x109 : Int), Qt C101 (Value.int .u32 x109) (fun w110 K111 =>
  LdI .u32 a102 w110 fun x112 =>
  K111 (Value.int .u32 x112) w110) ∧
  ∃ (x113 : Int), Qt C101 (Value.int .u32 x113) (fun w114 K115 =>
  LdI .u32 a103 w114 fun x116 =>
  K115 (Value.int .u32 x116) w114) ∧
  ∃ (x117 : Int), Qt C101 (Value.int .u32 x117) (fun w118 K119 =>
  LdI .u32 a104 w118 fun x120 =>
  K119 (Value.int .u32 x120) w118) ∧
  ∃ (x121 : Int), Qt C101 (Value.int .u32 x121) (fun w122 K123 =>
  LdI .u32 a105 w122 fun x124 =>
  K123 (Value.int .u32 x124) w122) ∧
  ∃ (x125 : Int), Qt C101 (Value.int .u32 x125) (fun w126 K127 =>
  LdI .u32 a106 w126 fun x128 =>
  K127 (Value.int .u32 x128) w126) ∧
  ∃ (x129 : Int), Qt C101 (Value.int .u32 x129) (fun w130 K131 =>
  LdI .u32 a107 w130 fun x132 =>
  K131 (Value.int .u32 x132) w130) ∧
  ∃ (x133 : Int), Qt C101 (Value.int .u32 x133) (fun w134 K135 =>
  LdI .u32 a108 w134 fun x136 =>
  K135 (Value.int .u32 x136) w134) ∧
  Ef C101 (fun w140 K139 =>
  CallR Try.prog 29 #[(Value.int .u32 x109), (Value.int .i64 2), (Value.int .i64 13), (Value.int .i64 22)] w140 fun v142 w143 =>
  AsI .u32 v142 fun x144 =>
  K139 (Value.int .u32 x144) w143) fun v141 D138 =>
  AsI .u32 v141 fun x145 =>
  (Qt D138 (Value.int .u32 x133) (fun w146 K147 =>
  LdI .u32 a108 w146 fun x148 =>
  K147 (Value.int .u32 x148) w146) ∧
  Qt D138 (Value.int .u32 x129) (fun w149 K150 =>
  LdI .u32 a107 w149 fun x151 =>
  K150 (Value.int .u32 x151) w149) ∧
  Qt D138 (Value.int .u32 x125) (fun w152 K153 =>
  LdI .u32 a106 w152 fun x154 =>
  K153 (Value.int .u32 x154) w152) ∧
  Qt D138 (Value.int .u32 x121) (fun w155 K156 =>
  LdI .u32 a105 w155 fun x157 =>
  K156 (Value.int .u32 x157) w155) ∧
  Qt D138 (Value.int .u32 x117) (fun w158 K159 =>
  LdI .u32 a104 w158 fun x160 =>
  K159 (Value.int .u32 x160) w158) ∧
  Qt D138 (Value.int .u32 x113) (fun w161 K162 =>
  LdI .u32 a103 w161 fun x163 =>
  K162 (Value.int .u32 x163) w161)) ∧
  ∀ G164 w165, Cls.p D138 G164 w165 →
  IxP (some ⟨b21, 0, none⟩) 8 0 1 fun a166 =>
  LdI .u32 a166 w165 fun x167 =>
  IxP (some ⟨b21, 0, none⟩) 8 1 1 fun a168 =>
  LdI .u32 a168 w165 fun x169 =>
  IxP (some ⟨b21, 0, none⟩) 8 2 1 fun a170 =>
  LdI .u32 a170 w165 fun x171 =>
  IxP (some ⟨b21, 0, none⟩) 8 3 1 fun a172 =>
  LdI .u32 a172 w165 fun x173 =>
  IxP (some ⟨b21, 0, none⟩) 8 4 1 fun a174 =>
  LdI .u32 a174 w165 fun x175 =>
  IxP (some ⟨b21, 0, none⟩) 8 5 1 fun a176 =>
  LdI .u32 a176 w165 fun x177 =>
  IxP (some ⟨b21, 0, none⟩) 8 6 1 fun a178 =>
  LdI .u32 a178 w165 fun x179 =>
  Array.size (#[(Value.int .u32 (IntKind.wrap .u32 ((IntKind.wrap .u32 ((IntKind.wrap .u32 ((IntKind.wrap .u32 ((IntKind.wrap .u32 (x37 + x77)) + (IntKind.wrap .u32 ↑((BitVec.ofInt (IntKind.bits .u32) (IntKind.wrap .u32 ↑((BitVec.ofInt (IntKind.bits .u32) x45 &&& BitVec.ofInt (IntKind.bits .u32) x49).toNat)) ^^^ BitVec.ofInt (IntKind.bits .u32) (IntKind.wrap .u32 ↑((BitVec.ofInt (IntKind.bits .u32) (IntKind.wrap .u32 ↑((BitVec.ofInt (IntKind.bits .u32) (if (IntKind.signed .u32) = true then -1 else IntKind.max .u32) ^^^ BitVec.ofInt (IntKind.bits .u32) x53).toNat)) &&& BitVec.ofInt (IntKind.bits .u32) x57).toNat))).toNat)))) + x61)) + x65)) + (IntKind.wrap .u32 (x145 + (IntKind.wrap .u32 ↑((BitVec.ofInt (IntKind.bits .u32) (IntKind.wrap .u32 ↑((BitVec.ofInt (IntKind.bits .u32) (IntKind.wrap .u32 ↑((BitVec.ofInt (IntKind.bits .u32) x113 &&& BitVec.ofInt (IntKind.bits .u32) x117).toNat)) ^^^ BitVec.ofInt (IntKind.bits .u32) (IntKind.wrap .u32 ↑((BitVec.ofInt (IntKind.bits .u32) x121 &&& BitVec.ofInt (IntKind.bits .u32) x125).toNat))).toNat)) ^^^ BitVec.ofInt (IntKind.bits .u32) (IntKind.wrap .u32 ↑((BitVec.ofInt (IntKind.bits .u32) x129 &&& BitVec.ofInt (IntKind.bits .u32) x133).toNat))).toNat))))))), (Value.int .u32 x167), (Value.int .u32 x169), (Value.int .u32 x171), (Value.int .u32 (IntKind.wrap .u32 (x173 + (IntKind.wrap .u32 ((IntKind.wrap .u32 ((IntKind.wrap .u32 ((IntKind.wrap .u32 (x37 + x77)) + (IntKind.wrap .u32 ↑((BitVec.ofInt (IntKind.bits .u32) (IntKind.wrap .u32 ↑((BitVec.ofInt (IntKind.bits .u32) x45 &&& BitVec.ofInt (IntKind.bits .u32) x49).toNat)) ^^^ BitVec.ofInt (IntKind.bits .u32) (IntKind.wrap .u32 ↑((BitVec.ofInt (IntKind.bits .u32) (IntKind.wrap .u32 ↑((BitVec.ofInt (IntKind.bits .u32) (if (IntKind.signed .u32) = true then -1 else IntKind.max .u32) ^^^ BitVec.ofInt (IntKind.bits .u32) x53).toNat)) &&& BitVec.ofInt (IntKind.bits .u32) x57).toNat))).toNat)))) + x61)) + x65))))), (Value.int .u32 x175), (Value.int .u32 x177), (Value.int .u32 x179)]) = 8 ∧
  StA Try.prog ⟨b21, 0, none⟩ (#[(Value.int .u32 (IntKind.wrap .u32 ((IntKind.wrap .u32 ((IntKind.wrap .u32 ((IntKind.wrap .u32 ((IntKind.wrap .u32 (x37 + x77)) + (IntKind.wrap .u32 ↑((BitVec.ofInt (IntKind.bits .u32) (IntKind.wrap .u32 ↑((BitVec.ofInt (IntKind.bits .u32) x45 &&& BitVec.ofInt (IntKind.bits .u32) x49).toNat)) ^^^ BitVec.ofInt (IntKind.bits .u32) (IntKind.wrap .u32 ↑((BitVec.ofInt (IntKind.bits .u32) (IntKind.wrap .u32 ↑((BitVec.ofInt (IntKind.bits .u32) (if (IntKind.signed .u32) = true then -1 else IntKind.max .u32) ^^^ BitVec.ofInt (IntKind.bits .u32) x53).toNat)) &&& BitVec.ofInt (IntKind.bits .u32) x57).toNat))).toNat)))) + x61)) + x65)) + (IntKind.wrap .u32 (x145 + (IntKind.wrap .u32 ↑((BitVec.ofInt (IntKind.bits .u32) (IntKind.wrap .u32 ↑((BitVec.ofInt (IntKind.bits .u32) (IntKind.wrap .u32 ↑((BitVec.ofInt (IntKind.bits .u32) x113 &&& BitVec.ofInt (IntKind.bits .u32) x117).toNat)) ^^^ BitVec.ofInt (IntKind.bits .u32) (IntKind.wrap .u32 ↑((BitVec.ofInt (IntKind.bits .u32) x121 &&& BitVec.ofInt (IntKind.bits .u32) x125).toNat))).toNat)) ^^^ BitVec.ofInt (IntKind.bits .u32) (IntKind.wrap .u32 ↑((BitVec.ofInt (IntKind.bits .u32) x129 &&& BitVec.ofInt (IntKind.bits .u32) x133).toNat))).toNat))))))), (Value.int .u32 x167), (Value.int .u32 x169), (Value.int .u32 x171), (Value.int .u32 (IntKind.wrap .u32 (x173 + (IntKind.wrap .u32 ((IntKind.wrap .u32 ((IntKind.wrap .u32 ((IntKind.wrap .u32 (x37 + x77)) + (IntKind.wrap .u32 ↑((BitVec.ofInt (IntKind.bits .u32) (IntKind.wrap .u32 ↑((BitVec.ofInt (IntKind.bits .u32) x45 &&& BitVec.ofInt (IntKind.bits .u32) x49).toNat)) ^^^ BitVec.ofInt (IntKind.bits .u32) (IntKind.wrap .u32 ↑((BitVec.ofInt (IntKind.bits .u32) (IntKind.wrap .u32 ↑((BitVec.ofInt (IntKind.bits .u32) (if (IntKind.signed .u32) = true then -1 else IntKind.max .u32) ^^^ BitVec.ofInt (IntKind.bits .u32) x53).toNat)) &&& BitVec.ofInt (IntKind.bits .u32) x57).toNat))).toNat)))) + x61)) + x65))))), (Value.int .u32 x175), (Value.int .u32 x177), (Value.int .u32 x179)]) w165 fun w180 =>
  I24 [(Value.int .i64 (IntKind.wrap .i64 (t26 + 1)))] w180 ∧ mu25 [(Value.int .i64 (IntKind.wrap .i64 (t26 + 1)))] w180 < mu25 [(Value.int .i64 t26)] w27) (
  Lp fun I181 mu182 =>
  I181 [(Value.int .i64 0)] w27 ∧
  ∀ (i183 : Int), ∀ w184, I181 [(Value.int .i64 i183)] w184 →
  Bif (decide (i183 < 8)) (
  ∃ (C185 : Cls), Cls.p C185 [] w184 ∧
  IxP (some ⟨b4, 0, none⟩) 8 i183 1 fun a186 =>
  IxP (some ⟨b21, 0, none⟩) 8 i183 1 fun a187 =>
  ∃ (x188 : Int), Qt C185 (Value.int .u32 x188) (fun w189 K190 =>
  LdI .u32 a186 w189 fun x191 =>
  K190 (Value.int .u32 x191) w189) ∧
  ∃ (x192 : Int), Qt C185 (Value.int .u32 x192) (fun w193 K194 =>
  LdI .u32 a187 w193 fun x195 =>
  K194 (Value.int .u32 x195) w193) ∧
  IxP (some ⟨b4, 0, none⟩) 8 i183 1 fun a196 =>
  Ef C185 (fun w199 K198 =>
  St1 a196 (Value.int .u32 (IntKind.wrap .u32 (x188 + x192))) w199 fun w201 =>
  K198 (Value.tuple #[]) w201) fun v200 D197 =>
  v200 = (Value.tuple #[]) ∧
  (True) ∧
  ∀ G202 w203, Cls.p D197 G202 w203 →
  I181 [(Value.int .i64 (IntKind.wrap .i64 (i183 + 1)))] w203 ∧ mu182 [(Value.int .i64 (IntKind.wrap .i64 (i183 + 1)))] w203 < mu182 [(Value.int .i64 i183)] w184) (
  LdA Try.prog 8 ⟨b4, 0, none⟩ w184 fun x204 =>
  Array.size x204 = 8 ∧
  StA Try.prog ⟨b6, 0, none⟩ x204 w184 fun w205 =>
  LdA Try.prog 8 ⟨b6, 0, none⟩ w205 fun res206 =>
  R (Value.agg res206) w205))
theorem F25_eq (h1 : Array Value) (b2p : Option Addr) (b2n : Nat) (b2c : Nat) (w3 : World) (R : Value → World → Prop) : liftF Try.prog 25 (.step .nil .nil (.step .nil .nil (.step .nil .nil (.step .nil .nil (.step .nil .nil (.step (.loop [(8, .b (.int .i64))] (.step .nil .nil (.step .nil .nil (.step (.draw [(0, false), (2, false), (6, false), (8, false), (11, false), (14, false), (19, false), (20, false), (23, false), (24, false), (1, false), (3, false), (7, false), (9, false), (10, false), (12, false), (13, false), (15, false), (16, false), (17, false), (21, false), (25, false), (4, true), (5, false), (18, false), (22, false), (26, false), (27, false)] (.draw [(0, false), (3, false), (5, false), (8, false), (10, false), (14, false), (16, false), (1, false), (4, false), (6, false), (7, false), (9, false), (11, false), (12, false), (13, false), (15, false), (17, false), (18, false), (19, false), (2, true), (20, false), (21, false)] .nil)) .nil .nil)))) .nil (.step .nil .nil (.step (.loop [(11, .b (.int .i64))] (.step .nil .nil (.step .nil .nil (.step (.draw [(0, false), (1, false), (2, false), (4, false), (5, false), (3, false), (6, false), (7, false), (8, false), (9, true)] .nil) .nil .nil)))) .nil .nil)))))))) [(Value.agg h1), (Value.slice b2p b2n b2c)] w3 R = F25 h1 b2p b2n b2c w3 R := by kernel_rfl
theorem F25_of {h1 : Array Value} {b2p : Option Addr} {b2n : Nat} {b2c : Nat} {w3 : World} {R : Value → World → Prop} (h : F25 h1 b2p b2n b2c w3 R) : CallR Try.prog 25 #[(Value.agg h1), (Value.slice b2p b2n b2c)] w3 R := callR_of_lift _ ((F25_eq h1 b2p b2n b2c w3 R).mpr h)

-- F26 subway/digest.Sum
def F26 (b1p : Option Addr) (b1n : Nat) (b1c : Nat) (w2 : World) (R : Value → World → Prop) : Prop :=
  NewC #[(Value.int .u8 0), (Value.int .u8 0), (Value.int .u8 0), (Value.int .u8 0), (Value.int .u8 0), (Value.int .u8 0), (Value.int .u8 0), (Value.int .u8 0), (Value.int .u8 0), (Value.int .u8 0), (Value.int .u8 0), (Value.int .u8 0), (Value.int .u8 0), (Value.int .u8 0), (Value.int .u8 0), (Value.int .u8 0), (Value.int .u8 0), (Value.int .u8 0), (Value.int .u8 0), (Value.int .u8 0), (Value.int .u8 0), (Value.int .u8 0), (Value.int .u8 0), (Value.int .u8 0), (Value.int .u8 0), (Value.int .u8 0), (Value.int .u8 0), (Value.int .u8 0), (Value.int .u8 0), (Value.int .u8 0), (Value.int .u8 0), (Value.int .u8 0)] 26 w2 fun b3 w4 =>
  CallR Try.prog 30 #[] w4 fun v5 w6 =>
  ∃ (x7 : Array Value), x7.size = 8 ∧ v5 = (Value.agg x7) ∧
  NewC #[(Value.int .u32 0), (Value.int .u32 0), (Value.int .u32 0), (Value.int .u32 0), (Value.int .u32 0), (Value.int .u32 0), (Value.int .u32 0), (Value.int .u32 0)] 53 w6 fun b8 w9 =>
  Array.size x7 = 8 ∧
  StA Try.prog ⟨b8, 0, none⟩ x7 w9 fun w10 =>
  DivK 64 (
  Lp fun I11 mu12 =>
  I11 [(Value.int .i64 0)] w10 ∧
  ∀ (atv13 : Int), ∀ w14, I11 [(Value.int .i64 atv13)] w14 →
  Bif (decide (atv13 < (IntKind.wrap .i64 ((IntKind.wrap .i64 (Int.tdiv (b1n : Int) 64)) * 64)))) (
  ∃ (C15 : Cls), Cls.p C15 [] w14 ∧
  SlP b1p b1n b1c 1 atv13 (b1n : Int) fun x16p x16n x16c =>
  ∃ (x17 : Array Value), x17.size = 8 ∧ Qt C15 (Value.agg x17) (fun w18 K19 =>
  LdA Try.prog 8 ⟨b8, 0, none⟩ w18 fun x20 =>
  K19 (Value.agg x20) w18) ∧
  Ef C15 (fun w24 K23 =>
  CallR Try.prog 32 #[(Value.slice x16p x16n x16c)] w24 fun v26 w27 =>
  ∃ (x28 : Array Value), x28.size = 64 ∧ v26 = (Value.agg x28) ∧
  K23 (Value.agg x28) w27) fun v25 D22 =>
  ∃ (x29 : Array Value), x29.size = 64 ∧ v25 = (Value.agg x29) ∧
  (Qt D22 (Value.agg x17) (fun w30 K31 =>
  LdA Try.prog 8 ⟨b8, 0, none⟩ w30 fun x32 =>
  K31 (Value.agg x32) w30)) ∧
  Ef D22 (fun w36 K35 =>
  CallR Try.prog 31 #[(Value.agg x17), (Value.agg x29)] w36 fun v38 w39 =>
  ∃ (x40 : Array Value), x40.size = 8 ∧ v38 = (Value.agg x40) ∧
  K35 (Value.agg x40) w39) fun v37 D34 =>
  ∃ (x41 : Array Value), x41.size = 8 ∧ v37 = (Value.agg x41) ∧
  (True) ∧
  Ef D34 (fun w44 K43 =>
  Array.size x41 = 8 ∧
  StA Try.prog ⟨b8, 0, none⟩ x41 w44 fun w46 =>
  K43 (Value.tuple #[]) w46) fun v45 D42 =>
  v45 = (Value.tuple #[]) ∧
  (True) ∧
  ∀ G47 w48, Cls.p D42 G47 w48 →
  I11 [(Value.int .i64 (IntKind.wrap .i64 (atv13 + 64)))] w48 ∧ mu12 [(Value.int .i64 (IntKind.wrap .i64 (atv13 + 64)))] w48 < mu12 [(Value.int .i64 atv13)] w14) (
  NewC #[(Value.int .u8 0), (Value.int .u8 0), (Value.int .u8 0), (Value.int .u8 0), (Value.int .u8 0), (Value.int .u8 0), (Value.int .u8 0), (Value.int .u8 0), (Value.int .u8 0), (Value.int .u8 0), (Value.int .u8 0), (Value.int .u8 0), (Value.int .u8 0), (Value.int .u8 0), (Value.int .u8 0), (Value.int .u8 0), (Value.int .u8 0), (Value.int .u8 0), (Value.int .u8 0), (Value.int .u8 0), (Value.int .u8 0), (Value.int .u8 0), (Value.int .u8 0), (Value.int .u8 0), (Value.int .u8 0), (Value.int .u8 0), (Value.int .u8 0), (Value.int .u8 0), (Value.int .u8 0), (Value.int .u8 0), (Value.int .u8 0), (Value.int .u8 0), (Value.int .u8 0), (Value.int .u8 0), (Value.int .u8 0), (Value.int .u8 0), (Value.int .u8 0), (Value.int .u8 0), (Value.int .u8 0), (Value.int .u8 0), (Value.int .u8 0), (Value.int .u8 0), (Value.int .u8 0), (Value.int .u8 0), (Value.int .u8 0), (Value.int .u8 0), (Value.int .u8 0), (Value.int .u8 0), (Value.int .u8 0), (Value.int .u8 0), (Value.int .u8 0), (Value.int .u8 0), (Value.int .u8 0), (Value.int .u8 0), (Value.int .u8 0), (Value.int .u8 0), (Value.int .u8 0), (Value.int .u8 0), (Value.int .u8 0), (Value.int .u8 0), (Value.int .u8 0), (Value.int .u8 0), (Value.int .u8 0), (Value.int .u8 0), (Value.int .u8 0), (Value.int .u8 0), (Value.int .u8 0), (Value.int .u8 0), (Value.int .u8 0), (Value.int .u8 0), (Value.int .u8 0), (Value.int .u8 0), (Value.int .u8 0), (Value.int .u8 0), (Value.int .u8 0), (Value.int .u8 0), (Value.int .u8 0), (Value.int .u8 0), (Value.int .u8 0), (Value.int .u8 0), (Value.int .u8 0), (Value.int .u8 0), (Value.int .u8 0), (Value.int .u8 0), (Value.int .u8 0), (Value.int .u8 0), (Value.int .u8 0), (Value.int .u8 0), (Value.int .u8 0), (Value.int .u8 0), (Value.int .u8 0), (Value.int .u8 0), (Value.int .u8 0), (Value.int .u8 0), (Value.int .u8 0), (Value.int .u8 0), (Value.int .u8 0), (Value.int .u8 0), (Value.int .u8 0), (Value.int .u8 0), (Value.int .u8 0), (Value.int .u8 0), (Value.int .u8 0), (Value.int .u8 0), (Value.int .u8 0), (Value.int .u8 0), (Value.int .u8 0), (Value.int .u8 0), (Value.int .u8 0), (Value.int .u8 0), (Value.int .u8 0), (Value.int .u8 0), (Value.int .u8 0), (Value.int .u8 0), (Value.int .u8 0), (Value.int .u8 0), (Value.int .u8 0), (Value.int .u8 0), (Value.int .u8 0), (Value.int .u8 0), (Value.int .u8 0), (Value.int .u8 0), (Value.int .u8 0), (Value.int .u8 0), (Value.int .u8 0), (Value.int .u8 0), (Value.int .u8 0), (Value.int .u8 0)] 56 w14 fun b49 w50 =>
  ∃ (C51 : Cls), Cls.p C51 [] w50 ∧
  SlP (some ⟨b49, 0, none⟩) 128 128 1 0 (128 : Int) fun x52p x52n x52c =>
  SlP b1p b1n b1c 1 (IntKind.wrap .i64 ((IntKind.wrap .i64 (Int.tdiv (b1n : Int) 64)) * 64)) (b1n : Int) fun x53p x53n x53c =>
  Ef C51 (fun w57 K56 =>
  Run Try.prog (Builtin.copy_ #[22, 22] 3 #[(Value.slice x52p x52n x52c), (Value.slice x53p x53n x53c)]) w57 fun v59 w60 =>
  AsI .i64 v59 fun x61 =>
  K56 (Value.int .i64 x61) w60) fun v58 D55 =>
  AsI .i64 v58 fun x62 =>
  (True) ∧
  ∀ G63 w64, Cls.p D55 G63 w64 →
  IxP (some ⟨b49, 0, none⟩) 128 x62 1 fun a65 =>
  St1 a65 (Value.int .u8 128) w64 fun w66 =>
  Jn fun J67 => (
  Bif (decide ((IntKind.wrap .i64 ((IntKind.wrap .i64 (x62 + 1)) + 8)) > 64)) (
  J67 [(Value.int .i64 128)] w66) (
  J67 [(Value.int .i64 64)] w66)) ∧
  ∀ (last68 : Int), ∀ w69, J67 [(Value.int .i64 last68)] w69 →
  Lp fun I70 mu71 =>
  I70 [(Value.int .i64 0)] w69 ∧
  ∀ (x72 : Int), ∀ w73, I70 [(Value.int .i64 x72)] w73 →
  Bif (decide (x72 < 8)) (
  ShK (IntKind.wrap .i64 (8 * x72)) (
  IxP (some ⟨b49, 0, none⟩) 128 (IntKind.wrap .i64 ((IntKind.wrap .i64 (last68 - 1)) - x72)) 1 fun a74 =>
  St1 a74 (Value.int .u8 (IntKind.wrap .u8 (Int.fdiv (IntKind.wrap .u64 ((IntKind.wrap .u64 (b1n : Int)) * 8)) (2 ^ min (Int.toNat (IntKind.wrap .i64 (8 * x72))) (IntKind.bits .u64))))) w73 fun w75 =>
  I70 [(Value.int .i64 (IntKind.wrap .i64 (x72 + 1)))] w75 ∧ mu71 [(Value.int .i64 (IntKind.wrap .i64 (x72 + 1)))] w75 < mu71 [(Value.int .i64 x72)] w73)) (
  Lp fun I76 mu77 =>
  I76 [(Value.int .i64 0)] w73 ∧
  ∀ (atv78 : Int), ∀ w79, I76 [(Value.int .i64 atv78)] w79 →
  Bif (decide (atv78 < last68)) (
  ∃ (C80 : Cls), Cls.p C80 [] w79 ∧
  SlP (some ⟨b49, 0, none⟩) 128 128 1 atv78 (128 : Int) fun x81p x81n x81c =>
  ∃ (x82 : Array Value), x82.size = 8 ∧ Qt C80 (Value.agg x82) (fun w83 K84 =>
  LdA Try.prog 8 ⟨b8, 0, none⟩ w83 fun x85 =>
  K84 (Value.agg x85) w83) ∧
  Ef C80 (fun w89 K88 =>
  CallR Try.prog 32 #[(Value.slice x81p x81n x81c)] w89 fun v91 w92 =>
  ∃ (x93 : Array Value), x93.size = 64 ∧ v91 = (Value.agg x93) ∧
  K88 (Value.agg x93) w92) fun v90 D87 =>
  ∃ (x94 : Array Value), x94.size = 64 ∧ v90 = (Value.agg x94) ∧
  (Qt D87 (Value.agg x82) (fun w95 K96 =>
  LdA Try.prog 8 ⟨b8, 0, none⟩ w95 fun x97 =>
  K96 (Value.agg x97) w95)) ∧
  Ef D87 (fun w101 K100 =>
  CallR Try.prog 31 #[(Value.agg x82), (Value.agg x94)] w101 fun v103 w104 =>
  ∃ (x105 : Array Value), x105.size = 8 ∧ v103 = (Value.agg x105) ∧
  K100 (Value.agg x105) w104) fun v102 D99 =>
  ∃ (x106 : Array Value), x106.size = 8 ∧ v102 = (Value.agg x106) ∧
  (True) ∧
  Ef D99 (fun w109 K108 =>
  Array.size x106 = 8 ∧
  StA Try.prog ⟨b8, 0, none⟩ x106 w109 fun w111 =>
  K108 (Value.tuple #[]) w111) fun v110 D107 =>
  v110 = (Value.tuple #[]) ∧
  (True) ∧
  ∀ G112 w113, Cls.p D107 G112 w113 →
  I76 [(Value.int .i64 (IntKind.wrap .i64 (atv78 + 64)))] w113 ∧ mu77 [(Value.int .i64 (IntKind.wrap .i64 (atv78 + 64)))] w113 < mu77 [(Value.int .i64 atv78)] w79) (
  NewC #[(Value.int .u8 0), (Value.int .u8 0), (Value.int .u8 0), (Value.int .u8 0), (Value.int .u8 0), (Value.int .u8 0), (Value.int .u8 0), (Value.int .u8 0), (Value.int .u8 0), (Value.int .u8 0), (Value.int .u8 0), (Value.int .u8 0), (Value.int .u8 0), (Value.int .u8 0), (Value.int .u8 0), (Value.int .u8 0), (Value.int .u8 0), (Value.int .u8 0), (Value.int .u8 0), (Value.int .u8 0), (Value.int .u8 0), (Value.int .u8 0), (Value.int .u8 0), (Value.int .u8 0), (Value.int .u8 0), (Value.int .u8 0), (Value.int .u8 0), (Value.int .u8 0), (Value.int .u8 0), (Value.int .u8 0), (Value.int .u8 0), (Value.int .u8 0)] 26 w79 fun b114 w115 =>
  Lp fun I116 mu117 =>
  I116 [(Value.int .i64 0)] w115 ∧
  ∀ (x118 : Int), ∀ w119, I116 [(Value.int .i64 x118)] w119 →
  Bif (decide (x118 < 32)) (
  DivK 4 (
  IxP (some ⟨b8, 0, none⟩) 8 (IntKind.wrap .i64 (Int.tdiv x118 4)) 1 fun a120 =>
  LdI .u32 a120 w119 fun x121 =>
  DivK 4 (
  ShK (IntKind.wrap .i64 (24 - (IntKind.wrap .i64 ((Int.tmod x118 4) * 8)))) (
  IxP (some ⟨b114, 0, none⟩) 32 x118 1 fun a122 =>
  St1 a122 (Value.int .u8 (IntKind.wrap .u8 (Int.fdiv x121 (2 ^ min (Int.toNat (IntKind.wrap .i64 (24 - (IntKind.wrap .i64 ((Int.tmod x118 4) * 8))))) (IntKind.bits .u32))))) w119 fun w123 =>
  I116 [(Value.int .i64 (IntKind.wrap .i64 (x118 + 1)))] w123 ∧ mu117 [(Value.int .i64 (IntKind.wrap .i64 (x118 + 1)))] w123 < mu117 [(Value.int .i64 x118)] w119)))) (
  LdA Try.prog 32 ⟨b114, 0, none⟩ w119 fun x124 =>
  Array.size x124 = 32 ∧
  StA Try.prog ⟨b3, 0, none⟩ x124 w119 fun w125 =>
  LdA Try.prog 32 ⟨b3, 0, none⟩ w125 fun res126 =>
  R (Value.agg res126) w125)))))
theorem F26_eq (b1p : Option Addr) (b1n : Nat) (b1c : Nat) (w2 : World) (R : Value → World → Prop) : liftF Try.prog 26 (.step .nil .nil (.step .nil .nil (.step .nil .nil (.step .nil .nil (.step (.loop [(5, .b (.int .i64))] (.step .nil .nil (.step .nil .nil (.step (.draw [(1, false), (2, false), (3, false), (0, false), (4, true), (5, true), (6, true)] .nil) .nil .nil)))) .nil (.step .nil .nil (.draw [(0, false), (1, false), (2, false), (3, false), (4, true), (5, false)] (.step .nil .nil (.step .nil .nil (.step .nil .nil (.join 1 [(8, .b (.int .i64))] .nil (.step .nil .nil (.step (.loop [(40, .b (.int .i64))] .nil) .nil (.step .nil .nil (.step (.loop [(10, .b (.int .i64))] (.step .nil .nil (.step .nil .nil (.step (.draw [(1, false), (2, false), (0, false), (3, true), (4, true), (5, true)] .nil) .nil .nil)))) .nil (.step .nil .nil (.step .nil .nil (.step (.loop [(67, .b (.int .i64))] .nil) .nil .nil)))))))))))))))))) [(Value.slice b1p b1n b1c)] w2 R = F26 b1p b1n b1c w2 R := by kernel_rfl
theorem F26_of {b1p : Option Addr} {b1n : Nat} {b1c : Nat} {w2 : World} {R : Value → World → Prop} (h : F26 b1p b1n b1c w2 R) : CallR Try.prog 26 #[(Value.slice b1p b1n b1c)] w2 R := callR_of_lift _ ((F26_eq b1p b1n b1c w2 R).mpr h)

-- F27 subway/subwayref02.roots
def F27  (w1 : World) (R : Value → World → Prop) : Prop :=
  NewC #[(Value.int .u32 0), (Value.int .u32 0), (Value.int .u32 0), (Value.int .u32 0), (Value.int .u32 0), (Value.int .u32 0), (Value.int .u32 0), (Value.int .u32 0), (Value.int .u32 0), (Value.int .u32 0), (Value.int .u32 0), (Value.int .u32 0), (Value.int .u32 0), (Value.int .u32 0), (Value.int .u32 0), (Value.int .u32 0), (Value.int .u32 0), (Value.int .u32 0), (Value.int .u32 0), (Value.int .u32 0), (Value.int .u32 0), (Value.int .u32 0), (Value.int .u32 0), (Value.int .u32 0), (Value.int .u32 0), (Value.int .u32 0), (Value.int .u32 0), (Value.int .u32 0), (Value.int .u32 0), (Value.int .u32 0), (Value.int .u32 0), (Value.int .u32 0), (Value.int .u32 0), (Value.int .u32 0), (Value.int .u32 0), (Value.int .u32 0), (Value.int .u32 0), (Value.int .u32 0), (Value.int .u32 0), (Value.int .u32 0), (Value.int .u32 0), (Value.int .u32 0), (Value.int .u32 0), (Value.int .u32 0), (Value.int .u32 0), (Value.int .u32 0), (Value.int .u32 0), (Value.int .u32 0), (Value.int .u32 0), (Value.int .u32 0), (Value.int .u32 0), (Value.int .u32 0), (Value.int .u32 0), (Value.int .u32 0), (Value.int .u32 0), (Value.int .u32 0), (Value.int .u32 0), (Value.int .u32 0), (Value.int .u32 0), (Value.int .u32 0), (Value.int .u32 0), (Value.int .u32 0), (Value.int .u32 0), (Value.int .u32 0)] 49 w1 fun b2 w3 =>
  Array.size (#[(Value.int .u32 1116352408), (Value.int .u32 1899447441), (Value.int .u32 3049323471), (Value.int .u32 3921009573), (Value.int .u32 961987163), (Value.int .u32 1508970993), (Value.int .u32 2453635748), (Value.int .u32 2870763221), (Value.int .u32 3624381080), (Value.int .u32 310598401), (Value.int .u32 607225278), (Value.int .u32 1426881987), (Value.int .u32 1925078388), (Value.int .u32 2162078206), (Value.int .u32 2614888103), (Value.int .u32 3248222580), (Value.int .u32 3835390401), (Value.int .u32 4022224774), (Value.int .u32 264347078), (Value.int .u32 604807628), (Value.int .u32 770255983), (Value.int .u32 1249150122), (Value.int .u32 1555081692), (Value.int .u32 1996064986), (Value.int .u32 2554220882), (Value.int .u32 2821834349), (Value.int .u32 2952996808), (Value.int .u32 3210313671), (Value.int .u32 3336571891), (Value.int .u32 3584528711), (Value.int .u32 113926993), (Value.int .u32 338241895), (Value.int .u32 666307205), (Value.int .u32 773529912), (Value.int .u32 1294757372), (Value.int .u32 1396182291), (Value.int .u32 1695183700), (Value.int .u32 1986661051), (Value.int .u32 2177026350), (Value.int .u32 2456956037), (Value.int .u32 2730485921), (Value.int .u32 2820302411), (Value.int .u32 3259730800), (Value.int .u32 3345764771), (Value.int .u32 3516065817), (Value.int .u32 3600352804), (Value.int .u32 4094571909), (Value.int .u32 275423344), (Value.int .u32 430227734), (Value.int .u32 506948616), (Value.int .u32 659060556), (Value.int .u32 883997877), (Value.int .u32 958139571), (Value.int .u32 1322822218), (Value.int .u32 1537002063), (Value.int .u32 1747873779), (Value.int .u32 1955562222), (Value.int .u32 2024104815), (Value.int .u32 2227730452), (Value.int .u32 2361852424), (Value.int .u32 2428436474), (Value.int .u32 2756734187), (Value.int .u32 3204031479), (Value.int .u32 3329325298)]) = 64 ∧
  StA Try.prog ⟨b2, 0, none⟩ (#[(Value.int .u32 1116352408), (Value.int .u32 1899447441), (Value.int .u32 3049323471), (Value.int .u32 3921009573), (Value.int .u32 961987163), (Value.int .u32 1508970993), (Value.int .u32 2453635748), (Value.int .u32 2870763221), (Value.int .u32 3624381080), (Value.int .u32 310598401), (Value.int .u32 607225278), (Value.int .u32 1426881987), (Value.int .u32 1925078388), (Value.int .u32 2162078206), (Value.int .u32 2614888103), (Value.int .u32 3248222580), (Value.int .u32 3835390401), (Value.int .u32 4022224774), (Value.int .u32 264347078), (Value.int .u32 604807628), (Value.int .u32 770255983), (Value.int .u32 1249150122), (Value.int .u32 1555081692), (Value.int .u32 1996064986), (Value.int .u32 2554220882), (Value.int .u32 2821834349), (Value.int .u32 2952996808), (Value.int .u32 3210313671), (Value.int .u32 3336571891), (Value.int .u32 3584528711), (Value.int .u32 113926993), (Value.int .u32 338241895), (Value.int .u32 666307205), (Value.int .u32 773529912), (Value.int .u32 1294757372), (Value.int .u32 1396182291), (Value.int .u32 1695183700), (Value.int .u32 1986661051), (Value.int .u32 2177026350), (Value.int .u32 2456956037), (Value.int .u32 2730485921), (Value.int .u32 2820302411), (Value.int .u32 3259730800), (Value.int .u32 3345764771), (Value.int .u32 3516065817), (Value.int .u32 3600352804), (Value.int .u32 4094571909), (Value.int .u32 275423344), (Value.int .u32 430227734), (Value.int .u32 506948616), (Value.int .u32 659060556), (Value.int .u32 883997877), (Value.int .u32 958139571), (Value.int .u32 1322822218), (Value.int .u32 1537002063), (Value.int .u32 1747873779), (Value.int .u32 1955562222), (Value.int .u32 2024104815), (Value.int .u32 2227730452), (Value.int .u32 2361852424), (Value.int .u32 2428436474), (Value.int .u32 2756734187), (Value.int .u32 3204031479), (Value.int .u32 3329325298)]) w3 fun w4 =>
  LdA Try.prog 64 ⟨b2, 0, none⟩ w4 fun res5 =>
  R (Value.agg res5) w4
theorem F27_eq  (w1 : World) (R : Value → World → Prop) : liftF Try.prog 27 .nil [] w1 R = F27  w1 R := by kernel_rfl
theorem F27_of  {w1 : World} {R : Value → World → Prop} (h : F27  w1 R) : CallR Try.prog 27 #[] w1 R := callR_of_lift _ ((F27_eq  w1 R).mpr h)

-- F28 subway/subwayref02.schedule
def F28 (b1p : Option Addr) (b1n : Nat) (b1c : Nat) (w2 : World) (R : Value → World → Prop) : Prop :=
  NewC #[(Value.int .u32 0), (Value.int .u32 0), (Value.int .u32 0), (Value.int .u32 0), (Value.int .u32 0), (Value.int .u32 0), (Value.int .u32 0), (Value.int .u32 0), (Value.int .u32 0), (Value.int .u32 0), (Value.int .u32 0), (Value.int .u32 0), (Value.int .u32 0), (Value.int .u32 0), (Value.int .u32 0), (Value.int .u32 0), (Value.int .u32 0), (Value.int .u32 0), (Value.int .u32 0), (Value.int .u32 0), (Value.int .u32 0), (Value.int .u32 0), (Value.int .u32 0), (Value.int .u32 0), (Value.int .u32 0), (Value.int .u32 0), (Value.int .u32 0), (Value.int .u32 0), (Value.int .u32 0), (Value.int .u32 0), (Value.int .u32 0), (Value.int .u32 0), (Value.int .u32 0), (Value.int .u32 0), (Value.int .u32 0), (Value.int .u32 0), (Value.int .u32 0), (Value.int .u32 0), (Value.int .u32 0), (Value.int .u32 0), (Value.int .u32 0), (Value.int .u32 0), (Value.int .u32 0), (Value.int .u32 0), (Value.int .u32 0), (Value.int .u32 0), (Value.int .u32 0), (Value.int .u32 0), (Value.int .u32 0), (Value.int .u32 0), (Value.int .u32 0), (Value.int .u32 0), (Value.int .u32 0), (Value.int .u32 0), (Value.int .u32 0), (Value.int .u32 0), (Value.int .u32 0), (Value.int .u32 0), (Value.int .u32 0), (Value.int .u32 0), (Value.int .u32 0), (Value.int .u32 0), (Value.int .u32 0), (Value.int .u32 0)] 49 w2 fun b3 w4 =>
  NewC #[(Value.int .u32 0), (Value.int .u32 0), (Value.int .u32 0), (Value.int .u32 0), (Value.int .u32 0), (Value.int .u32 0), (Value.int .u32 0), (Value.int .u32 0), (Value.int .u32 0), (Value.int .u32 0), (Value.int .u32 0), (Value.int .u32 0), (Value.int .u32 0), (Value.int .u32 0), (Value.int .u32 0), (Value.int .u32 0), (Value.int .u32 0), (Value.int .u32 0), (Value.int .u32 0), (Value.int .u32 0), (Value.int .u32 0), (Value.int .u32 0), (Value.int .u32 0), (Value.int .u32 0), (Value.int .u32 0), (Value.int .u32 0), (Value.int .u32 0), (Value.int .u32 0), (Value.int .u32 0), (Value.int .u32 0), (Value.int .u32 0), (Value.int .u32 0), (Value.int .u32 0), (Value.int .u32 0), (Value.int .u32 0), (Value.int .u32 0), (Value.int .u32 0), (Value.int .u32 0), (Value.int .u32 0), (Value.int .u32 0), (Value.int .u32 0), (Value.int .u32 0), (Value.int .u32 0), (Value.int .u32 0), (Value.int .u32 0), (Value.int .u32 0), (Value.int .u32 0), (Value.int .u32 0), (Value.int .u32 0), (Value.int .u32 0), (Value.int .u32 0), (Value.int .u32 0), (Value.int .u32 0), (Value.int .u32 0), (Value.int .u32 0), (Value.int .u32 0), (Value.int .u32 0), (Value.int .u32 0), (Value.int .u32 0), (Value.int .u32 0), (Value.int .u32 0), (Value.int .u32 0), (Value.int .u32 0), (Value.int .u32 0)] 49 w4 fun b5 w6 =>
  Lp fun I7 mu8 =>
  I7 [(Value.int .i64 0)] w6 ∧
  ∀ (t9 : Int), ∀ w10, I7 [(Value.int .i64 t9)] w10 →
  Bif (decide (t9 < 64)) (
  Bif (decide (t9 < 16)) (
  ∃ (C11 : Cls), Cls.p C11 [] w10 ∧
  IxP b1p b1n (IntKind.wrap .i64 (4 * t9)) 1 fun a12 =>
  IxP b1p b1n (IntKind.wrap .i64 ((IntKind.wrap .i64 (4 * t9)) + 1)) 1 fun a13 =>
  IxP b1p b1n (IntKind.wrap .i64 ((IntKind.wrap .i64 (4 * t9)) + 2)) 1 fun a14 =>
  IxP b1p b1n (IntKind.wrap .i64 ((IntKind.wrap .i64 (4 * t9)) + 3)) 1 fun a15 =>
  ∃ (x16 : Int), Qt C11 (Value.int .u8 x16) (fun w17 K18 =>
  LdI .u8 a12 w17 fun x19 =>
  K18 (Value.int .u8 x19) w17) ∧
  ShK 24 (
  ∃ (x20 : Int), Qt C11 (Value.int .u8 x20) (fun w21 K22 =>
  LdI .u8 a13 w21 fun x23 =>
  K22 (Value.int .u8 x23) w21) ∧
  ShK 16 (
  ∃ (x24 : Int), Qt C11 (Value.int .u8 x24) (fun w25 K26 =>
  LdI .u8 a14 w25 fun x27 =>
  K26 (Value.int .u8 x27) w25) ∧
  ShK 8 (
  ∃ (x28 : Int), Qt C11 (Value.int .u8 x28) (fun w29 K30 =>
  LdI .u8 a15 w29 fun x31 =>
  K30 (Value.int .u8 x31) w29) ∧
  IxP (some ⟨b5, 0, none⟩) 64 t9 1 fun a32 =>
  Ef C11 (fun w35 K34 =>
  St1 a32 (Value.int .u32 (IntKind.wrap .u32 ↑((BitVec.ofInt (IntKind.bits .u32) (IntKind.wrap .u32 ↑((BitVec.ofInt (IntKind.bits .u32) (IntKind.wrap .u32 ↑((BitVec.ofInt (IntKind.bits .u32) (IntKind.wrap .u32 ((IntKind.wrap .u32 x16) * 2 ^ min (Int.toNat 24) (IntKind.bits .u32))) ||| BitVec.ofInt (IntKind.bits .u32) (IntKind.wrap .u32 ((IntKind.wrap .u32 x20) * 2 ^ min (Int.toNat 16) (IntKind.bits .u32)))).toNat)) ||| BitVec.ofInt (IntKind.bits .u32) (IntKind.wrap .u32 ((IntKind.wrap .u32 x24) * 2 ^ min (Int.toNat 8) (IntKind.bits .u32)))).toNat)) ||| BitVec.ofInt (IntKind.bits .u32) (IntKind.wrap .u32 x28)).toNat))) w35 fun w37 =>
  K34 (Value.tuple #[]) w37) fun v36 D33 =>
  v36 = (Value.tuple #[]) ∧
  (True) ∧
  ∀ G38 w39, Cls.p D33 G38 w39 →
  I7 [(Value.int .i64 (IntKind.wrap .i64 (t9 + 1)))] w39 ∧ mu8 [(Value.int .i64 (IntKind.wrap .i64 (t9 + 1)))] w39 < mu8 [(Value.int .i64 t9)] w10)))) (
  ∃ (C40 : Cls), Cls.p C40 [] w10 ∧
  IxP (some ⟨b5, 0, none⟩) 64 (IntKind.wrap .i64 (t9 - 2)) 1 fun a41 =>
  IxP (some ⟨b5, 0, none⟩) 64 (IntKind.wrap .i64 (t9 - 7)) 1 fun a42 =>
  IxP (some ⟨b5, 0, none⟩) 64 (IntKind.wrap .i64 (t9 - 15)) 1 fun a43 =>
  IxP (some ⟨b5, 0, none⟩) 64 (IntKind.wrap .i64 (t9 - 16)) 1 fun a44 =>
  ∃ (x45 : Int), Qt C40 (Value.int .u32 x45) (fun w46 K47 =>
  LdI .u32 a41 w46 fun x48 =>
  K47 (Value.int .u32 x48) w46) ∧
  ∃ (x49 : Int), Qt C40 (Value.int .u32 x49) (fun w50 K51 =>
  LdI .u32 a42 w50 fun x52 =>
  K51 (Value.int .u32 x52) w50) ∧
  ∃ (x53 : Int), Qt C40 (Value.int .u32 x53) (fun w54 K55 =>
  LdI .u32 a43 w54 fun x56 =>
  K55 (Value.int .u32 x56) w54) ∧
  ∃ (x57 : Int), Qt C40 (Value.int .u32 x57) (fun w58 K59 =>
  LdI .u32 a44 w58 fun x60 =>
  K59 (Value.int .u32 x60) w58) ∧
  Ef C40 (fun w64 K63 =>
  CallR Try.prog 33 #[(Value.int .u32 x45), (Value.int .i64 17), (Value.int .i64 19), (Value.int .i64 10)] w64 fun v66 w67 =>
  AsI .u32 v66 fun x68 =>
  K63 (Value.int .u32 x68) w67) fun v65 D62 =>
  AsI .u32 v65 fun x69 =>
  (Qt D62 (Value.int .u32 x57) (fun w70 K71 =>
  LdI .u32 a44 w70 fun x72 =>
  K71 (Value.int .u32 x72) w70) ∧
  Qt D62 (Value.int .u32 x53) (fun w73 K74 =>
  LdI .u32 a43 w73 fun x75 =>
  K74 (Value.int .u32 x75) w73) ∧
  Qt D62 (Value.int .u32 x49) (fun w76 K77 =>
  LdI .u32 a42 w76 fun x78 =>
  K77 (Value.int .u32 x78) w76)) ∧
  Ef D62 (fun w82 K81 =>
  CallR Try.prog 33 #[(Value.int .u32 x53), (Value.int .i64 7), (Value.int .i64 18), (Value.int .i64 3)] w82 fun v84 w85 =>
  AsI .u32 v84 fun x86 =>
  K81 (Value.int .u32 x86) w85) fun v83 D80 =>
  AsI .u32 v83 fun x87 =>
  (Qt D80 (Value.int .u32 x57) (fun w88 K89 =>
  LdI .u32 a44 w88 fun x90 =>
  K89 (Value.int .u32 x90) w88) ∧
  Qt D80 (Value.int .u32 x49) (fun w91 K92 =>
  LdI .u32 a42 w91 fun x93 =>
  K92 (Value.int .u32 x93) w91)) ∧
  IxP (some ⟨b5, 0, none⟩) 64 t9 1 fun a94 =>
  Ef D80 (fun w97 K96 =>
  St1 a94 (Value.int .u32 (IntKind.wrap .u32 ((IntKind.wrap .u32 ((IntKind.wrap .u32 (x69 + x49)) + x87)) + x57))) w97 fun w99 =>
  K96 (Value.tuple #[]) w99) fun v98 D95 =>
  v98 = (Value.tuple #[]) ∧
  (True) ∧
  ∀ G100 w101, Cls.p D95 G100 w101 →
  I7 [(Value.int .i64 (IntKind.wrap .i64 (t9 + 1)))] w101 ∧ mu8 [(Value.int .i64 (IntKind.wrap .i64 (t9 + 1)))] w101 < mu8 [(Value.int .i64 t9)] w10)) (
  LdA Try.prog 64 ⟨b5, 0, none⟩ w10 fun x102 =>
  Array.size x102 = 64 ∧
  StA Try.prog ⟨b3, 0, none⟩ x102 w10 fun w103 =>
  LdA Try.prog 64 ⟨b3, 0, none⟩ w103 fun res104 =>
  R (Value.agg res104) w103)
theorem F28_eq (b1p : Option Addr) (b1n : Nat) (b1c : Nat) (w2 : World) (R : Value → World → Prop) : liftF Try.prog 28 (.step .nil .nil (.step .nil .nil (.step .nil .nil (.step (.loop [(4, .b (.int .i64))] (.step .nil .nil (.step .nil .nil (.step (.step .nil .nil (.step (.draw [(0, false), (1, false), (2, false), (3, false), (4, false), (8, false), (9, false), (10, false), (11, false), (12, false), (17, false), (18, false), (19, false), (20, false), (21, false), (26, false), (27, false), (28, false), (29, false), (30, false), (5, false), (6, false), (7, false), (13, false), (14, false), (15, false), (16, false), (22, false), (23, false), (24, false), (25, false), (31, false), (32, false), (33, false), (34, false), (35, true)] .nil) (.draw [(0, false), (1, false), (2, false), (3, false), (6, false), (7, false), (8, false), (11, false), (12, false), (13, false), (17, false), (18, false), (19, false), (4, false), (9, false), (14, false), (20, false), (5, true), (10, false), (15, true), (16, false), (21, false), (22, false), (23, true)] .nil) .nil)) .nil .nil)))) .nil .nil)))) [(Value.slice b1p b1n b1c)] w2 R = F28 b1p b1n b1c w2 R := by kernel_rfl
theorem F28_of {b1p : Option Addr} {b1n : Nat} {b1c : Nat} {w2 : World} {R : Value → World → Prop} (h : F28 b1p b1n b1c w2 R) : CallR Try.prog 28 #[(Value.slice b1p b1n b1c)] w2 R := callR_of_lift _ ((F28_eq b1p b1n b1c w2 R).mpr h)

-- F29 subway/subwayref02.great
def F29 (x1 : Int) (a2 : Int) (b3 : Int) (c4 : Int) (w5 : World) (R : Value → World → Prop) : Prop :=
  CallR Try.prog 34 #[(Value.int .u32 x1), (Value.int .i64 a2)] w5 fun v6 w7 =>
  AsI .u32 v6 fun x8 =>
  CallR Try.prog 34 #[(Value.int .u32 x1), (Value.int .i64 b3)] w7 fun v9 w10 =>
  AsI .u32 v9 fun x11 =>
  CallR Try.prog 34 #[(Value.int .u32 x1), (Value.int .i64 c4)] w10 fun v12 w13 =>
  AsI .u32 v12 fun x14 =>
  R (Value.int .u32 (IntKind.wrap .u32 ↑((BitVec.ofInt (IntKind.bits .u32) (IntKind.wrap .u32 ↑((BitVec.ofInt (IntKind.bits .u32) x8 ^^^ BitVec.ofInt (IntKind.bits .u32) x11).toNat)) ^^^ BitVec.ofInt (IntKind.bits .u32) x14).toNat))) w13
theorem F29_eq (x1 : Int) (a2 : Int) (b3 : Int) (c4 : Int) (w5 : World) (R : Value → World → Prop) : liftF Try.prog 29 .nil [(Value.int .u32 x1), (Value.int .i64 a2), (Value.int .i64 b3), (Value.int .i64 c4)] w5 R = F29 x1 a2 b3 c4 w5 R := by kernel_rfl
theorem F29_of {x1 : Int} {a2 : Int} {b3 : Int} {c4 : Int} {w5 : World} {R : Value → World → Prop} (h : F29 x1 a2 b3 c4 w5 R) : CallR Try.prog 29 #[(Value.int .u32 x1), (Value.int .i64 a2), (Value.int .i64 b3), (Value.int .i64 c4)] w5 R := callR_of_lift _ ((F29_eq x1 a2 b3 c4 w5 R).mpr h)

-- F30 subway/digest.beginning
def F30  (w1 : World) (R : Value → World → Prop) : Prop :=
  NewC #[(Value.int .u32 0), (Value.int .u32 0), (Value.int .u32 0), (Value.int .u32 0), (Value.int .u32 0), (Value.int .u32 0), (Value.int .u32 0), (Value.int .u32 0)] 53 w1 fun b2 w3 =>
  Array.size (#[(Value.int .u32 1779033703), (Value.int .u32 3144134277), (Value.int .u32 1013904242), (Value.int .u32 2773480762), (Value.int .u32 1359893119), (Value.int .u32 2600822924), (Value.int .u32 528734635), (Value.int .u32 1541459225)]) = 8 ∧
  StA Try.prog ⟨b2, 0, none⟩ (#[(Value.int .u32 1779033703), (Value.int .u32 3144134277), (Value.int .u32 1013904242), (Value.int .u32 2773480762), (Value.int .u32 1359893119), (Value.int .u32 2600822924), (Value.int .u32 528734635), (Value.int .u32 1541459225)]) w3 fun w4 =>
  LdA Try.prog 8 ⟨b2, 0, none⟩ w4 fun res5 =>
  R (Value.agg res5) w4
theorem F30_eq  (w1 : World) (R : Value → World → Prop) : liftF Try.prog 30 .nil [] w1 R = F30  w1 R := by kernel_rfl
theorem F30_of  {w1 : World} {R : Value → World → Prop} (h : F30  w1 R) : CallR Try.prog 30 #[] w1 R := callR_of_lift _ ((F30_eq  w1 R).mpr h)

-- F31 (subway/digest.state).behind
def F31 (h1 : Array Value) (w2 : Array Value) (w3 : World) (R : Value → World → Prop) : Prop :=
  NewC h1 53 w3 fun b4 w5 =>
  NewC w2 49 w5 fun b6 w7 =>
  NewC #[(Value.int .u32 0), (Value.int .u32 0), (Value.int .u32 0), (Value.int .u32 0), (Value.int .u32 0), (Value.int .u32 0), (Value.int .u32 0), (Value.int .u32 0)] 53 w7 fun b8 w9 =>
  ∃ (C10 : Cls), Cls.p C10 [] w9 ∧
  ∃ (x11 : Array Value), x11.size = 8 ∧ Qt C10 (Value.agg x11) (fun w12 K13 =>
  LdA Try.prog 8 ⟨b4, 0, none⟩ w12 fun x14 =>
  K13 (Value.agg x14) w12) ∧
  Ef C10 (fun w18 K17 =>
  CallR Try.prog 35 #[] w18 fun v20 w21 =>
  ∃ (x22 : Array Value), x22.size = 64 ∧ v20 = (Value.agg x22) ∧
  K17 (Value.agg x22) w21) fun v19 D16 =>
  ∃ (x23 : Array Value), x23.size = 64 ∧ v19 = (Value.agg x23) ∧
  (Qt D16 (Value.agg x11) (fun w24 K25 =>
  LdA Try.prog 8 ⟨b4, 0, none⟩ w24 fun x26 =>
  K25 (Value.agg x26) w24)) ∧
  ∀ b27 : Nat,
  ∀ b28 : Nat,
  Ef (Cls.push (Cls.push D16 (b27, .cells #[(Value.int .u32 0), (Value.int .u32 0), (Value.int .u32 0), (Value.int .u32 0), (Value.int .u32 0), (Value.int .u32 0), (Value.int .u32 0), (Value.int .u32 0)] 53)) (b28, .cells #[(Value.int .u32 0), (Value.int .u32 0), (Value.int .u32 0), (Value.int .u32 0), (Value.int .u32 0), (Value.int .u32 0), (Value.int .u32 0), (Value.int .u32 0), (Value.int .u32 0), (Value.int .u32 0), (Value.int .u32 0), (Value.int .u32 0), (Value.int .u32 0), (Value.int .u32 0), (Value.int .u32 0), (Value.int .u32 0), (Value.int .u32 0), (Value.int .u32 0), (Value.int .u32 0), (Value.int .u32 0), (Value.int .u32 0), (Value.int .u32 0), (Value.int .u32 0), (Value.int .u32 0), (Value.int .u32 0), (Value.int .u32 0), (Value.int .u32 0), (Value.int .u32 0), (Value.int .u32 0), (Value.int .u32 0), (Value.int .u32 0), (Value.int .u32 0), (Value.int .u32 0), (Value.int .u32 0), (Value.int .u32 0), (Value.int .u32 0), (Value.int .u32 0), (Value.int .u32 0), (Value.int .u32 0), (Value.int .u32 0), (Value.int .u32 0), (Value.int .u32 0), (Value.int .u32 0), (Value.int .u32 0), (Value.int .u32 0), (Value.int .u32 0), (Value.int .u32 0), (Value.int .u32 0), (Value.int .u32 0), (Value.int .u32 0), (Value.int .u32 0), (Value.int .u32 0), (Value.int .u32 0), (Value.int .u32 0), (Value.int .u32 0), (Value.int .u32 0), (Value.int .u32 0), (Value.int .u32 0), (Value.int .u32 0), (Value.int .u32 0), (Value.int .u32 0), (Value.int .u32 0), (Value.int .u32 0), (Value.int .u32 0)] 49)) (fun w31 K30 =>
  Array.size x11 = 8 ∧
  StA Try.prog ⟨b27, 0, none⟩ x11 w31 fun w33 =>
  K30 (Value.tuple #[]) w33) fun v32 D29 =>
  v32 = (Value.tuple #[]) ∧
  (True) ∧
  Ef D29 (fun w36 K35 =>
  Array.size x23 = 64 ∧
  StA Try.prog ⟨b28, 0, none⟩ x23 w36 fun w38 =>
  K35 (Value.tuple #[]) w38) fun v37 D34 =>
  v37 = (Value.tuple #[]) ∧
  (True) ∧
  ∀ G39 w40, Cls.p D34 G39 w40 →
  Lp fun I41 mu42 =>
  I41 [(Value.int .i64 0)] w40 ∧
  ∀ (x43 : Int), ∀ w44, I41 [(Value.int .i64 x43)] w44 →
  Bif (decide (x43 < 64)) (
  ∃ (C45 : Cls), Cls.p C45 [] w44 ∧
  IxP (some ⟨b27, 0, none⟩) 8 0 1 fun a46 =>
  IxP (some ⟨b27, 0, none⟩) 8 1 1 fun a47 =>
  IxP (some ⟨b27, 0, none⟩) 8 2 1 fun a48 =>
  IxP (some ⟨b27, 0, none⟩) 8 4 1 fun a49 =>
  ∃ (x50 : Int), Qt C45 (Value.int .u32 x50) (fun w51 K52 =>
  LdI .u32 a46 w51 fun x53 =>
  K52 (Value.int .u32 x53) w51) ∧
  ∃ (x54 : Int), Qt C45 (Value.int .u32 x54) (fun w55 K56 =>
  LdI .u32 a47 w55 fun x57 =>
  K56 (Value.int .u32 x57) w55) ∧
  ∃ (x58 : Int), Qt C45 (Value.int .u32 x58) (fun w59 K60 =>
  LdI .u32 a48 w59 fun x61 =>
  K60 (Value.int .u32 x61) w59) ∧
  ∃ (x62 : Int), Qt C45 (Value.int .u32 x62) (fun w63 K64 =>
  LdI .u32 a49 w63 fun x65 =>
  K64 (Value.int .u32 x65) w63) ∧
  ∀ G66 w67, Cls.p C45 G66 w67 →
  ∃ (C68 : Cls), Cls.p C68 [] w67 ∧
  IxP (some ⟨b27, 0, none⟩) 8 7 1 fun a69 =>
  IxP (some ⟨b27, 0, none⟩) 8 6 1 fun a70 =>
  IxP (some ⟨b27, 0, none⟩) 8 5 1 fun a71 =>
  IxP (some ⟨b27, 0, none⟩) 8 6 1 fun a72 =>
  IxP (some ⟨b28, 0, none⟩) 64 x43 1 fun a73 =>
  IxP (some ⟨b6, 0, none⟩) 64 x43 1 fun a74 =>
  ∃ (x75 : Int), Qt C68 (Value.int .u32 x75) (fun w76 K77 =>
  LdI .u32 a69 w76 fun x78 =>
  K77 (Value.int .u32 x78) w76) ∧
  ∃ (x79 : Int), Qt C68 (Value.int .u32 x79) (fun w80 K81 =>
  LdI .u32 a70 w80 fun x82 =>
  K81 (Value.int .u32 x82) w80) ∧
  ∃ (x83 : Int), Qt C68 (Value.int .u32 x83) (fun w84 K85 =>
  LdI .u32 a71 w84 fun x86 =>
  K85 (Value.int .u32 x86) w84) ∧
  ∃ (x87 : Int), Qt C68 (Value.int .u32 x87) (fun w88 K89 =>
  LdI .u32 a72 w88 fun x90 =>
  K89 (Value.int .u32 x90) w88) ∧
  ∃ (x91 : Int), Qt C68 (Value.int .u32 x91) (fun w92 K93 =>
  LdI .u32 a73 w92 fun x94 =>
  K93 (Value.int .u32 x94) w92) ∧
  ∃ (x95 : Int), Qt C68 (Value.int .u32 x95) (fun w96 K97 =>
  LdI .u32 a74 w96 fun x98 =>
  K97 (Value.int .u32 x98) w96) ∧
  Ef C68 (fun w102 K101 =>
  CallR Try.prog 36 #[(Value.int .u32 x62), (Value.agg #[(Value.int .i64 6), (Value.int .i64 11), (Value.int .i64 25)]), (Value.bool false)] w102 fun v104 w105 =>
  AsI .u32 v104 fun x106 =>
  K101 (Value.int .u32 x106) w105) fun v103 D100 =>
  AsI .u32 v103 fun x107 =>
  (Qt D100 (Value.int .u32 x95) (fun w108 K109 =>
  LdI .u32 a74 w108 fun x110 =>
  K109 (Value.int .u32 x110) w108) ∧
  Qt D100 (Value.int .u32 x91) (fun w111 K112 =>
  LdI .u32 a73 w111 fun x113 =>
  K112 (Value.int .u32 x113) w111) ∧
  Qt D100 (Value.int .u32 x87) (fun w114 K115 =>
  LdI .u32 a72 w114 fun x116 =>
  K115 (Value.int .u32 x116) w114) ∧
  Qt D100 (Value.int .u32 x83) (fun w117 K118 =>
  LdI .u32 a71 w117 fun x119 =>
  K118 (Value.int .u32 x119) w117) ∧
  Qt D100 (Value.int .u32 x79) (fun w120 K121 =>
  LdI .u32 a70 w120 fun x122 =>
  K121 (Value.int .u32 x122) w120) ∧
  Qt D100 (Value.int .u32 x75) (fun w123 K124 =>
  LdI .u32 a69 w123 fun x125 =>
  K124 (Value.int .u32 x125) w123)) ∧
  ∀ G126 w127, Cls.p D100 G126 w127 →
  CallR Try.prog 36 #[(Value.int .u32 x50), (Value.agg #[(Value.int .i64 2), (Value.int .i64 13), (Value.int .i64 22)]), (Value.bool false)] w127 fun v128 w129 =>
  AsI .u32 v128 fun x130 =>
  ∃ (C131 : Cls), Cls.p C131 [] w129 ∧
  SlP (some ⟨b27, 0, none⟩) 8 8 1 1 (8 : Int) fun x132p x132n x132c =>
  SlP (some ⟨b27, 0, none⟩) 8 8 1 0 7 fun x133p x133n x133c =>
  Ef C131 (fun w137 K136 =>
  Run Try.prog (Builtin.copy_ #[61, 61] 3 #[(Value.slice x132p x132n x132c), (Value.slice x133p x133n x133c)]) w137 fun v139 w140 =>
  AsI .i64 v139 fun x141 =>
  K136 (Value.int .i64 x141) w140) fun v138 D135 =>
  AsI .i64 v138 fun x142 =>
  (True) ∧
  ∀ G143 w144, Cls.p D135 G143 w144 →
  IxP (some ⟨b27, 0, none⟩) 8 4 1 fun a145 =>
  LdI .u32 a145 w144 fun x146 =>
  IxP (some ⟨b27, 0, none⟩) 8 0 1 fun a147 =>
  St1 a147 (Value.int .u32 (IntKind.wrap .u32 ((IntKind.wrap .u32 ((IntKind.wrap .u32 ((IntKind.wrap .u32 ((IntKind.wrap .u32 (x75 + x107)) + (IntKind.wrap .u32 ↑((BitVec.ofInt (IntKind.bits .u32) x79 ^^^ BitVec.ofInt (IntKind.bits .u32) (IntKind.wrap .u32 ↑((BitVec.ofInt (IntKind.bits .u32) x62 &&& BitVec.ofInt (IntKind.bits .u32) (IntKind.wrap .u32 ↑((BitVec.ofInt (IntKind.bits .u32) x83 ^^^ BitVec.ofInt (IntKind.bits .u32) x87).toNat))).toNat))).toNat)))) + x91)) + x95)) + (IntKind.wrap .u32 (x130 + (IntKind.wrap .u32 ↑((BitVec.ofInt (IntKind.bits .u32) (IntKind.wrap .u32 ↑((BitVec.ofInt (IntKind.bits .u32) x50 &&& BitVec.ofInt (IntKind.bits .u32) (IntKind.wrap .u32 ↑((BitVec.ofInt (IntKind.bits .u32) x54 ||| BitVec.ofInt (IntKind.bits .u32) x58).toNat))).toNat)) ||| BitVec.ofInt (IntKind.bits .u32) (IntKind.wrap .u32 ↑((BitVec.ofInt (IntKind.bits .u32) x54 &&& BitVec.ofInt (IntKind.bits .u32) x58).toNat))).toNat))))))) w144 fun w148 =>
  IxP (some ⟨b27, 0, none⟩) 8 4 1 fun a149 =>
  St1 a149 (Value.int .u32 (IntKind.wrap .u32 (x146 + (IntKind.wrap .u32 ((IntKind.wrap .u32 ((IntKind.wrap .u32 ((IntKind.wrap .u32 (x75 + x107)) + (IntKind.wrap .u32 ↑((BitVec.ofInt (IntKind.bits .u32) x79 ^^^ BitVec.ofInt (IntKind.bits .u32) (IntKind.wrap .u32 ↑((BitVec.ofInt (IntKind.bits .u32) x62 &&& BitVec.ofInt (IntKind.bits .u32) (IntKind.wrap .u32 ↑((BitVec.ofInt (IntKind.bits .u32) x83 ^^^ BitVec.ofInt (IntKind.bits .u32) x87).toNat))).toNat))).toNat)))) + x91)) + x95))))) w148 fun w150 =>
  I41 [(Value.int .i64 (IntKind.wrap .i64 (x43 + 1)))] w150 ∧ mu42 [(Value.int .i64 (IntKind.wrap .i64 (x43 + 1)))] w150 < mu42 [(Value.int .i64 x43)] w44) (
  Lp fun I151 mu152 =>
  I151 [(Value.int .i64 0)] w44 ∧
  ∀ (x153 : Int), ∀ w154, I151 [(Value.int .i64 x153)] w154 →
  Bif (decide (x153 < 8)) (
  ∃ (C155 : Cls), Cls.p C155 [] w154 ∧
  IxP (some ⟨b27, 0, none⟩) 8 x153 1 fun a156 =>
  IxP (some ⟨b4, 0, none⟩) 8 x153 1 fun a157 =>
  ∃ (x158 : Int), Qt C155 (Value.int .u32 x158) (fun w159 K160 =>
  LdI .u32 a156 w159 fun x161 =>
  K160 (Value.int .u32 x161) w159) ∧
  ∃ (x162 : Int), Qt C155 (Value.int .u32 x162) (fun w163 K164 =>
  LdI .u32 a157 w163 fun x165 =>
  K164 (Value.int .u32 x165) w163) ∧
  IxP (some ⟨b27, 0, none⟩) 8 x153 1 fun a166 =>
  Ef C155 (fun w169 K168 =>
  St1 a166 (Value.int .u32 (IntKind.wrap .u32 (x158 + x162))) w169 fun w171 =>
  K168 (Value.tuple #[]) w171) fun v170 D167 =>
  v170 = (Value.tuple #[]) ∧
  (True) ∧
  ∀ G172 w173, Cls.p D167 G172 w173 →
  I151 [(Value.int .i64 (IntKind.wrap .i64 (x153 + 1)))] w173 ∧ mu152 [(Value.int .i64 (IntKind.wrap .i64 (x153 + 1)))] w173 < mu152 [(Value.int .i64 x153)] w154) (
  LdA Try.prog 8 ⟨b27, 0, none⟩ w154 fun x174 =>
  Array.size x174 = 8 ∧
  StA Try.prog ⟨b8, 0, none⟩ x174 w154 fun w175 =>
  LdA Try.prog 8 ⟨b8, 0, none⟩ w175 fun res176 =>
  R (Value.agg res176) w175))
theorem F31_eq (h1 : Array Value) (w2 : Array Value) (w3 : World) (R : Value → World → Prop) : liftF Try.prog 31 (.step .nil .nil (.draw [(0, false), (1, true), (2, false), (3, false), (4, true), (5, true)] (.step .nil .nil (.step (.loop [(17, .b (.int .i64))] (.step .nil .nil (.step .nil .nil (.step (.step .nil .nil (.draw [(0, false), (2, false), (4, false), (6, false), (1, false), (8, false), (3, false), (9, false), (5, false), (10, false), (7, false), (11, false)] (.draw [(0, false), (2, false), (3, false), (6, false), (8, false), (9, false), (11, false), (17, false), (18, false), (21, false), (22, false), (1, false), (7, false), (10, false), (12, false), (13, false), (14, false), (15, false), (19, false), (23, false), (4, true), (5, false), (16, false), (20, false), (24, false), (25, false)] (.step .nil .nil (.draw [(0, false), (1, false), (2, true)] .nil))))) .nil .nil)))) .nil (.step .nil .nil (.step (.loop [(79, .b (.int .i64))] (.step .nil .nil (.step .nil .nil (.step (.step .nil .nil (.draw [(0, false), (1, false), (3, false), (4, false), (2, false), (5, false), (6, false), (7, false), (8, true)] .nil)) .nil .nil)))) .nil .nil)))))) [(Value.agg h1), (Value.agg w2)] w3 R = F31 h1 w2 w3 R := by kernel_rfl
theorem F31_of {h1 : Array Value} {w2 : Array Value} {w3 : World} {R : Value → World → Prop} (h : F31 h1 w2 w3 R) : CallR Try.prog 31 #[(Value.agg h1), (Value.agg w2)] w3 R := callR_of_lift _ ((F31_eq h1 w2 w3 R).mpr h)

-- F32 subway/digest.words
def F32 (b1p : Option Addr) (b1n : Nat) (b1c : Nat) (w2 : World) (R : Value → World → Prop) : Prop :=
  NewC #[(Value.int .u32 0), (Value.int .u32 0), (Value.int .u32 0), (Value.int .u32 0), (Value.int .u32 0), (Value.int .u32 0), (Value.int .u32 0), (Value.int .u32 0), (Value.int .u32 0), (Value.int .u32 0), (Value.int .u32 0), (Value.int .u32 0), (Value.int .u32 0), (Value.int .u32 0), (Value.int .u32 0), (Value.int .u32 0), (Value.int .u32 0), (Value.int .u32 0), (Value.int .u32 0), (Value.int .u32 0), (Value.int .u32 0), (Value.int .u32 0), (Value.int .u32 0), (Value.int .u32 0), (Value.int .u32 0), (Value.int .u32 0), (Value.int .u32 0), (Value.int .u32 0), (Value.int .u32 0), (Value.int .u32 0), (Value.int .u32 0), (Value.int .u32 0), (Value.int .u32 0), (Value.int .u32 0), (Value.int .u32 0), (Value.int .u32 0), (Value.int .u32 0), (Value.int .u32 0), (Value.int .u32 0), (Value.int .u32 0), (Value.int .u32 0), (Value.int .u32 0), (Value.int .u32 0), (Value.int .u32 0), (Value.int .u32 0), (Value.int .u32 0), (Value.int .u32 0), (Value.int .u32 0), (Value.int .u32 0), (Value.int .u32 0), (Value.int .u32 0), (Value.int .u32 0), (Value.int .u32 0), (Value.int .u32 0), (Value.int .u32 0), (Value.int .u32 0), (Value.int .u32 0), (Value.int .u32 0), (Value.int .u32 0), (Value.int .u32 0), (Value.int .u32 0), (Value.int .u32 0), (Value.int .u32 0), (Value.int .u32 0)] 49 w2 fun b3 w4 =>
  NewC #[(Value.int .u32 0), (Value.int .u32 0), (Value.int .u32 0), (Value.int .u32 0), (Value.int .u32 0), (Value.int .u32 0), (Value.int .u32 0), (Value.int .u32 0), (Value.int .u32 0), (Value.int .u32 0), (Value.int .u32 0), (Value.int .u32 0), (Value.int .u32 0), (Value.int .u32 0), (Value.int .u32 0), (Value.int .u32 0), (Value.int .u32 0), (Value.int .u32 0), (Value.int .u32 0), (Value.int .u32 0), (Value.int .u32 0), (Value.int .u32 0), (Value.int .u32 0), (Value.int .u32 0), (Value.int .u32 0), (Value.int .u32 0), (Value.int .u32 0), (Value.int .u32 0), (Value.int .u32 0), (Value.int .u32 0), (Value.int .u32 0), (Value.int .u32 0), (Value.int .u32 0), (Value.int .u32 0), (Value.int .u32 0), (Value.int .u32 0), (Value.int .u32 0), (Value.int .u32 0), (Value.int .u32 0), (Value.int .u32 0), (Value.int .u32 0), (Value.int .u32 0), (Value.int .u32 0), (Value.int .u32 0), (Value.int .u32 0), (Value.int .u32 0), (Value.int .u32 0), (Value.int .u32 0), (Value.int .u32 0), (Value.int .u32 0), (Value.int .u32 0), (Value.int .u32 0), (Value.int .u32 0), (Value.int .u32 0), (Value.int .u32 0), (Value.int .u32 0), (Value.int .u32 0), (Value.int .u32 0), (Value.int .u32 0), (Value.int .u32 0), (Value.int .u32 0), (Value.int .u32 0), (Value.int .u32 0), (Value.int .u32 0)] 49 w4 fun b5 w6 =>
  SlP b1p b1n b1c 1 0 64 fun x7p x7n x7c =>
  Lp fun I8 mu9 =>
  I8 [(Value.int .i64 0)] w6 ∧
  ∀ (x10 : Int), ∀ w11, I8 [(Value.int .i64 x10)] w11 →
  Bif (decide (x10 < (x7n : Int))) (
  IxP x7p x7n x10 1 fun a12 =>
  LdI .u8 a12 w11 fun x13 =>
  DivK 4 (
  DivK 4 (
  IxP (some ⟨b5, 0, none⟩) 64 (IntKind.wrap .i64 (Int.tdiv x10 4)) 1 fun a14 =>
  LdI .u32 a14 w11 fun x15 =>
  ShK 8 (
  IxP (some ⟨b5, 0, none⟩) 64 (IntKind.wrap .i64 (Int.tdiv x10 4)) 1 fun a16 =>
  St1 a16 (Value.int .u32 (IntKind.wrap .u32 ↑((BitVec.ofInt (IntKind.bits .u32) (IntKind.wrap .u32 (x15 * 2 ^ min (Int.toNat 8) (IntKind.bits .u32))) ||| BitVec.ofInt (IntKind.bits .u32) (IntKind.wrap .u32 x13)).toNat))) w11 fun w17 =>
  I8 [(Value.int .i64 (IntKind.wrap .i64 (x10 + 1)))] w17 ∧ mu9 [(Value.int .i64 (IntKind.wrap .i64 (x10 + 1)))] w17 < mu9 [(Value.int .i64 x10)] w11)))) (
  Lp fun I18 mu19 =>
  I18 [(Value.int .i64 16)] w11 ∧
  ∀ (i20 : Int), ∀ w21, I18 [(Value.int .i64 i20)] w21 →
  Bif (decide (i20 < 64)) (
  ∃ (C22 : Cls), Cls.p C22 [] w21 ∧
  IxP (some ⟨b5, 0, none⟩) 64 (IntKind.wrap .i64 (i20 - 2)) 1 fun a23 =>
  IxP (some ⟨b5, 0, none⟩) 64 (IntKind.wrap .i64 (i20 - 7)) 1 fun a24 =>
  IxP (some ⟨b5, 0, none⟩) 64 (IntKind.wrap .i64 (i20 - 15)) 1 fun a25 =>
  IxP (some ⟨b5, 0, none⟩) 64 (IntKind.wrap .i64 (i20 - 16)) 1 fun a26 =>
  ∃ (x27 : Int), Qt C22 (Value.int .u32 x27) (fun w28 K29 =>
  LdI .u32 a23 w28 fun x30 =>
  K29 (Value.int .u32 x30) w28) ∧
  ∃ (x31 : Int), Qt C22 (Value.int .u32 x31) (fun w32 K33 =>
  LdI .u32 a24 w32 fun x34 =>
  K33 (Value.int .u32 x34) w32) ∧
  ∃ (x35 : Int), Qt C22 (Value.int .u32 x35) (fun w36 K37 =>
  LdI .u32 a25 w36 fun x38 =>
  K37 (Value.int .u32 x38) w36) ∧
  ∃ (x39 : Int), Qt C22 (Value.int .u32 x39) (fun w40 K41 =>
  LdI .u32 a26 w40 fun x42 =>
  K41 (Value.int .u32 x42) w40) ∧
  Ef C22 (fun w46 K45 =>
  CallR Try.prog 36 #[(Value.int .u32 x27), (Value.agg #[(Value.int .i64 17), (Value.int .i64 19), (Value.int .i64 10)]), (Value.bool true)] w46 fun v48 w49 =>
  AsI .u32 v48 fun x50 =>
  K45 (Value.int .u32 x50) w49) fun v47 D44 =>
  AsI .u32 v47 fun x51 =>
  (Qt D44 (Value.int .u32 x39) (fun w52 K53 =>
  LdI .u32 a26 w52 fun x54 =>
  K53 (Value.int .u32 x54) w52) ∧
  Qt D44 (Value.int .u32 x35) (fun w55 K56 =>
  LdI .u32 a25 w55 fun x57 =>
  K56 (Value.int .u32 x57) w55) ∧
  Qt D44 (Value.int .u32 x31) (fun w58 K59 =>
  LdI .u32 a24 w58 fun x60 =>
  K59 (Value.int .u32 x60) w58)) ∧
  Ef D44 (fun w64 K63 =>
  CallR Try.prog 36 #[(Value.int .u32 x35), (Value.agg #[(Value.int .i64 7), (Value.int .i64 18), (Value.int .i64 3)]), (Value.bool true)] w64 fun v66 w67 =>
  AsI .u32 v66 fun x68 =>
  K63 (Value.int .u32 x68) w67) fun v65 D62 =>
  AsI .u32 v65 fun x69 =>
  (Qt D62 (Value.int .u32 x39) (fun w70 K71 =>
  LdI .u32 a26 w70 fun x72 =>
  K71 (Value.int .u32 x72) w70) ∧
  Qt D62 (Value.int .u32 x31) (fun w73 K74 =>
  LdI .u32 a24 w73 fun x75 =>
  K74 (Value.int .u32 x75) w73)) ∧
  IxP (some ⟨b5, 0, none⟩) 64 i20 1 fun a76 =>
  Ef D62 (fun w79 K78 =>
  St1 a76 (Value.int .u32 (IntKind.wrap .u32 ((IntKind.wrap .u32 ((IntKind.wrap .u32 (x51 + x31)) + x69)) + x39))) w79 fun w81 =>
  K78 (Value.tuple #[]) w81) fun v80 D77 =>
  v80 = (Value.tuple #[]) ∧
  (True) ∧
  ∀ G82 w83, Cls.p D77 G82 w83 →
  I18 [(Value.int .i64 (IntKind.wrap .i64 (i20 + 1)))] w83 ∧ mu19 [(Value.int .i64 (IntKind.wrap .i64 (i20 + 1)))] w83 < mu19 [(Value.int .i64 i20)] w21) (
  LdA Try.prog 64 ⟨b5, 0, none⟩ w21 fun x84 =>
  Array.size x84 = 64 ∧
  StA Try.prog ⟨b3, 0, none⟩ x84 w21 fun w85 =>
  LdA Try.prog 64 ⟨b3, 0, none⟩ w85 fun res86 =>
  R (Value.agg res86) w85))
theorem F32_eq (b1p : Option Addr) (b1n : Nat) (b1c : Nat) (w2 : World) (R : Value → World → Prop) : liftF Try.prog 32 (.step .nil .nil (.step .nil .nil (.step .nil .nil (.step (.loop [(10, .b (.int .i64))] .nil) .nil (.step .nil .nil (.step (.loop [(6, .b (.int .i64))] (.step .nil .nil (.step .nil .nil (.step (.draw [(0, false), (1, false), (2, false), (3, false), (5, false), (7, false), (8, false), (9, false), (12, false), (13, false), (14, false), (16, false), (19, false), (20, false), (21, false), (4, false), (10, false), (15, false), (22, false), (6, true), (11, false), (17, true), (18, false), (23, false), (24, false), (25, true)] .nil) .nil .nil)))) .nil .nil)))))) [(Value.slice b1p b1n b1c)] w2 R = F32 b1p b1n b1c w2 R := by kernel_rfl
theorem F32_of {b1p : Option Addr} {b1n : Nat} {b1c : Nat} {w2 : World} {R : Value → World → Prop} (h : F32 b1p b1n b1c w2 R) : CallR Try.prog 32 #[(Value.slice b1p b1n b1c)] w2 R := callR_of_lift _ ((F32_eq b1p b1n b1c w2 R).mpr h)

-- F33 subway/subwayref02.small
def F33 (x1 : Int) (a2 : Int) (b3 : Int) (c4 : Int) (w5 : World) (R : Value → World → Prop) : Prop :=
  ∃ (C6 : Cls), Cls.p C6 [] w5 ∧
  ShK c4 (
  Ef C6 (fun w10 K9 =>
  CallR Try.prog 34 #[(Value.int .u32 x1), (Value.int .i64 a2)] w10 fun v12 w13 =>
  AsI .u32 v12 fun x14 =>
  K9 (Value.int .u32 x14) w13) fun v11 D8 =>
  AsI .u32 v11 fun x15 =>
  (True) ∧
  Ef D8 (fun w19 K18 =>
  CallR Try.prog 34 #[(Value.int .u32 x1), (Value.int .i64 b3)] w19 fun v21 w22 =>
  AsI .u32 v21 fun x23 =>
  K18 (Value.int .u32 x23) w22) fun v20 D17 =>
  AsI .u32 v20 fun x24 =>
  (True) ∧
  ∀ G25 w26, Cls.p D17 G25 w26 →
  R (Value.int .u32 (IntKind.wrap .u32 ↑((BitVec.ofInt (IntKind.bits .u32) (IntKind.wrap .u32 ↑((BitVec.ofInt (IntKind.bits .u32) x15 ^^^ BitVec.ofInt (IntKind.bits .u32) x24).toNat)) ^^^ BitVec.ofInt (IntKind.bits .u32) (Int.fdiv x1 (2 ^ min (Int.toNat c4) (IntKind.bits .u32)))).toNat))) w26)
theorem F33_eq (x1 : Int) (a2 : Int) (b3 : Int) (c4 : Int) (w5 : World) (R : Value → World → Prop) : liftF Try.prog 33 (.step .nil .nil (.draw [(0, false), (1, false), (3, false), (4, false), (7, false), (8, false), (9, false), (2, true), (5, true), (6, false), (10, false), (11, false)] .nil)) [(Value.int .u32 x1), (Value.int .i64 a2), (Value.int .i64 b3), (Value.int .i64 c4)] w5 R = F33 x1 a2 b3 c4 w5 R := by kernel_rfl
theorem F33_of {x1 : Int} {a2 : Int} {b3 : Int} {c4 : Int} {w5 : World} {R : Value → World → Prop} (h : F33 x1 a2 b3 c4 w5 R) : CallR Try.prog 33 #[(Value.int .u32 x1), (Value.int .i64 a2), (Value.int .i64 b3), (Value.int .i64 c4)] w5 R := callR_of_lift _ ((F33_eq x1 a2 b3 c4 w5 R).mpr h)

-- F34 subway/subwayref02.turn
def F34 (x1 : Int) (n2 : Int) (w3 : World) (R : Value → World → Prop) : Prop :=
  ∃ (C4 : Cls), Cls.p C4 [] w3 ∧
  ShK n2 (
  ShK (IntKind.wrap .i64 (32 - n2)) (
  ∀ G5 w6, Cls.p C4 G5 w6 →
  R (Value.int .u32 (IntKind.wrap .u32 ↑((BitVec.ofInt (IntKind.bits .u32) (Int.fdiv x1 (2 ^ min (Int.toNat n2) (IntKind.bits .u32))) ||| BitVec.ofInt (IntKind.bits .u32) (IntKind.wrap .u32 (x1 * 2 ^ min (Int.toNat (IntKind.wrap .i64 (32 - n2))) (IntKind.bits .u32)))).toNat))) w6))
theorem F34_eq (x1 : Int) (n2 : Int) (w3 : World) (R : Value → World → Prop) : liftF Try.prog 34 (.step .nil .nil (.draw [(0, false), (1, false), (2, false), (3, false), (4, false), (5, false), (6, false), (7, false), (8, false)] .nil)) [(Value.int .u32 x1), (Value.int .i64 n2)] w3 R = F34 x1 n2 w3 R := by kernel_rfl
theorem F34_of {x1 : Int} {n2 : Int} {w3 : World} {R : Value → World → Prop} (h : F34 x1 n2 w3 R) : CallR Try.prog 34 #[(Value.int .u32 x1), (Value.int .i64 n2)] w3 R := callR_of_lift _ ((F34_eq x1 n2 w3 R).mpr h)

-- F35 subway/digest.roots
def F35  (w1 : World) (R : Value → World → Prop) : Prop :=
  NewC #[(Value.int .u32 0), (Value.int .u32 0), (Value.int .u32 0), (Value.int .u32 0), (Value.int .u32 0), (Value.int .u32 0), (Value.int .u32 0), (Value.int .u32 0), (Value.int .u32 0), (Value.int .u32 0), (Value.int .u32 0), (Value.int .u32 0), (Value.int .u32 0), (Value.int .u32 0), (Value.int .u32 0), (Value.int .u32 0), (Value.int .u32 0), (Value.int .u32 0), (Value.int .u32 0), (Value.int .u32 0), (Value.int .u32 0), (Value.int .u32 0), (Value.int .u32 0), (Value.int .u32 0), (Value.int .u32 0), (Value.int .u32 0), (Value.int .u32 0), (Value.int .u32 0), (Value.int .u32 0), (Value.int .u32 0), (Value.int .u32 0), (Value.int .u32 0), (Value.int .u32 0), (Value.int .u32 0), (Value.int .u32 0), (Value.int .u32 0), (Value.int .u32 0), (Value.int .u32 0), (Value.int .u32 0), (Value.int .u32 0), (Value.int .u32 0), (Value.int .u32 0), (Value.int .u32 0), (Value.int .u32 0), (Value.int .u32 0), (Value.int .u32 0), (Value.int .u32 0), (Value.int .u32 0), (Value.int .u32 0), (Value.int .u32 0), (Value.int .u32 0), (Value.int .u32 0), (Value.int .u32 0), (Value.int .u32 0), (Value.int .u32 0), (Value.int .u32 0), (Value.int .u32 0), (Value.int .u32 0), (Value.int .u32 0), (Value.int .u32 0), (Value.int .u32 0), (Value.int .u32 0), (Value.int .u32 0), (Value.int .u32 0)] 49 w1 fun b2 w3 =>
  Array.size (#[(Value.int .u32 1116352408), (Value.int .u32 1899447441), (Value.int .u32 3049323471), (Value.int .u32 3921009573), (Value.int .u32 961987163), (Value.int .u32 1508970993), (Value.int .u32 2453635748), (Value.int .u32 2870763221), (Value.int .u32 3624381080), (Value.int .u32 310598401), (Value.int .u32 607225278), (Value.int .u32 1426881987), (Value.int .u32 1925078388), (Value.int .u32 2162078206), (Value.int .u32 2614888103), (Value.int .u32 3248222580), (Value.int .u32 3835390401), (Value.int .u32 4022224774), (Value.int .u32 264347078), (Value.int .u32 604807628), (Value.int .u32 770255983), (Value.int .u32 1249150122), (Value.int .u32 1555081692), (Value.int .u32 1996064986), (Value.int .u32 2554220882), (Value.int .u32 2821834349), (Value.int .u32 2952996808), (Value.int .u32 3210313671), (Value.int .u32 3336571891), (Value.int .u32 3584528711), (Value.int .u32 113926993), (Value.int .u32 338241895), (Value.int .u32 666307205), (Value.int .u32 773529912), (Value.int .u32 1294757372), (Value.int .u32 1396182291), (Value.int .u32 1695183700), (Value.int .u32 1986661051), (Value.int .u32 2177026350), (Value.int .u32 2456956037), (Value.int .u32 2730485921), (Value.int .u32 2820302411), (Value.int .u32 3259730800), (Value.int .u32 3345764771), (Value.int .u32 3516065817), (Value.int .u32 3600352804), (Value.int .u32 4094571909), (Value.int .u32 275423344), (Value.int .u32 430227734), (Value.int .u32 506948616), (Value.int .u32 659060556), (Value.int .u32 883997877), (Value.int .u32 958139571), (Value.int .u32 1322822218), (Value.int .u32 1537002063), (Value.int .u32 1747873779), (Value.int .u32 1955562222), (Value.int .u32 2024104815), (Value.int .u32 2227730452), (Value.int .u32 2361852424), (Value.int .u32 2428436474), (Value.int .u32 2756734187), (Value.int .u32 3204031479), (Value.int .u32 3329325298)]) = 64 ∧
  StA Try.prog ⟨b2, 0, none⟩ (#[(Value.int .u32 1116352408), (Value.int .u32 1899447441), (Value.int .u32 3049323471), (Value.int .u32 3921009573), (Value.int .u32 961987163), (Value.int .u32 1508970993), (Value.int .u32 2453635748), (Value.int .u32 2870763221), (Value.int .u32 3624381080), (Value.int .u32 310598401), (Value.int .u32 607225278), (Value.int .u32 1426881987), (Value.int .u32 1925078388), (Value.int .u32 2162078206), (Value.int .u32 2614888103), (Value.int .u32 3248222580), (Value.int .u32 3835390401), (Value.int .u32 4022224774), (Value.int .u32 264347078), (Value.int .u32 604807628), (Value.int .u32 770255983), (Value.int .u32 1249150122), (Value.int .u32 1555081692), (Value.int .u32 1996064986), (Value.int .u32 2554220882), (Value.int .u32 2821834349), (Value.int .u32 2952996808), (Value.int .u32 3210313671), (Value.int .u32 3336571891), (Value.int .u32 3584528711), (Value.int .u32 113926993), (Value.int .u32 338241895), (Value.int .u32 666307205), (Value.int .u32 773529912), (Value.int .u32 1294757372), (Value.int .u32 1396182291), (Value.int .u32 1695183700), (Value.int .u32 1986661051), (Value.int .u32 2177026350), (Value.int .u32 2456956037), (Value.int .u32 2730485921), (Value.int .u32 2820302411), (Value.int .u32 3259730800), (Value.int .u32 3345764771), (Value.int .u32 3516065817), (Value.int .u32 3600352804), (Value.int .u32 4094571909), (Value.int .u32 275423344), (Value.int .u32 430227734), (Value.int .u32 506948616), (Value.int .u32 659060556), (Value.int .u32 883997877), (Value.int .u32 958139571), (Value.int .u32 1322822218), (Value.int .u32 1537002063), (Value.int .u32 1747873779), (Value.int .u32 1955562222), (Value.int .u32 2024104815), (Value.int .u32 2227730452), (Value.int .u32 2361852424), (Value.int .u32 2428436474), (Value.int .u32 2756734187), (Value.int .u32 3204031479), (Value.int .u32 3329325298)]) w3 fun w4 =>
  LdA Try.prog 64 ⟨b2, 0, none⟩ w4 fun res5 =>
  R (Value.agg res5) w4
theorem F35_eq  (w1 : World) (R : Value → World → Prop) : liftF Try.prog 35 .nil [] w1 R = F35  w1 R := by kernel_rfl
theorem F35_of  {w1 : World} {R : Value → World → Prop} (h : F35  w1 R) : CallR Try.prog 35 #[] w1 R := callR_of_lift _ ((F35_eq  w1 R).mpr h)

-- F36 subway/digest.mixed
def F36 (x1 : Int) (byv2 : Array Value) (fall3 : Bool) (w4 : World) (R : Value → World → Prop) : Prop :=
  NewC byv2 60 w4 fun b5 w6 =>
  IxP (some ⟨b5, 0, none⟩) 3 2 1 fun a7 =>
  LdI .i64 a7 w6 fun x8 =>
  CallR Try.prog 37 #[(Value.int .u32 x1), (Value.int .i64 (IntKind.wrap .i64 (0 - x8)))] w6 fun v9 w10 =>
  AsI .u32 v9 fun x11 =>
  Jn fun J12 => (
  Bif fall3 (
  IxP (some ⟨b5, 0, none⟩) 3 2 1 fun a13 =>
  LdI .i64 a13 w10 fun x14 =>
  ShK x14 (
  J12 [(Value.int .u32 (Int.fdiv x1 (2 ^ min (Int.toNat x14) (IntKind.bits .u32))))] w10)) (
  J12 [(Value.int .u32 x11)] w10)) ∧
  ∀ (last15 : Int), ∀ w16, J12 [(Value.int .u32 last15)] w16 →
  ∃ (C17 : Cls), Cls.p C17 [] w16 ∧
  IxP (some ⟨b5, 0, none⟩) 3 0 1 fun a18 =>
  IxP (some ⟨b5, 0, none⟩) 3 1 1 fun a19 =>
  ∃ (x20 : Int), Qt C17 (Value.int .i64 x20) (fun w21 K22 =>
  LdI .i64 a18 w21 fun x23 =>
  K22 (Value.int .i64 x23) w21) ∧
  ∃ (x24 : Int), Qt C17 (Value.int .i64 x24) (fun w25 K26 =>
  LdI .i64 a19 w25 fun x27 =>
  K26 (Value.int .i64 x27) w25) ∧
  Ef C17 (fun w31 K30 =>
  CallR Try.prog 37 #[(Value.int .u32 x1), (Value.int .i64 (IntKind.wrap .i64 (0 - x20)))] w31 fun v33 w34 =>
  AsI .u32 v33 fun x35 =>
  K30 (Value.int .u32 x35) w34) fun v32 D29 =>
  AsI .u32 v32 fun x36 =>
  (Qt D29 (Value.int .i64 x24) (fun w37 K38 =>
  LdI .i64 a19 w37 fun x39 =>
  K38 (Value.int .i64 x39) w37)) ∧
  Ef D29 (fun w43 K42 =>
  CallR Try.prog 37 #[(Value.int .u32 x1), (Value.int .i64 (IntKind.wrap .i64 (0 - x24)))] w43 fun v45 w46 =>
  AsI .u32 v45 fun x47 =>
  K42 (Value.int .u32 x47) w46) fun v44 D41 =>
  AsI .u32 v44 fun x48 =>
  (True) ∧
  ∀ G49 w50, Cls.p D41 G49 w50 →
  R (Value.int .u32 (IntKind.wrap .u32 ↑((BitVec.ofInt (IntKind.bits .u32) (IntKind.wrap .u32 ↑((BitVec.ofInt (IntKind.bits .u32) x36 ^^^ BitVec.ofInt (IntKind.bits .u32) x48).toNat)) ^^^ BitVec.ofInt (IntKind.bits .u32) last15).toNat))) w50
theorem F36_eq (x1 : Int) (byv2 : Array Value) (fall3 : Bool) (w4 : World) (R : Value → World → Prop) : liftF Try.prog 36 (.step .nil .nil (.step .nil .nil (.step .nil .nil (.join 1 [(7, .b (.int .u32))] .nil (.draw [(0, false), (1, false), (5, false), (6, false), (11, false), (2, false), (3, false), (7, false), (8, false), (4, true), (9, true), (10, false), (12, false), (13, false)] .nil))))) [(Value.int .u32 x1), (Value.agg byv2), (Value.bool fall3)] w4 R = F36 x1 byv2 fall3 w4 R := by kernel_rfl
theorem F36_of {x1 : Int} {byv2 : Array Value} {fall3 : Bool} {w4 : World} {R : Value → World → Prop} (h : F36 x1 byv2 fall3 w4 R) : CallR Try.prog 36 #[(Value.int .u32 x1), (Value.agg byv2), (Value.bool fall3)] w4 R := callR_of_lift _ ((F36_eq x1 byv2 fall3 w4 R).mpr h)

-- F37 math/bits.RotateLeft32
def F37 (x1 : Int) (k2 : Int) (w3 : World) (R : Value → World → Prop) : Prop :=
  ShK (IntKind.wrap .u64 ↑((BitVec.ofInt (IntKind.bits .u64) (IntKind.wrap .u64 k2) &&& BitVec.ofInt (IntKind.bits .u64) 31).toNat)) (
  ShK (IntKind.wrap .u64 (32 - (IntKind.wrap .u64 ↑((BitVec.ofInt (IntKind.bits .u64) (IntKind.wrap .u64 k2) &&& BitVec.ofInt (IntKind.bits .u64) 31).toNat)))) (
  R (Value.int .u32 (IntKind.wrap .u32 ↑((BitVec.ofInt (IntKind.bits .u32) (IntKind.wrap .u32 (x1 * 2 ^ min (Int.toNat (IntKind.wrap .u64 ↑((BitVec.ofInt (IntKind.bits .u64) (IntKind.wrap .u64 k2) &&& BitVec.ofInt (IntKind.bits .u64) 31).toNat))) (IntKind.bits .u32))) ||| BitVec.ofInt (IntKind.bits .u32) (Int.fdiv x1 (2 ^ min (Int.toNat (IntKind.wrap .u64 (32 - (IntKind.wrap .u64 ↑((BitVec.ofInt (IntKind.bits .u64) (IntKind.wrap .u64 k2) &&& BitVec.ofInt (IntKind.bits .u64) 31).toNat))))) (IntKind.bits .u32)))).toNat))) w3))
theorem F37_eq (x1 : Int) (k2 : Int) (w3 : World) (R : Value → World → Prop) : liftF Try.prog 37 .nil [(Value.int .u32 x1), (Value.int .i64 k2)] w3 R = F37 x1 k2 w3 R := by kernel_rfl
theorem F37_of {x1 : Int} {k2 : Int} {w3 : World} {R : Value → World → Prop} (h : F37 x1 k2 w3 R) : CallR Try.prog 37 #[(Value.int .u32 x1), (Value.int .i64 k2)] w3 R := callR_of_lift _ ((F37_eq x1 k2 w3 R).mpr h)

end Go.Proofs.Ytbfccpbijimjmaa
