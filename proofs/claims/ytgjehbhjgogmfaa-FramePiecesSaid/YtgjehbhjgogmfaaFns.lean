/- The lifted forms of this seat's functions, printed by a program; each is met by the kernel. -/
import Derived.Test.YtgjehbhjgogmfaaLift
import Derived.Test.YtgjehbhjgogmfaaProg
set_option linter.unusedVariables false
set_option maxRecDepth 100000
namespace Go.Proofs.Ytgjehbhjgogmfaa
open Go
-- F3 subway/subwaylaw06.FrameTells
def F3 (b1p : Option Addr) (b1n : Nat) (b1c : Nat) (w2 : World) (R : Value → World → Prop) : Prop :=
  CallR Try.prog 9 #[] w2 fun v3 w4 =>
  AsB v3 fun x5 =>
  Bif (decide ((b1n : Int) > 20000)) (
  R (Value.bool x5) w4) (
  CallR Try.prog 10 #[(Value.slice b1p b1n b1c)] w4 fun v6 w7 =>
  ∃ (x8p : Option Addr) (x8n : Nat) (x8c : Nat), ∃ (x9 : Int), ∃ (x10 : Int), v6 = (Value.tuple #[(Value.slice x8p x8n x8c), (Value.int .i64 x9), (Value.int .i64 x10)]) ∧
  CallR Try.prog 11 #[(Value.slice b1p b1n b1c)] w7 fun v11 w12 =>
  ∃ (x13p : Option Addr) (x13n : Nat) (x13c : Nat), ∃ (x14 : Int), ∃ (x15 : Int), v11 = (Value.tuple #[(Value.slice x13p x13n x13c), (Value.int .i64 x14), (Value.int .i64 x15)]) ∧
  CallR Try.prog 12 #[(Value.slice b1p b1n b1c)] w12 fun v16 w17 =>
  ∃ (x18p : Option Addr) (x18n : Nat) (x18c : Nat), ∃ (x19 : Int), ∃ (x20 : Int), v16 = (Value.tuple #[(Value.slice x18p x18n x18c), (Value.int .i64 x19), (Value.int .i64 x20)]) ∧
  CallR Try.prog 13 #[(Value.slice b1p b1n b1c)] w17 fun v21 w22 =>
  ∃ (x23p : Option Addr) (x23n : Nat) (x23c : Nat), ∃ (x24 : Int), ∃ (x25 : Int), v21 = (Value.tuple #[(Value.slice x23p x23n x23c), (Value.int .i64 x24), (Value.int .i64 x25)]) ∧
  ∃ (C26 : Cls), Cls.p C26 [] w22 ∧
  Bif x5 (
  Ef C26 (fun w30 K29 =>
  CallR Try.prog 14 #[(Value.slice b1p b1n b1c)] w30 fun v32 w33 =>
  AsL v32 fun x34p x34n x34c =>
  K29 (Value.slice x34p x34n x34c) w33) fun v31 D28 =>
  AsL v31 fun x35p x35n x35c =>
  (True) ∧
  ∃ (x36 : ByteArray), Qt D28 (Value.string x36) (fun w37 K38 =>
  Run Try.prog (convert 22 9 (Value.slice x35p x35n x35c)) w37 fun v39 w40 =>
  AsS v39 fun x41 =>
  K38 (Value.string x41) w40) ∧
  Ef D28 (fun w45 K44 =>
  CallR Try.prog 15 #[(Value.slice b1p b1n b1c)] w45 fun v47 w48 =>
  AsL v47 fun x49p x49n x49c =>
  K44 (Value.slice x49p x49n x49c) w48) fun v46 D43 =>
  AsL v46 fun x50p x50n x50c =>
  (Qt D43 (Value.string x36) (fun w51 K52 =>
  Run Try.prog (convert 22 9 (Value.slice x35p x35n x35c)) w51 fun v53 w54 =>
  AsS v53 fun x55 =>
  K52 (Value.string x55) w54)) ∧
  ∃ (x56 : ByteArray), Qt D43 (Value.string x56) (fun w57 K58 =>
  Run Try.prog (convert 22 9 (Value.slice x50p x50n x50c)) w57 fun v59 w60 =>
  AsS v59 fun x61 =>
  K58 (Value.string x61) w60) ∧
  Bif (ByteArray.toList x36 == ByteArray.toList x56) (
  ∃ (x62 : ByteArray), Qt D43 (Value.string x62) (fun w63 K64 =>
  Run Try.prog (convert 22 9 (Value.slice x8p x8n x8c)) w63 fun v65 w66 =>
  AsS v65 fun x67 =>
  K64 (Value.string x67) w66) ∧
  ∃ (x68 : ByteArray), Qt D43 (Value.string x68) (fun w69 K70 =>
  Run Try.prog (convert 22 9 (Value.slice x13p x13n x13c)) w69 fun v71 w72 =>
  AsS v71 fun x73 =>
  K70 (Value.string x73) w72) ∧
  Bif (ByteArray.toList x62 == ByteArray.toList x68) (
  Bif (x9 == x14) (
  Bif (x10 == x15) (
  Ef D43 (fun w77 K76 =>
  CallR Try.prog 16 #[(Value.slice x18p x18n x18c), (Value.slice x23p x23n x23c)] w77 fun v79 w80 =>
  AsB v79 fun x81 =>
  K76 (Value.bool x81) w80) fun v78 D75 =>
  AsB v78 fun x82 =>
  (True) ∧
  Bif x82 (
  Bif (x19 == x24) (
  ∀ G83 w84, Cls.p D75 G83 w84 →
  R (Value.bool (x20 == x25)) w84) (
  ∀ G85 w86, Cls.p D75 G85 w86 →
  R (Value.bool false) w86)) (
  ∀ G87 w88, Cls.p D75 G87 w88 →
  R (Value.bool false) w88)) (
  ∀ G89 w90, Cls.p D43 G89 w90 →
  R (Value.bool false) w90)) (
  ∀ G91 w92, Cls.p D43 G91 w92 →
  R (Value.bool false) w92)) (
  ∀ G93 w94, Cls.p D43 G93 w94 →
  R (Value.bool false) w94)) (
  ∀ G95 w96, Cls.p D43 G95 w96 →
  R (Value.bool false) w96)) (
  ∀ G97 w98, Cls.p C26 G97 w98 →
  R (Value.bool false) w98))
theorem F3_eq (b1p : Option Addr) (b1n : Nat) (b1c : Nat) (w2 : World) (R : Value → World → Prop) : liftF Try.prog 3 (.step .nil .nil (.step .nil .nil (.step .nil .nil (.step .nil .nil (.step .nil .nil (.step .nil .nil (.step .nil .nil (.step .nil .nil (.draw [(0, false), (1, false), (2, false), (5, false), (3, true), (4, false), (6, true), (7, false), (8, false), (9, false), (10, false), (11, false), (13, false), (12, false), (14, false), (15, false), (16, false), (17, false), (18, false), (19, false), (20, false), (21, false), (22, false), (23, false), (24, false), (25, false), (26, false), (27, false), (28, false), (29, false), (30, true), (31, false), (32, false), (33, false), (34, false), (35, false), (36, false), (37, false), (38, false), (39, false), (40, false), (41, false), (42, false)] .nil))))))))) [(Value.slice b1p b1n b1c)] w2 R = F3 b1p b1n b1c w2 R := by kernel_rfl
theorem F3_of {b1p : Option Addr} {b1n : Nat} {b1c : Nat} {w2 : World} {R : Value → World → Prop} (h : F3 b1p b1n b1c w2 R) : CallR Try.prog 3 #[(Value.slice b1p b1n b1c)] w2 R := callR_of_lift _ ((F3_eq b1p b1n b1c w2 R).mpr h)

-- F4 subway/subwaylaw06.FrameBack
def F4 (l1p : Option Addr) (l1n : Nat) (l1c : Nat) (w2 : World) (R : Value → World → Prop) : Prop :=
  CallR Try.prog 9 #[] w2 fun v3 w4 =>
  AsB v3 fun x5 =>
  CallR Try.prog 17 #[(Value.slice l1p l1n l1c)] w4 fun v6 w7 =>
  AsB v6 fun x8 =>
  Bif x8 (
  R (Value.bool x5) w7) (
  Lp fun I9 mu10 =>
  I9 [(Value.slice none 0 0), (Value.slice none 0 0), (Value.int .i64 0)] w7 ∧
  ∀ (want11p : Option Addr) (want11n : Nat) (want11c : Nat), ∀ (all12p : Option Addr) (all12n : Nat) (all12c : Nat), ∀ (i13 : Int), ∀ w14, I9 [(Value.slice want11p want11n want11c), (Value.slice all12p all12n all12c), (Value.int .i64 i13)] w14 →
  Bif (decide (i13 < (l1n : Int))) (
  IxP l1p l1n i13 1 fun a15 =>
  LdL a15 w14 fun x16p x16n x16c =>
  CallR Try.prog 14 #[(Value.slice x16p x16n x16c)] w14 fun v17 w18 =>
  AsL v17 fun x19p x19n x19c =>
  Jn fun J20 => (
  IxP l1p l1n i13 1 fun a21 =>
  LdL a21 w18 fun x22p x22n x22c =>
  Bif (decide ((x22n : Int) > 0)) (
  IxP l1p l1n i13 1 fun a23 =>
  LdL a23 w18 fun x24p x24n x24c =>
  J20 [(Value.bool (decide ((x24n : Int) ≤ 200)))] w18) (
  J20 [(Value.bool false)] w18)) ∧
  ∀ (fine25 : Bool), ∀ w26, J20 [(Value.bool fine25)] w26 →
  Jn fun J27 => (
  Bif (!((decide ((x19n : Int) > 0)) == fine25)) (
  R (Value.bool false) w26) (
  Bif fine25 (
  IxP l1p l1n i13 1 fun a28 =>
  LdL a28 w26 fun x29p x29n x29c =>
  Bif ((x19n : Int) != (IntKind.wrap .i64 ((x29n : Int) + 2))) (
  R (Value.bool false) w26) (
  J27 [] w26)) (
  J27 [] w26))) ∧
  ∀ w30, J27 [] w30 →
  Bif fine25 (
  IxP l1p l1n i13 1 fun a31 =>
  LdL a31 w30 fun x32p x32n x32c =>
  NewC #[(Value.slice x32p x32n x32c)] 22 w30 fun b33 w34 =>
  Run Try.prog (Builtin.append_ #[27, 27] 27 #[(Value.slice want11p want11n want11c), (Value.slice (some ⟨b33, 0, none⟩) 1 1)]) w34 fun v35 w36 =>
  AsL v35 fun x37p x37n x37c =>
  Run Try.prog (Builtin.append_ #[22, 22] 22 #[(Value.slice all12p all12n all12c), (Value.slice x19p x19n x19c)]) w36 fun v38 w39 =>
  AsL v38 fun x40p x40n x40c =>
  I9 [(Value.slice x37p x37n x37c), (Value.slice x40p x40n x40c), (Value.int .i64 (IntKind.wrap .i64 (i13 + 1)))] w39 ∧ mu10 [(Value.slice x37p x37n x37c), (Value.slice x40p x40n x40c), (Value.int .i64 (IntKind.wrap .i64 (i13 + 1)))] w39 < mu10 [(Value.slice want11p want11n want11c), (Value.slice all12p all12n all12c), (Value.int .i64 i13)] w14) (
  I9 [(Value.slice want11p want11n want11c), (Value.slice all12p all12n all12c), (Value.int .i64 (IntKind.wrap .i64 (i13 + 1)))] w30 ∧ mu10 [(Value.slice want11p want11n want11c), (Value.slice all12p all12n all12c), (Value.int .i64 (IntKind.wrap .i64 (i13 + 1)))] w30 < mu10 [(Value.slice want11p want11n want11c), (Value.slice all12p all12n all12c), (Value.int .i64 i13)] w14)) (
  CallR Try.prog 12 #[(Value.slice all12p all12n all12c)] w14 fun v41 w42 =>
  ∃ (x43p : Option Addr) (x43n : Nat) (x43c : Nat), ∃ (x44 : Int), ∃ (x45 : Int), v41 = (Value.tuple #[(Value.slice x43p x43n x43c), (Value.int .i64 x44), (Value.int .i64 x45)]) ∧
  Bif x5 (
  CallR Try.prog 16 #[(Value.slice x43p x43n x43c), (Value.slice want11p want11n want11c)] w42 fun v46 w47 =>
  AsB v46 fun x48 =>
  Bif x48 (
  Bif (x44 == (all12n : Int)) (
  R (Value.bool (x45 == 0)) w47) (
  R (Value.bool false) w47)) (
  R (Value.bool false) w47)) (
  R (Value.bool false) w42)))
theorem F4_eq (l1p : Option Addr) (l1n : Nat) (l1c : Nat) (w2 : World) (R : Value → World → Prop) : liftF Try.prog 4 (.step .nil .nil (.step .nil .nil (.step .nil .nil (.step .nil .nil (.step .nil .nil (.step .nil .nil (.step .nil .nil (.step (.loop [(4, .b .slice), (5, .b .slice), (6, .b (.int .i64))] (.step .nil .nil (.step .nil .nil (.step (.step .nil .nil (.join 1 [(8, .b .bool)] .nil (.join 2 [] .nil .nil))) .nil .nil)))) .nil .nil)))))))) [(Value.slice l1p l1n l1c)] w2 R = F4 l1p l1n l1c w2 R := by kernel_rfl
theorem F4_of {l1p : Option Addr} {l1n : Nat} {l1c : Nat} {w2 : World} {R : Value → World → Prop} (h : F4 l1p l1n l1c w2 R) : CallR Try.prog 4 #[(Value.slice l1p l1n l1c)] w2 R := callR_of_lift _ ((F4_eq l1p l1n l1c w2 R).mpr h)

-- F5 subway/subwaylaw06.FramePieces
def F5 (b1p : Option Addr) (b1n : Nat) (b1c : Nat) (cuts2p : Option Addr) (cuts2n : Nat) (cuts2c : Nat) (w3 : World) (R : Value → World → Prop) : Prop :=
  CallR Try.prog 9 #[] w3 fun v4 w5 =>
  AsB v4 fun x6 =>
  Bif (decide ((b1n : Int) > 9000)) (
  R (Value.bool x6) w5) (
  Bif (decide ((cuts2n : Int) > 300)) (
  R (Value.bool x6) w5) (
  Jn fun J7 => (
  Lp fun I8 mu9 =>
  I8 [(Value.slice none 0 0), (Value.slice none 0 0), (Value.int .i64 0), (Value.int .i64 0), (Value.int .i64 0)] w5 ∧
  ∀ (left10p : Option Addr) (left10n : Nat) (left10c : Nat), ∀ (got11p : Option Addr) (got11n : Nat) (got11c : Nat), ∀ (atv12 : Int), ∀ (bad13 : Int), ∀ (i14 : Int), ∀ w15, I8 [(Value.slice left10p left10n left10c), (Value.slice got11p got11n got11c), (Value.int .i64 atv12), (Value.int .i64 bad13), (Value.int .i64 i14)] w15 →
  Bif (decide (i14 ≤ (cuts2n : Int))) (
  Bif (bad13 == 0) (
  Jn fun J16 => (
  Bif (decide (i14 < (cuts2n : Int))) (
  IxP cuts2p cuts2n i14 1 fun a17 =>
  LdI .u8 a17 w15 fun x18 =>
  J16 [(Value.int .i64 (if (IntKind.wrap .i64 ((b1n : Int) - atv12)) < (IntKind.wrap .i64 x18) then (IntKind.wrap .i64 ((b1n : Int) - atv12)) else (IntKind.wrap .i64 x18)))] w15) (
  J16 [(Value.int .i64 (IntKind.wrap .i64 ((b1n : Int) - atv12)))] w15)) ∧
  ∀ (n19 : Int), ∀ w20, J16 [(Value.int .i64 n19)] w20 →
  SlP b1p b1n b1c 1 atv12 (IntKind.wrap .i64 (atv12 + n19)) fun x21p x21n x21c =>
  Run Try.prog (Builtin.append_ #[22, 22] 22 #[(Value.slice left10p left10n left10c), (Value.slice x21p x21n x21c)]) w20 fun v22 w23 =>
  AsL v22 fun x24p x24n x24c =>
  CallR Try.prog 12 #[(Value.slice x24p x24n x24c)] w23 fun v25 w26 =>
  ∃ (x27p : Option Addr) (x27n : Nat) (x27c : Nat), ∃ (x28 : Int), ∃ (x29 : Int), v25 = (Value.tuple #[(Value.slice x27p x27n x27c), (Value.int .i64 x28), (Value.int .i64 x29)]) ∧
  Bif (decide (x28 < 0)) (
  R (Value.bool false) w26) (
  Bif (decide (x28 > (x24n : Int))) (
  R (Value.bool false) w26) (
  Run Try.prog (Builtin.append_ #[27, 27] 27 #[(Value.slice got11p got11n got11c), (Value.slice x27p x27n x27c)]) w26 fun v30 w31 =>
  AsL v30 fun x32p x32n x32c =>
  NewC #[] 5 w31 fun b33 w34 =>
  SlP x24p x24n x24c 1 x28 (x24n : Int) fun x35p x35n x35c =>
  Run Try.prog (Builtin.append_ #[22, 22] 22 #[(Value.slice (some ⟨b33, 0, none⟩) 0 0), (Value.slice x35p x35n x35c)]) w34 fun v36 w37 =>
  AsL v36 fun x38p x38n x38c =>
  I8 [(Value.slice x38p x38n x38c), (Value.slice x32p x32n x32c), (Value.int .i64 (IntKind.wrap .i64 (atv12 + n19))), (Value.int .i64 x29), (Value.int .i64 (IntKind.wrap .i64 (i14 + 1)))] w37 ∧ mu9 [(Value.slice x38p x38n x38c), (Value.slice x32p x32n x32c), (Value.int .i64 (IntKind.wrap .i64 (atv12 + n19))), (Value.int .i64 x29), (Value.int .i64 (IntKind.wrap .i64 (i14 + 1)))] w37 < mu9 [(Value.slice left10p left10n left10c), (Value.slice got11p got11n got11c), (Value.int .i64 atv12), (Value.int .i64 bad13), (Value.int .i64 i14)] w15))) (
  J7 [(Value.slice got11p got11n got11c), (Value.int .i64 bad13)] w15)) (
  J7 [(Value.slice got11p got11n got11c), (Value.int .i64 bad13)] w15)) ∧
  ∀ (got39p : Option Addr) (got39n : Nat) (got39c : Nat), ∀ (bad40 : Int), ∀ w41, J7 [(Value.slice got39p got39n got39c), (Value.int .i64 bad40)] w41 →
  CallR Try.prog 12 #[(Value.slice b1p b1n b1c)] w41 fun v42 w43 =>
  ∃ (x44p : Option Addr) (x44n : Nat) (x44c : Nat), ∃ (x45 : Int), ∃ (x46 : Int), v42 = (Value.tuple #[(Value.slice x44p x44n x44c), (Value.int .i64 x45), (Value.int .i64 x46)]) ∧
  Bif x6 (
  CallR Try.prog 16 #[(Value.slice got39p got39n got39c), (Value.slice x44p x44n x44c)] w43 fun v47 w48 =>
  AsB v47 fun x49 =>
  Bif x49 (
  R (Value.bool (bad40 == x46)) w48) (
  R (Value.bool false) w48)) (
  R (Value.bool false) w43)))
theorem F5_eq (b1p : Option Addr) (b1n : Nat) (b1c : Nat) (cuts2p : Option Addr) (cuts2n : Nat) (cuts2c : Nat) (w3 : World) (R : Value → World → Prop) : liftF Try.prog 5 (.step .nil .nil (.step .nil .nil (.step .nil .nil (.step .nil .nil (.step .nil .nil (.step .nil .nil (.step .nil .nil (.step .nil .nil (.step .nil .nil (.join 1 [(7, .b .slice), (9, .b (.int .i64))] (.step (.loop [(6, .b .slice), (7, .b .slice), (8, .b (.int .i64)), (9, .b (.int .i64)), (10, .b (.int .i64))] (.step .nil .nil (.step .nil .nil (.step (.step .nil .nil (.step .nil .nil (.join 1 [(11, .b (.int .i64))] .nil .nil))) .nil .nil)))) .nil .nil) .nil)))))))))) [(Value.slice b1p b1n b1c), (Value.slice cuts2p cuts2n cuts2c)] w3 R = F5 b1p b1n b1c cuts2p cuts2n cuts2c w3 R := by kernel_rfl
theorem F5_of {b1p : Option Addr} {b1n : Nat} {b1c : Nat} {cuts2p : Option Addr} {cuts2n : Nat} {cuts2c : Nat} {w3 : World} {R : Value → World → Prop} (h : F5 b1p b1n b1c cuts2p cuts2n cuts2c w3 R) : CallR Try.prog 5 #[(Value.slice b1p b1n b1c), (Value.slice cuts2p cuts2n cuts2c)] w3 R := callR_of_lift _ ((F5_eq b1p b1n b1c cuts2p cuts2n cuts2c w3 R).mpr h)

-- F6 subway/subwaylaw06.FramePrefix
def F6 (b1p : Option Addr) (b1n : Nat) (b1c : Nat) (w2 : World) (R : Value → World → Prop) : Prop :=
  CallR Try.prog 9 #[] w2 fun v3 w4 =>
  AsB v3 fun x5 =>
  Bif (decide ((b1n : Int) > 20000)) (
  R (Value.bool x5) w4) (
  CallR Try.prog 12 #[(Value.slice b1p b1n b1c)] w4 fun v6 w7 =>
  ∃ (x8p : Option Addr) (x8n : Nat) (x8c : Nat), ∃ (x9 : Int), ∃ (x10 : Int), v6 = (Value.tuple #[(Value.slice x8p x8n x8c), (Value.int .i64 x9), (Value.int .i64 x10)]) ∧
  Bif (decide (x9 < 0)) (
  R (Value.bool false) w7) (
  Bif (decide (x9 > (b1n : Int))) (
  R (Value.bool false) w7) (
  Lp fun I11 mu12 =>
  I11 [(Value.slice none 0 0), (Value.int .i64 0)] w7 ∧
  ∀ (all13p : Option Addr) (all13n : Nat) (all13c : Nat), ∀ (i14 : Int), ∀ w15, I11 [(Value.slice all13p all13n all13c), (Value.int .i64 i14)] w15 →
  Bif (decide (i14 < (x8n : Int))) (
  IxP x8p x8n i14 1 fun a16 =>
  LdL a16 w15 fun x17p x17n x17c =>
  CallR Try.prog 14 #[(Value.slice x17p x17n x17c)] w15 fun v18 w19 =>
  AsL v18 fun x20p x20n x20c =>
  Run Try.prog (Builtin.append_ #[22, 22] 22 #[(Value.slice all13p all13n all13c), (Value.slice x20p x20n x20c)]) w19 fun v21 w22 =>
  AsL v21 fun x23p x23n x23c =>
  I11 [(Value.slice x23p x23n x23c), (Value.int .i64 (IntKind.wrap .i64 (i14 + 1)))] w22 ∧ mu12 [(Value.slice x23p x23n x23c), (Value.int .i64 (IntKind.wrap .i64 (i14 + 1)))] w22 < mu12 [(Value.slice all13p all13n all13c), (Value.int .i64 i14)] w15) (
  SlP b1p b1n b1c 1 x9 (b1n : Int) fun x24p x24n x24c =>
  CallR Try.prog 10 #[(Value.slice x24p x24n x24c)] w15 fun v25 w26 =>
  ∃ (x27p : Option Addr) (x27n : Nat) (x27c : Nat), ∃ (x28 : Int), ∃ (x29 : Int), v25 = (Value.tuple #[(Value.slice x27p x27n x27c), (Value.int .i64 x28), (Value.int .i64 x29)]) ∧
  ∃ (C30 : Cls), Cls.p C30 [] w26 ∧
  Bif x5 (
  SlP b1p b1n b1c 1 0 x9 fun x31p x31n x31c =>
  ∃ (x32 : ByteArray), Qt C30 (Value.string x32) (fun w33 K34 =>
  Run Try.prog (convert 22 9 (Value.slice all13p all13n all13c)) w33 fun v35 w36 =>
  AsS v35 fun x37 =>
  K34 (Value.string x37) w36) ∧
  ∃ (x38 : ByteArray), Qt C30 (Value.string x38) (fun w39 K40 =>
  Run Try.prog (convert 22 9 (Value.slice x31p x31n x31c)) w39 fun v41 w42 =>
  AsS v41 fun x43 =>
  K40 (Value.string x43) w42) ∧
  Bif (ByteArray.toList x32 == ByteArray.toList x38) (
  Bif ((x27n : Int) == 0) (
  Bif (x28 == 0) (
  ∀ G44 w45, Cls.p C30 G44 w45 →
  R (Value.bool (x10 == x29)) w45) (
  ∀ G46 w47, Cls.p C30 G46 w47 →
  R (Value.bool false) w47)) (
  ∀ G48 w49, Cls.p C30 G48 w49 →
  R (Value.bool false) w49)) (
  ∀ G50 w51, Cls.p C30 G50 w51 →
  R (Value.bool false) w51)) (
  ∀ G52 w53, Cls.p C30 G52 w53 →
  R (Value.bool false) w53)))))
theorem F6_eq (b1p : Option Addr) (b1n : Nat) (b1c : Nat) (w2 : World) (R : Value → World → Prop) : liftF Try.prog 6 (.step .nil .nil (.step .nil .nil (.step .nil .nil (.step .nil .nil (.step .nil .nil (.step .nil .nil (.step .nil .nil (.step .nil .nil (.step .nil .nil (.step (.loop [(7, .b .slice), (8, .b (.int .i64))] .nil) .nil (.step .nil .nil (.draw [(0, false), (1, false), (2, false), (4, false), (5, false), (6, false), (3, false), (7, false), (8, false), (9, false), (10, false), (11, false), (12, false), (13, false), (14, false), (15, false), (16, false), (17, false), (18, false), (19, false), (20, false), (21, false), (22, false), (23, false), (24, false)] .nil)))))))))))) [(Value.slice b1p b1n b1c)] w2 R = F6 b1p b1n b1c w2 R := by kernel_rfl
theorem F6_of {b1p : Option Addr} {b1n : Nat} {b1c : Nat} {w2 : World} {R : Value → World → Prop} (h : F6 b1p b1n b1c w2 R) : CallR Try.prog 6 #[(Value.slice b1p b1n b1c)] w2 R := callR_of_lift _ ((F6_eq b1p b1n b1c w2 R).mpr h)

-- F7 subway/subwaylaw06.FrameJoin
def F7 (a1p : Option Addr) (a1n : Nat) (a1c : Nat) (b2p : Option Addr) (b2n : Nat) (b2c : Nat) (w3 : World) (R : Value → World → Prop) : Prop :=
  CallR Try.prog 9 #[] w3 fun v4 w5 =>
  AsB v4 fun x6 =>
  Bif (decide ((IntKind.wrap .i64 ((a1n : Int) + (b2n : Int))) > 20000)) (
  R (Value.bool x6) w5) (
  CallR Try.prog 12 #[(Value.slice a1p a1n a1c)] w5 fun v7 w8 =>
  ∃ (x9p : Option Addr) (x9n : Nat) (x9c : Nat), ∃ (x10 : Int), ∃ (x11 : Int), v7 = (Value.tuple #[(Value.slice x9p x9n x9c), (Value.int .i64 x10), (Value.int .i64 x11)]) ∧
  Bif (x11 != 0) (
  R (Value.bool x6) w8) (
  Bif (x10 != (a1n : Int)) (
  R (Value.bool x6) w8) (
  CallR Try.prog 12 #[(Value.slice b2p b2n b2c)] w8 fun v12 w13 =>
  ∃ (x14p : Option Addr) (x14n : Nat) (x14c : Nat), ∃ (x15 : Int), ∃ (x16 : Int), v12 = (Value.tuple #[(Value.slice x14p x14n x14c), (Value.int .i64 x15), (Value.int .i64 x16)]) ∧
  NewC #[] 5 w13 fun b17 w18 =>
  Run Try.prog (Builtin.append_ #[22, 22] 22 #[(Value.slice (some ⟨b17, 0, none⟩) 0 0), (Value.slice a1p a1n a1c)]) w18 fun v19 w20 =>
  AsL v19 fun x21p x21n x21c =>
  Run Try.prog (Builtin.append_ #[22, 22] 22 #[(Value.slice x21p x21n x21c), (Value.slice b2p b2n b2c)]) w20 fun v22 w23 =>
  AsL v22 fun x24p x24n x24c =>
  CallR Try.prog 12 #[(Value.slice x24p x24n x24c)] w23 fun v25 w26 =>
  ∃ (x27p : Option Addr) (x27n : Nat) (x27c : Nat), ∃ (x28 : Int), ∃ (x29 : Int), v25 = (Value.tuple #[(Value.slice x27p x27n x27c), (Value.int .i64 x28), (Value.int .i64 x29)]) ∧
  Bif x6 (
  NewC #[] 22 w26 fun b30 w31 =>
  Run Try.prog (Builtin.append_ #[27, 27] 27 #[(Value.slice (some ⟨b30, 0, none⟩) 0 0), (Value.slice x9p x9n x9c)]) w31 fun v32 w33 =>
  AsL v32 fun x34p x34n x34c =>
  Run Try.prog (Builtin.append_ #[27, 27] 27 #[(Value.slice x34p x34n x34c), (Value.slice x14p x14n x14c)]) w33 fun v35 w36 =>
  AsL v35 fun x37p x37n x37c =>
  CallR Try.prog 16 #[(Value.slice x27p x27n x27c), (Value.slice x37p x37n x37c)] w36 fun v38 w39 =>
  AsB v38 fun x40 =>
  Bif x40 (
  Bif (x28 == (IntKind.wrap .i64 (x10 + x15))) (
  R (Value.bool (x16 == x29)) w39) (
  R (Value.bool false) w39)) (
  R (Value.bool false) w39)) (
  R (Value.bool false) w26))))
theorem F7_eq (a1p : Option Addr) (a1n : Nat) (a1c : Nat) (b2p : Option Addr) (b2n : Nat) (b2c : Nat) (w3 : World) (R : Value → World → Prop) : liftF Try.prog 7 .nil [(Value.slice a1p a1n a1c), (Value.slice b2p b2n b2c)] w3 R = F7 a1p a1n a1c b2p b2n b2c w3 R := by kernel_rfl
theorem F7_of {a1p : Option Addr} {a1n : Nat} {a1c : Nat} {b2p : Option Addr} {b2n : Nat} {b2c : Nat} {w3 : World} {R : Value → World → Prop} (h : F7 a1p a1n a1c b2p b2n b2c w3 R) : CallR Try.prog 7 #[(Value.slice a1p a1n a1c), (Value.slice b2p b2n b2c)] w3 R := callR_of_lift _ ((F7_eq a1p a1n a1c b2p b2n b2c w3 R).mpr h)

-- F8 subway/subwaylaw06.FrameCuts
def F8 (b1p : Option Addr) (b1n : Nat) (b1c : Nat) (w2 : World) (R : Value → World → Prop) : Prop :=
  CallR Try.prog 9 #[] w2 fun v3 w4 =>
  AsB v3 fun x5 =>
  CallR Try.prog 14 #[(Value.slice b1p b1n b1c)] w4 fun v6 w7 =>
  AsL v6 fun x8p x8n x8c =>
  Lp fun I9 mu10 =>
  I9 [(Value.int .i64 0)] w7 ∧
  ∀ (i11 : Int), ∀ w12, I9 [(Value.int .i64 i11)] w12 →
  Bif (decide (i11 < (x8n : Int))) (
  SlP x8p x8n x8c 1 0 i11 fun x13p x13n x13c =>
  CallR Try.prog 10 #[(Value.slice x13p x13n x13c)] w12 fun v14 w15 =>
  ∃ (x16p : Option Addr) (x16n : Nat) (x16c : Nat), ∃ (x17 : Int), ∃ (x18 : Int), v14 = (Value.tuple #[(Value.slice x16p x16n x16c), (Value.int .i64 x17), (Value.int .i64 x18)]) ∧
  Bif (decide ((x16n : Int) > 0)) (
  R (Value.bool false) w15) (
  Bif (x17 != 0) (
  R (Value.bool false) w15) (
  Bif (x18 != 0) (
  R (Value.bool false) w15) (
  I9 [(Value.int .i64 (IntKind.wrap .i64 (i11 + 1)))] w15 ∧ mu10 [(Value.int .i64 (IntKind.wrap .i64 (i11 + 1)))] w15 < mu10 [(Value.int .i64 i11)] w12)))) (
  CallR Try.prog 10 #[(Value.slice x8p x8n x8c)] w12 fun v19 w20 =>
  ∃ (x21p : Option Addr) (x21n : Nat) (x21c : Nat), ∃ (x22 : Int), ∃ (x23 : Int), v19 = (Value.tuple #[(Value.slice x21p x21n x21c), (Value.int .i64 x22), (Value.int .i64 x23)]) ∧
  Bif x5 (
  Bif (x23 == 0) (
  Bif (x22 == (x8n : Int)) (
  Bif ((x8n : Int) == 0) (
  R (Value.bool true) w20) (
  Run Try.prog (convert 22 9 (Value.slice x21p x21n x21c)) w20 fun v24 w25 =>
  AsS v24 fun x26 =>
  Run Try.prog (convert 22 9 (Value.slice b1p b1n b1c)) w25 fun v27 w28 =>
  AsS v27 fun x29 =>
  R (Value.bool (ByteArray.toList x26 == ByteArray.toList x29)) w28)) (
  R (Value.bool false) w20)) (
  R (Value.bool false) w20)) (
  R (Value.bool false) w20))
theorem F8_eq (b1p : Option Addr) (b1n : Nat) (b1c : Nat) (w2 : World) (R : Value → World → Prop) : liftF Try.prog 8 (.step .nil .nil (.step .nil .nil (.step .nil .nil (.step .nil .nil (.step (.loop [(5, .b (.int .i64))] .nil) .nil .nil))))) [(Value.slice b1p b1n b1c)] w2 R = F8 b1p b1n b1c w2 R := by kernel_rfl
theorem F8_of {b1p : Option Addr} {b1n : Nat} {b1c : Nat} {w2 : World} {R : Value → World → Prop} (h : F8 b1p b1n b1c w2 R) : CallR Try.prog 8 #[(Value.slice b1p b1n b1c)] w2 R := callR_of_lift _ ((F8_eq b1p b1n b1c w2 R).mpr h)

-- F9 subway/subwaylaw06.head
def F9  (w1 : World) (R : Value → World → Prop) : Prop :=
  NewC #[(Value.int .u8 7)] 5 w1 fun b2 w3 =>
  CallR Try.prog 14 #[(Value.slice (some ⟨b2, 0, none⟩) 1 1)] w3 fun v4 w5 =>
  AsL v4 fun x6p x6n x6c =>
  NewC #[(Value.int .u8 170), (Value.int .u8 1), (Value.int .u8 7), (Value.int .u8 170)] 5 w5 fun b7 w8 =>
  CallR Try.prog 10 #[(Value.slice (some ⟨b7, 0, none⟩) 4 4)] w8 fun v9 w10 =>
  ∃ (x11p : Option Addr) (x11n : Nat) (x11c : Nat), ∃ (x12 : Int), ∃ (x13 : Int), v9 = (Value.tuple #[(Value.slice x11p x11n x11c), (Value.int .i64 x12), (Value.int .i64 x13)]) ∧
  NewC #[(Value.int .u8 170), (Value.int .u8 2), (Value.int .u8 7)] 5 w10 fun b14 w15 =>
  CallR Try.prog 10 #[(Value.slice (some ⟨b14, 0, none⟩) 3 3)] w15 fun v16 w17 =>
  ∃ (x18p : Option Addr) (x18n : Nat) (x18c : Nat), ∃ (x19 : Int), ∃ (x20 : Int), v16 = (Value.tuple #[(Value.slice x18p x18n x18c), (Value.int .i64 x19), (Value.int .i64 x20)]) ∧
  NewC #[(Value.int .u8 170), (Value.int .u8 0)] 5 w17 fun b21 w22 =>
  CallR Try.prog 10 #[(Value.slice (some ⟨b21, 0, none⟩) 2 2)] w22 fun v23 w24 =>
  ∃ (x25p : Option Addr) (x25n : Nat) (x25c : Nat), ∃ (x26 : Int), ∃ (x27 : Int), v23 = (Value.tuple #[(Value.slice x25p x25n x25c), (Value.int .i64 x26), (Value.int .i64 x27)]) ∧
  NewC #[(Value.int .u8 170), (Value.int .u8 1), (Value.int .u8 7), (Value.int .u8 170), (Value.int .u8 1), (Value.int .u8 8), (Value.int .u8 9)] 5 w24 fun b28 w29 =>
  CallR Try.prog 12 #[(Value.slice (some ⟨b28, 0, none⟩) 7 7)] w29 fun v30 w31 =>
  ∃ (x32p : Option Addr) (x32n : Nat) (x32c : Nat), ∃ (x33 : Int), ∃ (x34 : Int), v30 = (Value.tuple #[(Value.slice x32p x32n x32c), (Value.int .i64 x33), (Value.int .i64 x34)]) ∧
  Bif ((x6n : Int) == 3) (
  IxP x6p x6n 0 1 fun a35 =>
  LdI .u8 a35 w31 fun x36 =>
  Bif (x36 == 170) (
  IxP x6p x6n 1 1 fun a37 =>
  LdI .u8 a37 w31 fun x38 =>
  Bif (x38 == 1) (
  IxP x6p x6n 2 1 fun a39 =>
  LdI .u8 a39 w31 fun x40 =>
  Bif (x40 == 7) (
  Bif ((x11n : Int) == 1) (
  IxP x11p x11n 0 1 fun a41 =>
  LdI .u8 a41 w31 fun x42 =>
  Bif (x42 == 7) (
  Bif (x12 == 3) (
  Bif (x13 == 0) (
  Bif (x19 == 0) (
  Bif (x20 == 0) (
  Bif (x27 == 61) (
  Bif ((x32n : Int) == 2) (
  Bif (x33 == 6) (
  R (Value.bool (x34 == 61)) w31) (
  R (Value.bool false) w31)) (
  R (Value.bool false) w31)) (
  R (Value.bool false) w31)) (
  R (Value.bool false) w31)) (
  R (Value.bool false) w31)) (
  R (Value.bool false) w31)) (
  R (Value.bool false) w31)) (
  R (Value.bool false) w31)) (
  R (Value.bool false) w31)) (
  R (Value.bool false) w31)) (
  R (Value.bool false) w31)) (
  R (Value.bool false) w31)) (
  R (Value.bool false) w31)
theorem F9_eq  (w1 : World) (R : Value → World → Prop) : liftF Try.prog 9 .nil [] w1 R = F9  w1 R := by kernel_rfl
theorem F9_of  {w1 : World} {R : Value → World → Prop} (h : F9  w1 R) : CallR Try.prog 9 #[] w1 R := callR_of_lift _ ((F9_eq  w1 R).mpr h)

-- F10 subway/frame.First
def F10 (b1p : Option Addr) (b1n : Nat) (b1c : Nat) (w2 : World) (R : Value → World → Prop) : Prop :=
  Bif ((b1n : Int) == 0) (
  R (Value.tuple #[(Value.slice none 0 0), (Value.int .i64 0), (Value.int .i64 0)]) w2) (
  IxP b1p b1n 0 1 fun a3 =>
  LdI .u8 a3 w2 fun x4 =>
  Bif (x4 != 170) (
  R (Value.tuple #[(Value.slice none 0 0), (Value.int .i64 0), (Value.int .i64 61)]) w2) (
  Bif (decide ((b1n : Int) < 2)) (
  R (Value.tuple #[(Value.slice none 0 0), (Value.int .i64 0), (Value.int .i64 0)]) w2) (
  IxP b1p b1n 1 1 fun a5 =>
  LdI .u8 a5 w2 fun x6 =>
  Jn fun J7 => (
  Bif ((IntKind.wrap .i64 x6) == 0) (
  J7 [(Value.bool ((IntKind.wrap .i64 x6) == 0))] w2) (
  J7 [(Value.bool (decide ((IntKind.wrap .i64 x6) > 200)))] w2)) ∧
  ∀ (x8 : Bool), ∀ w9, J7 [(Value.bool x8)] w9 →
  Bif x8 (
  R (Value.tuple #[(Value.slice none 0 0), (Value.int .i64 0), (Value.int .i64 61)]) w9) (
  Bif (decide ((b1n : Int) < (IntKind.wrap .i64 (2 + (IntKind.wrap .i64 x6))))) (
  R (Value.tuple #[(Value.slice none 0 0), (Value.int .i64 0), (Value.int .i64 0)]) w9) (
  SlP b1p b1n b1c 1 2 (IntKind.wrap .i64 (2 + (IntKind.wrap .i64 x6))) fun x10p x10n x10c =>
  CallR Try.prog 18 #[(Value.slice x10p x10n x10c)] w9 fun v11 w12 =>
  AsL v11 fun x13p x13n x13c =>
  R (Value.tuple #[(Value.slice x13p x13n x13c), (Value.int .i64 (IntKind.wrap .i64 (2 + (IntKind.wrap .i64 x6)))), (Value.int .i64 0)]) w12)))))
theorem F10_eq (b1p : Option Addr) (b1n : Nat) (b1c : Nat) (w2 : World) (R : Value → World → Prop) : liftF Try.prog 10 (.step .nil .nil (.step .nil .nil (.step .nil .nil (.step .nil .nil (.step .nil .nil (.step .nil .nil (.step .nil .nil (.step .nil .nil (.step (.step .nil .nil (.join 1 [(20, .b .bool)] .nil .nil)) .nil .nil))))))))) [(Value.slice b1p b1n b1c)] w2 R = F10 b1p b1n b1c w2 R := by kernel_rfl
theorem F10_of {b1p : Option Addr} {b1n : Nat} {b1c : Nat} {w2 : World} {R : Value → World → Prop} (h : F10 b1p b1n b1c w2 R) : CallR Try.prog 10 #[(Value.slice b1p b1n b1c)] w2 R := callR_of_lift _ ((F10_eq b1p b1n b1c w2 R).mpr h)

-- F11 subway/subwayref06.First
def F11 (b1p : Option Addr) (b1n : Nat) (b1c : Nat) (w2 : World) (R : Value → World → Prop) : Prop :=
  Jn fun J3 => (
  Bif (decide ((b1n : Int) > 0)) (
  IxP b1p b1n 0 1 fun a4 =>
  LdI .u8 a4 w2 fun x5 =>
  Bif (x5 != 170) (
  R (Value.tuple #[(Value.slice none 0 0), (Value.int .i64 0), (Value.int .i64 61)]) w2) (
  Bif (decide ((b1n : Int) > 1)) (
  IxP b1p b1n 1 1 fun a6 =>
  LdI .u8 a6 w2 fun x7 =>
  Bif (x7 == 0) (
  R (Value.tuple #[(Value.slice none 0 0), (Value.int .i64 0), (Value.int .i64 61)]) w2) (
  IxP b1p b1n 1 1 fun a8 =>
  LdI .u8 a8 w2 fun x9 =>
  Bif (decide (x9 > 200)) (
  R (Value.tuple #[(Value.slice none 0 0), (Value.int .i64 0), (Value.int .i64 61)]) w2) (
  J3 [] w2))) (
  J3 [] w2))) (
  Bif (decide ((b1n : Int) > 1)) (
  IxP b1p b1n 1 1 fun a10 =>
  LdI .u8 a10 w2 fun x11 =>
  Bif (x11 == 0) (
  R (Value.tuple #[(Value.slice none 0 0), (Value.int .i64 0), (Value.int .i64 61)]) w2) (
  IxP b1p b1n 1 1 fun a12 =>
  LdI .u8 a12 w2 fun x13 =>
  Bif (decide (x13 > 200)) (
  R (Value.tuple #[(Value.slice none 0 0), (Value.int .i64 0), (Value.int .i64 61)]) w2) (
  J3 [] w2))) (
  J3 [] w2))) ∧
  ∀ w14, J3 [] w14 →
  Bif (decide ((b1n : Int) < 2)) (
  R (Value.tuple #[(Value.slice none 0 0), (Value.int .i64 0), (Value.int .i64 0)]) w14) (
  IxP b1p b1n 1 1 fun a15 =>
  LdI .u8 a15 w14 fun x16 =>
  Bif (decide ((b1n : Int) < (IntKind.wrap .i64 (2 + (IntKind.wrap .i64 x16))))) (
  R (Value.tuple #[(Value.slice none 0 0), (Value.int .i64 0), (Value.int .i64 0)]) w14) (
  IxP b1p b1n 1 1 fun a17 =>
  LdI .u8 a17 w14 fun x18 =>
  NewC #[] 5 w14 fun b19 w20 =>
  SlP b1p b1n b1c 1 2 (IntKind.wrap .i64 (2 + (IntKind.wrap .i64 x18))) fun x21p x21n x21c =>
  Run Try.prog (Builtin.append_ #[22, 22] 22 #[(Value.slice (some ⟨b19, 0, none⟩) 0 0), (Value.slice x21p x21n x21c)]) w20 fun v22 w23 =>
  AsL v22 fun x24p x24n x24c =>
  R (Value.tuple #[(Value.slice x24p x24n x24c), (Value.int .i64 (IntKind.wrap .i64 (2 + (IntKind.wrap .i64 x18)))), (Value.int .i64 0)]) w23))
theorem F11_eq (b1p : Option Addr) (b1n : Nat) (b1c : Nat) (w2 : World) (R : Value → World → Prop) : liftF Try.prog 11 (.step .nil .nil (.join 2 [] .nil .nil)) [(Value.slice b1p b1n b1c)] w2 R = F11 b1p b1n b1c w2 R := by kernel_rfl
theorem F11_of {b1p : Option Addr} {b1n : Nat} {b1c : Nat} {w2 : World} {R : Value → World → Prop} (h : F11 b1p b1n b1c w2 R) : CallR Try.prog 11 #[(Value.slice b1p b1n b1c)] w2 R := callR_of_lift _ ((F11_eq b1p b1n b1c w2 R).mpr h)

-- F12 subway/frame.Cut: statement rangeFunc
-- F13 subway/subwayref06.Cut
def F13 (b1p : Option Addr) (b1n : Nat) (b1c : Nat) (w2 : World) (R : Value → World → Prop) : Prop :=
  Lp fun I3 mu4 =>
  I3 [(Value.slice none 0 0), (Value.int .i64 0)] w2 ∧
  ∀ (out5p : Option Addr) (out5n : Nat) (out5c : Nat), ∀ (atv6 : Int), ∀ w7, I3 [(Value.slice out5p out5n out5c), (Value.int .i64 atv6)] w7 →
  SlP b1p b1n b1c 1 atv6 (b1n : Int) fun x8p x8n x8c =>
  CallR Try.prog 11 #[(Value.slice x8p x8n x8c)] w7 fun v9 w10 =>
  ∃ (x11p : Option Addr) (x11n : Nat) (x11c : Nat), ∃ (x12 : Int), ∃ (x13 : Int), v9 = (Value.tuple #[(Value.slice x11p x11n x11c), (Value.int .i64 x12), (Value.int .i64 x13)]) ∧
  Bif (x13 != 0) (
  R (Value.tuple #[(Value.slice out5p out5n out5c), (Value.int .i64 atv6), (Value.int .i64 x13)]) w10) (
  Bif (x12 == 0) (
  R (Value.tuple #[(Value.slice out5p out5n out5c), (Value.int .i64 atv6), (Value.int .i64 x13)]) w10) (
  NewC #[(Value.slice x11p x11n x11c)] 22 w10 fun b14 w15 =>
  Run Try.prog (Builtin.append_ #[27, 27] 27 #[(Value.slice out5p out5n out5c), (Value.slice (some ⟨b14, 0, none⟩) 1 1)]) w15 fun v16 w17 =>
  AsL v16 fun x18p x18n x18c =>
  I3 [(Value.slice x18p x18n x18c), (Value.int .i64 (IntKind.wrap .i64 (atv6 + x12)))] w17 ∧ mu4 [(Value.slice x18p x18n x18c), (Value.int .i64 (IntKind.wrap .i64 (atv6 + x12)))] w17 < mu4 [(Value.slice out5p out5n out5c), (Value.int .i64 atv6)] w7))
theorem F13_eq (b1p : Option Addr) (b1n : Nat) (b1c : Nat) (w2 : World) (R : Value → World → Prop) : liftF Try.prog 13 (.step .nil .nil (.step .nil .nil (.step .nil .nil (.step (.loop [(5, .b .slice), (6, .b (.int .i64))] .nil) .nil .nil)))) [(Value.slice b1p b1n b1c)] w2 R = F13 b1p b1n b1c w2 R := by kernel_rfl
theorem F13_of {b1p : Option Addr} {b1n : Nat} {b1c : Nat} {w2 : World} {R : Value → World → Prop} (h : F13 b1p b1n b1c w2 R) : CallR Try.prog 13 #[(Value.slice b1p b1n b1c)] w2 R := callR_of_lift _ ((F13_eq b1p b1n b1c w2 R).mpr h)

-- F14 subway/frame.Put
def F14 (b1p : Option Addr) (b1n : Nat) (b1c : Nat) (w2 : World) (R : Value → World → Prop) : Prop :=
  Bif ((b1n : Int) == 0) (
  R (Value.slice none 0 0) w2) (
  Bif (decide ((b1n : Int) > 200)) (
  R (Value.slice none 0 0) w2) (
  NewC #[(Value.int .u8 170), (Value.int .u8 (IntKind.wrap .u8 (b1n : Int)))] 5 w2 fun b3 w4 =>
  Run Try.prog (Builtin.append_ #[22, 22] 22 #[(Value.slice (some ⟨b3, 0, none⟩) 2 2), (Value.slice b1p b1n b1c)]) w4 fun v5 w6 =>
  AsL v5 fun x7p x7n x7c =>
  R (Value.slice x7p x7n x7c) w6))
theorem F14_eq (b1p : Option Addr) (b1n : Nat) (b1c : Nat) (w2 : World) (R : Value → World → Prop) : liftF Try.prog 14 .nil [(Value.slice b1p b1n b1c)] w2 R = F14 b1p b1n b1c w2 R := by kernel_rfl
theorem F14_of {b1p : Option Addr} {b1n : Nat} {b1c : Nat} {w2 : World} {R : Value → World → Prop} (h : F14 b1p b1n b1c w2 R) : CallR Try.prog 14 #[(Value.slice b1p b1n b1c)] w2 R := callR_of_lift _ ((F14_eq b1p b1n b1c w2 R).mpr h)

-- F15 subway/subwayref06.Put
def F15 (b1p : Option Addr) (b1n : Nat) (b1c : Nat) (w2 : World) (R : Value → World → Prop) : Prop :=
  Bif ((b1n : Int) == 0) (
  R (Value.slice none 0 0) w2) (
  Bif (decide ((b1n : Int) > 200)) (
  R (Value.slice none 0 0) w2) (
  NewC #[(Value.int .u8 170), (Value.int .u8 (IntKind.wrap .u8 (b1n : Int)))] 5 w2 fun b3 w4 =>
  Run Try.prog (Builtin.append_ #[22, 22] 22 #[(Value.slice (some ⟨b3, 0, none⟩) 2 2), (Value.slice b1p b1n b1c)]) w4 fun v5 w6 =>
  AsL v5 fun x7p x7n x7c =>
  R (Value.slice x7p x7n x7c) w6))
theorem F15_eq (b1p : Option Addr) (b1n : Nat) (b1c : Nat) (w2 : World) (R : Value → World → Prop) : liftF Try.prog 15 .nil [(Value.slice b1p b1n b1c)] w2 R = F15 b1p b1n b1c w2 R := by kernel_rfl
theorem F15_of {b1p : Option Addr} {b1n : Nat} {b1c : Nat} {w2 : World} {R : Value → World → Prop} (h : F15 b1p b1n b1c w2 R) : CallR Try.prog 15 #[(Value.slice b1p b1n b1c)] w2 R := callR_of_lift _ ((F15_eq b1p b1n b1c w2 R).mpr h)

-- F16 subway/subwayref06.Same
def F16 (a1p : Option Addr) (a1n : Nat) (a1c : Nat) (b2p : Option Addr) (b2n : Nat) (b2c : Nat) (w3 : World) (R : Value → World → Prop) : Prop :=
  Bif ((a1n : Int) != (b2n : Int)) (
  R (Value.bool false) w3) (
  Lp fun I4 mu5 =>
  I4 [(Value.int .i64 0)] w3 ∧
  ∀ (i6 : Int), ∀ w7, I4 [(Value.int .i64 i6)] w7 →
  Bif (decide (i6 < (a1n : Int))) (
  ∃ (C8 : Cls), Cls.p C8 [] w7 ∧
  IxP a1p a1n i6 1 fun a9 =>
  IxP b2p b2n i6 1 fun a10 =>
  ∃ (x11p : Option Addr) (x11n : Nat) (x11c : Nat), Qt C8 (Value.slice x11p x11n x11c) (fun w12 K13 =>
  LdL a9 w12 fun x14p x14n x14c =>
  K13 (Value.slice x14p x14n x14c) w12) ∧
  ∃ (x15 : ByteArray), Qt C8 (Value.string x15) (fun w16 K17 =>
  Run Try.prog (convert 22 9 (Value.slice x11p x11n x11c)) w16 fun v18 w19 =>
  AsS v18 fun x20 =>
  K17 (Value.string x20) w19) ∧
  ∃ (x21p : Option Addr) (x21n : Nat) (x21c : Nat), Qt C8 (Value.slice x21p x21n x21c) (fun w22 K23 =>
  LdL a10 w22 fun x24p x24n x24c =>
  K23 (Value.slice x24p x24n x24c) w22) ∧
  ∃ (x25 : ByteArray), Qt C8 (Value.string x25) (fun w26 K27 =>
  Run Try.prog (convert 22 9 (Value.slice x21p x21n x21c)) w26 fun v28 w29 =>
  AsS v28 fun x30 =>
  K27 (Value.string x30) w29) ∧
  ∀ G31 w32, Cls.p C8 G31 w32 →
  Bif (!(ByteArray.toList x15 == ByteArray.toList x25)) (
  R (Value.bool false) w32) (
  I4 [(Value.int .i64 (IntKind.wrap .i64 (i6 + 1)))] w32 ∧ mu5 [(Value.int .i64 (IntKind.wrap .i64 (i6 + 1)))] w32 < mu5 [(Value.int .i64 i6)] w7)) (
  R (Value.bool true) w7))
theorem F16_eq (a1p : Option Addr) (a1n : Nat) (a1c : Nat) (b2p : Option Addr) (b2n : Nat) (b2c : Nat) (w3 : World) (R : Value → World → Prop) : liftF Try.prog 16 (.step .nil .nil (.step .nil .nil (.step .nil .nil (.step .nil .nil (.step (.loop [(5, .b (.int .i64))] (.step .nil .nil (.step .nil .nil (.step (.draw [(0, false), (1, false), (2, false), (5, false), (6, false), (7, false), (3, false), (4, false), (8, false), (9, false), (10, false)] .nil) .nil .nil)))) .nil .nil))))) [(Value.slice a1p a1n a1c), (Value.slice b2p b2n b2c)] w3 R = F16 a1p a1n a1c b2p b2n b2c w3 R := by kernel_rfl
theorem F16_of {a1p : Option Addr} {a1n : Nat} {a1c : Nat} {b2p : Option Addr} {b2n : Nat} {b2c : Nat} {w3 : World} {R : Value → World → Prop} (h : F16 a1p a1n a1c b2p b2n b2c w3 R) : CallR Try.prog 16 #[(Value.slice a1p a1n a1c), (Value.slice b2p b2n b2c)] w3 R := callR_of_lift _ ((F16_eq a1p a1n a1c b2p b2n b2c w3 R).mpr h)

-- F17 subway/subwaylaw06.great
def F17 (l1p : Option Addr) (l1n : Nat) (l1c : Nat) (w2 : World) (R : Value → World → Prop) : Prop :=
  Lp fun I3 mu4 =>
  I3 [(Value.int .i64 (l1n : Int)), (Value.int .i64 0)] w2 ∧
  ∀ (n5 : Int), ∀ (i6 : Int), ∀ w7, I3 [(Value.int .i64 n5), (Value.int .i64 i6)] w7 →
  Bif (decide (i6 < (l1n : Int))) (
  Bif (decide (n5 < 20000)) (
  IxP l1p l1n i6 1 fun a8 =>
  LdL a8 w7 fun x9p x9n x9c =>
  I3 [(Value.int .i64 (IntKind.wrap .i64 (n5 + (if 20000 < (x9n : Int) then 20000 else (x9n : Int))))), (Value.int .i64 (IntKind.wrap .i64 (i6 + 1)))] w7 ∧ mu4 [(Value.int .i64 (IntKind.wrap .i64 (n5 + (if 20000 < (x9n : Int) then 20000 else (x9n : Int))))), (Value.int .i64 (IntKind.wrap .i64 (i6 + 1)))] w7 < mu4 [(Value.int .i64 n5), (Value.int .i64 i6)] w7) (
  R (Value.bool (decide (n5 ≥ 20000))) w7)) (
  R (Value.bool (decide (n5 ≥ 20000))) w7)
theorem F17_eq (l1p : Option Addr) (l1n : Nat) (l1c : Nat) (w2 : World) (R : Value → World → Prop) : liftF Try.prog 17 (.step .nil .nil (.step .nil .nil (.step .nil .nil (.step (.loop [(3, .b (.int .i64)), (4, .b (.int .i64))] .nil) .nil .nil)))) [(Value.slice l1p l1n l1c)] w2 R = F17 l1p l1n l1c w2 R := by kernel_rfl
theorem F17_of {l1p : Option Addr} {l1n : Nat} {l1c : Nat} {w2 : World} {R : Value → World → Prop} (h : F17 l1p l1n l1c w2 R) : CallR Try.prog 17 #[(Value.slice l1p l1n l1c)] w2 R := callR_of_lift _ ((F17_eq l1p l1n l1c w2 R).mpr h)

-- F18 bytes.Clone
def F18 (b1p : Option Addr) (b1n : Nat) (b1c : Nat) (w2 : World) (R : Value → World → Prop) : Prop :=
  Bif (isNone' b1p) (
  R (Value.slice none 0 0) w2) (
  NewC #[] 5 w2 fun b3 w4 =>
  Run Try.prog (Builtin.append_ #[22, 22] 22 #[(Value.slice (some ⟨b3, 0, none⟩) 0 0), (Value.slice b1p b1n b1c)]) w4 fun v5 w6 =>
  AsL v5 fun x7p x7n x7c =>
  R (Value.slice x7p x7n x7c) w6)
theorem F18_eq (b1p : Option Addr) (b1n : Nat) (b1c : Nat) (w2 : World) (R : Value → World → Prop) : liftF Try.prog 18 .nil [(Value.slice b1p b1n b1c)] w2 R = F18 b1p b1n b1c w2 R := by kernel_rfl
theorem F18_of {b1p : Option Addr} {b1n : Nat} {b1c : Nat} {w2 : World} {R : Value → World → Prop} (h : F18 b1p b1n b1c w2 R) : CallR Try.prog 18 #[(Value.slice b1p b1n b1c)] w2 R := callR_of_lift _ ((F18_eq b1p b1n b1c w2 R).mpr h)

-- F19 subway/frame.frames
def F19 (b1p : Option Addr) (b1n : Nat) (b1c : Nat) (e2 : Option Addr) (w3 : World) (R : Value → World → Prop) : Prop :=
  NewC #[(Value.slice b1p b1n b1c)] 22 w3 fun b4 w5 =>
  NewC #[(Value.pointer e2)] 38 w5 fun b6 w7 =>
  R (Value.func (.func 20) #[] #[(Value.pointer (some ⟨b4, 0, none⟩)), (Value.pointer (some ⟨b6, 0, none⟩))]) w7
theorem F19_eq (b1p : Option Addr) (b1n : Nat) (b1c : Nat) (e2 : Option Addr) (w3 : World) (R : Value → World → Prop) : liftF Try.prog 19 .nil [(Value.slice b1p b1n b1c), (Value.pointer e2)] w3 R = F19 b1p b1n b1c e2 w3 R := by kernel_rfl
theorem F19_of {b1p : Option Addr} {b1n : Nat} {b1c : Nat} {e2 : Option Addr} {w3 : World} {R : Value → World → Prop} (h : F19 b1p b1n b1c e2 w3 R) : CallR Try.prog 19 #[(Value.slice b1p b1n b1c), (Value.pointer e2)] w3 R := callR_of_lift _ ((F19_eq b1p b1n b1c e2 w3 R).mpr h)

-- F20 subway/frame.frames$1
def F20 (yield1 : Value) (cap2 : Option Addr) (cap3 : Option Addr) (w4 : World) (R : Value → World → Prop) : Prop :=
  Lp fun I5 mu6 =>
  I5 [(Value.int .i64 0)] w4 ∧
  ∀ (atv7 : Int), ∀ w8, I5 [(Value.int .i64 atv7)] w8 →
  NilP cap2 fun a9 =>
  LdL a9 w8 fun x10p x10n x10c =>
  SlP x10p x10n x10c 1 atv7 (x10n : Int) fun x11p x11n x11c =>
  CallR Try.prog 10 #[(Value.slice x11p x11n x11c)] w8 fun v12 w13 =>
  ∃ (x14p : Option Addr) (x14n : Nat) (x14c : Nat), ∃ (x15 : Int), ∃ (x16 : Int), v12 = (Value.tuple #[(Value.slice x14p x14n x14c), (Value.int .i64 x15), (Value.int .i64 x16)]) ∧
  NilP cap3 fun a17 =>
  LdP a17 w13 fun x18 =>
  NilP x18 fun a19 =>
  St1 a19 (Value.int .i64 x16) w13 fun w20 =>
  Bif (x15 == 0) (
  R (Value.tuple #[]) w20) (
  CallV Try.prog 4 yield1 [(Value.int .i64 (IntKind.wrap .i64 (atv7 + x15))), (Value.slice x14p x14n x14c)] w20 fun v21 w22 =>
  AsB v21 fun x23 =>
  Bif (!x23) (
  R (Value.tuple #[]) w22) (
  I5 [(Value.int .i64 (IntKind.wrap .i64 (atv7 + x15)))] w22 ∧ mu6 [(Value.int .i64 (IntKind.wrap .i64 (atv7 + x15)))] w22 < mu6 [(Value.int .i64 atv7)] w8))
theorem F20_eq (yield1 : Value) (cap2 : Option Addr) (cap3 : Option Addr) (w4 : World) (R : Value → World → Prop) : liftF Try.prog 20 (.step .nil .nil (.step (.loop [(4, .b (.int .i64))] .nil) .nil .nil)) [yield1, (Value.pointer cap2), (Value.pointer cap3)] w4 R = F20 yield1 cap2 cap3 w4 R := by kernel_rfl
theorem F20_of {yield1 : Value} {cap2 : Option Addr} {cap3 : Option Addr} {w4 : World} {R : Value → World → Prop} (h : F20 yield1 cap2 cap3 w4 R) : CallR Try.prog 20 #[yield1, (Value.pointer cap2), (Value.pointer cap3)] w4 R := callR_of_lift _ ((F20_eq yield1 cap2 cap3 w4 R).mpr h)

end Go.Proofs.Ytgjehbhjgogmfaa
