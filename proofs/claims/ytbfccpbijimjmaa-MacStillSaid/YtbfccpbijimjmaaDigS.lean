/-
  The document's sum; digits and bytes of digits, the program's and the document's.
-/
import Derived.Test.YtbfccpbijimjmaaDigR
set_option linter.unusedVariables false
set_option linter.unusedSimpArgs false
namespace Go.Proofs.Ytbfccpbijimjmaa
open Go
theorem S8_len (s : S8) : s.l.length = 8 := rfl
/-- One block more, the document's. -/
theorem step_rblk {W : World} {L : List Asn} {C : Cls} {b i c : Nat} {p : Option Addr} {q : List UInt8} {s : S8} {R : World → Prop} (hC : Is W C L) (hn : nth L i = some (Row b 46 (s.l.map uV))) (hr : Rd L p (q.map byteV)) (hq : q.length = 64)
    (hR : ∀ w, St W (put L i [Row b 46 ((blk s q).l.map uV)]) w → R w) :
    ∃ (x43 : Array Value), x43.size = 8 ∧ Qt C (Value.agg x43) (fun w44 K45 => LdA Try.prog 8 ⟨b, 0, none⟩ w44 fun x46 => K45 (Value.agg x46) w44) ∧
    Ef C (fun w50 K49 => CallR Try.prog 25 #[(Value.agg x43), (Value.slice p q.length c)] w50 fun v52 w53 => ∃ (x54 : Array Value), x54.size = 8 ∧ v52 = (Value.agg x54) ∧ K49 (Value.agg x54) w53) fun v51 D48 =>
    ∃ (x55 : Array Value), x55.size = 8 ∧ v51 = (Value.agg x55) ∧ (True) ∧
    Ef D48 (fun w58 K57 => Array.size x55 = 8 ∧ StA Try.prog ⟨b, 0, none⟩ x55 w58 fun w60 => K57 (Value.tuple #[]) w60) fun v59 D56 =>
    v59 = (Value.tuple #[]) ∧ (True) ∧ ∀ G61 w62, Cls.p D56 G61 w62 → R w62 := by
  obtain ⟨T, hT⟩ : ∃ T, T = blk s q := ⟨_, rfl⟩
  rw [← hT] at hR
  have hb : ∀ {F : List Asn} {w : World}, Rd F p (q.map byteV) → St W F w → CallR Try.prog 25 #[.agg (arrU s.l), .slice p q.length c] w fun v w' => v = .agg (arrU T.l) ∧ St W F w' := fun hr h => by rw [hT]; exact block_spec s hr hq h
  clear hT
  have z1 : (arrU T.l).size = 8 := by rw [arrU_size, S8_len]
  have z2 : (arrU T.l).size = (s.l.map uV).length := by rw [arrU_size, List.length_map, S8_len, S8_len]
  have z3 : (arrU s.l).size = 8 := by rw [arrU_size, S8_len]
  refine ⟨arrU s.l, z3, QtA.r i hC hn (by rw [List.length_map, S8_len]), ?_⟩
  refine Ef.n0 (α := Unit) (V := fun _ => .agg (arrU T.l)) (B := fun _ => L) () hC (fun G w h => (hb (hr.app (pts G)) h).of fun v w' ⟨hv, h⟩ => ⟨arrU T.l, z1, hv, (), rfl, h⟩) fun _ => ⟨arrU T.l, z1, rfl, trivial, ?_⟩
  refine Ef.stA i (Is.refl W L) hn z1 z2 (fun v hv => uV_notAgg T.l v hv) ⟨rfl, trivial, fun G w h => hR w (StC.ends h)⟩
/-- One byte is put behind. -/
theorem put1 {W w : World} {F : List Asn} {p : Option Addr} {c n : Nat} {bs : List UInt8} {x : UInt8} {R : Value → World → Prop} (hn : n = bs.length) (hb : bs.length ≤ 2000000) (hS : St W (OwnS 5 1 p n c (bs.map byteV) :: F) w)
    (hR : ∀ p' c' w', St W (OwnS 5 1 p' (n + 1) c' ((bs ++ [x]).map byteV) :: F) w' → R (.slice p' (n + 1) c') w') :
    NewC #[byteV x] 5 w fun b w1 => Run Try.prog (Builtin.append_ #[22, 22] 22 #[(Value.slice p n c), (Value.slice (some ⟨b, 0, none⟩) 1 1)]) w1 R := by
  refine NewC.i hS fun b w1 hS => ?_
  refine append_sl uB (.inr ⟨_, uB⟩) iU8 sU8 zU8 rfl hS.p1 (xs := [byteV x]) (m := 1) Rd.all rfl (fun v hv => by simp at hv; subst hv; trivial) (by rw [bU8]; omega) (by omega) fun p' c' w' h => ?_
  refine hR p' c' w' ?_
  have := h.p1.drop
  rw [List.map_append]; exact this
def leftZ (n : Nat) : List Value → World → Nat := fun vs _ => match vs.head? with
  | some (.slice _ i _) => n - i
  | _ => 0
theorem len8_take (n m : Nat) (h : m < 8) : (len8 n).take (m + 1) = (len8 n).take m ++ [(len8 n).getD m 0] := by
  rw [List.take_succ_eq_append_getElem (by rw [len8_len]; exact h), List.getD_eq_getElem?_getD, List.getElem?_eq_getElem (by rw [len8_len]; exact h)]; rfl
theorem RSum_spec {W w : World} {F : List Asn} {p : Option Addr} {c : Nat} {bs : List UInt8} (hr : Rd F p (bs.map byteV)) (hn : bs.length ≤ 1000000) (hS : St W F w) :
    CallR Try.prog 17 #[.slice p bs.length c] w fun v w' => v = .agg (arrB (sha bs)) ∧ St W F w' := by
  refine F17_of (NewC.i hS fun b3 w hS => NewC.i hS fun b5 w hS => ?_)
  refine append_sl uB (.inr ⟨_, uB⟩) iU8 sU8 zU8 rfl (OwnS.empty hS) (xs := bs.map byteV) (hr.cons _) (by simp) notAgg_byteV (by rw [bU8]; simp; omega) (by omega) fun p1 c1 w hS => ⟨_, _, _, rfl, ?_⟩
  have hS : St W (OwnS 5 1 p1 (0 + bs.length) c1 (bs.map byteV) :: Row b3 26 ((zB 32).map byteV) :: F) w := hS
  rw [Nat.zero_add] at hS ⊢
  refine put1 (x := 128) rfl (by omega) hS fun p2 c2 w hS => ⟨_, _, _, rfl, ?_⟩
  have zl : ∀ j, (bs ++ 128 :: zB j).length = bs.length + 1 + j := fun j => by simp [zB]; omega
  have hS : St W (OwnS 5 1 p2 (bs ++ 128 :: zB 0).length c2 ((bs ++ 128 :: zB 0).map byteV) :: Row b3 26 ((zB 32).map byteV) :: F) w := by rw [zl]; exact hS
  have hz := zs_spec bs.length
  refine ⟨fun vs w => ∃ p j c, vs = [.slice p (bs ++ 128 :: zB j).length c] ∧ j ≤ zs bs.length ∧ St W (OwnS 5 1 p (bs ++ 128 :: zB j).length c ((bs ++ 128 :: zB j).map byteV) :: Row b3 26 ((zB 32).map byteV) :: F) w, leftZ (bs.length + 200), ⟨p2, 0, c2, by rw [zl], by omega, hS⟩, fun p3 n3 c3 w hI => ?_⟩
  obtain ⟨p, j, c, he, hj, hS⟩ := hI
  cases he
  have e56 : ∀ x y : Int, ((x != y) = true ↔ x ≠ y) := fun x y => by simp
  refine ⟨by decide, Bif.i (fun h => ?_) fun h => ?_⟩
  · have h := (e56 _ _).1 h
    have hlt : j < zs bs.length := by
      rw [zl, Int.tmod_eq_emod_of_nonneg (by omega)] at h
      rcases Nat.lt_or_ge j (zs bs.length) with h' | h'
      · exact h'
      · have : j = zs bs.length := by omega
        subst this; omega
    have hl := zl j
    refine put1 (x := 0) rfl (by omega) hS fun p2 c2 w hS => ⟨_, _, _, rfl, ?_⟩
    have ez : (bs ++ 128 :: zB j) ++ [0] = bs ++ 128 :: zB (j + 1) := by
      unfold zB; rw [List.replicate_succ']; simp
    have el : (bs ++ 128 :: zB j).length + 1 = (bs ++ 128 :: zB (j + 1)).length := by rw [zl, zl]; omega
    rw [ez, el] at hS
    refine ⟨⟨p2, j + 1, c2, by rw [el], by omega, hS⟩, ?_⟩
    show bs.length + 200 - ((bs ++ 128 :: zB j).length + 1) < bs.length + 200 - (bs ++ 128 :: zB j).length
    have := zs_spec bs.length
    rw [hl]; omega
  have hj2 : j = zs bs.length := by
    have h : ¬ ((Int.tmod (((bs ++ 128 :: zB j).length : Nat) : Int) 64) ≠ 56) := fun h' => by rw [(e56 _ _).2 h'] at h; cases h
    rw [zl, Int.tmod_eq_emod_of_nonneg (by omega)] at h
    unfold zs at *
    omega
  subst hj2
  generalize hB : bs ++ 128 :: zB (zs bs.length) = B at hS
  have hBl : B.length = bs.length + 1 + zs bs.length := by rw [← hB, zl]
  have tl : ∀ m, m ≤ 8 → (B ++ (len8 bs.length).take m).length = B.length + m := fun m hm => by rw [List.length_append, List.length_take, len8_len]; omega
  have hS : St W (OwnS 5 1 p3 (B ++ (len8 bs.length).take 0).length c3 ((B ++ (len8 bs.length).take 0).map byteV) :: Row b3 26 ((zB 32).map byteV) :: F) w := by rw [List.take_zero, List.append_nil]; exact hS
  refine ⟨fun vs w => ∃ p m c, vs = [.slice p (B ++ (len8 bs.length).take m).length c, .int .i64 (7 - (m : Int))] ∧ m ≤ 8 ∧ St W (OwnS 5 1 p (B ++ (len8 bs.length).take m).length c ((B ++ (len8 bs.length).take m).map byteV) :: Row b3 26 ((zB 32).map byteV) :: F) w, leftZ (B.length + 8), ⟨p3, 0, c3, by rw [List.take_zero, List.append_nil]; rfl, by omega, hS⟩, fun p4 n4 c4 i w hI => ?_⟩
  obtain ⟨p, m, c, he, hm, hS⟩ := hI
  cases he
  refine Bif.i (fun h => ?_) fun h => ?_
  · have h := of_decide_eq_true h
    have hm8 : m < 8 := by omega
    have e8 : IntKind.wrap .i64 (8 * (7 - (m : Int))) = ((8 * (7 - m) : Nat) : Int) := by rw [w64 (by omega) (by omega)]; omega
    rw [e8]
    have ev : Value.int .u8 (IntKind.wrap .u8 (Int.fdiv (IntKind.wrap .i64 (8 * (bs.length : Int))) (2 ^ min (Int.toNat ((8 * (7 - m) : Nat) : Int)) (IntKind.bits .i64)))) = byteV ((len8 bs.length).getD m 0) := by
      have e2 : IntKind.wrap .i64 (8 * (bs.length : Int)) = ((8 * bs.length : Nat) : Int) := by rw [w64 (by omega) (by omega)]; omega
      have e3 : min (Int.toNat ((8 * (7 - m) : Nat) : Int)) (IntKind.bits .i64) = 8 * (7 - m) := by
        rw [Int.toNat_natCast]; exact Nat.min_eq_left (by show 8 * (7 - m) ≤ 64; omega)
      have e4 := len8_get bs.length (7 - m) (by omega)
      rw [show 7 - (7 - m) = m by omega] at e4
      rw [e2, e3, lenB_val _ _ hn (by omega), e4]; rfl
    rw [ev]
    have hl := tl m hm
    refine ⟨by omega, put1 (x := (len8 bs.length).getD m 0) rfl (by have := hz.2; omega) hS fun p2 c2 w hS => ⟨_, _, _, rfl, ?_⟩⟩
    have ez : (B ++ (len8 bs.length).take m) ++ [(len8 bs.length).getD m 0] = B ++ (len8 bs.length).take (m + 1) := by rw [len8_take _ _ hm8, List.append_assoc]
    have el : (B ++ (len8 bs.length).take m).length + 1 = (B ++ (len8 bs.length).take (m + 1)).length := by rw [tl _ hm, tl _ hm8]; omega
    rw [ez, el] at hS
    refine ⟨⟨p2, m + 1, c2, by rw [el, w64 (by omega) (by omega)]; rw [show 7 - (m : Int) - 1 = 7 - ((m + 1 : Nat) : Int) by omega], by omega, hS⟩, ?_⟩
    show B.length + 8 - ((B ++ (len8 bs.length).take m).length + 1) < B.length + 8 - (B ++ (len8 bs.length).take m).length
    rw [hl]; omega
  have hm2 : m = 8 := by have := of_decide_eq_false h; omega
  subst hm2
  have hA : B ++ (len8 bs.length).take 8 = padP bs := by
    rw [← hB, List.take_of_length_le (by rw [len8_len]; omega)]
    unfold padP tailP zB
    simp
  rw [hA] at hS ⊢
  have hpl := pad_len bs
  have hpn : (padP bs).length = 64 * nBlks bs.length := by
    have h1 := tail_len bs.length
    have h2 := zs_spec bs.length
    unfold padP nBlks
    rw [List.length_append, h1]; omega
  have hple : (padP bs).length ≤ 2000000 := by rw [← hA, tl 8 (by omega), hBl]; have := hz.2; omega
  have hsh : blks H0 (nBlks bs.length) (padP bs) = shaH bs := rfl
  generalize padP bs = A at hS hpl hpn hple hsh
  generalize nBlks bs.length = N at hpn hsh
  refine NewC.i hS fun b w hS => ⟨rfl, StA.r 0 hS rfl rfl (fun v hv => uV_notAgg H0.l v hv) fun w hS => ?_⟩
  have hS : St W (Row b 46 ((blks H0 0 A).l.map uV) :: OwnS 5 1 p4 A.length c4 (A.map byteV) :: Row b3 26 ((zB 32).map byteV) :: F) w := hS
  have hAc : A.length ≤ c4 := (OwnS.le hS.p1).2
  refine ⟨fun vs w => ∃ k : Nat, vs = [.int .i64 ((64 * k : Nat) : Int)] ∧ k ≤ N ∧ St W (Row b 46 ((blks H0 k A).l.map uV) :: OwnS 5 1 p4 A.length c4 (A.map byteV) :: Row b3 26 ((zB 32).map byteV) :: F) w, leftN (A.length + 64), ⟨0, rfl, by omega, hS⟩, fun x w hI => ?_⟩
  obtain ⟨k, he, hk, hS⟩ := hI
  cases he
  refine Bif.i (fun hlt => ?_) fun hge => ?_
  · have hlt : 64 * k < A.length := by have := of_decide_eq_true hlt; omega
    refine ⟨StC W _, StC.start hS, ?_⟩
    rw [w64 (n := ((64 * k : Nat) : Int) + 64) (by omega) (by omega)]
    refine SlP.i (a := 64 * k) (b := 64 * k + 64) ((OwnS.rd (t := 5) (size := 1) (p := p4) (n := A.length) (c := c4) (cs := A.map byteV) (Row b3 26 ((zB 32).map byteV) :: F)).cons (Row b 46 ((blks H0 k A).l.map uV))) (by simp) hAc rfl (by omega) (by omega) (by omega) fun p' hr' => ?_
    rw [Nat.mul_one, Nat.mul_one, ← List.map_drop, ← List.map_take, show 64 * k + 64 - 64 * k = 64 by omega] at hr'
    rw [show 64 * k + 64 - 64 * k = 64 by omega]
    have e : ((A.drop (64 * k)).take 64).length = 64 := by rw [List.length_take, List.length_drop]; omega
    have hstep := step_rblk (R := fun w => (∃ k' : Nat, [Value.int .i64 (((64 * k : Nat) : Int) + 64)] = [.int .i64 ((64 * k' : Nat) : Int)] ∧ k' ≤ N ∧ St W (Row b 46 ((blks H0 k' A).l.map uV) :: OwnS 5 1 p4 A.length c4 (A.map byteV) :: Row b3 26 ((zB 32).map byteV) :: F) w) ∧ leftN (A.length + 64) [Value.int .i64 (((64 * k : Nat) : Int) + 64)] w < leftN (A.length + 64) [Value.int .i64 ((64 * k : Nat) : Int)] w) (c := c4 - 64 * k) (Is.refl W _) (i := 0) (by rfl) hr' e fun w hS => by
      rw [← blks_snoc] at hS
      exact ⟨⟨k + 1, by rw [show ((64 * k : Nat) : Int) + 64 = ((64 * (k + 1) : Nat) : Int) by omega], by omega, hS⟩, by show A.length + 64 - (((64 * k : Nat) : Int) + 64).toNat < A.length + 64 - (64 * k); omega⟩
    rw [e] at hstep
    exact hstep
  have hk2 : k = N := by have := of_decide_eq_false hge; omega
  subst hk2
  rw [hsh] at hS
  generalize hs : shaH bs = s at hS
  refine NewC.i hS fun b' w hS => ?_
  have hS : St W (Row b' 26 (((outP s).take 0 ++ (zB 32).drop 0).map byteV) :: Row b 46 (s.l.map uV) :: OwnS 5 1 p4 A.length c4 (A.map byteV) :: Row b3 26 ((zB 32).map byteV) :: F) w := hS
  refine ⟨fun vs w => ∃ i : Nat, vs = [.int .i64 i] ∧ i ≤ 32 ∧ St W (Row b' 26 (((outP s).take i ++ (zB 32).drop i).map byteV) :: Row b 46 (s.l.map uV) :: OwnS 5 1 p4 A.length c4 (A.map byteV) :: Row b3 26 ((zB 32).map byteV) :: F) w, leftN 32, ⟨0, rfl, by omega, hS⟩, fun x w hI => ?_⟩
  obtain ⟨i, he, hi, hS⟩ := hI
  cases he
  refine Bif.i (fun hlt => ?_) fun hge => ?_
  · have hlt : i < 32 := by have := of_decide_eq_true hlt; omega
    have ed : IntKind.wrap .i64 (Int.tdiv (i : Int) 4) = ((i / 4 : Nat) : Int) := by
      rw [Int.tdiv_eq_ediv_of_nonneg (by omega), w64 (by omega) (by omega)]; omega
    have em : IntKind.wrap .i64 (24 - (IntKind.wrap .i64 (8 * (Int.tmod (i : Int) 4)))) = ((24 - 8 * (i % 4) : Nat) : Int) := by
      rw [Int.tmod_eq_emod_of_nonneg (by omega), w64 (n := 8 * ((i : Int) % 4)) (by omega) (by omega), w64 (by omega) (by omega)]; omega
    have hg : (s.l.map uV)[i / 4]? = some (.int .u32 (nI (s.l.getD (i / 4) 0))) := by
      refine uV_get ?_
      rw [List.getD_eq_getElem?_getD, List.getElem?_eq_getElem (by show i / 4 < 8; omega)]; rfl
    rw [ed, em]
    refine ⟨by decide, IxP.row rfl (by omega) (LdI.n 1 hS rfl hg ⟨by decide, by omega, IxP.row (k := i) rfl hlt (St1.n 0 hS rfl (by simp [outP_len, zB]; omega) fun w hS => ?_)⟩)⟩
    rw [outB_val] at hS
    have hS : St W (Row b' 26 (((outP s).take (i + 1) ++ (zB 32).drop (i + 1)).map byteV) :: Row b 46 (s.l.map uV) :: OwnS 5 1 p4 A.length c4 (A.map byteV) :: Row b3 26 ((zB 32).map byteV) :: F) w := by
      rw [← mixB_set (outP s) (zB 32) i (outP_get s i hlt) (by simpa [zB] using hlt)]; exact hS
    rw [up hlt (by omega)]
    exact ⟨⟨i + 1, rfl, by omega, hS⟩, by show 32 - (i + 1) < 32 - i; omega⟩
  have hi2 : i = 32 := by have := of_decide_eq_false hge; omega
  subst hi2
  rw [mix_all (outP s) (zB 32) 32 (by rw [outP_len]; omega) (by simp [zB])] at hS
  have hl := outP_len s
  have hsha : sha bs = outP s := by unfold sha; rw [hs]
  rw [hsha]
  refine LdA.r 0 hS rfl (by rw [List.length_map, hl]) ⟨by simp [hl], StA.r 3 hS rfl (by simp [hl, zB]) (fun v hv => notAgg_byteV v (by simpa using hv)) fun w4 hS => LdA.r 3 hS rfl (by simp [hl]) ⟨rfl, ?_⟩⟩
  exact St.dropL [_, _, _, _] hS
end Go.Proofs.Ytbfccpbijimjmaa
