/-
  Contracts of sums under keys: the document's; words.
-/
import Derived.Test.YtbfccpbijimjmaaMacC
set_option linter.unusedVariables false
set_option linter.unusedSimpArgs false
namespace Go.Proofs.Ytbfccpbijimjmaa
open Go
theorem padded_spec {W w : World} {F : List Asn} {p : Option Addr} {d : Nat} {k : List UInt8} (c : UInt8) (hr : Rd F p (k.map byteV)) (hk : k.length ≤ 500000) (hS : St W F w) :
    CallR Try.prog 21 #[.slice p k.length d, .int .u8 (c.toNat : Int)] w fun v w' => ∃ q e, v = .slice q 64 e ∧ St W (OwnS 5 1 q 64 e ((xorL c (padK k)).map byteV) :: F) w' := by
  have hpl := padK_len k
  have hkl := keyK_len k
  refine F21_of (NewC.i hS fun b4 w hS => ?_)
  refine append_sl uB (.inr ⟨_, uB⟩) iU8 sU8 zU8 rfl (OwnS.empty hS) (xs := k.map byteV) hr (by simp) notAgg_byteV (by rw [bU8]; simp; omega) (by omega) fun p1 c1 w hS => ⟨_, _, _, rfl, ?_⟩
  have hS : St W (OwnS 5 1 p1 (0 + k.length) c1 (k.map byteV) :: F) w := hS
  rw [Nat.zero_add] at hS ⊢
  refine ⟨fun vs w => ∃ p c, vs = [.slice p (keyK k).length c] ∧ St W (OwnS 5 1 p (keyK k).length c ((keyK k).map byteV) :: F) w, Bif.i (fun h => ?_) fun h => ?_, fun p2 n2 c2 w hJ => ?_⟩
  · have h := of_decide_eq_true h
    have hl := sha_len k
    have hkk : keyK k = sha k := by unfold keyK; rw [if_pos (by omega)]
    rw [hkk]
    obtain ⟨s, hs⟩ : ∃ s, sha k = s := ⟨_, rfl⟩
    rw [hs] at hl ⊢
    have z : (arrB s).size = 32 := by rw [arrB_size, hl]
    refine (rsum_at hs (OwnS.rd F) (by rfl) (by omega) hS).of fun v w ⟨hv, hS⟩ => ⟨_, z, hv, NewC.i hS fun b13 w hS => ⟨z, StA.r 0 hS rfl (by rw [z]; rfl) (arrB_notAgg _) fun w hS => NewC.i hS fun b16 w hS => ?_⟩⟩
    have hS : St W (Row b16 5 [] :: Row b13 26 (s.map byteV) :: OwnS 5 1 p1 k.length c1 (k.map byteV) :: F) w := hS
    refine SlP.all (F := Row b13 26 (s.map byteV) :: OwnS 5 1 p1 k.length c1 (k.map byteV) :: F) (bs := s) Rd.all hl (Nat.le_refl _) rfl fun p' hr' => ?_
    refine append_sl uB (.inr ⟨_, uB⟩) iU8 sU8 zU8 rfl (OwnS.empty hS) (xs := s.map byteV) hr' (by simp) notAgg_byteV (by rw [bU8]; simp; omega) (by omega) fun p3 c3 w hS => ⟨_, _, _, rfl, ?_⟩
    have hS : St W (OwnS 5 1 p3 (0 + s.length) c3 (s.map byteV) :: Row b13 26 (s.map byteV) :: OwnS 5 1 p1 k.length c1 (k.map byteV) :: F) w := hS
    rw [Nat.zero_add] at hS ⊢
    exact ⟨p3, c3, rfl, (hS.p2.drop).p1.drop⟩
  · have h := of_decide_eq_false h
    have hkk : keyK k = k := by unfold keyK; rw [if_neg (by omega)]
    rw [hkk]
    exact ⟨p1, c1, rfl, hS⟩
  obtain ⟨p3, c3, he, hS⟩ := hJ
  cases he
  have hpad : padK k = keyK k ++ zB (64 - (keyK k).length) := rfl
  generalize keyK k = K at hkl hS hpad
  have zl : ∀ j, (K ++ zB j).length = K.length + j := fun j => by simp [zB]
  have hS : St W (OwnS 5 1 p2 (K ++ zB 0).length c2 ((K ++ zB 0).map byteV) :: F) w := by rw [show K ++ zB 0 = K by simp [zB]]; exact hS
  refine ⟨fun vs w => ∃ p j c, vs = [.slice p (K ++ zB j).length c] ∧ K.length + j ≤ 64 ∧ St W (OwnS 5 1 p (K ++ zB j).length c ((K ++ zB j).map byteV) :: F) w, leftZ 64, ⟨p2, 0, c2, by rw [show K ++ zB 0 = K by simp [zB]], by omega, hS⟩, fun p4 n4 c4 w hI => ?_⟩
  obtain ⟨p5, j, c5, he, hj, hS⟩ := hI
  cases he
  refine Bif.i (fun h => ?_) fun h => ?_
  · have h := of_decide_eq_true h
    rw [zl] at h
    have hlz := zl j
    refine put1 (x := 0) rfl (by omega) hS fun p6 c6 w hS => ⟨_, _, _, rfl, ?_⟩
    have ez : (K ++ zB j) ++ [0] = K ++ zB (j + 1) := by unfold zB; rw [List.replicate_succ']; simp
    have el : (K ++ zB j).length + 1 = (K ++ zB (j + 1)).length := by rw [zl, zl]; omega
    rw [ez, el] at hS
    refine ⟨⟨p6, j + 1, c6, by rw [el], by omega, hS⟩, ?_⟩
    show 64 - ((K ++ zB j).length + 1) < 64 - (K ++ zB j).length
    omega
  have hj2 : j = 64 - K.length := by have := of_decide_eq_false h; rw [zl] at this; omega
  subst hj2
  rw [← hpad] at hS
  have e64 : (K ++ zB (64 - K.length)).length = 64 := by rw [← hpad, hpl]
  rw [e64]
  rw [hpl] at hS
  generalize padK k = P at hpl hS ⊢
  have hX := xorL_len c P
  have hS : St W (OwnS 5 1 p4 64 c4 (((xorL c P).take 0 ++ P.drop 0).map byteV) :: F) w := hS
  refine ⟨fun vs w => ∃ i : Nat, vs = [.int .i64 i] ∧ i ≤ 64 ∧ St W (OwnS 5 1 p4 64 c4 (((xorL c P).take i ++ P.drop i).map byteV) :: F) w, leftN 64, ⟨0, rfl, by omega, hS⟩, fun x w hI => ?_⟩
  obtain ⟨i, he, hi, hS⟩ := hI
  cases he
  refine Bif.i (fun hlt => ?_) fun hge => ?_
  · have hlt : i < 64 := by have := of_decide_eq_true hlt; omega
    have hx : P[i]? = some (P[i]'(by omega)) := List.getElem?_eq_getElem _
    generalize P[i]'(by omega) = x at hx
    refine IxP.by_ (OwnS.rd F) hS rfl hlt (x := x) (by rw [mix_get _ _ _ (by omega), hx]) fun a ha => LdI.at ha ?_
    refine OwnS.ix hS hlt _ fun w hS => ?_
    rw [xorV] at hS
    have hS : St W (OwnS 5 1 p4 64 c4 (((xorL c P).take (i + 1) ++ P.drop (i + 1)).map byteV) :: F) w := by
      rw [← mixB_set (xorL c P) P i (xorL_get hx) (by omega)]; exact hS
    rw [up hlt (by omega)]
    exact ⟨⟨i + 1, rfl, by omega, hS⟩, by show 64 - (i + 1) < 64 - i; omega⟩
  have hi2 : i = 64 := by have := of_decide_eq_false hge; omega
  subst hi2
  rw [mix_all (xorL c P) P 64 (by omega) (by omega)] at hS
  exact ⟨p4, c4, rfl, hS⟩
theorem RMac_spec {W w : World} {F : List Asn} {p q : Option Addr} {d e : Nat} {k b : List UInt8} (hr : Rd F p (k.map byteV)) (hk : k.length ≤ 500000) (hrb : Rd F q (b.map byteV)) (hb : b.length ≤ 500000) (hS : St W F w) :
    CallR Try.prog 12 #[.slice p k.length d, .slice q b.length e] w fun v w' => v = .agg (arrB (macP k b)) ∧ St W F w' := by
  have hpl := padK_len k
  have hx1 := xorL_len 54 (padK k)
  have hx2 := xorL_len 92 (padK k)
  have hl1 := sha_len (xorL 54 (padK k) ++ b)
  obtain ⟨s1, hs1⟩ : ∃ s, sha (xorL 54 (padK k) ++ b) = s := ⟨_, rfl⟩
  rw [hs1] at hl1
  have hm : sha (xorL 92 (padK k) ++ s1) = macP k b := by unfold macP; rw [hs1]
  have hl2 := macP_len k b
  have z1 : (arrB s1).size = 32 := by rw [arrB_size, hl1]
  have z2 : (arrB (macP k b)).size = 32 := by rw [arrB_size, hl2]
  have h54 : ∀ {F : List Asn} {w : World}, Rd F p (k.map byteV) → St W F w → CallR Try.prog 21 #[.slice p k.length d, .int .u8 54] w fun v w' => ∃ q e, v = .slice q 64 e ∧ St W (OwnS 5 1 q 64 e ((xorL 54 (padK k)).map byteV) :: F) w' := fun hr h => padded_spec 54 hr hk h
  have h92 : ∀ {F : List Asn} {w : World}, Rd F p (k.map byteV) → St W F w → CallR Try.prog 21 #[.slice p k.length d, .int .u8 92] w fun v w' => ∃ q e, v = .slice q 64 e ∧ St W (OwnS 5 1 q 64 e ((xorL 92 (padK k)).map byteV) :: F) w' := fun hr h => padded_spec 92 hr hk h
  generalize macP k b = m at hl2 z2 hm ⊢
  generalize xorL 54 (padK k) = X at *
  generalize xorL 92 (padK k) = Y at *
  refine F12_of (NewC.i hS fun b4 w hS => (h54 (hr.cons _) hS).of fun v w ⟨p1, c1, hv, hS⟩ => ⟨_, _, _, hv, ?_⟩)
  refine append_sl uB (.inr ⟨_, uB⟩) iU8 sU8 zU8 rfl hS (xs := b.map byteV) (hrb.cons _) (by simp) notAgg_byteV (by rw [bU8]; omega) (by omega) fun p2 c2 w hS => ⟨_, _, _, rfl, ?_⟩
  rw [← List.map_append] at hS
  refine (rsum_at hs1 (OwnS.rd _) (by rw [List.length_append]; omega) (by omega) hS).of fun v w ⟨hv, hS⟩ => ⟨_, z1, hv, NewC.i hS fun b15 w hS => ⟨z1, StA.r 0 hS rfl (by rw [z1]; rfl) (arrB_notAgg _) fun w hS => ?_⟩⟩
  have hS : St W (Row b15 26 (s1.map byteV) :: OwnS 5 1 p2 (64 + b.length) c2 ((X ++ b).map byteV) :: Row b4 26 ((zB 32).map byteV) :: F) w := hS
  have hS : St W (Row b15 26 (s1.map byteV) :: Row b4 26 ((zB 32).map byteV) :: F) w := (hS.p1.drop)
  have hC := Is.refl W (Row b15 26 (s1.map byteV) :: Row b4 26 ((zB 32).map byteV) :: F)
  refine ⟨StC W _, StC.start hS, SlP.allS 0 hS rfl (fun F => Rd.all) hl1 (Nat.le_refl _) rfl fun p' hr' => ?_⟩
  refine Ef.n0 (α := Option Addr × Nat) (V := fun y => .slice y.1 64 y.2) (B := fun y => OwnS 5 1 y.1 64 y.2 (Y.map byteV) :: Row b15 26 (s1.map byteV) :: Row b4 26 ((zB 32).map byteV) :: F) (none, 0) hC (fun G w h => (h92 (((hr.cons _).cons _).app (pts G)) h).of fun v w' ⟨q, e, hv, h⟩ => ⟨_, _, _, hv, (q, e), rfl, h⟩) fun y => ⟨_, _, _, rfl, trivial, ?_⟩
  refine Ef.n0 (α := Option Addr × Nat) (V := fun z => .slice z.1 (64 + s1.length) z.2) (B := fun z => OwnS 5 1 z.1 (64 + s1.length) z.2 ((Y ++ s1).map byteV) :: Row b15 26 (s1.map byteV) :: Row b4 26 ((zB 32).map byteV) :: F) (none, 0) (Is.refl W _) (fun G w h => ?_) fun y => ⟨_, _, _, rfl, trivial, ?_⟩
  · refine append_sl uB (.inr ⟨_, uB⟩) iU8 sU8 zU8 rfl h (xs := s1.map byteV) (hr'.app (pts G)) (by simp) notAgg_byteV (by rw [bU8]; omega) (by omega) fun p3 c3 w h => ⟨_, _, _, rfl, (p3, c3), rfl, ?_⟩
    rw [List.map_append]; exact h
  refine Ef.n0 (α := Unit) (V := fun _ => .agg (arrB m)) (B := fun _ => OwnS 5 1 y.1 (64 + s1.length) y.2 ((Y ++ s1).map byteV) :: Row b15 26 (s1.map byteV) :: Row b4 26 ((zB 32).map byteV) :: F) () (Is.refl W _) (fun G w h => (rsum_at hm (OwnS.rd _) (by rw [List.length_append]; omega) (by omega) h).of fun v w' ⟨hv, h⟩ => ⟨_, z2, hv, (), rfl, h⟩) fun _ => ⟨_, z2, rfl, trivial, ?_⟩
  refine Ef.stA 2 (Is.refl W _) rfl z2 (by rw [z2]; rfl) (arrB_notAgg _) ⟨rfl, trivial, fun G w h => ?_⟩
  have hS := StC.ends h
  have hS : St W (OwnS 5 1 y.1 (64 + s1.length) y.2 ((Y ++ s1).map byteV) :: Row b15 26 (s1.map byteV) :: Row b4 26 (m.map byteV) :: F) w := hS
  exact LdA.r 2 hS rfl (by rw [List.length_map, hl2]) ⟨rfl, St.dropL [_, _, _] hS⟩

/-! ### Alike -/
def diffP : List UInt8 → List UInt8 → UInt8
  | x :: a, y :: b => (x ^^^ y) ||| diffP a b
  | _, _ => 0
theorem or0 (x y : UInt8) : x ||| y = 0 ↔ x = 0 ∧ y = 0 := by
  constructor
  · intro h
    have h1 : x.toNat ||| y.toNat = 0 := by rw [← UInt8.toNat_or, h]; rfl
    rw [Nat.or_eq_zero_iff] at h1
    exact ⟨UInt8.toNat_inj.1 h1.1, UInt8.toNat_inj.1 h1.2⟩
  · rintro ⟨rfl, rfl⟩; rfl
theorem xor0 (x y : UInt8) : x ^^^ y = 0 ↔ x = y := UInt8.xor_eq_zero_iff
theorem Same_spec {W w : World} {F : List Asn} {p q : Option Addr} {d e : Nat} {a b : List UInt8} (hr : Rd F p (a.map byteV)) (hrb : Rd F q (b.map byteV)) (hn : a.length ≤ 1000000) (hS : St W F w) :
    CallR Try.prog 13 #[.slice p a.length d, .slice q b.length e] w fun v w' => v = .bool (decide (a = b)) ∧ St W F w' := by
  refine F13_of (Bif.i (fun h => ⟨?_, hS⟩) fun h => ?_)
  · have h : (a.length : Int) ≠ b.length := by simpa using h
    rw [decide_eq_false (fun e => h (by rw [e]))]
  have hl : a.length = b.length := by
    have : ¬ (a.length : Int) ≠ b.length := by simpa using h
    omega
  refine ⟨fun vs w => ∃ (i : Nat) (u : UInt8), vs = [.int .u8 (u.toNat : Int), .int .i64 i] ∧ i ≤ a.length ∧ (u = 0 ↔ a.take i = b.take i) ∧ St W F w, leftN a.length, ⟨0, 0, rfl, by omega, by simp, hS⟩, fun u x w hI => ?_⟩
  obtain ⟨i, u, he, hi, hu, hS⟩ := hI
  cases he
  refine Bif.i (fun hlt => ?_) fun hge => ⟨?_, hS⟩
  · have hlt : i < a.length := by have := of_decide_eq_true hlt; omega
    have hx : a[i]? = some (a[i]'hlt) := List.getElem?_eq_getElem _
    have hy : b[i]? = some (b[i]'(by omega)) := List.getElem?_eq_getElem _
    generalize a[i]'hlt = x at hx
    generalize b[i]'(by omega) = y at hy
    have hC := Is.refl W F
    refine ⟨StC W _, StC.start hS, IxP.byC hC hr hS rfl hlt hx fun a10 h10 => IxP.byC hC hrb hS rfl (by omega) hy fun a11 h11 => ?_⟩
    refine ⟨_, QtI.at h10, _, QtI.at h11, fun G w h => ?_⟩
    rw [xorV, orV, up hlt (by omega)]
    refine ⟨⟨i + 1, u ||| (x ^^^ y), rfl, by omega, ?_, StC.ends h⟩, by show a.length - (i + 1) < a.length - i; omega⟩
    rw [or0, xor0, hu, List.take_add_one, List.take_add_one, hx, hy]
    constructor
    · rintro ⟨h1, rfl⟩; rw [h1]
    · intro h1
      have := List.append_inj' h1 rfl
      exact ⟨this.1, by simpa using this.2⟩
  · have hi2 : i = a.length := by have := of_decide_eq_false hge; omega
    subst hi2
    rw [List.take_length, hl, List.take_length] at hu
    congr 1
    rw [Bool.eq_iff_iff]
    simp only [beq_iff_eq, decide_eq_true_eq]
    rw [← hu]
    constructor
    · intro h; exact UInt8.toNat_inj.1 (by show u.toNat = 0; omega)
    · intro h; rw [h]; rfl
theorem mkS_inj {a b : List UInt8} (h : mkS a = mkS b) : a = b := by
  have := congrArg ByteArray.toList h
  rwa [mkS_toList, mkS_toList] at this
theorem beq_mkS (a b : List UInt8) : ((mkS a).toList == (mkS b).toList) = decide (a = b) := by
  rw [bytes_beq, Bool.eq_iff_iff]
  simp only [decide_eq_true_eq]
  exact ⟨mkS_inj, fun h => by rw [h]⟩
theorem RSame_spec {W w : World} {F : List Asn} {p q : Option Addr} {d e : Nat} {a b : List UInt8} (hr : Rd F p (a.map byteV)) (hrb : Rd F q (b.map byteV)) (hS : St W F w) :
    CallR Try.prog 14 #[.slice p a.length d, .slice q b.length e] w fun v w' => v = .bool (decide (a = b)) ∧ St W F w' := by
  refine F14_of (str_rd uB uU8 uS hS hr rfl ⟨_, rfl, str_rd uB uU8 uS hS hrb rfl ⟨_, rfl, ?_, hS⟩⟩)
  rw [beq_mkS]
end Go.Proofs.Ytbfccpbijimjmaa
