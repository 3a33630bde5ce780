/-
  The walks of the laws of sums under keys: more.
-/
import Derived.Test.YtbfccpbijimjmaaLaw03
set_option linter.unusedVariables false
set_option linter.unusedSimpArgs false
namespace Go.Proofs.Ytbfccpbijimjmaa
open Go
theorem Inner_walk {W : World} {p q : Option Addr} {k b : List UInt8} {c d : Nat} (hr : Rd [Base W] p (k.map byteV)) (hc : k.length ≤ c) (hcm : c ≤ 9223372036854775807) (hr2 : Rd [Base W] q (b.map byteV)) (hd : b.length ≤ d) (hdm : d ≤ 9223372036854775807) :
    CallR Try.prog 7 #[.slice p k.length c, .slice q b.length d] W fun v w' => v = .bool true ∧ ∃ r, St W (Base W :: r) w' := by
  refine F7_of ((head_spec (St.base W)).of fun v w ⟨hv, hS⟩ => ⟨_, hv, ?_⟩)
  refine Bif.i (fun h => ⟨rfl, _, hS⟩) fun h => Bif.i (fun h2 => ⟨rfl, _, hS⟩) fun h2 => ?_
  have h := of_decide_eq_false h
  have h2 := of_decide_eq_false h2
  have hl := macP_len k b
  have hpl := padK_len k
  have hpk : padK k = k ++ zB (64 - k.length) := by unfold padK keyK; rw [if_neg (by omega)]
  have hsl := sha_len (xorL 54 (padK k) ++ b)
  obtain ⟨s, hs⟩ : ∃ s, sha (xorL 54 (padK k) ++ b) = s := ⟨_, rfl⟩
  have hm0 : sha (xorL 92 (padK k) ++ s) = macP k b := by rw [← hs]; rfl
  rw [hs] at hsl
  obtain ⟨m, hm⟩ : ∃ m, macP k b = m := ⟨_, rfl⟩
  rw [hm] at hl hm0
  have z : (arrB m).size = 32 := by rw [arrB_size, hl]
  have zs : (arrB s).size = 32 := by rw [arrB_size, hsl]
  obtain ⟨P, hP⟩ : ∃ P, padK k = P := ⟨_, rfl⟩
  rw [hP] at hpl hpk hs hm0
  have hX := xorL_len 54 P
  have hY := xorL_len 92 P
  have zr : List.replicate (Int.toNat 64) (Value.int .u8 0) = (zB 64).map byteV := by rw [zV64]; rfl
  refine MkS.i hS (by decide) (Int.le_refl _) (by decide) (by decide) fun b7 w hS => ?_
  rw [zr] at hS
  refine MkS.i hS (by decide) (Int.le_refl _) (by decide) (by decide) fun b9 w hS => ?_
  rw [zr] at hS
  have hS : St W [Row b9 5 (((xorL 92 P).take 0 ++ (zB 64).drop 0).map byteV), Row b7 5 (((xorL 54 P).take 0 ++ (zB 64).drop 0).map byteV), Base W] w := hS
  have hz64 : (zB 64).length = 64 := by simp [zB]
  refine ⟨fun vs w => ∃ i : Nat, vs = [.int .i64 i] ∧ i ≤ 64 ∧ St W [Row b9 5 (((xorL 92 P).take i ++ (zB 64).drop i).map byteV), Row b7 5 (((xorL 54 P).take i ++ (zB 64).drop i).map byteV), Base W] w, leftN 64, ⟨0, rfl, by omega, hS⟩, fun x w hI => ?_⟩
  obtain ⟨i, he, hi, hS⟩ := hI
  cases he
  refine Bif.i (fun hlt => ?_) fun hge => ?_
  · have hlt : i < 64 := by have := of_decide_eq_true hlt; omega
    have hx : P[i]? = some (P[i]'(by omega)) := List.getElem?_eq_getElem _
    generalize P[i]'(by omega) = x at hx
    refine ⟨fun vs w => vs = [.int .u8 (x.toNat : Int)] ∧ St W [Row b9 5 (((xorL 92 P).take i ++ (zB 64).drop i).map byteV), Row b7 5 (((xorL 54 P).take i ++ (zB 64).drop i).map byteV), Base W] w, Bif.i (fun hk => ?_) fun hk => ?_, fun cc w hJ => ?_⟩
    · have hk : i < k.length := by have := of_decide_eq_true hk; omega
      have hkx : k[i]? = some x := by rw [hpk, List.getElem?_append_left hk] at hx; exact hx
      exact IxP.by_ ((hr.cons _).cons _) hS rfl hk hkx fun a ha => LdI.at ha ⟨rfl, hS⟩
    · have hk : ¬ i < k.length := by have := of_decide_eq_false hk; omega
      refine ⟨?_, hS⟩
      rw [hpk, List.getElem?_append_right (by omega)] at hx
      unfold zB at hx
      rw [List.getElem?_replicate, if_pos (by omega)] at hx
      cases hx; rfl
    obtain ⟨he, hS⟩ := hJ
    cases he
    have h54 := xorV x 54
    have h92 := xorV x 92
    refine IxP.row (k := i) rfl hlt (St1.n 1 hS rfl (by rw [List.length_map, mix_len _ _ _ (by omega)]; omega) fun w hS => IxP.row (k := i) rfl hlt (St1.n 0 hS rfl (by rw [List.length_map, mix_len _ _ _ (by omega)]; omega) fun w hS => ?_))
    have hS : St W [Row b9 5 (((xorL 92 P).take (i + 1) ++ (zB 64).drop (i + 1)).map byteV), Row b7 5 (((xorL 54 P).take (i + 1) ++ (zB 64).drop (i + 1)).map byteV), Base W] w := by
      rw [← mixB_set (xorL 92 P) (zB 64) i (xorL_get hx) (by omega), ← mixB_set (xorL 54 P) (zB 64) i (xorL_get hx) (by omega)]
      unfold byteV
      rw [← h54, ← h92]
      exact hS
    rw [up hlt (by omega)]
    exact ⟨⟨i + 1, rfl, by omega, hS⟩, by show 64 - (i + 1) < 64 - i; omega⟩
  have hi2 : i = 64 := by have := of_decide_eq_false hge; omega
  subst hi2
  rw [mix_all (xorL 54 P) (zB 64) 64 (by omega) (by omega), mix_all (xorL 92 P) (zB 64) 64 (by omega) (by omega)] at hS
  have hS : St W [OwnS 5 1 (some ⟨b7, 0, none⟩) 64 64 ((xorL 54 P).map byteV), Row b9 5 ((xorL 92 P).map byteV), Base W] w := OwnS.whole (by rw [List.length_map, hX, hpl]) hS.p1
  refine append_sl uB (.inr ⟨_, uB⟩) iU8 sU8 zU8 rfl hS (xs := b.map byteV) (hr2.cons _) (by simp) notAgg_byteV (by rw [bU8]; omega) (by omega) fun p1 c1 w hS => ⟨_, _, _, rfl, ?_⟩
  rw [← List.map_append] at hS
  refine (rsum_at hs (OwnS.rd _) (by rw [List.length_append]; omega) (by omega) hS).of fun v w ⟨hv, hS⟩ => ⟨_, zs, hv, NewC.i hS fun b30 w hS => ⟨zs, StA.r 0 hS rfl (by rw [zs]; rfl) (arrB_notAgg _) fun w hS => ?_⟩⟩
  have hS : St W [Row b30 26 (s.map byteV), OwnS 5 1 p1 (64 + b.length) c1 ((xorL 54 P ++ b).map byteV), Row b9 5 ((xorL 92 P).map byteV), Base W] w := hS
  have hS : St W [OwnS 5 1 (some ⟨b9, 0, none⟩) 64 64 ((xorL 92 P).map byteV), Row b30 26 (s.map byteV), Base W] w := OwnS.whole (by rw [List.length_map, hY, hpl]) hS.p1.drop.p1
  have hC := Is.refl W [OwnS 5 1 (some ⟨b9, 0, none⟩) 64 64 ((xorL 92 P).map byteV), Row b30 26 (s.map byteV), Base W]
  refine ⟨StC W _, StC.start hS, Bif.yes rfl (SlP.all (F := [Row b30 26 (s.map byteV), Base W]) (bs := s) Rd.all hsl (Nat.le_refl _) rfl fun p' hr' => ?_)⟩
  refine Ef.n0 (α := Unit) (V := fun _ => .agg (arrB m)) (B := fun _ => [OwnS 5 1 (some ⟨b9, 0, none⟩) 64 64 ((xorL 92 P).map byteV), Row b30 26 (s.map byteV), Base W]) () hC (fun G w h => (mac_at hm (((hr.cons _).cons _).app (pts G)) rfl hc (by omega) (((hr2.cons _).cons _).app (pts G)) rfl hd (by omega) h).of fun v w' ⟨hv, h⟩ => ⟨_, z, hv, (), rfl, h⟩) fun _ => ⟨_, z, rfl, trivial, ?_⟩
  refine Ef.n0 (α := Option Addr × Nat) (V := fun y => .slice y.1 (64 + s.length) y.2) (B := fun y => [OwnS 5 1 y.1 (64 + s.length) y.2 ((xorL 92 P ++ s).map byteV), Row b30 26 (s.map byteV), Base W]) (none, 0) hC (fun G w h => ?_) fun y => ⟨_, _, _, rfl, trivial, ?_⟩
  · refine append_sl uB (.inr ⟨_, uB⟩) iU8 sU8 zU8 rfl h (xs := s.map byteV) (hr'.app (pts G)) (by simp) notAgg_byteV (by rw [bU8]; omega) (by omega) fun p3 c3 w h => ⟨_, _, _, rfl, (p3, c3), rfl, ?_⟩
    rw [List.map_append]; exact h
  refine Ef.n0 (α := Unit) (V := fun _ => .agg (arrB m)) (B := fun _ => [OwnS 5 1 y.1 (64 + s.length) y.2 ((xorL 92 P ++ s).map byteV), Row b30 26 (s.map byteV), Base W]) () (Is.refl W _) (fun G w h => (rsum_at hm0 (OwnS.rd _) (by rw [List.length_append]; omega) (by omega) h).of fun v w' ⟨hv, h⟩ => ⟨_, z, hv, (), rfl, h⟩) fun _ => ⟨_, z, rfl, trivial, ?_⟩
  exact ⟨_, fun w => eqSum m m hl hl w, _, rfl, fun G w h => ⟨by simp, _, (StC.ends h).p2⟩⟩

theorem Same_walk {W : World} {p : Option Addr} {b : List UInt8} {c : Nat} (hr : Rd [Base W] p (b.map byteV)) (hc : b.length ≤ c) (hcm : c ≤ 9223372036854775807) (at_ : Int) (wa : (Lit.int .u16 at_).wf = true) (y : Int) (wy : (Lit.int .u8 y).wf = true) :
    CallR Try.prog 6 #[.slice p b.length c, .int .u16 at_, .int .u8 y] W fun v w' => v = .bool true ∧ ∃ r, St W (Base W :: r) w' := by
  obtain ⟨x, rfl⟩ := u8_of y wy
  have ha : 0 ≤ at_ ∧ at_ ≤ 65535 := by simpa [Lit.wf, IntKind.min, IntKind.max, IntKind.signed, IntKind.bits] using wa
  refine F6_of ((head_spec (St.base W)).of fun v w ⟨hv, hS⟩ => ⟨_, hv, ?_⟩)
  refine Bif.i (fun h => ⟨rfl, _, hS⟩) fun h => NewC.i hS fun b8 w hS => ?_
  have h := of_decide_eq_false h
  refine append_sl uB (.inr ⟨_, uB⟩) iU8 sU8 zU8 rfl (OwnS.empty hS) (xs := b.map byteV) hr (by simp) notAgg_byteV (by rw [bU8]; simp; omega) (by omega) fun p1 c1 w hS => ⟨_, _, _, rfl, ?_⟩
  have hS : St W [OwnS 5 1 p1 (0 + b.length) c1 (b.map byteV), Base W] w := hS
  rw [Nat.zero_add] at hS ⊢
  refine (Same_spec (hr.cons _) (OwnS.rd _) (by omega) hS).of fun v w ⟨hv, hS⟩ => ⟨_, hv, Bif.no (by simp) (NewC.i hS fun b16 w hS => ?_)⟩
  refine append_sl uB (.inr ⟨_, uB⟩) iU8 sU8 zU8 rfl (OwnS.empty hS) (xs := b.map byteV) (hr.cons _) (by simp) notAgg_byteV (by rw [bU8]; simp; omega) (by omega) fun p2 c2 w hS => ⟨_, _, _, rfl, ?_⟩
  have hS : St W [OwnS 5 1 p2 (0 + b.length) c2 (b.map byteV), OwnS 5 1 p1 b.length c1 (b.map byteV), Base W] w := hS
  rw [Nat.zero_add] at hS ⊢
  refine put1 (x := x) (bs := b) rfl (by omega) hS fun p3 c3 w hS => ⟨_, _, _, rfl, ?_⟩
  have hne : b ≠ b ++ [x] := fun e => by have := congrArg List.length e; simp at this
  have hsm := Same_spec (W := W) (w := w) (a := b) (b := b ++ [x]) (d := c) (e := c3) ((hr.cons _).cons _) (OwnS.rd _) (by omega) hS
  rw [show (b ++ [x]).length = b.length + 1 by simp] at hsm
  refine hsm.of fun v w ⟨hv, hS⟩ => ⟨_, hv, Bif.no (decide_eq_false hne) ?_⟩
  have hS : St W [OwnS 5 1 p1 b.length c1 (b.map byteV), Base W] w := hS.drop
  refine Bif.i (fun h0 => ⟨rfl, _, hS.p1⟩) fun h0 => ?_
  have hn0 : b.length ≠ 0 := by
    intro e
    rw [e] at h0
    exact absurd h0 (by decide)
  obtain ⟨k, hk, hkl⟩ : ∃ k : Nat, Int.tmod (IntKind.wrap .i64 at_) (b.length : Int) = (k : Int) ∧ k < b.length := by
    have h0 : 0 ≤ at_ % (b.length : Int) := Int.emod_nonneg _ (by omega)
    have h1 : at_ % (b.length : Int) < (b.length : Int) := Int.emod_lt_of_pos _ (by omega)
    refine ⟨(at_ % (b.length : Int)).toNat, ?_, by omega⟩
    rw [w64 (by omega) (by omega), Int.tmod_eq_emod_of_nonneg (by omega)]; omega
  rw [hk]
  have hy : b[k]? = some (b[k]'hkl) := List.getElem?_eq_getElem _
  obtain ⟨y, hyv⟩ : ∃ y, b[k]'hkl = y := ⟨_, rfl⟩
  rw [hyv] at hy
  refine ⟨by omega, OwnS.ix hS hkl _ fun w hS => ?_⟩
  have hS : St W [OwnS 5 1 p1 b.length c1 ((b.set k x).map byteV), Base W] w := by rw [List.map_set]; exact hS
  have hsl : (b.set k x).length = b.length := List.length_set
  have hset : b = b.set k x ↔ y = x := by
    constructor
    · intro e
      have h1 : (b.set k x)[k]? = some x := by rw [List.getElem?_set, if_pos rfl, if_pos hkl]
      rw [← e, hy] at h1
      exact Option.some.inj h1
    · rintro rfl
      refine List.ext_getElem? fun j => ?_
      rw [List.getElem?_set]
      by_cases e : k = j
      · subst e; rw [if_pos rfl, if_pos hkl, hy]
      · rw [if_neg e]
  have hyx : ((y.toNat : Int) == (x.toNat : Int)) = decide (y = x) := by
    rw [Bool.eq_iff_iff]
    simp only [beq_iff_eq, decide_eq_true_eq]
    constructor
    · intro h; exact UInt8.toNat_inj.1 (by omega)
    · intro h; rw [h]
  have hC := Is.refl W [OwnS 5 1 p1 b.length c1 ((b.set k x).map byteV), Base W]
  have hsame1 : ∀ {F : List Asn} {w : World}, St W (OwnS 5 1 p1 b.length c1 ((b.set k x).map byteV) :: Base W :: F) w → CallR Try.prog 13 #[.slice p b.length c, .slice p1 b.length c1] w fun v w' => v = .bool (decide (y = x)) ∧ St W (OwnS 5 1 p1 b.length c1 ((b.set k x).map byteV) :: Base W :: F) w' := fun {F w} h => by
    have := Same_spec (W := W) (w := w) (a := b) (b := b.set k x) (d := c) (e := c1) ((hr.app F).cons _) (OwnS.rd _) (by omega) h
    rw [hsl] at this
    refine this.of fun v w ⟨hv, h⟩ => ⟨?_, h⟩
    rw [hv]; congr 1; simp only [decide_eq_decide]; exact hset
  have hsame2 : ∀ {F : List Asn} {w : World}, St W (OwnS 5 1 p1 b.length c1 ((b.set k x).map byteV) :: Base W :: F) w → CallR Try.prog 13 #[.slice p1 b.length c1, .slice p b.length c] w fun v w' => v = .bool (decide (y = x)) ∧ St W (OwnS 5 1 p1 b.length c1 ((b.set k x).map byteV) :: Base W :: F) w' := fun {F w} h => by
    have := Same_spec (W := W) (w := w) (a := b.set k x) (b := b) (d := c1) (e := c) (OwnS.rd _) ((hr.app F).cons _) (by omega) h
    rw [hsl] at this
    refine this.of fun v w ⟨hv, h⟩ => ⟨?_, h⟩
    rw [hv]; congr 1; simp only [decide_eq_decide]; exact ⟨fun e => hset.1 e.symm, fun e => (hset.2 e).symm⟩
  have hC2 : ∀ G w, (StC W [OwnS 5 1 p1 b.length c1 ((b.set k x).map byteV), Base W]).p G w → St W (OwnS 5 1 p1 b.length c1 ((b.set k x).map byteV) :: Base W :: pts G) w := fun G w h => h
  refine ⟨StC W _, StC.start hS, Bif.yes rfl (IxP.byC hC (hr.cons _) hS rfl hkl hy fun a32 h32 => ⟨_, QtI.at h32, ?_⟩)⟩
  refine Ef.n0 (α := Unit) (V := fun _ => .bool (decide (y = x))) (B := fun _ => [OwnS 5 1 p1 b.length c1 ((b.set k x).map byteV), Base W]) () hC (fun G w h => (hsame1 h).of fun v w' ⟨hv, h⟩ => ⟨_, hv, (), rfl, h⟩) fun _ => ⟨_, rfl, QtI.at h32, Bif.yes (by rw [hyx]; exact beq_self_eq_true _) (IxP.byC hC (hr.cons _) hS rfl hkl hy fun a49 h49 => ⟨_, QtI.at h49, ?_⟩)⟩
  refine Ef.n0 (α := Unit) (V := fun _ => .bool (decide (y = x))) (B := fun _ => [OwnS 5 1 p1 b.length c1 ((b.set k x).map byteV), Base W]) () hC (fun G w h => (hsame2 h).of fun v w' ⟨hv, h⟩ => ⟨_, hv, (), rfl, h⟩) fun _ => ⟨_, rfl, QtI.at h49, Bif.yes (by rw [hyx]; exact beq_self_eq_true _) ?_⟩
  refine SlP.i (a := 1) (b := b.length) (hr.cons (OwnS 5 1 p1 b.length c1 ((b.set k x).map byteV))) (by simp) hc rfl rfl (by omega) (Nat.le_refl _) fun p' hr' => ?_
  rw [Nat.mul_one, Nat.mul_one, ← List.map_drop, ← List.map_take, List.take_of_length_le (by simp)] at hr'
  have hdl : (b.drop 1).length = b.length - 1 := List.length_drop
  have hnd : b ≠ b.drop 1 := fun e => by have := congrArg List.length e; rw [hdl] at this; omega
  refine Ef.n0 (α := Unit) (V := fun _ => .bool false) (B := fun _ => [OwnS 5 1 p1 b.length c1 ((b.set k x).map byteV), Base W]) () hC (fun G w h => ?_) fun _ => ⟨_, rfl, trivial, fun G w h => ⟨rfl, _, (StC.ends h).p1⟩⟩
  have := Same_spec (W := W) (w := w) (a := b) (b := b.drop 1) (d := c) (e := c - 1) ((hr.cons _).app (pts G)) (hr'.app (pts G)) (by omega) h
  rw [hdl] at this
  exact this.of fun v w' ⟨hv, h⟩ => ⟨_, by rw [hv, decide_eq_false hnd], (), rfl, h⟩
end Go.Proofs.Ytbfccpbijimjmaa
