/-
  The law of the bytes that go both ways: one way changes nothing of the other.
-/
import Derived.Test.YtneilmoiahphkaaLaw17
set_option linter.unusedVariables false
set_option linter.unusedSimpArgs false
namespace Go.Proofs.Ytneilmoiahphkaa
open Go

/-- The way from side 0 to side 1 is the same; nothing is broken. -/
def Like (s t : PS) : Prop := s.w0 = t.w0 ∧ s.broken = false ∧ t.broken = false
theorem Like.hears {s t : PS} (h : Like s t) : s.hears 0 = t.hears 0 := by
  obtain ⟨h1, h2, h3⟩ := h
  simp [PS.hears, h2, h3, PS.at, h1]
theorem Like.outB {s t : PS} (h : Like s t) (k : Int) : s.outB 1 k = t.outB 1 k := by
  obtain ⟨h1, h2, h3⟩ := h
  simp [PS.outB, h2, h3, PS.to, h1]
theorem Like.outE {s t : PS} (h : Like s t) (k : Int) : s.outE 1 k = t.outE 1 k := by
  obtain ⟨h1, h2, h3⟩ := h
  simp [PS.outE, h2, h3, PS.to, h1]
theorem Like.inN {s t : PS} (h : Like s t) (m : Nat) (xs : List UInt8) : s.inN m 0 xs = t.inN m 0 xs := by
  have h0 := h.hears
  obtain ⟨h1, h2, h3⟩ := h
  simp [PS.inN, h0, PS.at, h1]
theorem Like.out {s t : PS} (h : Like s t) (k : Int) : Like (s.out 1 k) (t.out 1 k) := by
  obtain ⟨h1, h2, h3⟩ := h
  have h4 : sideB 1 = true := rfl
  simp [Like, PS.out, h2, h3, h1, h4]
theorem Like.in_ {s t : PS} (h : Like s t) (m : Nat) (xs : List UInt8) : Like (s.in_ m 0 xs) (t.in_ m 0 xs) := by
  have h0 := h.hears
  obtain ⟨h1, h2, h3⟩ := h
  unfold Like PS.in_
  rw [h0]
  split <;> simp [h1, h2, h3]
theorem Like.end_ {s t : PS} (h : Like s t) : Like (s.end_ 0) (t.end_ 0) := by
  have h0 := h.hears
  obtain ⟨h1, h2, h3⟩ := h
  unfold Like PS.end_
  rw [h0]
  split <;> simp [h1, h2, h3]
theorem Like.out' {s t : PS} (h : Like s t) (k : Int) : Like (s.out 0 k) t := by
  obtain ⟨h1, h2, h3⟩ := h
  have h4 : sideB 0 = true := rfl
  simp [Like, PS.out, h2, h3, h1, h4]
theorem Like.in' {s t : PS} (h : Like s t) (m : Nat) (xs : List UInt8) : Like (s.in_ m 1 xs) t := by
  obtain ⟨h1, h2, h3⟩ := h
  unfold Like PS.in_
  split <;> simp [h1, h2, h3]
theorem Like.end' {s t : PS} (h : Like s t) : Like (s.end_ 1) t := by
  obtain ⟨h1, h2, h3⟩ := h
  unfold Like PS.end_
  split <;> simp [h1, h2, h3]

theorem Apart_walk {W : World} {p : Option Addr} {os : List OpD} {c : Nat} (most : Int) (wm : (Lit.int .u8 most).wf = true) (hl : Rd [Base W] p (os.flatMap opCells)) (hc : os.length ≤ c) (hcm : c ≤ 9223372036854775807) (hok : ∀ o ∈ os, OpOk W o) :
    CallR Try.prog 4 #[.int .u8 most, .slice p os.length c] W fun v w' => v = .bool true ∧ ∃ r, St W (Base W :: r) w' := by
  have hlen : os.length ≤ 9223372036854775807 := Nat.le_trans hc hcm
  refine F4_of ((head_spec (St.base W)).of fun v w1 ⟨hv, hS⟩ => ⟨_, hv, ?_⟩)
  refine (PNew_spec _ hS).of fun v w2 ⟨pb, hv, hS⟩ => ⟨_, hv, ?_⟩
  refine (PNew_spec _ hS).of fun v w3 ⟨qb, hv, hS⟩ => ⟨_, hv, ?_⟩
  generalize IntKind.wrap .i64 most = mo at hS
  refine Bif.i (fun h => by cases h) fun _ => Bif.i (fun h => by cases h) fun _ => ?_
  refine (Great_spec hl (by simp) hlen hS).of fun v w4 ⟨b, hv, hb, hS⟩ => ⟨_, hv, Bif.i (fun _ => ⟨rfl, [], hS.drop.drop⟩) fun hb' => ?_⟩
  refine ⟨fun vs w => (∃ k : Nat, vs = [.int .i64 k] ∧ k ≤ os.length) ∧ ∃ s t, Like s t ∧ St W [PumpA pb mo s, PumpA qb mo t, Base W] w, leftN os.length, ⟨⟨0, rfl, Nat.zero_le _⟩, _, _, ⟨rfl, rfl, rfl⟩, hS.p1⟩, fun i w hI => ?_⟩
  obtain ⟨⟨k, he, hk⟩, s, t, hL, hS⟩ := hI
  cases he
  refine Bif.i (fun hlt => ?_) fun _ => ⟨rfl, [], hS.drop.drop⟩
  have hlt : k < os.length := by have := of_decide_eq_true hlt; omega
  have ho := hok _ (List.getElem_mem hlt)
  obtain ⟨a, ha, h0, h1, h2, h3⟩ := op_at hl (by simp) hS hlt
  generalize os[k] = o at ho h0 h1 h2 h3
  refine ⟨a, ha, ⟨by omega, by omega⟩, LdI.at h0 (LdI.at h1 (LdL.at h2 (LdI.at h3 (NewC.i hS fun b w2 hS => St1.i (k0 := 0) hS (by simp) fun w3 hS => St1.i (k0 := 1) hS (by simp) fun w4 hS => St1.i (k0 := 2) hS (by simp) fun w5 hS => St1.i (k0 := 3) hS (by simp) fun w6 hS => ?_))))⟩
  have hS : St W [Row b 30 (opCells o), PumpA pb mo s, PumpA qb mo t, Base W] w6 := hS
  have next : ∀ (s t : PS) (w' : World), Like s t → St W [PumpA pb mo s, PumpA qb mo t, Base W] w' → ((∃ k' : Nat, [Value.int .i64 (IntKind.wrap .i64 ((k : Int) + 1))] = [.int .i64 k'] ∧ k' ≤ os.length) ∧ ∃ s t, Like s t ∧ St W [PumpA pb mo s, PumpA qb mo t, Base W] w') ∧ leftN os.length [Value.int .i64 (IntKind.wrap .i64 ((k : Int) + 1))] w' < leftN os.length [Value.int .i64 k] w := fun s t w' hL hS => by
    rw [up hlt hlen]
    exact ⟨⟨⟨k + 1, rfl, by omega⟩, s, t, hL, hS⟩, by show os.length - (k + 1) < os.length - k; omega⟩
  refine ⟨fun vs w => vs = [] ∧ (o.side = 0 ∨ o.side = 1) ∧ St W [Row b 30 (opCells o), PumpA pb mo s, PumpA qb mo t, Base W] w, LdI.i (k0 := 1) hS rfl (Bif.i (fun hs => LdI.i (k0 := 1) hS rfl (Bif.i (fun _ => next s t _ hL hS.drop) fun hs1 => LdI.i (k0 := 0) hS rfl (Bif.i (fun _ => next s t _ hL hS.drop) fun _ => ⟨rfl, .inr ?_, hS⟩))) fun hs => LdI.i (k0 := 0) hS rfl (Bif.i (fun _ => next s t _ hL hS.drop) fun _ => ⟨rfl, .inl ?_, hS⟩)), fun w7 hJ => ?_⟩
  · simpa using hs1
  · simpa using hs
  obtain ⟨_, hside, hS⟩ := hJ
  refine ⟨fun vs w => vs = [.bool (if o.what = 2 then decide (o.side = 1) else decide (o.side = 0))] ∧ St W [Row b 30 (opCells o), PumpA pb mo s, PumpA qb mo t, Base W] w, LdI.i (k0 := 0) hS rfl (Bif.i (fun hw => LdI.i (k0 := 1) hS rfl (Bif.i (fun h1 => ⟨?_, hS⟩) fun h1 => LdI.i (k0 := 0) hS rfl (Bif.i (fun hw2 => ?_) fun _ => ⟨?_, hS⟩))) fun hw => LdI.i (k0 := 0) hS rfl (Bif.i (fun _ => LdI.i (k0 := 1) hS rfl ⟨?_, hS⟩) fun hw2 => ?_)), fun own w8 hJ => ?_⟩
  · simp at hw h1; simp [hw, h1]
  · simp at hw hw2; exact absurd hw hw2
  · simp at hw h1; simp [hw, h1]
  · simp at hw; simp [hw]; rfl
  · simp at hw hw2; exact absurd hw2 hw
  obtain ⟨he, hS⟩ := hJ
  cases he
  refine LdI.i (k0 := 0) hS rfl ⟨fun vs w => vs = [] ∧ ∃ s t, Like s t ∧ St W [PumpA pb mo s, PumpA qb mo t, Base W] w, Bif.i (fun hw => ?_) fun hw => LdI.i (k0 := 0) hS rfl (Bif.i (fun hw3 => ?_) fun hw3 => ?_), fun w9 hJ => ?_⟩
  · have hw : o.what = 2 := by simpa using hw
    rw [if_pos hw]
    refine LdI.i (k0 := 1) hS rfl (LdI.i (k0 := 3) hS rfl ((POut_spec _ _ hS.p1).of fun v w9 ⟨p1, c1, hv, hS⟩ => ⟨_, _, _, _, hv, Bif.i (fun hown => ?_) fun hown => ⟨rfl, _, t, ?_, (St.pull [_, _] hS).drop.drop⟩⟩))
    · have hs1 : o.side = 1 := of_decide_eq_true hown
      refine LdI.i (k0 := 1) hS.p2 rfl (LdI.i (k0 := 3) hS.p2 rfl ((POut_spec _ _ hS.p3).of fun v w10 ⟨p2, c2, hv, hS⟩ => ⟨_, _, _, _, hv, ?_⟩))
      have eB : s.outB o.side o.nn = t.outB o.side o.nn := by rw [hs1]; exact hL.outB _
      have eE : s.outE o.side o.nn = t.outE o.side o.nn := by rw [hs1]; exact hL.outE _
      rw [eB] at hS ⊢
      refine str_rd uB uU8 uS hS (((OwnS.rd _).cons _).cons _) rfl ⟨_, rfl, str_rd uB uU8 uS hS (OwnS.rd _) rfl ⟨_, rfl, ?_⟩⟩
      refine Bif.i (fun h => by simp at h) fun _ => Bif.i (fun h => by rw [eE] at h; simp at h) fun _ => ⟨rfl, s.out o.side o.nn, t.out o.side o.nn, by rw [hs1]; exact hL.out _, ?_⟩
      exact (St.pull [_, _] hS.drop.p1.drop.p1).drop
    · have hs1 : o.side = 0 := by have := of_decide_eq_false hown; rcases hside with h | h; exact h; exact absurd h this
      rw [hs1]; exact hL.out' _
  · have hw : ¬ o.what = 2 := by simpa using hw
    rw [if_neg hw]
    refine LdI.i (k0 := 1) hS rfl ((PEnd_spec _ hS.p1).of fun v w9 ⟨hv, hS⟩ => ⟨_, hv, Bif.i (fun hown => ?_) fun hown => ⟨rfl, _, t, ?_, hS.p1.drop⟩⟩)
    · have hs1 : o.side = 0 := of_decide_eq_true hown
      refine LdI.i (k0 := 1) hS.p1 rfl ((PEnd_spec _ hS.p2).of fun v w10 ⟨hv, hS⟩ => ⟨_, hv, Bif.i (fun h => ?_) fun _ => ⟨rfl, s.end_ o.side, t.end_ o.side, by rw [hs1]; exact hL.end_, (St.pull [_, _] hS).drop.p1⟩⟩)
      rw [hs1, hL.hears] at h
      simp at h
    · have hs1 : o.side = 1 := by have := of_decide_eq_false hown; rcases hside with h | h; exact absurd h this; exact h
      rw [hs1]; exact hL.end'
  · have hw : ¬ o.what = 2 := by simpa using hw
    rw [if_neg hw]
    refine LdI.i (k0 := 1) hS rfl (LdL.i (k0 := 2) hS rfl ((PIn_spec _ (ho.2.1.mem (by simp)) ho.1 hS.p1).of fun v w9 ⟨hv, hS⟩ => ⟨_, hv, Bif.i (fun hown => ?_) fun hown => ⟨rfl, _, t, ?_, hS.p1.drop⟩⟩))
    · have hs1 : o.side = 0 := of_decide_eq_true hown
      refine LdI.i (k0 := 1) hS.p1 rfl (LdL.i (k0 := 2) hS.p1 rfl ((PIn_spec _ (ho.2.1.mem (by simp)) ho.1 hS.p2).of fun v w10 ⟨hv, hS⟩ => ⟨_, hv, Bif.i (fun h => ?_) fun _ => ⟨rfl, s.in_ (capOf mo) o.side o.xs, t.in_ (capOf mo) o.side o.xs, by rw [hs1]; exact hL.in_ _ _, (St.pull [_, _] hS).drop.p1⟩⟩))
      rw [hs1, hL.inN] at h
      simp at h
    · have hs1 : o.side = 1 := by have := of_decide_eq_false hown; rcases hside with h | h; exact absurd h this; exact h
      rw [hs1]; exact hL.in' _ _
  · obtain ⟨_, s, t, hL, hS⟩ := hJ
    have e1 : s.waits 1 = t.waits 1 := by simp [PS.waits, PS.to, hL.1]
    have e2 : s.room (capOf mo) 0 = t.room (capOf mo) 0 := by simp [PS.room, hL.hears, PS.at, hL.1]
    have e3 : s.moved 1 = t.moved 1 := by simp [PS.moved, PS.to, hL.1]
    refine (PWaits_spec _ hS).of fun v w10 ⟨hv, hS⟩ => ⟨_, hv, (PWaits_spec _ hS.p1).of fun v w11 ⟨hv, hS⟩ => ⟨_, hv, Bif.i (fun h => by rw [e1] at h; simp at h) fun _ => ?_⟩⟩
    refine (PRoom_spec _ hS.p1).of fun v w12 ⟨hv, hS⟩ => ⟨_, hv, (PRoom_spec _ hS.p1).of fun v w13 ⟨hv, hS⟩ => ⟨_, hv, Bif.i (fun h => by rw [e2] at h; simp at h) fun _ => ?_⟩⟩
    refine (PMoved_spec _ hS.p1).of fun v w14 ⟨hv, hS⟩ => ⟨_, hv, (PMoved_spec _ hS.p1).of fun v w15 ⟨hv, hS⟩ => ⟨_, hv, Bif.i (fun h => by rw [e3] at h; simp at h) fun _ => ?_⟩⟩
    exact next s t _ hL hS.p1
end Go.Proofs.Ytneilmoiahphkaa
