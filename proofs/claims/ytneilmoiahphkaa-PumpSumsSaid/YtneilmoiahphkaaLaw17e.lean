/-
  The law of the bytes that go both ways: sums.
-/
import Derived.Test.YtneilmoiahphkaaLaw17
set_option linter.unusedVariables false
set_option linter.unusedSimpArgs false
namespace Go.Proofs.Ytneilmoiahphkaa
open Go

/-- What a way may be behind so many calls. -/
def Way.Fine (w : Way) (m k : Nat) : Prop := 0 ≤ w.moved ∧ w.moved + w.bs.length ≤ k * 65536 ∧ w.bs.length ≤ m
def Fine (s : PS) (m k : Nat) : Prop := s.broken = false ∧ s.w0.Fine m k ∧ s.w1.Fine m k
theorem wrap_fine {w : Way} {m k : Nat} (h : w.Fine m k) (hk : k ≤ 400) (n : Int) : IntKind.wrap .i64 (w.moved + ((w.bs.take n.toNat).length : Int)) = w.moved + ((w.bs.take n.toNat).length : Int) := by
  obtain ⟨h1, h2, h3⟩ := h
  have : (w.bs.take n.toNat).length ≤ w.bs.length := by simp; omega
  exact w64 (by omega) (by omega)
theorem Way.Fine.out {w : Way} {m k : Nat} (h : w.Fine m k) (hk : k ≤ 400) (n : Int) : (w.out n).Fine m (k + 1) ∧ (w.out n).moved + (w.out n).bs.length = w.moved + w.bs.length := by
  have e := wrap_fine h hk n
  obtain ⟨h1, h2, h3⟩ := h
  have e2 : (w.bs.take n.toNat).length + (w.bs.drop n.toNat).length = w.bs.length := by simp; omega
  have e3 : (w.out n).moved = w.moved + ((w.bs.take n.toNat).length : Int) := e
  have e4 : (w.out n).bs = w.bs.drop n.toNat := rfl
  refine ⟨⟨?_, ?_, ?_⟩, ?_⟩
  · rw [e3]; omega
  · rw [e3, e4]; omega
  · rw [e4]; omega
  · rw [e3, e4]; omega
theorem Way.Fine.add {w : Way} {m k : Nat} (h : w.Fine m k) (hm : m ≤ 65536) (xs : List UInt8) : (w.add m xs).Fine m (k + 1) ∧ (w.add m xs).moved + (w.add m xs).bs.length = w.moved + w.bs.length + (min xs.length (m - w.bs.length) : Nat) := by
  obtain ⟨h1, h2, h3⟩ := h
  have e1 : (w.add m xs).moved = w.moved := rfl
  have e2 : (w.add m xs).bs.length = w.bs.length + min xs.length (m - w.bs.length) := by
    show (w.bs ++ xs.take (m - w.bs.length)).length = _
    simp; omega
  refine ⟨⟨?_, ?_, ?_⟩, ?_⟩
  · rw [e1]; exact h1
  · rw [e1, e2]; omega
  · rw [e2]; omega
  · rw [e1, e2]; omega
theorem Way.Fine.more {w : Way} {m k : Nat} (h : w.Fine m k) : w.Fine m (k + 1) := ⟨h.1, by have := h.2.1; omega, h.2.2⟩

/-- What came in at a side: what went out, and what waits. -/
def Way.sum (w : Way) : Int := w.moved + w.bs.length
theorem Fine.out {s : PS} {m k : Nat} (h : Fine s m k) (hk : k ≤ 400) (n j : Int) : Fine (s.out n j) m (k + 1) ∧ (s.out n j).w0.sum = s.w0.sum ∧ (s.out n j).w1.sum = s.w1.sum ∧ (s.out n j).w0.ended = s.w0.ended ∧ (s.out n j).w1.ended = s.w1.ended := by
  obtain ⟨h1, h2, h3⟩ := h
  unfold PS.out
  split
  · split
    · exact ⟨⟨rfl, h2.more, (h3.out hk j).1⟩, rfl, (h3.out hk j).2, rfl, rfl⟩
    · exact ⟨⟨rfl, (h2.out hk j).1, h3.more⟩, (h2.out hk j).2, rfl, rfl, rfl⟩
  · exact ⟨⟨h1, h2.more, h3.more⟩, rfl, rfl, rfl, rfl⟩
theorem Fine.end_ {s : PS} {m k : Nat} (h : Fine s m k) (n : Int) : Fine (s.end_ n) m (k + 1) ∧ (s.end_ n).w0.sum = s.w0.sum ∧ (s.end_ n).w1.sum = s.w1.sum := by
  obtain ⟨h1, h2, h3⟩ := h
  unfold PS.end_
  split
  · split
    · exact ⟨⟨h1, h2.more, h3.more⟩, rfl, rfl⟩
    · exact ⟨⟨h1, h2.more, h3.more⟩, rfl, rfl⟩
  · exact ⟨⟨h1, h2.more, h3.more⟩, rfl, rfl⟩
theorem ended_end {s : PS} (hb : s.broken = false) : (s.end_ 0).w0.ended = true ∧ (s.end_ 0).w1.ended = s.w1.ended ∧ (s.end_ 1).w1.ended = true ∧ (s.end_ 1).w0.ended = s.w0.ended := by
  have a0 : sideB 0 = true := rfl
  have a1 : sideB 1 = true := rfl
  unfold PS.end_ PS.hears PS.at
  rw [hb, a0, a1]
  refine ⟨?_, ?_, ?_, ?_⟩
  · cases h : s.w0.ended <;> simp [h]
  · cases h : s.w0.ended <;> simp [h]
  · cases h : s.w1.ended <;> simp [h]
  · cases h : s.w1.ended <;> simp [h]
theorem Fine.in_ {s : PS} {m k : Nat} (h : Fine s m k) (hm : m ≤ 65536) (xs : List UInt8) :
    (Fine (s.in_ m 0 xs) m (k + 1) ∧ (s.in_ m 0 xs).w0.sum = s.w0.sum + (s.inN m 0 xs : Nat) ∧ (s.in_ m 0 xs).w1.sum = s.w1.sum ∧ (s.in_ m 0 xs).w0.ended = s.w0.ended ∧ (s.in_ m 0 xs).w1.ended = s.w1.ended) ∧
    (Fine (s.in_ m 1 xs) m (k + 1) ∧ (s.in_ m 1 xs).w1.sum = s.w1.sum + (s.inN m 1 xs : Nat) ∧ (s.in_ m 1 xs).w0.sum = s.w0.sum ∧ (s.in_ m 1 xs).w0.ended = s.w0.ended ∧ (s.in_ m 1 xs).w1.ended = s.w1.ended) := by
  obtain ⟨h1, h2, h3⟩ := h
  constructor
  · unfold PS.in_ PS.inN
    split
    · exact ⟨⟨h1, (h2.add hm xs).1, h3.more⟩, (h2.add hm xs).2, rfl, rfl, rfl⟩
    · exact ⟨⟨h1, h2.more, h3.more⟩, by simp, rfl, rfl, rfl⟩
  · unfold PS.in_ PS.inN
    split
    · exact ⟨⟨h1, h2.more, (h3.add hm xs).1⟩, (h3.add hm xs).2, rfl, rfl, rfl⟩
    · exact ⟨⟨h1, h2.more, h3.more⟩, by simp, rfl, rfl, rfl⟩
theorem Sums_walk {W : World} {p : Option Addr} {os : List OpD} {c : Nat} (most : Int) (wm : (Lit.int .u8 most).wf = true) (hl : Rd [Base W] p (os.flatMap opCells)) (hc : os.length ≤ c) (hcm : c ≤ 9223372036854775807) (hok : ∀ o ∈ os, OpOk W o) :
    CallR Try.prog 6 #[.int .u8 most, .slice p os.length c] W fun v w' => v = .bool true ∧ ∃ r, St W (Base W :: r) w' := by
  have hm : 0 ≤ most ∧ most ≤ 255 := by simpa [Lit.wf, IntKind.min, IntKind.max, IntKind.signed, IntKind.bits] using wm
  have hlen : os.length ≤ 9223372036854775807 := Nat.le_trans hc hcm
  have hcap : (capOf most : Int) = most := by unfold capOf; omega
  have hcap2 : capOf most ≤ 65536 := by omega
  refine F6_of ?_
  unfold F6
  rw [w64 (n := most) (by omega) (by omega)]
  refine ((head_spec (St.base W)).of fun v w1 ⟨hv, hS⟩ => ⟨_, hv, ?_⟩)
  refine (PNew_spec _ hS).of fun v w2 ⟨pb, hv, hS⟩ => ⟨_, hv, Bif.i (fun h => by cases h) fun _ => ?_⟩
  refine (Great_spec hl (by simp) hlen hS).of fun v w4 ⟨b, hv, hb, hS⟩ => ⟨_, hv, Bif.i (fun _ => ⟨rfl, [], hS.drop⟩) fun hb' => ?_⟩
  have hl4 := hb hb'
  refine NewC.i hS fun b13 w5 hS => NewC.i hS fun b15 w6 hS => ?_
  refine ⟨fun vs w => ∃ (k : Nat) (s : PS), vs = [.int .i64 k] ∧ k ≤ os.length ∧ Fine s (capOf most) k ∧ St W [PumpA pb most s, Row b13 3 [.int .i64 s.w0.sum, .int .i64 s.w1.sum], Row b15 4 [.bool s.w0.ended, .bool s.w1.ended], Base W] w, leftN os.length, ⟨0, PS.new, rfl, Nat.zero_le _, ⟨rfl, ⟨by decide, by decide, by simp [PS.new, Way.new]⟩, ⟨by decide, by decide, by simp [PS.new, Way.new]⟩⟩, hS.p2.perm (List.Perm.cons _ (List.Perm.swap _ _ _))⟩, fun i w hI => ?_⟩
  obtain ⟨k, s, he, hk, hF, hS⟩ := hI
  cases he
  refine Bif.i (fun hlt => ?_) fun _ => ⟨rfl, [], hS.drop.drop.drop⟩
  have hlt : k < os.length := by have := of_decide_eq_true hlt; omega
  have ho := hok _ (List.getElem_mem hlt)
  obtain ⟨a, ha, h0, h1, h2, h3⟩ := op_at hl (by simp) hS hlt
  generalize os[k] = o at ho h0 h1 h2 h3
  refine ⟨a, ha, ⟨by omega, by omega⟩, LdI.at h0 (LdI.at h1 (LdL.at h2 (LdI.at h3 (NewC.i hS fun b w2 hS => St1.i (k0 := 0) hS (by simp) fun w3 hS => St1.i (k0 := 1) hS (by simp) fun w4 hS => St1.i (k0 := 2) hS (by simp) fun w5 hS => St1.i (k0 := 3) hS (by simp) fun w6 hS => ?_))))⟩
  have hS : St W (Row b 30 (opCells o) :: [PumpA pb most s, Row b13 3 [.int .i64 s.w0.sum, .int .i64 s.w1.sum], Row b15 4 [.bool s.w0.ended, .bool s.w1.ended], Base W]) w6 := hS
  have next : ∀ (s : PS) (w' : World), Fine s (capOf most) (k + 1) → St W [PumpA pb most s, Row b13 3 [.int .i64 s.w0.sum, .int .i64 s.w1.sum], Row b15 4 [.bool s.w0.ended, .bool s.w1.ended], Base W] w' → (∃ (k' : Nat) (s : PS), [Value.int .i64 (IntKind.wrap .i64 ((k : Int) + 1))] = [.int .i64 k'] ∧ k' ≤ os.length ∧ Fine s (capOf most) k' ∧ St W [PumpA pb most s, Row b13 3 [.int .i64 s.w0.sum, .int .i64 s.w1.sum], Row b15 4 [.bool s.w0.ended, .bool s.w1.ended], Base W] w') ∧ leftN os.length [Value.int .i64 (IntKind.wrap .i64 ((k : Int) + 1))] w' < leftN os.length [Value.int .i64 k] w := fun s w' hF hS => by
    rw [up hlt hlen]
    exact ⟨⟨k + 1, s, rfl, by omega, hF, hS⟩, by show os.length - (k + 1) < os.length - k; omega⟩
  have hF' : Fine s (capOf most) (k + 1) := ⟨hF.1, hF.2.1.more, hF.2.2.more⟩
  refine ⟨fun vs w => vs = [] ∧ (o.side = 0 ∨ o.side = 1) ∧ St W (Row b 30 (opCells o) :: [PumpA pb most s, Row b13 3 [.int .i64 s.w0.sum, .int .i64 s.w1.sum], Row b15 4 [.bool s.w0.ended, .bool s.w1.ended], Base W]) w, LdI.i (k0 := 1) hS rfl (Bif.i (fun hs => LdI.i (k0 := 1) hS rfl (Bif.i (fun _ => next s _ hF' hS.drop) fun hs1 => LdI.i (k0 := 0) hS rfl (Bif.i (fun _ => next s _ hF' hS.drop) fun _ => ⟨rfl, .inr ?_, hS⟩))) fun hs => LdI.i (k0 := 0) hS rfl (Bif.i (fun _ => next s _ hF' hS.drop) fun _ => ⟨rfl, .inl ?_, hS⟩)), fun w7 hJ => ?_⟩
  · simpa using hs1
  · simpa using hs
  obtain ⟨_, hside, hS⟩ := hJ
  refine LdI.i (k0 := 0) hS rfl ⟨fun vs w => vs = [] ∧ ∃ s, Fine s (capOf most) (k + 1) ∧ St W [PumpA pb most s, Row b13 3 [.int .i64 s.w0.sum, .int .i64 s.w1.sum], Row b15 4 [.bool s.w0.ended, .bool s.w1.ended], Base W] w, Bif.i (fun hw => ?_) fun hw => LdI.i (k0 := 0) hS rfl (Bif.i (fun hw3 => ?_) fun hw3 => ?_), fun w9 hJ => ?_⟩
  · refine LdI.i (k0 := 1) hS rfl (LdI.i (k0 := 3) hS rfl ((POut_spec _ _ hS.p1).of fun v w9 ⟨p1, c1, hv, hS⟩ => ⟨_, _, _, _, hv, rfl, s.out o.side o.nn, ?_⟩))
    obtain ⟨f1, f2, f3, f4, f5⟩ := hF.out (by omega) o.side o.nn
    refine ⟨f1, ?_⟩
    rw [f2, f3, f4, f5]
    exact hS.drop.p1.drop
  · refine LdI.i (k0 := 1) hS rfl ((PEnd_spec _ hS.p1).of fun v w9 ⟨hv, hS⟩ => ⟨_, hv, LdI.i (k0 := 1) hS.p1 rfl ?_⟩)
    rcases hside with hs | hs
    · rw [hs] at hS ⊢
      obtain ⟨f1, f2, f3⟩ := hF.end_ 0
      obtain ⟨e1, e2, e3, e4⟩ := ended_end hF.1
      refine ⟨_, rfl, ⟨by decide, by decide⟩, St1.i (k0 := 0) hS.p3 (by simp) fun w10 hS => ⟨rfl, s.end_ 0, f1, ?_⟩⟩
      rw [f2, f3, e1, e2]
      exact St.push [_, _] hS.p2.drop
    · rw [hs] at hS ⊢
      obtain ⟨f1, f2, f3⟩ := hF.end_ 1
      obtain ⟨e1, e2, e3, e4⟩ := ended_end hF.1
      refine ⟨_, rfl, ⟨by decide, by decide⟩, St1.i (k0 := 1) hS.p3 (by simp) fun w10 hS => ⟨rfl, s.end_ 1, f1, ?_⟩⟩
      rw [f2, f3, e3, e4]
      exact St.push [_, _] hS.p2.drop
  · rcases hside with hs | hs
    · obtain ⟨f1, f2, f3, f4, f5⟩ := (hF.in_ hcap2 o.xs).1
      have hb0 : 0 ≤ (s.in_ (capOf most) 0 o.xs).w0.sum ∧ (s.in_ (capOf most) 0 o.xs).w0.sum ≤ 401 * 65536 := by
        have g := f1.2.1
        exact ⟨by have := g.1; unfold Way.sum; omega, by have := g.2.1; unfold Way.sum; omega⟩
      refine ⟨StC W _, StC.start hS, o.side, fun G w10 h10 => LdI.i (k0 := 1) h10 rfl ⟨rfl, h10⟩, o.side, fun G w10 h10 => LdI.i (k0 := 1) h10 rfl ⟨rfl, h10⟩, ?_⟩
      rw [hs]
      refine ⟨_, rfl, ⟨by decide, by decide⟩, s.w0.sum, fun G w10 h10 => LdI.i (k0 := 0) (St.p2 h10) rfl ⟨rfl, h10⟩, o.side, fun G w10 h10 => LdI.i (k0 := 1) h10 rfl ⟨rfl, h10⟩, o.p, o.xs.length, o.c, fun G w10 h10 => LdL.i (k0 := 2) h10 rfl ⟨rfl, h10⟩, ?_⟩
      rw [hs]
      refine ⟨fun v => Cls.only (v = .int .i64 (s.inN (capOf most) 0 o.xs : Nat)) (StC W [PumpA pb most (s.in_ (capOf most) 0 o.xs), Row b 30 (opCells o), Row b13 3 [.int .i64 s.w0.sum, .int .i64 s.w1.sum], Row b15 4 [.bool s.w0.ended, .bool s.w1.ended], Base W]), fun G w10 h10 => (PIn_spec 0 ((ho.2.1.mem (l := [Row b 30 (opCells o), Row b13 3 [.int .i64 s.w0.sum, .int .i64 s.w1.sum], Row b15 4 [.bool s.w0.ended, .bool s.w1.ended], Base W]) (by simp)).app (pts G)) ho.1 (St.p1 h10)).of fun v w11 ⟨hv, h11⟩ => ⟨_, hv, ⟨_, rfl⟩, rfl, h11⟩, fun x1 => ⟨⟨fun G w10 ⟨hv, h10⟩ => LdI.i (k0 := 0) (St.p2 h10) rfl ⟨rfl, hv, h10⟩, fun G w10 ⟨hv, h10⟩ => LdI.i (k0 := 1) (St.p1 h10) (by rw [← hs]; rfl) ⟨rfl, hv, h10⟩, fun G w10 ⟨hv, h10⟩ => LdI.i (k0 := 1) (St.p1 h10) (by rw [← hs]; rfl) ⟨rfl, hv, h10⟩⟩, _, rfl, ⟨by decide, by decide⟩, ?_⟩⟩
      refine ⟨fun v => StC W [Row b13 3 [.int .i64 (s.in_ (capOf most) 0 o.xs).w0.sum, .int .i64 s.w1.sum], PumpA pb most (s.in_ (capOf most) 0 o.xs), Row b 30 (opCells o), Row b15 4 [.bool s.w0.ended, .bool s.w1.ended], Base W], fun G w10 ⟨hv, h10⟩ => ?_, trivial, fun G w10 h10 => ⟨rfl, s.in_ (capOf most) 0 o.xs, f1, ?_⟩⟩
      · cases hv
        refine St1.i (k0 := 0) (St.p2 h10) (by simp) fun w11 h11 => ⟨isR0, ?_⟩
        rw [← f2, w64 (by omega) (by omega)] at h11
        exact h11
      · have hS := (StC.ends h10).p1
        rw [f3, f4, f5]
        exact hS.p2.drop
    · obtain ⟨f1, f2, f3, f4, f5⟩ := (hF.in_ hcap2 o.xs).2
      have hb0 : 0 ≤ (s.in_ (capOf most) 1 o.xs).w1.sum ∧ (s.in_ (capOf most) 1 o.xs).w1.sum ≤ 401 * 65536 := by
        have g := f1.2.2
        exact ⟨by have := g.1; unfold Way.sum; omega, by have := g.2.1; unfold Way.sum; omega⟩
      refine ⟨StC W _, StC.start hS, o.side, fun G w10 h10 => LdI.i (k0 := 1) h10 rfl ⟨rfl, h10⟩, o.side, fun G w10 h10 => LdI.i (k0 := 1) h10 rfl ⟨rfl, h10⟩, ?_⟩
      rw [hs]
      refine ⟨_, rfl, ⟨by decide, by decide⟩, s.w1.sum, fun G w10 h10 => LdI.i (k0 := 1) (St.p2 h10) rfl ⟨rfl, h10⟩, o.side, fun G w10 h10 => LdI.i (k0 := 1) h10 rfl ⟨rfl, h10⟩, o.p, o.xs.length, o.c, fun G w10 h10 => LdL.i (k0 := 2) h10 rfl ⟨rfl, h10⟩, ?_⟩
      rw [hs]
      refine ⟨fun v => Cls.only (v = .int .i64 (s.inN (capOf most) 1 o.xs : Nat)) (StC W [PumpA pb most (s.in_ (capOf most) 1 o.xs), Row b 30 (opCells o), Row b13 3 [.int .i64 s.w0.sum, .int .i64 s.w1.sum], Row b15 4 [.bool s.w0.ended, .bool s.w1.ended], Base W]), fun G w10 h10 => (PIn_spec 1 ((ho.2.1.mem (l := [Row b 30 (opCells o), Row b13 3 [.int .i64 s.w0.sum, .int .i64 s.w1.sum], Row b15 4 [.bool s.w0.ended, .bool s.w1.ended], Base W]) (by simp)).app (pts G)) ho.1 (St.p1 h10)).of fun v w11 ⟨hv, h11⟩ => ⟨_, hv, ⟨_, rfl⟩, rfl, h11⟩, fun x1 => ⟨⟨fun G w10 ⟨hv, h10⟩ => LdI.i (k0 := 1) (St.p2 h10) rfl ⟨rfl, hv, h10⟩, fun G w10 ⟨hv, h10⟩ => LdI.i (k0 := 1) (St.p1 h10) (by rw [← hs]; rfl) ⟨rfl, hv, h10⟩, fun G w10 ⟨hv, h10⟩ => LdI.i (k0 := 1) (St.p1 h10) (by rw [← hs]; rfl) ⟨rfl, hv, h10⟩⟩, _, rfl, ⟨by decide, by decide⟩, ?_⟩⟩
      refine ⟨fun v => StC W [Row b13 3 [.int .i64 s.w0.sum, .int .i64 (s.in_ (capOf most) 1 o.xs).w1.sum], PumpA pb most (s.in_ (capOf most) 1 o.xs), Row b 30 (opCells o), Row b15 4 [.bool s.w0.ended, .bool s.w1.ended], Base W], fun G w10 ⟨hv, h10⟩ => ?_, trivial, fun G w10 h10 => ⟨rfl, s.in_ (capOf most) 1 o.xs, f1, ?_⟩⟩
      · cases hv
        refine St1.i (k0 := 1) (St.p2 h10) (by simp) fun w11 h11 => ⟨isR0, ?_⟩
        rw [← f2, w64 (by omega) (by omega)] at h11
        exact h11
      · have hS := (StC.ends h10).p1
        rw [f3, f4, f5]
        exact hS.p2.drop
  · obtain ⟨_, s, hF, hS⟩ := hJ
    refine ⟨fun vs w => (vs = [.int .i64 0] ∨ vs = [.int .i64 1] ∨ vs = [.int .i64 2]) ∧ St W [PumpA pb most s, Row b13 3 [.int .i64 s.w0.sum, .int .i64 s.w1.sum], Row b15 4 [.bool s.w0.ended, .bool s.w1.ended], Base W] w, leftN 2, ⟨.inl rfl, hS⟩, fun x w9 hI => ?_⟩
    obtain ⟨hx, hS⟩ := hI
    rcases hx with he | he | he <;> cases he
    · refine Bif.i (fun _ => ?_) fun h => by simp at h
      have hs1 : s.w0.moved + (s.w0.bs.length : Int) = s.w0.sum := rfl
      have hmv : s.moved 1 = s.w0.moved := rfl
      have hwt : s.waits 1 = s.w0.bs.length := rfl
      refine ⟨StC W _, StC.start hS, _, rfl, ⟨by decide, by decide⟩, _, fun G w10 h10 => LdI.i (k0 := 0) (St.p1 h10) rfl ⟨rfl, h10⟩, ?_⟩
      refine ⟨fun v => Cls.only (v = .int .i64 s.w0.moved) (StC W [PumpA pb most s, Row b13 3 [.int .i64 s.w0.sum, .int .i64 s.w1.sum], Row b15 4 [.bool s.w0.ended, .bool s.w1.ended], Base W]), fun G w10 h10 => (PMoved_spec 1 h10).of fun v w11 ⟨hv, h11⟩ => ⟨_, hv, ⟨_, rfl⟩, rfl, h11⟩, fun x1 => ⟨fun G w10 ⟨hv, h10⟩ => LdI.i (k0 := 0) (St.p1 h10) rfl ⟨rfl, hv, h10⟩, ?_⟩⟩
      refine ⟨fun v => Cls.only (v = .int .i64 (s.w0.bs.length : Nat) ∧ Value.int .i64 x1 = .int .i64 s.w0.moved) (StC W [PumpA pb most s, Row b13 3 [.int .i64 s.w0.sum, .int .i64 s.w1.sum], Row b15 4 [.bool s.w0.ended, .bool s.w1.ended], Base W]), fun G w10 ⟨hv, h10⟩ => (PWaits_spec 1 h10).of fun v w11 ⟨hv2, h11⟩ => ⟨_, hv2, ⟨_, rfl⟩, ⟨rfl, hv⟩, h11⟩, fun x2 => ⟨fun G w10 ⟨hv, h10⟩ => LdI.i (k0 := 0) (St.p1 h10) rfl ⟨rfl, hv, h10⟩, ?_⟩⟩
      refine Bif.i (fun h G w10 ⟨⟨hv2, hv1⟩, h10⟩ => ?_) fun _ => ⟨_, rfl, ⟨by decide, by decide⟩, s.w0.ended, fun G w10 ⟨hv, h10⟩ => LdB.i (k0 := 0) (St.p2 h10) rfl ⟨rfl, hv, h10⟩, Bif.i (fun hne => ?_) fun hne => ?_⟩
      · cases hv1
        cases hv2
        obtain ⟨g1, g2, g3⟩ := hF.2.1
        rw [w64 (by omega) (by omega), hs1] at h
        simp at h
      · have hne : s.w0.ended = false := by simpa using hne
        have hrm : s.room (capOf most) 0 = capOf most - s.w0.bs.length := by
          have : s.hears 0 = true := by simp [PS.hears, PS.at, hF.1, hne]; rfl
          simp [PS.room, this, PS.at]
        refine ⟨fun v => Cls.only (v = .int .i64 (s.room (capOf most) 0 : Nat)) (StC W [PumpA pb most s, Row b13 3 [.int .i64 s.w0.sum, .int .i64 s.w1.sum], Row b15 4 [.bool s.w0.ended, .bool s.w1.ended], Base W]), fun G w10 ⟨hv, h10⟩ => (PRoom_spec 0 h10).of fun v w11 ⟨hv2, h11⟩ => ⟨_, hv2, ⟨_, rfl⟩, rfl, h11⟩, fun x3 => ⟨trivial, ?_⟩⟩
        refine ⟨fun v => Cls.only (v = .int .i64 (s.w0.bs.length : Nat) ∧ Value.int .i64 x3 = .int .i64 (s.room (capOf most) 0 : Nat)) (StC W [PumpA pb most s, Row b13 3 [.int .i64 s.w0.sum, .int .i64 s.w1.sum], Row b15 4 [.bool s.w0.ended, .bool s.w1.ended], Base W]), fun G w10 ⟨hv, h10⟩ => (PWaits_spec 1 h10).of fun v w11 ⟨hv2, h11⟩ => ⟨_, hv2, ⟨_, rfl⟩, ⟨rfl, hv⟩, h11⟩, fun x4 => ⟨trivial, Bif.i (fun h G w10 ⟨⟨hv2, hv1⟩, h10⟩ => ?_) fun _ => ⟨_, rfl, ⟨by decide, by decide⟩, s.w0.ended, fun G w10 ⟨hv, h10⟩ => LdB.i (k0 := 0) (St.p2 h10) rfl ⟨rfl, hv, h10⟩, Bif.i (fun he => by rw [hne] at he; cases he) fun _ G w10 ⟨_, h10⟩ => ⟨⟨.inr (.inl rfl), StC.ends h10⟩, (show (2 - 1 : Nat) < 2 - 0 by decide)⟩⟩⟩⟩
        cases hv1
        cases hv2
        obtain ⟨g1, g2, g3⟩ := hF.2.1
        rw [w64 (by omega) (by omega), hrm] at h
        simp at h
        omega
      · have hne : s.w0.ended = true := by simpa using hne
        have hrm : s.room (capOf most) 0 = 0 := by
          have : s.hears 0 = false := by simp [PS.hears, PS.at, hne]
          simp [PS.room, this]
        refine ⟨_, rfl, ⟨by decide, by decide⟩, s.w0.ended, fun G w10 ⟨hv, h10⟩ => LdB.i (k0 := 0) (St.p2 h10) rfl ⟨rfl, hv, h10⟩, Bif.i (fun _ => ?_) fun he => by rw [hne] at he; cases he⟩
        refine ⟨fun v => Cls.only (v = .int .i64 (s.room (capOf most) 0 : Nat)) (StC W [PumpA pb most s, Row b13 3 [.int .i64 s.w0.sum, .int .i64 s.w1.sum], Row b15 4 [.bool s.w0.ended, .bool s.w1.ended], Base W]), fun G w10 ⟨hv, h10⟩ => (PRoom_spec 0 h10).of fun v w11 ⟨hv2, h11⟩ => ⟨_, hv2, ⟨_, rfl⟩, rfl, h11⟩, fun x3 => ⟨trivial, fun G w10 ⟨hv, h10⟩ => Bif.i (fun h => ?_) fun _ => ⟨⟨.inr (.inl rfl), StC.ends h10⟩, (show (2 - 1 : Nat) < 2 - 0 by decide)⟩⟩⟩
        cases hv
        rw [hrm] at h
        simp at h
    · refine Bif.i (fun _ => ?_) fun h => by simp at h
      have hs1 : s.w1.moved + (s.w1.bs.length : Int) = s.w1.sum := rfl
      have hmv : s.moved 0 = s.w1.moved := rfl
      have hwt : s.waits 0 = s.w1.bs.length := rfl
      refine ⟨StC W _, StC.start hS, _, rfl, ⟨by decide, by decide⟩, _, fun G w10 h10 => LdI.i (k0 := 1) (St.p1 h10) rfl ⟨rfl, h10⟩, ?_⟩
      refine ⟨fun v => Cls.only (v = .int .i64 s.w1.moved) (StC W [PumpA pb most s, Row b13 3 [.int .i64 s.w0.sum, .int .i64 s.w1.sum], Row b15 4 [.bool s.w0.ended, .bool s.w1.ended], Base W]), fun G w10 h10 => (PMoved_spec 0 h10).of fun v w11 ⟨hv, h11⟩ => ⟨_, hv, ⟨_, rfl⟩, rfl, h11⟩, fun x1 => ⟨fun G w10 ⟨hv, h10⟩ => LdI.i (k0 := 1) (St.p1 h10) rfl ⟨rfl, hv, h10⟩, ?_⟩⟩
      refine ⟨fun v => Cls.only (v = .int .i64 (s.w1.bs.length : Nat) ∧ Value.int .i64 x1 = .int .i64 s.w1.moved) (StC W [PumpA pb most s, Row b13 3 [.int .i64 s.w0.sum, .int .i64 s.w1.sum], Row b15 4 [.bool s.w0.ended, .bool s.w1.ended], Base W]), fun G w10 ⟨hv, h10⟩ => (PWaits_spec 0 h10).of fun v w11 ⟨hv2, h11⟩ => ⟨_, hv2, ⟨_, rfl⟩, ⟨rfl, hv⟩, h11⟩, fun x2 => ⟨fun G w10 ⟨hv, h10⟩ => LdI.i (k0 := 1) (St.p1 h10) rfl ⟨rfl, hv, h10⟩, ?_⟩⟩
      refine Bif.i (fun h G w10 ⟨⟨hv2, hv1⟩, h10⟩ => ?_) fun _ => ⟨_, rfl, ⟨by decide, by decide⟩, s.w1.ended, fun G w10 ⟨hv, h10⟩ => LdB.i (k0 := 1) (St.p2 h10) rfl ⟨rfl, hv, h10⟩, Bif.i (fun hne => ?_) fun hne => ?_⟩
      · cases hv1
        cases hv2
        obtain ⟨g1, g2, g3⟩ := hF.2.2
        rw [w64 (by omega) (by omega), hs1] at h
        simp at h
      · have hne : s.w1.ended = false := by simpa using hne
        have hrm : s.room (capOf most) 1 = capOf most - s.w1.bs.length := by
          have : s.hears 1 = true := by simp [PS.hears, PS.at, hF.1, hne]; rfl
          simp [PS.room, this, PS.at]
        refine ⟨fun v => Cls.only (v = .int .i64 (s.room (capOf most) 1 : Nat)) (StC W [PumpA pb most s, Row b13 3 [.int .i64 s.w0.sum, .int .i64 s.w1.sum], Row b15 4 [.bool s.w0.ended, .bool s.w1.ended], Base W]), fun G w10 ⟨hv, h10⟩ => (PRoom_spec 1 h10).of fun v w11 ⟨hv2, h11⟩ => ⟨_, hv2, ⟨_, rfl⟩, rfl, h11⟩, fun x3 => ⟨trivial, ?_⟩⟩
        refine ⟨fun v => Cls.only (v = .int .i64 (s.w1.bs.length : Nat) ∧ Value.int .i64 x3 = .int .i64 (s.room (capOf most) 1 : Nat)) (StC W [PumpA pb most s, Row b13 3 [.int .i64 s.w0.sum, .int .i64 s.w1.sum], Row b15 4 [.bool s.w0.ended, .bool s.w1.ended], Base W]), fun G w10 ⟨hv, h10⟩ => (PWaits_spec 0 h10).of fun v w11 ⟨hv2, h11⟩ => ⟨_, hv2, ⟨_, rfl⟩, ⟨rfl, hv⟩, h11⟩, fun x4 => ⟨trivial, Bif.i (fun h G w10 ⟨⟨hv2, hv1⟩, h10⟩ => ?_) fun _ => ⟨_, rfl, ⟨by decide, by decide⟩, s.w1.ended, fun G w10 ⟨hv, h10⟩ => LdB.i (k0 := 1) (St.p2 h10) rfl ⟨rfl, hv, h10⟩, Bif.i (fun he => by rw [hne] at he; cases he) fun _ G w10 ⟨_, h10⟩ => ⟨⟨.inr (.inr rfl), StC.ends h10⟩, (show (2 - 2 : Nat) < 2 - 1 by decide)⟩⟩⟩⟩
        cases hv1
        cases hv2
        obtain ⟨g1, g2, g3⟩ := hF.2.2
        rw [w64 (by omega) (by omega), hrm] at h
        simp at h
        omega
      · have hne : s.w1.ended = true := by simpa using hne
        have hrm : s.room (capOf most) 1 = 0 := by
          have : s.hears 1 = false := by simp [PS.hears, PS.at, hne]
          simp [PS.room, this]
        refine ⟨_, rfl, ⟨by decide, by decide⟩, s.w1.ended, fun G w10 ⟨hv, h10⟩ => LdB.i (k0 := 1) (St.p2 h10) rfl ⟨rfl, hv, h10⟩, Bif.i (fun _ => ?_) fun he => by rw [hne] at he; cases he⟩
        refine ⟨fun v => Cls.only (v = .int .i64 (s.room (capOf most) 1 : Nat)) (StC W [PumpA pb most s, Row b13 3 [.int .i64 s.w0.sum, .int .i64 s.w1.sum], Row b15 4 [.bool s.w0.ended, .bool s.w1.ended], Base W]), fun G w10 ⟨hv, h10⟩ => (PRoom_spec 1 h10).of fun v w11 ⟨hv2, h11⟩ => ⟨_, hv2, ⟨_, rfl⟩, rfl, h11⟩, fun x3 => ⟨trivial, fun G w10 ⟨hv, h10⟩ => Bif.i (fun h => ?_) fun _ => ⟨⟨.inr (.inr rfl), StC.ends h10⟩, (show (2 - 2 : Nat) < 2 - 1 by decide)⟩⟩⟩
        cases hv
        rw [hrm] at h
        simp at h
    · exact Bif.i (fun h => by simp at h) fun _ => next s _ hF hS
end Go.Proofs.Ytneilmoiahphkaa
