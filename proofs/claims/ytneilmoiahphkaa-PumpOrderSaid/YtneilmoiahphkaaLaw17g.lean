/-
  The law of the bytes that go both ways: order.
-/
import Derived.Test.YtneilmoiahphkaaLaw17
import Derived.Test.YtneilmoiahphkaaPos
set_option linter.unusedVariables false
set_option linter.unusedSimpArgs false
namespace Go.Proofs.Ytneilmoiahphkaa
open Go

/-- What a way may be behind so many calls. -/
def Way.Fine (w : Way) (m k : Nat) : Prop := 0 ≤ w.moved ∧ w.moved + w.bs.length ≤ k * 65536 ∧ w.bs.length ≤ m
def Fine (s : PS) (m k : Nat) : Prop := s.broken = false ∧ s.w0.Fine m k ∧ s.w1.Fine m k
theorem wrap_fine {w : Way} {m k : Nat} (h : w.Fine m k) (hk : k ≤ 400) (n : Int) : IntKind.wrap .i64 (w.moved + ((w.bs.take n.toNat).length : Int)) = w.moved + ((w.bs.take n.toNat).length : Int) := by
  obtain ⟨h1, h2, h3⟩ := h
  have : (w.bs.take n.toNat).length ≤ w.bs.length := by simp; omega
  exact w64 (by omega) (by omega)
theorem Way.Fine.out {w : Way} {m k : Nat} (h : w.Fine m k) (hk : k ≤ 400) (n : Int) : (w.out n).Fine m (k + 1) ∧ (w.out n).moved + (w.out n).bs.length = w.moved + w.bs.length := by
  have e := wrap_fine h hk n
  obtain ⟨h1, h2, h3⟩ := h
  have e2 : (w.bs.take n.toNat).length + (w.bs.drop n.toNat).length = w.bs.length := by simp; omega
  have e3 : (w.out n).moved = w.moved + ((w.bs.take n.toNat).length : Int) := e
  have e4 : (w.out n).bs = w.bs.drop n.toNat := rfl
  refine ⟨⟨?_, ?_, ?_⟩, ?_⟩
  · rw [e3]; omega
  · rw [e3, e4]; omega
  · rw [e4]; omega
  · rw [e3, e4]; omega
theorem Way.Fine.add {w : Way} {m k : Nat} (h : w.Fine m k) (hm : m ≤ 65536) (xs : List UInt8) : (w.add m xs).Fine m (k + 1) ∧ (w.add m xs).moved + (w.add m xs).bs.length = w.moved + w.bs.length + (min xs.length (m - w.bs.length) : Nat) := by
  obtain ⟨h1, h2, h3⟩ := h
  have e1 : (w.add m xs).moved = w.moved := rfl
  have e2 : (w.add m xs).bs.length = w.bs.length + min xs.length (m - w.bs.length) := by
    show (w.bs ++ xs.take (m - w.bs.length)).length = _
    simp; omega
  refine ⟨⟨?_, ?_, ?_⟩, ?_⟩
  · rw [e1]; exact h1
  · rw [e1, e2]; omega
  · rw [e2]; omega
  · rw [e1, e2]; omega
theorem Way.Fine.more {w : Way} {m k : Nat} (h : w.Fine m k) : w.Fine m (k + 1) := ⟨h.1, by have := h.2.1; omega, h.2.2⟩

/-- What came in at a side: what went out, and what waits. -/
def Way.sum (w : Way) : Int := w.moved + w.bs.length
theorem Fine.out {s : PS} {m k : Nat} (h : Fine s m k) (hk : k ≤ 400) (n j : Int) : Fine (s.out n j) m (k + 1) ∧ (s.out n j).w0.sum = s.w0.sum ∧ (s.out n j).w1.sum = s.w1.sum ∧ (s.out n j).w0.ended = s.w0.ended ∧ (s.out n j).w1.ended = s.w1.ended := by
  obtain ⟨h1, h2, h3⟩ := h
  unfold PS.out
  split
  · split
    · exact ⟨⟨rfl, h2.more, (h3.out hk j).1⟩, rfl, (h3.out hk j).2, rfl, rfl⟩
    · exact ⟨⟨rfl, (h2.out hk j).1, h3.more⟩, (h2.out hk j).2, rfl, rfl, rfl⟩
  · exact ⟨⟨h1, h2.more, h3.more⟩, rfl, rfl, rfl, rfl⟩
theorem Fine.end_ {s : PS} {m k : Nat} (h : Fine s m k) (n : Int) : Fine (s.end_ n) m (k + 1) ∧ (s.end_ n).w0.sum = s.w0.sum ∧ (s.end_ n).w1.sum = s.w1.sum := by
  obtain ⟨h1, h2, h3⟩ := h
  unfold PS.end_
  split
  · split
    · exact ⟨⟨h1, h2.more, h3.more⟩, rfl, rfl⟩
    · exact ⟨⟨h1, h2.more, h3.more⟩, rfl, rfl⟩
  · exact ⟨⟨h1, h2.more, h3.more⟩, rfl, rfl⟩
theorem ended_end {s : PS} (hb : s.broken = false) : (s.end_ 0).w0.ended = true ∧ (s.end_ 0).w1.ended = s.w1.ended ∧ (s.end_ 1).w1.ended = true ∧ (s.end_ 1).w0.ended = s.w0.ended := by
  have a0 : sideB 0 = true := rfl
  have a1 : sideB 1 = true := rfl
  unfold PS.end_ PS.hears PS.at
  rw [hb, a0, a1]
  refine ⟨?_, ?_, ?_, ?_⟩
  · cases h : s.w0.ended <;> simp [h]
  · cases h : s.w0.ended <;> simp [h]
  · cases h : s.w1.ended <;> simp [h]
  · cases h : s.w1.ended <;> simp [h]
theorem Fine.in_ {s : PS} {m k : Nat} (h : Fine s m k) (hm : m ≤ 65536) (xs : List UInt8) :
    (Fine (s.in_ m 0 xs) m (k + 1) ∧ (s.in_ m 0 xs).w0.sum = s.w0.sum + (s.inN m 0 xs : Nat) ∧ (s.in_ m 0 xs).w1.sum = s.w1.sum ∧ (s.in_ m 0 xs).w0.ended = s.w0.ended ∧ (s.in_ m 0 xs).w1.ended = s.w1.ended) ∧
    (Fine (s.in_ m 1 xs) m (k + 1) ∧ (s.in_ m 1 xs).w1.sum = s.w1.sum + (s.inN m 1 xs : Nat) ∧ (s.in_ m 1 xs).w0.sum = s.w0.sum ∧ (s.in_ m 1 xs).w0.ended = s.w0.ended ∧ (s.in_ m 1 xs).w1.ended = s.w1.ended) := by
  obtain ⟨h1, h2, h3⟩ := h
  constructor
  · unfold PS.in_ PS.inN
    split
    · exact ⟨⟨h1, (h2.add hm xs).1, h3.more⟩, (h2.add hm xs).2, rfl, rfl, rfl⟩
    · exact ⟨⟨h1, h2.more, h3.more⟩, by simp, rfl, rfl, rfl⟩
  · unfold PS.in_ PS.inN
    split
    · exact ⟨⟨h1, h2.more, (h3.add hm xs).1⟩, (h3.add hm xs).2, rfl, rfl, rfl⟩
    · exact ⟨⟨h1, h2.more, h3.more⟩, by simp, rfl, rfl, rfl⟩
theorem mkS_pre (a b : List UInt8) : (mkS (a ++ b)).extract 0 a.length = mkS a := by
  apply ByteArray.ext
  simp [mkS, ByteArray.data_extract]
/-- What went out, and what waits. -/
structure Ord (s : PS) (o0 o1 : List UInt8) (m k : Nat) : Prop where
  fine : Fine s m k
  m0 : s.w1.moved = o0.length
  m1 : s.w0.moved = o1.length
theorem Ord.out {s : PS} {o0 o1 : List UInt8} {m k : Nat} (h : Ord s o0 o1 m k) (hk : k ≤ 400) (n : Int) :
    (Ord (s.out 0 n) (o0 ++ s.outB 0 n) o1 m (k + 1) ∧ o0 ++ s.outB 0 n ++ (s.out 0 n).w1.bs = o0 ++ s.w1.bs ∧ (s.out 0 n).w0.bs = s.w0.bs) ∧ (Ord (s.out 1 n) o0 (o1 ++ s.outB 1 n) m (k + 1) ∧ o1 ++ s.outB 1 n ++ (s.out 1 n).w0.bs = o1 ++ s.w0.bs ∧ (s.out 1 n).w1.bs = s.w1.bs) := by
  have a0 : sideB 0 = true := rfl
  have a1 : sideB 1 = true := rfl
  have hb := h.fine.1
  have e0 : s.out 0 n = ⟨s.w0, s.w1.out n, false⟩ := by simp [PS.out, hb, a0]
  have e1 : s.out 1 n = ⟨s.w0.out n, s.w1, false⟩ := by simp [PS.out, hb, a1]
  have b0 : s.outB 0 n = s.w1.bs.take n.toNat := by simp [PS.outB, hb, a0, PS.to]
  have b1 : s.outB 1 n = s.w0.bs.take n.toNat := by simp [PS.outB, hb, a1, PS.to]
  have f0 := (h.fine.out hk 0 n).1
  have f1 := (h.fine.out hk 1 n).1
  refine ⟨⟨⟨f0, ?_, ?_⟩, ?_, by rw [e0]⟩, ⟨⟨f1, ?_, ?_⟩, ?_, by rw [e1]⟩⟩
  · rw [e0, b0]
    show IntKind.wrap .i64 (s.w1.moved + ((s.w1.bs.take n.toNat).length : Int)) = _
    rw [wrap_fine h.fine.2.2 hk, h.m0]; simp
  · rw [e0]; exact h.m1
  · rw [e0, b0, List.append_assoc]
    show o0 ++ (s.w1.bs.take n.toNat ++ s.w1.bs.drop n.toNat) = _
    rw [List.take_append_drop]
  · rw [e1]; exact h.m0
  · rw [e1, b1]
    show IntKind.wrap .i64 (s.w0.moved + ((s.w0.bs.take n.toNat).length : Int)) = _
    rw [wrap_fine h.fine.2.1 hk, h.m1]; simp
  · rw [e1, b1, List.append_assoc]
    show o1 ++ (s.w0.bs.take n.toNat ++ s.w0.bs.drop n.toNat) = _
    rw [List.take_append_drop]
theorem Ord.end_ {s : PS} {o0 o1 : List UInt8} {m k : Nat} (h : Ord s o0 o1 m k) (n : Int) : Ord (s.end_ n) o0 o1 m (k + 1) ∧ (s.end_ n).w0.bs = s.w0.bs ∧ (s.end_ n).w1.bs = s.w1.bs := by
  have hf := (h.fine.end_ n).1
  have : (s.end_ n).w0.bs = s.w0.bs ∧ (s.end_ n).w1.bs = s.w1.bs ∧ (s.end_ n).w0.moved = s.w0.moved ∧ (s.end_ n).w1.moved = s.w1.moved := by
    unfold PS.end_
    split
    · split <;> exact ⟨rfl, rfl, rfl, rfl⟩
    · exact ⟨rfl, rfl, rfl, rfl⟩
  exact ⟨⟨hf, by rw [this.2.2.2]; exact h.m0, by rw [this.2.2.1]; exact h.m1⟩, this.1, this.2.1⟩
theorem take_min (xs : List UInt8) (k : Nat) : xs.take k = xs.take (min xs.length k) := by
  rcases Nat.le_total xs.length k with h | h
  · rw [Nat.min_eq_left h, List.take_length, List.take_of_length_le h]
  · rw [Nat.min_eq_right h]
theorem Ord.in_ {s : PS} {o0 o1 : List UInt8} {m k : Nat} (h : Ord s o0 o1 m k) (hm : m ≤ 65536) (xs : List UInt8) :
    (Ord (s.in_ m 0 xs) o0 o1 m (k + 1) ∧ (s.in_ m 0 xs).w0.bs = s.w0.bs ++ xs.take (s.inN m 0 xs) ∧ (s.in_ m 0 xs).w1.bs = s.w1.bs ∧ s.inN m 0 xs ≤ xs.length) ∧
    (Ord (s.in_ m 1 xs) o0 o1 m (k + 1) ∧ (s.in_ m 1 xs).w1.bs = s.w1.bs ++ xs.take (s.inN m 1 xs) ∧ (s.in_ m 1 xs).w0.bs = s.w0.bs ∧ s.inN m 1 xs ≤ xs.length) := by
  obtain ⟨⟨f0, _⟩, ⟨f1, _⟩⟩ := h.fine.in_ hm xs
  constructor
  · have : (s.in_ m 0 xs).w0.bs = s.w0.bs ++ xs.take (s.inN m 0 xs) ∧ (s.in_ m 0 xs).w1.bs = s.w1.bs ∧ s.inN m 0 xs ≤ xs.length ∧ (s.in_ m 0 xs).w0.moved = s.w0.moved ∧ (s.in_ m 0 xs).w1.moved = s.w1.moved := by
      unfold PS.in_ PS.inN
      split
      · exact ⟨by show s.w0.bs ++ xs.take (m - s.w0.bs.length) = _; rw [take_min]; rfl, rfl, Nat.min_le_left _ _, rfl, rfl⟩
      · exact ⟨by simp, rfl, Nat.zero_le _, rfl, rfl⟩
    exact ⟨⟨f0, by rw [this.2.2.2.2]; exact h.m0, by rw [this.2.2.2.1]; exact h.m1⟩, this.1, this.2.1, this.2.2.1⟩
  · have : (s.in_ m 1 xs).w1.bs = s.w1.bs ++ xs.take (s.inN m 1 xs) ∧ (s.in_ m 1 xs).w0.bs = s.w0.bs ∧ s.inN m 1 xs ≤ xs.length ∧ (s.in_ m 1 xs).w0.moved = s.w0.moved ∧ (s.in_ m 1 xs).w1.moved = s.w1.moved := by
      unfold PS.in_ PS.inN
      split
      · exact ⟨by show s.w1.bs ++ xs.take (m - s.w1.bs.length) = _; rw [take_min]; rfl, rfl, Nat.min_le_left _ _, rfl, rfl⟩
      · exact ⟨by simp, rfl, Nat.zero_le _, rfl, rfl⟩
    exact ⟨⟨f1, by rw [this.2.2.2.2]; exact h.m0, by rw [this.2.2.2.1]; exact h.m1⟩, this.1, this.2.1, this.2.2.1⟩

theorem Order_walk {W : World} {p : Option Addr} {os : List OpD} {c : Nat} (most : Int) (wm : (Lit.int .u8 most).wf = true) (hl : Rd [Base W] p (os.flatMap opCells)) (hc : os.length ≤ c) (hcm : c ≤ 9223372036854775807) (hok : ∀ o ∈ os, OpOk W o) :
    CallR Try.prog 3 #[.int .u8 most, .slice p os.length c] W fun v w' => v = .bool true ∧ ∃ r, St W (Base W :: r) w' := by
  have hm : 0 ≤ most ∧ most ≤ 255 := by simpa [Lit.wf, IntKind.min, IntKind.max, IntKind.signed, IntKind.bits] using wm
  have hlen : os.length ≤ 9223372036854775807 := Nat.le_trans hc hcm
  have hcap : (capOf most : Int) = most := by unfold capOf; omega
  have hcap2 : capOf most ≤ 65536 := by omega
  refine F3_of ?_
  unfold F3
  rw [w64 (n := most) (by omega) (by omega)]
  refine ((head_spec (St.base W)).of fun v w1 ⟨hv, hS⟩ => ⟨_, hv, ?_⟩)
  refine (PNew_spec _ hS).of fun v w2 ⟨pb, hv, hS⟩ => ⟨_, hv, Bif.i (fun h => by cases h) fun _ => ?_⟩
  refine (Great_spec hl (by simp) hlen (St.last hS)).of fun v w4 ⟨b, hv, hb, hS⟩ => ⟨_, hv, Bif.i (fun _ => ⟨rfl, _, hS⟩) fun hb' => ?_⟩
  have hl4 := hb hb'
  refine NewC.n hS fun b13 w5 hS => NewC.n hS fun b15 w6 hS => ?_
  refine ⟨fun vs w => ∃ (k : Nat) (s : PS) (o0 o1 : List UInt8), vs = [.int .i64 k] ∧ k ≤ os.length ∧ Ord s o0 o1 (capOf most) k ∧ St W [Base W, PumpA pb most s, Row b13 9 [.string (mkS (o1 ++ s.w0.bs)), .string (mkS (o0 ++ s.w1.bs))], Row b15 9 [.string (mkS (o0)), .string (mkS (o1))]] w, leftN os.length, ⟨0, PS.new, [], [], rfl, Nat.zero_le _, ⟨⟨rfl, ⟨by decide, by decide, by simp [PS.new, Way.new]⟩, ⟨by decide, by decide, by simp [PS.new, Way.new]⟩⟩, rfl, rfl⟩, hS⟩, fun i w hI => ?_⟩
  obtain ⟨k, s, o0, o1, he, hk, hO, hS⟩ := hI
  cases he
  refine Bif.i (fun hlt => ?_) fun _ => ⟨rfl, _, hS⟩
  have hlt : k < os.length := by have := of_decide_eq_true hlt; omega
  have ho := hok _ (List.getElem_mem hlt)
  obtain ⟨a, ha, h0, h1, h2, h3⟩ := op_at hl (by simp) hS hlt
  generalize os[k] = o at ho h0 h1 h2 h3
  obtain ⟨what, side, p1, xs, c1, nn⟩ := o
  refine ⟨a, ha, ⟨by omega, by omega⟩, LdI.at h0 (LdI.at h1 (LdL.at h2 (LdI.at h3 (NewC.n hS fun b w hS => ?_))))⟩
  dsimp only [put, del, List.cons_append, List.nil_append, List.set, List.length_cons, List.length_nil, Nat.zero_add, Nat.reduceAdd] at hS
  iterate 4 ((first | (refine St1.n 0 hS rfl (Nat.le_of_ble_eq_true rfl) fun w hS => ?_; dsimp only [put, del, List.cons_append, List.nil_append, List.set, List.length_cons, List.length_nil, Nat.zero_add, Nat.reduceAdd] at hS) | (refine St1.a 0 hS rfl (Nat.le_of_ble_eq_true rfl) fun w hS => ?_; dsimp only [put, del, List.cons_append, List.nil_append, List.set, List.length_cons, List.length_nil, Nat.zero_add, Nat.reduceAdd] at hS) | (refine St1.n 1 hS rfl (Nat.le_of_ble_eq_true rfl) fun w hS => ?_; dsimp only [put, del, List.cons_append, List.nil_append, List.set, List.length_cons, List.length_nil, Nat.zero_add, Nat.reduceAdd] at hS) | (refine St1.a 1 hS rfl (Nat.le_of_ble_eq_true rfl) fun w hS => ?_; dsimp only [put, del, List.cons_append, List.nil_append, List.set, List.length_cons, List.length_nil, Nat.zero_add, Nat.reduceAdd] at hS) | (refine St1.n 2 hS rfl (Nat.le_of_ble_eq_true rfl) fun w hS => ?_; dsimp only [put, del, List.cons_append, List.nil_append, List.set, List.length_cons, List.length_nil, Nat.zero_add, Nat.reduceAdd] at hS) | (refine St1.a 2 hS rfl (Nat.le_of_ble_eq_true rfl) fun w hS => ?_; dsimp only [put, del, List.cons_append, List.nil_append, List.set, List.length_cons, List.length_nil, Nat.zero_add, Nat.reduceAdd] at hS) | (refine St1.n 3 hS rfl (Nat.le_of_ble_eq_true rfl) fun w hS => ?_; dsimp only [put, del, List.cons_append, List.nil_append, List.set, List.length_cons, List.length_nil, Nat.zero_add, Nat.reduceAdd] at hS) | (refine St1.a 3 hS rfl (Nat.le_of_ble_eq_true rfl) fun w hS => ?_; dsimp only [put, del, List.cons_append, List.nil_append, List.set, List.length_cons, List.length_nil, Nat.zero_add, Nat.reduceAdd] at hS) | (refine St1.n 4 hS rfl (Nat.le_of_ble_eq_true rfl) fun w hS => ?_; dsimp only [put, del, List.cons_append, List.nil_append, List.set, List.length_cons, List.length_nil, Nat.zero_add, Nat.reduceAdd] at hS) | (refine St1.a 4 hS rfl (Nat.le_of_ble_eq_true rfl) fun w hS => ?_; dsimp only [put, del, List.cons_append, List.nil_append, List.set, List.length_cons, List.length_nil, Nat.zero_add, Nat.reduceAdd] at hS) | (refine St1.n 5 hS rfl (Nat.le_of_ble_eq_true rfl) fun w hS => ?_; dsimp only [put, del, List.cons_append, List.nil_append, List.set, List.length_cons, List.length_nil, Nat.zero_add, Nat.reduceAdd] at hS) | (refine St1.a 5 hS rfl (Nat.le_of_ble_eq_true rfl) fun w hS => ?_; dsimp only [put, del, List.cons_append, List.nil_append, List.set, List.length_cons, List.length_nil, Nat.zero_add, Nat.reduceAdd] at hS) | (refine St1.n 6 hS rfl (Nat.le_of_ble_eq_true rfl) fun w hS => ?_; dsimp only [put, del, List.cons_append, List.nil_append, List.set, List.length_cons, List.length_nil, Nat.zero_add, Nat.reduceAdd] at hS) | (refine St1.a 6 hS rfl (Nat.le_of_ble_eq_true rfl) fun w hS => ?_; dsimp only [put, del, List.cons_append, List.nil_append, List.set, List.length_cons, List.length_nil, Nat.zero_add, Nat.reduceAdd] at hS) | (refine St1.n 7 hS rfl (Nat.le_of_ble_eq_true rfl) fun w hS => ?_; dsimp only [put, del, List.cons_append, List.nil_append, List.set, List.length_cons, List.length_nil, Nat.zero_add, Nat.reduceAdd] at hS) | (refine St1.a 7 hS rfl (Nat.le_of_ble_eq_true rfl) fun w hS => ?_; dsimp only [put, del, List.cons_append, List.nil_append, List.set, List.length_cons, List.length_nil, Nat.zero_add, Nat.reduceAdd] at hS) | (refine St1.n 8 hS rfl (Nat.le_of_ble_eq_true rfl) fun w hS => ?_; dsimp only [put, del, List.cons_append, List.nil_append, List.set, List.length_cons, List.length_nil, Nat.zero_add, Nat.reduceAdd] at hS) | (refine St1.a 8 hS rfl (Nat.le_of_ble_eq_true rfl) fun w hS => ?_; dsimp only [put, del, List.cons_append, List.nil_append, List.set, List.length_cons, List.length_nil, Nat.zero_add, Nat.reduceAdd] at hS) | (refine St1.n 9 hS rfl (Nat.le_of_ble_eq_true rfl) fun w hS => ?_; dsimp only [put, del, List.cons_append, List.nil_append, List.set, List.length_cons, List.length_nil, Nat.zero_add, Nat.reduceAdd] at hS) | (refine St1.a 9 hS rfl (Nat.le_of_ble_eq_true rfl) fun w hS => ?_; dsimp only [put, del, List.cons_append, List.nil_append, List.set, List.length_cons, List.length_nil, Nat.zero_add, Nat.reduceAdd] at hS) | (refine St1.n 10 hS rfl (Nat.le_of_ble_eq_true rfl) fun w hS => ?_; dsimp only [put, del, List.cons_append, List.nil_append, List.set, List.length_cons, List.length_nil, Nat.zero_add, Nat.reduceAdd] at hS) | (refine St1.a 10 hS rfl (Nat.le_of_ble_eq_true rfl) fun w hS => ?_; dsimp only [put, del, List.cons_append, List.nil_append, List.set, List.length_cons, List.length_nil, Nat.zero_add, Nat.reduceAdd] at hS) | (refine St1.n 11 hS rfl (Nat.le_of_ble_eq_true rfl) fun w hS => ?_; dsimp only [put, del, List.cons_append, List.nil_append, List.set, List.length_cons, List.length_nil, Nat.zero_add, Nat.reduceAdd] at hS) | (refine St1.a 11 hS rfl (Nat.le_of_ble_eq_true rfl) fun w hS => ?_; dsimp only [put, del, List.cons_append, List.nil_append, List.set, List.length_cons, List.length_nil, Nat.zero_add, Nat.reduceAdd] at hS)))
  have hS : St W [Base W, PumpA pb most s, Row b13 9 [.string (mkS (o1 ++ s.w0.bs)), .string (mkS (o0 ++ s.w1.bs))], Row b15 9 [.string (mkS (o0)), .string (mkS (o1))], Row b 30 [.int .i64 what, .int .i64 side, .slice p1 xs.length c1, .int .i64 nn]] w := hS
  have hO' : Ord s o0 o1 (capOf most) (k + 1) := ⟨⟨hO.fine.1, hO.fine.2.1.more, hO.fine.2.2.more⟩, hO.m0, hO.m1⟩
  have next : ∀ (s : PS) (o0 o1 : List UInt8) (w' : World), Ord s o0 o1 (capOf most) (k + 1) → St W [Base W, PumpA pb most s, Row b13 9 [.string (mkS (o1 ++ s.w0.bs)), .string (mkS (o0 ++ s.w1.bs))], Row b15 9 [.string (mkS (o0)), .string (mkS (o1))], Row b 30 [.int .i64 what, .int .i64 side, .slice p1 xs.length c1, .int .i64 nn]] w' → (∃ (k' : Nat) (s : PS) (o0 o1 : List UInt8), [Value.int .i64 (IntKind.wrap .i64 ((k : Int) + 1))] = [.int .i64 k'] ∧ k' ≤ os.length ∧ Ord s o0 o1 (capOf most) k' ∧ St W [Base W, PumpA pb most s, Row b13 9 [.string (mkS (o1 ++ s.w0.bs)), .string (mkS (o0 ++ s.w1.bs))], Row b15 9 [.string (mkS (o0)), .string (mkS (o1))]] w') ∧ leftN os.length [Value.int .i64 (IntKind.wrap .i64 ((k : Int) + 1))] w' < leftN os.length [Value.int .i64 k] w := fun s o0 o1 w' hO hS => by
    rw [up hlt hlen]
    exact ⟨⟨k + 1, s, o0, o1, rfl, by omega, hO, hS.del 4 rfl⟩, by show os.length - (k + 1) < os.length - k; omega⟩
  refine ⟨fun vs w => vs = [] ∧ (side = 0 ∨ side = 1) ∧ St W [Base W, PumpA pb most s, Row b13 9 [.string (mkS (o1 ++ s.w0.bs)), .string (mkS (o0 ++ s.w1.bs))], Row b15 9 [.string (mkS (o0)), .string (mkS (o1))], Row b 30 [.int .i64 what, .int .i64 side, .slice p1 xs.length c1, .int .i64 nn]] w, ?_, fun w7 hJ => ?_⟩
  · refine LdI.n 4 hS rfl rfl (Bif.i (fun hs => ?_) fun hs => ?_)
    · refine LdI.n 4 hS rfl rfl (Bif.i (fun hs1 => next s _ _ _ hO' hS) fun hs1 => ?_)
      exact LdI.n 4 hS rfl rfl (Bif.i (fun _ => next s _ _ _ hO' hS) fun _ => ⟨rfl, .inr (by simpa using hs1), hS⟩)
    · exact LdI.n 4 hS rfl rfl (Bif.i (fun _ => next s _ _ _ hO' hS) fun _ => ⟨rfl, .inl (by simpa using hs), hS⟩)
  obtain ⟨_, hside, hS⟩ := hJ
  have hsum : o0.length + s.w1.bs.length ≤ 400 * 65536 ∧ o1.length + s.w0.bs.length ≤ 400 * 65536 := by
    have g0 := hO.fine.2.1.2.1
    have g1 := hO.fine.2.2.2.1
    rw [hO.m1] at g0
    rw [hO.m0] at g1
    have : k * 65536 ≤ 400 * 65536 := Nat.mul_le_mul_right _ (by omega)
    omega
  refine LdI.n 4 hS rfl rfl ⟨fun vs w => vs = [] ∧ ∃ (s : PS) (o0 o1 : List UInt8), Ord s o0 o1 (capOf most) (k + 1) ∧ St W [Base W, PumpA pb most s, Row b13 9 [.string (mkS (o1 ++ s.w0.bs)), .string (mkS (o0 ++ s.w1.bs))], Row b15 9 [.string (mkS (o0)), .string (mkS (o1))], Row b 30 [.int .i64 what, .int .i64 side, .slice p1 xs.length c1, .int .i64 nn]] w, ?_, fun w9 hJ => ?_⟩
  · refine Bif.i (fun hw => ?_) fun hw => ?_
    · refine LdI.n 4 hS rfl rfl (LdI.n 4 hS rfl rfl ?_)
      rcases hside with rfl | rfl
      · refine (POut_spec 0 nn (hS.at 1 rfl)).of fun v w10 ⟨p2, c2, hv, hS⟩ => ⟨_, _, _, _, hv, ?_⟩
        have hS : St W [Base W, PumpA pb most (s.out 0 nn), Row b13 9 [.string (mkS (o1 ++ s.w0.bs)), .string (mkS (o0 ++ s.w1.bs))], Row b15 9 [.string (mkS (o0)), .string (mkS (o1))], Row b 30 [.int .i64 what, .int .i64 0, .slice p1 xs.length c1, .int .i64 nn], OwnS 5 1 p2 (s.outB 0 nn).length c2 ((s.outB 0 nn).map byteV)] w10 := St.back 1 (A := PumpA pb most s) (l := [Base W, PumpA pb most s, Row b13 9 [.string (mkS (o1 ++ s.w0.bs)), .string (mkS (o0 ++ s.w1.bs))], Row b15 9 [.string (mkS (o0)), .string (mkS (o1))], Row b 30 [.int .i64 what, .int .i64 0, .slice p1 xs.length c1, .int .i64 nn]] ++ [_]) rfl (B := [_]) hS.last
        have hC := Is.refl W [Base W, PumpA pb most (s.out 0 nn), Row b13 9 [.string (mkS (o1 ++ s.w0.bs)), .string (mkS (o0 ++ s.w1.bs))], Row b15 9 [.string (mkS (o0)), .string (mkS (o1))], Row b 30 [.int .i64 what, .int .i64 0, .slice p1 xs.length c1, .int .i64 nn], OwnS 5 1 p2 (s.outB 0 nn).length c2 ((s.outB 0 nn).map byteV)]
        obtain ⟨f1, f2, f3⟩ := (hO.out (by omega) nn).1
        have hlb : (s.outB 0 nn).length ≤ 400 * 65536 := by
          have := congrArg List.length f2
          simp only [List.length_append] at this
          omega
        refine ⟨StC W _, StC.start hS, _, QtI.n 4 hC rfl rfl, _, QtI.n 4 hC rfl rfl, _, rfl, ⟨by decide, by decide⟩, _, QtS.a 3 hC rfl rfl, mkS (s.outB 0 nn), fun G w h => str_rd uB uU8 uS h ((Rd.n 5 rfl OwnS.rd).app (pts G)) rfl ⟨_, rfl, rfl, h⟩, ⟨by simp only [mkS_size]; omega, _, rfl, ⟨by decide, by decide⟩, Ef.sta 3 hC rfl (Nat.le_of_ble_eq_true rfl) ⟨rfl, trivial, fun G w12 h12 => ?_⟩⟩⟩
        refine ⟨rfl, (s.out 0 nn), _, _, f1, ?_⟩
        rw [f2, f3, ← mkS_append]
        exact St.del 5 (StC.ends h12) rfl
      · refine (POut_spec 1 nn (hS.at 1 rfl)).of fun v w10 ⟨p2, c2, hv, hS⟩ => ⟨_, _, _, _, hv, ?_⟩
        have hS : St W [Base W, PumpA pb most (s.out 1 nn), Row b13 9 [.string (mkS (o1 ++ s.w0.bs)), .string (mkS (o0 ++ s.w1.bs))], Row b15 9 [.string (mkS (o0)), .string (mkS (o1))], Row b 30 [.int .i64 what, .int .i64 1, .slice p1 xs.length c1, .int .i64 nn], OwnS 5 1 p2 (s.outB 1 nn).length c2 ((s.outB 1 nn).map byteV)] w10 := St.back 1 (A := PumpA pb most s) (l := [Base W, PumpA pb most s, Row b13 9 [.string (mkS (o1 ++ s.w0.bs)), .string (mkS (o0 ++ s.w1.bs))], Row b15 9 [.string (mkS (o0)), .string (mkS (o1))], Row b 30 [.int .i64 what, .int .i64 1, .slice p1 xs.length c1, .int .i64 nn]] ++ [_]) rfl (B := [_]) hS.last
        have hC := Is.refl W [Base W, PumpA pb most (s.out 1 nn), Row b13 9 [.string (mkS (o1 ++ s.w0.bs)), .string (mkS (o0 ++ s.w1.bs))], Row b15 9 [.string (mkS (o0)), .string (mkS (o1))], Row b 30 [.int .i64 what, .int .i64 1, .slice p1 xs.length c1, .int .i64 nn], OwnS 5 1 p2 (s.outB 1 nn).length c2 ((s.outB 1 nn).map byteV)]
        obtain ⟨f1, f2, f3⟩ := (hO.out (by omega) nn).2
        have hlb : (s.outB 1 nn).length ≤ 400 * 65536 := by
          have := congrArg List.length f2
          simp only [List.length_append] at this
          omega
        refine ⟨StC W _, StC.start hS, _, QtI.n 4 hC rfl rfl, _, QtI.n 4 hC rfl rfl, _, rfl, ⟨by decide, by decide⟩, _, QtS.a 3 hC rfl rfl, mkS (s.outB 1 nn), fun G w h => str_rd uB uU8 uS h ((Rd.n 5 rfl OwnS.rd).app (pts G)) rfl ⟨_, rfl, rfl, h⟩, ⟨by simp only [mkS_size]; omega, _, rfl, ⟨by decide, by decide⟩, Ef.sta 3 hC rfl (Nat.le_of_ble_eq_true rfl) ⟨rfl, trivial, fun G w12 h12 => ?_⟩⟩⟩
        refine ⟨rfl, (s.out 1 nn), _, _, f1, ?_⟩
        rw [f2, f3, ← mkS_append]
        exact St.del 5 (StC.ends h12) rfl
    refine LdI.n 4 hS rfl rfl (Bif.i (fun hw3 => ?_) fun hw3 => ?_)
    · refine LdI.n 4 hS rfl rfl ((PEnd_spec side (hS.at 1 rfl)).of fun v w10 ⟨hv, hS⟩ => ⟨_, hv, ?_⟩)
      have hS : St W [Base W, PumpA pb most (s.end_ side), Row b13 9 [.string (mkS (o1 ++ s.w0.bs)), .string (mkS (o0 ++ s.w1.bs))], Row b15 9 [.string (mkS (o0)), .string (mkS (o1))], Row b 30 [.int .i64 what, .int .i64 side, .slice p1 xs.length c1, .int .i64 nn]] w10 := St.back 1 (A := PumpA pb most s) (l := [Base W, PumpA pb most s, Row b13 9 [.string (mkS (o1 ++ s.w0.bs)), .string (mkS (o0 ++ s.w1.bs))], Row b15 9 [.string (mkS (o0)), .string (mkS (o1))], Row b 30 [.int .i64 what, .int .i64 side, .slice p1 xs.length c1, .int .i64 nn]]) rfl (B := [_]) hS
      obtain ⟨f1, f2, f3⟩ := hO.end_ side
      exact ⟨rfl, s.end_ side, o0, o1, f1, by rw [f2, f3]; exact hS⟩
    · refine LdI.n 4 hS rfl rfl (LdL.n 4 hS rfl rfl ?_)
      rcases hside with rfl | rfl
      · refine ((PIn_spec (xs := xs) 0 (ho.2.1.mem (l := [_, _, _, _]) (by simp)) ho.1 (hS.at 1 rfl)).of fun v w10 ⟨hv, hS⟩ => ⟨_, hv, ?_⟩)
        have hS : St W [Base W, PumpA pb most (s.in_ (capOf most) 0 xs), Row b13 9 [.string (mkS (o1 ++ s.w0.bs)), .string (mkS (o0 ++ s.w1.bs))], Row b15 9 [.string (mkS (o0)), .string (mkS (o1))], Row b 30 [.int .i64 what, .int .i64 0, .slice p1 xs.length c1, .int .i64 nn]] w10 := St.back 1 (A := PumpA pb most s) (l := [Base W, PumpA pb most s, Row b13 9 [.string (mkS (o1 ++ s.w0.bs)), .string (mkS (o0 ++ s.w1.bs))], Row b15 9 [.string (mkS (o0)), .string (mkS (o1))], Row b 30 [.int .i64 what, .int .i64 0, .slice p1 xs.length c1, .int .i64 nn]]) rfl (B := [_]) hS
        have hC := Is.refl W [Base W, PumpA pb most (s.in_ (capOf most) 0 xs), Row b13 9 [.string (mkS (o1 ++ s.w0.bs)), .string (mkS (o0 ++ s.w1.bs))], Row b15 9 [.string (mkS (o0)), .string (mkS (o1))], Row b 30 [.int .i64 what, .int .i64 0, .slice p1 xs.length c1, .int .i64 nn]]
        obtain ⟨f1, f2, f3, f4⟩ := (hO.in_ hcap2 xs).1
        generalize hN : s.inN (capOf most) 0 xs = N at f2 f4
        have hlb : s.w0.bs.length + N ≤ 401 * 65536 := by
          have g0 := f1.fine.2.1.2.1
          rw [f1.m1, f2] at g0
          simp only [List.length_append, List.length_take] at g0
          have : (k + 1) * 65536 ≤ 401 * 65536 := Nat.mul_le_mul_right _ (by omega)
          omega
        refine Bif.i (fun h => by have := of_decide_eq_true h; omega) fun _ => LdL.n 4 hS rfl rfl (Bif.i (fun h => by have := of_decide_eq_true h; omega) fun _ => ?_)
        refine ⟨StC W _, StC.start hS, _, QtI.n 4 hC rfl rfl, _, QtI.n 4 hC rfl rfl, _, rfl, ⟨by decide, by decide⟩, _, QtS.a 2 hC rfl rfl, _, _, _, QtL.n 4 hC rfl rfl, ?_⟩
        refine SlP.i (a := 0) (b := N) ho.2.1 (by simp) ho.1 rfl rfl (by omega) f4 fun p3 hr3 => ?_
        rw [Nat.zero_mul, Nat.mul_one, List.drop_zero, Nat.sub_zero, ← List.map_take] at hr3
        refine ⟨mkS (xs.take N), fun G w h => str_rd uB uU8 uS h ((hr3.mem (l := [Base W, PumpA pb most (s.in_ (capOf most) 0 xs), Row b13 9 [.string (mkS (o1 ++ s.w0.bs)), .string (mkS (o0 ++ s.w1.bs))], Row b15 9 [.string (mkS (o0)), .string (mkS (o1))], Row b 30 [.int .i64 what, .int .i64 0, .slice p1 xs.length c1, .int .i64 nn]]) (by simp)).app (pts G)) (by simp; omega) ⟨_, rfl, rfl, h⟩, ⟨by simp only [mkS_size, List.length_append, List.length_take]; omega, _, rfl, ⟨by decide, by decide⟩, Ef.sta 2 hC rfl (Nat.le_of_ble_eq_true rfl) ⟨rfl, trivial, fun G w12 h12 => ?_⟩⟩⟩
        refine ⟨rfl, (s.in_ (capOf most) 0 xs), o0, o1, f1, ?_⟩
        rw [f2, f3, ← List.append_assoc, ← mkS_append]
        exact StC.ends h12
      · refine ((PIn_spec (xs := xs) 1 (ho.2.1.mem (l := [_, _, _, _]) (by simp)) ho.1 (hS.at 1 rfl)).of fun v w10 ⟨hv, hS⟩ => ⟨_, hv, ?_⟩)
        have hS : St W [Base W, PumpA pb most (s.in_ (capOf most) 1 xs), Row b13 9 [.string (mkS (o1 ++ s.w0.bs)), .string (mkS (o0 ++ s.w1.bs))], Row b15 9 [.string (mkS (o0)), .string (mkS (o1))], Row b 30 [.int .i64 what, .int .i64 1, .slice p1 xs.length c1, .int .i64 nn]] w10 := St.back 1 (A := PumpA pb most s) (l := [Base W, PumpA pb most s, Row b13 9 [.string (mkS (o1 ++ s.w0.bs)), .string (mkS (o0 ++ s.w1.bs))], Row b15 9 [.string (mkS (o0)), .string (mkS (o1))], Row b 30 [.int .i64 what, .int .i64 1, .slice p1 xs.length c1, .int .i64 nn]]) rfl (B := [_]) hS
        have hC := Is.refl W [Base W, PumpA pb most (s.in_ (capOf most) 1 xs), Row b13 9 [.string (mkS (o1 ++ s.w0.bs)), .string (mkS (o0 ++ s.w1.bs))], Row b15 9 [.string (mkS (o0)), .string (mkS (o1))], Row b 30 [.int .i64 what, .int .i64 1, .slice p1 xs.length c1, .int .i64 nn]]
        obtain ⟨f1, f2, f3, f4⟩ := (hO.in_ hcap2 xs).2
        generalize hN : s.inN (capOf most) 1 xs = N at f2 f4
        have hlb : s.w1.bs.length + N ≤ 401 * 65536 := by
          have g0 := f1.fine.2.2.2.1
          rw [f1.m0, f2] at g0
          simp only [List.length_append, List.length_take] at g0
          have : (k + 1) * 65536 ≤ 401 * 65536 := Nat.mul_le_mul_right _ (by omega)
          omega
        refine Bif.i (fun h => by have := of_decide_eq_true h; omega) fun _ => LdL.n 4 hS rfl rfl (Bif.i (fun h => by have := of_decide_eq_true h; omega) fun _ => ?_)
        refine ⟨StC W _, StC.start hS, _, QtI.n 4 hC rfl rfl, _, QtI.n 4 hC rfl rfl, _, rfl, ⟨by decide, by decide⟩, _, QtS.a 2 hC rfl rfl, _, _, _, QtL.n 4 hC rfl rfl, ?_⟩
        refine SlP.i (a := 0) (b := N) ho.2.1 (by simp) ho.1 rfl rfl (by omega) f4 fun p3 hr3 => ?_
        rw [Nat.zero_mul, Nat.mul_one, List.drop_zero, Nat.sub_zero, ← List.map_take] at hr3
        refine ⟨mkS (xs.take N), fun G w h => str_rd uB uU8 uS h ((hr3.mem (l := [Base W, PumpA pb most (s.in_ (capOf most) 1 xs), Row b13 9 [.string (mkS (o1 ++ s.w0.bs)), .string (mkS (o0 ++ s.w1.bs))], Row b15 9 [.string (mkS (o0)), .string (mkS (o1))], Row b 30 [.int .i64 what, .int .i64 1, .slice p1 xs.length c1, .int .i64 nn]]) (by simp)).app (pts G)) (by simp; omega) ⟨_, rfl, rfl, h⟩, ⟨by simp only [mkS_size, List.length_append, List.length_take]; omega, _, rfl, ⟨by decide, by decide⟩, Ef.sta 2 hC rfl (Nat.le_of_ble_eq_true rfl) ⟨rfl, trivial, fun G w12 h12 => ?_⟩⟩⟩
        refine ⟨rfl, (s.in_ (capOf most) 1 xs), o0, o1, f1, ?_⟩
        rw [f2, f3, ← List.append_assoc, ← mkS_append]
        exact StC.ends h12
  · obtain ⟨_, s, o0, o1, hO, hS⟩ := hJ
    have hsum : o0.length + s.w1.bs.length ≤ 401 * 65536 ∧ o1.length + s.w0.bs.length ≤ 401 * 65536 := by
      have g0 := hO.fine.2.1.2.1
      have g1 := hO.fine.2.2.2.1
      rw [hO.m1] at g0
      rw [hO.m0] at g1
      have : (k + 1) * 65536 ≤ 401 * 65536 := Nat.mul_le_mul_right _ (by omega)
      omega
    have hfit0 := hO.fine.2.1.2.2
    have hfit1 := hO.fine.2.2.2.2
    have m0 := hO.m0
    have m1 := hO.m1
    refine ⟨fun vs w => (vs = [.int .i64 0] ∨ vs = [.int .i64 1] ∨ vs = [.int .i64 2]) ∧ St W [Base W, PumpA pb most s, Row b13 9 [.string (mkS (o1 ++ s.w0.bs)), .string (mkS (o0 ++ s.w1.bs))], Row b15 9 [.string (mkS (o0)), .string (mkS (o1))], Row b 30 [.int .i64 what, .int .i64 side, .slice p1 xs.length c1, .int .i64 nn]] w, leftN 2, ⟨.inl rfl, hS⟩, fun x w9 hI => ?_⟩
    obtain ⟨hx, hS⟩ := hI
    rcases hx with he | he | he <;> cases he
    · refine Bif.i (fun _ => ⟨_, rfl, ⟨by decide, by decide⟩, LdS.a 2 hS rfl rfl ⟨_, rfl, ⟨by decide, by decide⟩, LdS.a 3 hS rfl rfl ?_⟩⟩) fun h => by simp at h
      refine Bif.i (fun h => ?_) fun _ => ⟨⟨by omega, by omega, by simp only [mkS_size, List.length_append]; omega⟩, Bif.i (fun h => ?_) fun _ => ?_⟩
      · have := of_decide_eq_true h
        simp only [mkS_size, List.length_append] at this
        omega
      · rw [mkS_size, Int.toNat_natCast, show Int.toNat 0 = 0 from rfl, mkS_pre] at h
        simp at h
      have hwt : s.waits 0 = s.w1.bs.length := rfl
      have hw : s.moved 0 = s.w1.moved := rfl
      refine (PWaits_spec 0 (hS.at 1 rfl)).of fun v w11 ⟨hv, hS⟩ => ⟨_, hv, Bif.i (fun h => ?_) fun _ => ?_⟩
      · rw [hwt] at h
        simp only [mkS_size, List.length_append] at h
        rw [w64 (by omega) (by omega)] at h
        simp at h
        omega
      refine (PWaits_spec 0 hS).of fun v w11 ⟨hv, hS⟩ => ⟨_, hv, Bif.i (fun h => ?_) fun _ => ?_⟩
      · have := of_decide_eq_true h
        omega
      refine (PMoved_spec 0 hS).of fun v w11 ⟨hv, hS⟩ => ⟨_, hv, Bif.i (fun h => ?_) fun _ => ?_⟩
      · rw [hw] at h
        simp only [mkS_size] at h
        simp [m0] at h
      exact ⟨⟨.inr (.inl rfl), St.back 1 (A := PumpA pb most s) (l := [Base W, PumpA pb most s, Row b13 9 [.string (mkS (o1 ++ s.w0.bs)), .string (mkS (o0 ++ s.w1.bs))], Row b15 9 [.string (mkS (o0)), .string (mkS (o1))], Row b 30 [.int .i64 what, .int .i64 side, .slice p1 xs.length c1, .int .i64 nn]]) rfl (B := [_]) hS⟩, (show (2 - 1 : Nat) < 2 - 0 by decide)⟩
    · refine Bif.i (fun _ => ⟨_, rfl, ⟨by decide, by decide⟩, LdS.a 2 hS rfl rfl ⟨_, rfl, ⟨by decide, by decide⟩, LdS.a 3 hS rfl rfl ?_⟩⟩) fun h => by simp at h
      refine Bif.i (fun h => ?_) fun _ => ⟨⟨by omega, by omega, by simp only [mkS_size, List.length_append]; omega⟩, Bif.i (fun h => ?_) fun _ => ?_⟩
      · have := of_decide_eq_true h
        simp only [mkS_size, List.length_append] at this
        omega
      · rw [mkS_size, Int.toNat_natCast, show Int.toNat 0 = 0 from rfl, mkS_pre] at h
        simp at h
      have hwt : s.waits 1 = s.w0.bs.length := rfl
      have hw : s.moved 1 = s.w0.moved := rfl
      refine (PWaits_spec 1 (hS.at 1 rfl)).of fun v w11 ⟨hv, hS⟩ => ⟨_, hv, Bif.i (fun h => ?_) fun _ => ?_⟩
      · rw [hwt] at h
        simp only [mkS_size, List.length_append] at h
        rw [w64 (by omega) (by omega)] at h
        simp at h
        omega
      refine (PWaits_spec 1 hS).of fun v w11 ⟨hv, hS⟩ => ⟨_, hv, Bif.i (fun h => ?_) fun _ => ?_⟩
      · have := of_decide_eq_true h
        omega
      refine (PMoved_spec 1 hS).of fun v w11 ⟨hv, hS⟩ => ⟨_, hv, Bif.i (fun h => ?_) fun _ => ?_⟩
      · rw [hw] at h
        simp only [mkS_size] at h
        simp [m1] at h
      exact ⟨⟨.inr (.inr rfl), St.back 1 (A := PumpA pb most s) (l := [Base W, PumpA pb most s, Row b13 9 [.string (mkS (o1 ++ s.w0.bs)), .string (mkS (o0 ++ s.w1.bs))], Row b15 9 [.string (mkS (o0)), .string (mkS (o1))], Row b 30 [.int .i64 what, .int .i64 side, .slice p1 xs.length c1, .int .i64 nn]]) rfl (B := [_]) hS⟩, (show (2 - 2 : Nat) < 2 - 1 by decide)⟩
    · exact Bif.i (fun h => by simp at h) fun _ => next s _ _ _ hO hS
end Go.Proofs.Ytneilmoiahphkaa
