/-
  The law of the bytes that go both ways: ends.
-/
import Derived.Test.YtneilmoiahphkaaLaw17
import Derived.Test.YtneilmoiahphkaaPos
set_option linter.unusedVariables false
set_option linter.unusedSimpArgs false
namespace Go.Proofs.Ytneilmoiahphkaa
open Go

/-- Behind an end that was told nothing waits, and nothing comes. -/
def Way.Done (w : Way) : Prop := w.told = true → w.ended = true ∧ w.bs = []
def Done (s : PS) : Prop := s.w0.Done ∧ s.w1.Done
theorem Way.Done.out {w : Way} (h : w.Done) (k : Int) : (w.out k).Done := fun ht => by
  have ht' : (w.told || w.end_ k) = true := ht
  have e1 : (w.out k).ended = w.ended := rfl
  have e2 : (w.out k).bs = w.bs.drop k.toNat := rfl
  rw [e1, e2]
  rcases Bool.or_eq_true_iff.1 ht' with h1 | h1
  · obtain ⟨g1, g2⟩ := h h1
    exact ⟨g1, by rw [g2]; simp⟩
  · simp only [Way.end_, Bool.and_eq_true, List.isEmpty_iff] at h1
    exact ⟨h1.1.1, h1.2⟩
theorem Done.out {s : PS} (h : Done s) (n k : Int) : Done (s.out n k) := by
  unfold PS.out
  split
  · split
    · exact ⟨h.1, h.2.out k⟩
    · exact ⟨h.1.out k, h.2⟩
  · exact h
theorem Done.end_ {s : PS} (h : Done s) (n : Int) : Done (s.end_ n) := by
  unfold PS.end_
  split
  · split
    · exact ⟨fun ht => ⟨rfl, (h.1 ht).2⟩, h.2⟩
    · exact ⟨h.1, fun ht => ⟨rfl, (h.2 ht).2⟩⟩
  · exact h
theorem Done.break_ {s : PS} (h : Done s) : Done s.break_ := ⟨fun ht => ⟨(h.1 ht).1, rfl⟩, fun ht => ⟨(h.2 ht).1, rfl⟩⟩
theorem Done.in_ {s : PS} (h : Done s) (m : Nat) (n : Int) (xs : List UInt8) : Done (s.in_ m n xs) := by
  unfold PS.in_
  split
  · rename_i hh
    simp only [PS.hears, Bool.and_eq_true] at hh
    split
    · rename_i hn
      refine ⟨fun ht => ?_, h.2⟩
      have := (h.1 ht).1
      simp [PS.at, hn, this] at hh
    · rename_i hn
      refine ⟨h.1, fun ht => ?_⟩
      have := (h.2 ht).1
      simp [PS.at, hn, this] at hh
  · exact h

theorem outE_spec {s : PS} (hD : Done s) (n k : Int) (hs : n = 0 ∨ n = 1) :
    (s.broken = true → s.outE n k = false ∧ s.outB n k = []) ∧ ((s.to n).told = true → s.outE n k = false ∧ s.outB n k = []) ∧ (s.outE n k = true → (s.to n).ended = true ∧ (s.out n k).waits n = 0) := by
  have hsd : sideB n = true := by rcases hs with rfl | rfl <;> rfl
  have hD' : (s.to n).Done := by rcases hs with rfl | rfl; exact hD.2; exact hD.1
  refine ⟨fun hb => ⟨by simp [PS.outE, hb], by simp [PS.outB, hb]⟩, fun ht => ?_, fun he => ?_⟩
  · obtain ⟨g1, g2⟩ := hD' ht
    exact ⟨by simp [PS.outE, Way.end_, ht], by unfold PS.outB; split; rw [g2]; simp; rfl⟩
  · simp only [PS.outE, Bool.and_eq_true, Way.end_, List.isEmpty_iff, Bool.not_eq_true'] at he
    obtain ⟨⟨_, hb⟩, ⟨he1, _⟩, he2⟩ := he
    refine ⟨he1, ?_⟩
    rcases hs with rfl | rfl
    · simp only [PS.waits, hsd, if_true, PS.out, hb, Bool.not_false, Bool.and_true, PS.to, Way.out]
      exact List.length_eq_zero_iff.2 he2
    · simp only [PS.waits, hsd, if_true, PS.out, hb, Bool.not_false, Bool.and_true, PS.to, Way.out]
      exact List.length_eq_zero_iff.2 he2

theorem out_told (s : PS) (k : Int) :
    ((s.out 0 k).w1.told = (s.w1.told || s.outE 0 k) ∧ (s.out 0 k).w0.told = s.w0.told ∧ (s.out 0 k).w0.ended = s.w0.ended ∧ (s.out 0 k).w1.ended = s.w1.ended ∧ (s.out 0 k).broken = s.broken) ∧
    ((s.out 1 k).w0.told = (s.w0.told || s.outE 1 k) ∧ (s.out 1 k).w1.told = s.w1.told ∧ (s.out 1 k).w0.ended = s.w0.ended ∧ (s.out 1 k).w1.ended = s.w1.ended ∧ (s.out 1 k).broken = s.broken) := by
  have a0 : sideB 0 = true := rfl
  have a1 : sideB 1 = true := rfl
  cases hb : s.broken
  · simp [PS.out, PS.outE, PS.to, Way.out, hb, a0, a1]
  · simp [PS.out, PS.outE, hb, a0, a1]
theorem end_told (s : PS) (n : Int) : (s.end_ n).w0.told = s.w0.told ∧ (s.end_ n).w1.told = s.w1.told ∧ (s.end_ n).broken = s.broken := by
  unfold PS.end_
  split
  · split <;> exact ⟨rfl, rfl, rfl⟩
  · exact ⟨rfl, rfl, rfl⟩
theorem end_ended (s : PS) : ((s.end_ 0).w0.ended = (s.w0.ended || s.hears 0) ∧ (s.end_ 0).w1.ended = s.w1.ended) ∧ ((s.end_ 1).w1.ended = (s.w1.ended || s.hears 1) ∧ (s.end_ 1).w0.ended = s.w0.ended) := by
  unfold PS.end_
  cases h0 : s.hears 0 <;> cases h1 : s.hears 1 <;> simp
theorem in_told (s : PS) (m : Nat) (n : Int) (xs : List UInt8) : (s.in_ m n xs).w0.told = s.w0.told ∧ (s.in_ m n xs).w1.told = s.w1.told ∧ (s.in_ m n xs).w0.ended = s.w0.ended ∧ (s.in_ m n xs).w1.ended = s.w1.ended ∧ (s.in_ m n xs).broken = s.broken := by
  unfold PS.in_
  split
  · split <;> exact ⟨rfl, rfl, rfl, rfl, rfl⟩
  · exact ⟨rfl, rfl, rfl, rfl, rfl⟩
theorem End_walk {W : World} {p : Option Addr} {os : List OpD} {c : Nat} (most : Int) (wm : (Lit.int .u8 most).wf = true) (hl : Rd [Base W] p (os.flatMap opCells)) (hc : os.length ≤ c) (hcm : c ≤ 9223372036854775807) (hok : ∀ o ∈ os, OpOk W o) :
    CallR Try.prog 8 #[.int .u8 most, .slice p os.length c] W fun v w' => v = .bool true ∧ ∃ r, St W (Base W :: r) w' := by
  have hlen : os.length ≤ 9223372036854775807 := Nat.le_trans hc hcm
  refine F8_of ((head_spec (St.base W)).of fun v w1 ⟨hv, hS⟩ => ⟨_, hv, ?_⟩)
  refine (PNew_spec _ hS).of fun v w2 ⟨pb, hv, hS⟩ => ⟨_, hv, Bif.i (fun h => by cases h) fun _ => ?_⟩
  generalize IntKind.wrap .i64 most = mo at hS
  refine (Great_spec hl (by simp) hlen hS.last).of fun v w4 ⟨b, hv, hb, hS⟩ => ⟨_, hv, Bif.i (fun _ => ⟨rfl, _, hS⟩) fun hb' => ?_⟩
  refine NewC.n hS fun b13 w5 hS => NewC.n hS fun b15 w6 hS => ?_
  refine ⟨fun vs w => ∃ (k : Nat) (s : PS), vs = [.bool s.broken, .int .i64 k] ∧ k ≤ os.length ∧ Done s ∧ St W [Base W, PumpA pb mo s, Row b13 4 [.bool s.w1.told, .bool s.w0.told], Row b15 4 [.bool s.w0.ended, .bool s.w1.ended]] w, leftN os.length, ⟨0, PS.new, rfl, Nat.zero_le _, ⟨fun h => (by cases h), fun h => (by cases h)⟩, hS⟩, fun br i w hI => ?_⟩
  obtain ⟨k, s, he, hk, hD, hS⟩ := hI
  cases he
  refine Bif.i (fun hlt => ?_) fun _ => ⟨rfl, _, hS⟩
  have hlt : k < os.length := by have := of_decide_eq_true hlt; omega
  have ho := hok _ (List.getElem_mem hlt)
  obtain ⟨a, ha, h0, h1, h2, h3⟩ := op_at hl (by simp) hS hlt
  generalize os[k] = o at ho h0 h1 h2 h3
  obtain ⟨what, side, p1, xs, c1, nn⟩ := o
  refine ⟨a, ha, ⟨by omega, by omega⟩, LdI.at h0 (LdI.at h1 (LdL.at h2 (LdI.at h3 (NewC.n hS fun b w hS => ?_))))⟩
  dsimp only [put, del, List.cons_append, List.nil_append, List.set, List.length_cons, List.length_nil, Nat.zero_add, Nat.reduceAdd] at hS
  iterate 4 ((first | (refine St1.n 0 hS rfl (Nat.le_of_ble_eq_true rfl) fun w hS => ?_; dsimp only [put, del, List.cons_append, List.nil_append, List.set, List.length_cons, List.length_nil, Nat.zero_add, Nat.reduceAdd] at hS) | (refine St1.a 0 hS rfl (Nat.le_of_ble_eq_true rfl) fun w hS => ?_; dsimp only [put, del, List.cons_append, List.nil_append, List.set, List.length_cons, List.length_nil, Nat.zero_add, Nat.reduceAdd] at hS) | (refine St1.n 1 hS rfl (Nat.le_of_ble_eq_true rfl) fun w hS => ?_; dsimp only [put, del, List.cons_append, List.nil_append, List.set, List.length_cons, List.length_nil, Nat.zero_add, Nat.reduceAdd] at hS) | (refine St1.a 1 hS rfl (Nat.le_of_ble_eq_true rfl) fun w hS => ?_; dsimp only [put, del, List.cons_append, List.nil_append, List.set, List.length_cons, List.length_nil, Nat.zero_add, Nat.reduceAdd] at hS) | (refine St1.n 2 hS rfl (Nat.le_of_ble_eq_true rfl) fun w hS => ?_; dsimp only [put, del, List.cons_append, List.nil_append, List.set, List.length_cons, List.length_nil, Nat.zero_add, Nat.reduceAdd] at hS) | (refine St1.a 2 hS rfl (Nat.le_of_ble_eq_true rfl) fun w hS => ?_; dsimp only [put, del, List.cons_append, List.nil_append, List.set, List.length_cons, List.length_nil, Nat.zero_add, Nat.reduceAdd] at hS) | (refine St1.n 3 hS rfl (Nat.le_of_ble_eq_true rfl) fun w hS => ?_; dsimp only [put, del, List.cons_append, List.nil_append, List.set, List.length_cons, List.length_nil, Nat.zero_add, Nat.reduceAdd] at hS) | (refine St1.a 3 hS rfl (Nat.le_of_ble_eq_true rfl) fun w hS => ?_; dsimp only [put, del, List.cons_append, List.nil_append, List.set, List.length_cons, List.length_nil, Nat.zero_add, Nat.reduceAdd] at hS) | (refine St1.n 4 hS rfl (Nat.le_of_ble_eq_true rfl) fun w hS => ?_; dsimp only [put, del, List.cons_append, List.nil_append, List.set, List.length_cons, List.length_nil, Nat.zero_add, Nat.reduceAdd] at hS) | (refine St1.a 4 hS rfl (Nat.le_of_ble_eq_true rfl) fun w hS => ?_; dsimp only [put, del, List.cons_append, List.nil_append, List.set, List.length_cons, List.length_nil, Nat.zero_add, Nat.reduceAdd] at hS) | (refine St1.n 5 hS rfl (Nat.le_of_ble_eq_true rfl) fun w hS => ?_; dsimp only [put, del, List.cons_append, List.nil_append, List.set, List.length_cons, List.length_nil, Nat.zero_add, Nat.reduceAdd] at hS) | (refine St1.a 5 hS rfl (Nat.le_of_ble_eq_true rfl) fun w hS => ?_; dsimp only [put, del, List.cons_append, List.nil_append, List.set, List.length_cons, List.length_nil, Nat.zero_add, Nat.reduceAdd] at hS) | (refine St1.n 6 hS rfl (Nat.le_of_ble_eq_true rfl) fun w hS => ?_; dsimp only [put, del, List.cons_append, List.nil_append, List.set, List.length_cons, List.length_nil, Nat.zero_add, Nat.reduceAdd] at hS) | (refine St1.a 6 hS rfl (Nat.le_of_ble_eq_true rfl) fun w hS => ?_; dsimp only [put, del, List.cons_append, List.nil_append, List.set, List.length_cons, List.length_nil, Nat.zero_add, Nat.reduceAdd] at hS) | (refine St1.n 7 hS rfl (Nat.le_of_ble_eq_true rfl) fun w hS => ?_; dsimp only [put, del, List.cons_append, List.nil_append, List.set, List.length_cons, List.length_nil, Nat.zero_add, Nat.reduceAdd] at hS) | (refine St1.a 7 hS rfl (Nat.le_of_ble_eq_true rfl) fun w hS => ?_; dsimp only [put, del, List.cons_append, List.nil_append, List.set, List.length_cons, List.length_nil, Nat.zero_add, Nat.reduceAdd] at hS) | (refine St1.n 8 hS rfl (Nat.le_of_ble_eq_true rfl) fun w hS => ?_; dsimp only [put, del, List.cons_append, List.nil_append, List.set, List.length_cons, List.length_nil, Nat.zero_add, Nat.reduceAdd] at hS) | (refine St1.a 8 hS rfl (Nat.le_of_ble_eq_true rfl) fun w hS => ?_; dsimp only [put, del, List.cons_append, List.nil_append, List.set, List.length_cons, List.length_nil, Nat.zero_add, Nat.reduceAdd] at hS) | (refine St1.n 9 hS rfl (Nat.le_of_ble_eq_true rfl) fun w hS => ?_; dsimp only [put, del, List.cons_append, List.nil_append, List.set, List.length_cons, List.length_nil, Nat.zero_add, Nat.reduceAdd] at hS) | (refine St1.a 9 hS rfl (Nat.le_of_ble_eq_true rfl) fun w hS => ?_; dsimp only [put, del, List.cons_append, List.nil_append, List.set, List.length_cons, List.length_nil, Nat.zero_add, Nat.reduceAdd] at hS) | (refine St1.n 10 hS rfl (Nat.le_of_ble_eq_true rfl) fun w hS => ?_; dsimp only [put, del, List.cons_append, List.nil_append, List.set, List.length_cons, List.length_nil, Nat.zero_add, Nat.reduceAdd] at hS) | (refine St1.a 10 hS rfl (Nat.le_of_ble_eq_true rfl) fun w hS => ?_; dsimp only [put, del, List.cons_append, List.nil_append, List.set, List.length_cons, List.length_nil, Nat.zero_add, Nat.reduceAdd] at hS) | (refine St1.n 11 hS rfl (Nat.le_of_ble_eq_true rfl) fun w hS => ?_; dsimp only [put, del, List.cons_append, List.nil_append, List.set, List.length_cons, List.length_nil, Nat.zero_add, Nat.reduceAdd] at hS) | (refine St1.a 11 hS rfl (Nat.le_of_ble_eq_true rfl) fun w hS => ?_; dsimp only [put, del, List.cons_append, List.nil_append, List.set, List.length_cons, List.length_nil, Nat.zero_add, Nat.reduceAdd] at hS)))
  have hS : St W [Base W, PumpA pb mo s, Row b13 4 [.bool s.w1.told, .bool s.w0.told], Row b15 4 [.bool s.w0.ended, .bool s.w1.ended], Row b 30 [.int .i64 what, .int .i64 side, .slice p1 xs.length c1, .int .i64 nn]] w := hS
  have next : ∀ (s' : PS) (w' : World), Done s' → St W [Base W, PumpA pb mo s', Row b13 4 [.bool s'.w1.told, .bool s'.w0.told], Row b15 4 [.bool s'.w0.ended, .bool s'.w1.ended], Row b 30 [.int .i64 what, .int .i64 side, .slice p1 xs.length c1, .int .i64 nn]] w' → (∃ (k' : Nat) (s : PS), [Value.bool s'.broken, Value.int .i64 (IntKind.wrap .i64 ((k : Int) + 1))] = [.bool s.broken, .int .i64 k'] ∧ k' ≤ os.length ∧ Done s ∧ St W [Base W, PumpA pb mo s, Row b13 4 [.bool s.w1.told, .bool s.w0.told], Row b15 4 [.bool s.w0.ended, .bool s.w1.ended]] w') ∧ leftN os.length [Value.bool s'.broken, Value.int .i64 (IntKind.wrap .i64 ((k : Int) + 1))] w' < leftN os.length [Value.bool s.broken, Value.int .i64 k] w := fun s' w' hD hS => by
    rw [up hlt hlen]
    exact ⟨⟨k + 1, s', rfl, by omega, hD, hS.del 4 rfl⟩, by show os.length - (k + 1) < os.length - k; omega⟩
  refine ⟨fun vs w => vs = [] ∧ (side = 0 ∨ side = 1) ∧ St W [Base W, PumpA pb mo s, Row b13 4 [.bool s.w1.told, .bool s.w0.told], Row b15 4 [.bool s.w0.ended, .bool s.w1.ended], Row b 30 [.int .i64 what, .int .i64 side, .slice p1 xs.length c1, .int .i64 nn]] w, ?_, fun w7 hJ => ?_⟩
  · refine LdI.n 4 hS rfl rfl (Bif.i (fun hs => ?_) fun hs => ⟨rfl, .inl (by simpa using hs), hS⟩)
    exact LdI.n 4 hS rfl rfl (Bif.i (fun hs1 => next s _ hD hS) fun hs1 => ⟨rfl, .inr (by simpa using hs1), hS⟩)
  obtain ⟨_, hside, hS⟩ := hJ
  refine LdI.n 4 hS rfl rfl ⟨fun vs w => ∃ s' : PS, vs = [.bool s'.broken] ∧ Done s' ∧ St W [Base W, PumpA pb mo s', Row b13 4 [.bool s'.w1.told, .bool s'.w0.told], Row b15 4 [.bool s'.w0.ended, .bool s'.w1.ended], Row b 30 [.int .i64 what, .int .i64 side, .slice p1 xs.length c1, .int .i64 nn]] w, ?_, fun br w9 hJ => ?_⟩
  · refine Bif.i (fun hw => ?_) fun hw => ?_
    · refine LdI.n 4 hS rfl rfl (LdI.n 4 hS rfl rfl ?_)
      rcases hside with rfl | rfl
      · refine (POut_spec 0 nn (hS.at 1 rfl)).of fun v w10 ⟨p2, c2, hv, hS⟩ => ⟨_, _, _, _, hv, ?_⟩
        have hS : St W [Base W, PumpA pb mo (s.out 0 nn), Row b13 4 [.bool s.w1.told, .bool s.w0.told], Row b15 4 [.bool s.w0.ended, .bool s.w1.ended], Row b 30 [.int .i64 what, .int .i64 0, .slice p1 xs.length c1, .int .i64 nn]] w10 := St.back 1 (A := PumpA pb mo s) (l := [Base W, PumpA pb mo s, Row b13 4 [.bool s.w1.told, .bool s.w0.told], Row b15 4 [.bool s.w0.ended, .bool s.w1.ended], Row b 30 [.int .i64 what, .int .i64 0, .slice p1 xs.length c1, .int .i64 nn]]) rfl (B := [_]) hS.drop
        obtain ⟨g1, g2, g3⟩ := outE_spec hD 0 nn (by decide)
        obtain ⟨f1, f2, f3, f4, f5⟩ := (out_told s nn).1
        have ht : s.to 0 = s.w1 := rfl
        rw [ht] at g2 g3
        refine ⟨fun vs w => vs = [] ∧ St W [Base W, PumpA pb mo (s.out 0 nn), Row b13 4 [.bool s.w1.told, .bool s.w0.told], Row b15 4 [.bool s.w0.ended, .bool s.w1.ended], Row b 30 [.int .i64 what, .int .i64 0, .slice p1 xs.length c1, .int .i64 nn]] w, ?_, fun w11 hJ => ?_⟩
        · repeat' (first
            | exact ⟨rfl, hS⟩
            | (show Value.bool false = Value.bool true ∧ _; exfalso; clear hS; simp_all; done)
            | refine LdI.n 4 hS rfl rfl ?_
            | refine ⟨_, rfl, ⟨by decide, by decide⟩, LdB.a 2 hS rfl rfl ?_⟩
            | refine ⟨_, rfl, ⟨by decide, by decide⟩, LdB.a 3 hS rfl rfl ?_⟩
            | (refine (PWaits_spec 0 (hS.at 1 rfl)).of fun v w11 ⟨hv, hS⟩ => ⟨_, hv, ?_⟩
               replace hS : St W [Base W, PumpA pb mo (s.out 0 nn), Row b13 4 [.bool s.w1.told, .bool s.w0.told], Row b15 4 [.bool s.w0.ended, .bool s.w1.ended], Row b 30 [.int .i64 what, .int .i64 0, .slice p1 xs.length c1, .int .i64 nn]] w11 := St.back 1 (A := PumpA pb mo (s.out 0 nn)) (l := [Base W, PumpA pb mo (s.out 0 nn), Row b13 4 [.bool s.w1.told, .bool s.w0.told], Row b15 4 [.bool s.w0.ended, .bool s.w1.ended], Row b 30 [.int .i64 what, .int .i64 0, .slice p1 xs.length c1, .int .i64 nn]]) rfl (B := [_]) hS)
            | refine Bif.i (fun _ => ?_) fun _ => ?_)
        obtain ⟨_, hS⟩ := hJ
        have hC := Is.refl W [Base W, PumpA pb mo (s.out 0 nn), Row b13 4 [.bool s.w1.told, .bool s.w0.told], Row b15 4 [.bool s.w0.ended, .bool s.w1.ended], Row b 30 [.int .i64 what, .int .i64 0, .slice p1 xs.length c1, .int .i64 nn]]
        refine ⟨StC W _, StC.start hS, _, QtI.n 4 hC rfl rfl, _, QtI.n 4 hC rfl rfl, _, rfl, ⟨by decide, by decide⟩, _, QtB.a 2 hC rfl rfl, Bif.i (fun ht => ⟨_, rfl, ⟨by decide, by decide⟩, Ef.sta 2 hC rfl (Nat.le_of_ble_eq_true rfl) ⟨rfl, trivial, fun G w12 h12 => ?_⟩⟩) fun ht => ⟨_, rfl, ⟨by decide, by decide⟩, Ef.sta 2 hC rfl (Nat.le_of_ble_eq_true rfl) ⟨rfl, trivial, fun G w12 h12 => ?_⟩⟩⟩
        all_goals
          refine ⟨(s.out 0 nn), by rw [f5], hD.out _ _, ?_⟩
          rw [f1, f2, f3, f4, ht]
          exact StC.ends h12
      · refine (POut_spec 1 nn (hS.at 1 rfl)).of fun v w10 ⟨p2, c2, hv, hS⟩ => ⟨_, _, _, _, hv, ?_⟩
        have hS : St W [Base W, PumpA pb mo (s.out 1 nn), Row b13 4 [.bool s.w1.told, .bool s.w0.told], Row b15 4 [.bool s.w0.ended, .bool s.w1.ended], Row b 30 [.int .i64 what, .int .i64 1, .slice p1 xs.length c1, .int .i64 nn]] w10 := St.back 1 (A := PumpA pb mo s) (l := [Base W, PumpA pb mo s, Row b13 4 [.bool s.w1.told, .bool s.w0.told], Row b15 4 [.bool s.w0.ended, .bool s.w1.ended], Row b 30 [.int .i64 what, .int .i64 1, .slice p1 xs.length c1, .int .i64 nn]]) rfl (B := [_]) hS.drop
        obtain ⟨g1, g2, g3⟩ := outE_spec hD 1 nn (by decide)
        obtain ⟨f1, f2, f3, f4, f5⟩ := (out_told s nn).2
        have ht : s.to 1 = s.w0 := rfl
        rw [ht] at g2 g3
        refine ⟨fun vs w => vs = [] ∧ St W [Base W, PumpA pb mo (s.out 1 nn), Row b13 4 [.bool s.w1.told, .bool s.w0.told], Row b15 4 [.bool s.w0.ended, .bool s.w1.ended], Row b 30 [.int .i64 what, .int .i64 1, .slice p1 xs.length c1, .int .i64 nn]] w, ?_, fun w11 hJ => ?_⟩
        · repeat' (first
            | exact ⟨rfl, hS⟩
            | (show Value.bool false = Value.bool true ∧ _; exfalso; clear hS; simp_all; done)
            | refine LdI.n 4 hS rfl rfl ?_
            | refine ⟨_, rfl, ⟨by decide, by decide⟩, LdB.a 2 hS rfl rfl ?_⟩
            | refine ⟨_, rfl, ⟨by decide, by decide⟩, LdB.a 3 hS rfl rfl ?_⟩
            | (refine (PWaits_spec 1 (hS.at 1 rfl)).of fun v w11 ⟨hv, hS⟩ => ⟨_, hv, ?_⟩
               replace hS : St W [Base W, PumpA pb mo (s.out 1 nn), Row b13 4 [.bool s.w1.told, .bool s.w0.told], Row b15 4 [.bool s.w0.ended, .bool s.w1.ended], Row b 30 [.int .i64 what, .int .i64 1, .slice p1 xs.length c1, .int .i64 nn]] w11 := St.back 1 (A := PumpA pb mo (s.out 1 nn)) (l := [Base W, PumpA pb mo (s.out 1 nn), Row b13 4 [.bool s.w1.told, .bool s.w0.told], Row b15 4 [.bool s.w0.ended, .bool s.w1.ended], Row b 30 [.int .i64 what, .int .i64 1, .slice p1 xs.length c1, .int .i64 nn]]) rfl (B := [_]) hS)
            | refine Bif.i (fun _ => ?_) fun _ => ?_)
        obtain ⟨_, hS⟩ := hJ
        have hC := Is.refl W [Base W, PumpA pb mo (s.out 1 nn), Row b13 4 [.bool s.w1.told, .bool s.w0.told], Row b15 4 [.bool s.w0.ended, .bool s.w1.ended], Row b 30 [.int .i64 what, .int .i64 1, .slice p1 xs.length c1, .int .i64 nn]]
        refine ⟨StC W _, StC.start hS, _, QtI.n 4 hC rfl rfl, _, QtI.n 4 hC rfl rfl, _, rfl, ⟨by decide, by decide⟩, _, QtB.a 2 hC rfl rfl, Bif.i (fun ht => ⟨_, rfl, ⟨by decide, by decide⟩, Ef.sta 2 hC rfl (Nat.le_of_ble_eq_true rfl) ⟨rfl, trivial, fun G w12 h12 => ?_⟩⟩) fun ht => ⟨_, rfl, ⟨by decide, by decide⟩, Ef.sta 2 hC rfl (Nat.le_of_ble_eq_true rfl) ⟨rfl, trivial, fun G w12 h12 => ?_⟩⟩⟩
        all_goals
          refine ⟨(s.out 1 nn), by rw [f5], hD.out _ _, ?_⟩
          rw [f1, f2, f3, f4, ht]
          exact StC.ends h12
    refine LdI.n 4 hS rfl rfl (Bif.i (fun hw3 => ?_) fun hw3 => ?_)
    · refine LdI.n 4 hS rfl rfl ?_
      rcases hside with rfl | rfl
      · refine (PEnd_spec 0 (hS.at 1 rfl)).of fun v w10 ⟨hv, hS⟩ => ⟨_, hv, ?_⟩
        have hS : St W [Base W, PumpA pb mo (s.end_ 0), Row b13 4 [.bool s.w1.told, .bool s.w0.told], Row b15 4 [.bool s.w0.ended, .bool s.w1.ended], Row b 30 [.int .i64 what, .int .i64 0, .slice p1 xs.length c1, .int .i64 nn]] w10 := St.back 1 (A := PumpA pb mo s) (l := [Base W, PumpA pb mo s, Row b13 4 [.bool s.w1.told, .bool s.w0.told], Row b15 4 [.bool s.w0.ended, .bool s.w1.ended], Row b 30 [.int .i64 what, .int .i64 0, .slice p1 xs.length c1, .int .i64 nn]]) rfl (B := [_]) hS
        obtain ⟨f1, f2, f3⟩ := end_told s 0
        obtain ⟨e1, e2⟩ := (end_ended s).1
        have hh : s.hears 0 = (!s.broken && !s.w0.ended) := by
          have a0 : sideB 0 = true := rfl
          simp [PS.hears, PS.at, a0]
        refine ⟨fun vs w => vs = [] ∧ St W [Base W, PumpA pb mo (s.end_ 0), Row b13 4 [.bool s.w1.told, .bool s.w0.told], Row b15 4 [.bool s.w0.ended, .bool s.w1.ended], Row b 30 [.int .i64 what, .int .i64 0, .slice p1 xs.length c1, .int .i64 nn]] w, ?_, fun w11 hJ => ?_⟩
        · repeat' (first
            | exact ⟨rfl, hS⟩
            | (show Value.bool false = Value.bool true ∧ _; exfalso; clear hS; simp_all; done)
            | refine LdI.n 4 hS rfl rfl ?_
            | refine ⟨_, rfl, ⟨by decide, by decide⟩, LdB.a 3 hS rfl rfl ?_⟩
            | refine Bif.i (fun _ => ?_) fun _ => ?_)
        obtain ⟨_, hS⟩ := hJ
        have hC := Is.refl W [Base W, PumpA pb mo (s.end_ 0), Row b13 4 [.bool s.w1.told, .bool s.w0.told], Row b15 4 [.bool s.w0.ended, .bool s.w1.ended], Row b 30 [.int .i64 what, .int .i64 0, .slice p1 xs.length c1, .int .i64 nn]]
        refine ⟨StC W _, StC.start hS, _, QtI.n 4 hC rfl rfl, _, QtI.n 4 hC rfl rfl, _, rfl, ⟨by decide, by decide⟩, _, QtB.a 3 hC rfl rfl, Bif.i (fun ht => ⟨_, rfl, ⟨by decide, by decide⟩, Ef.sta 3 hC rfl (Nat.le_of_ble_eq_true rfl) ⟨rfl, trivial, fun G w12 h12 => ?_⟩⟩) fun ht => ⟨_, rfl, ⟨by decide, by decide⟩, Ef.sta 3 hC rfl (Nat.le_of_ble_eq_true rfl) ⟨rfl, trivial, fun G w12 h12 => ?_⟩⟩⟩
        all_goals
          refine ⟨(s.end_ 0), by rw [f3], hD.end_ _, ?_⟩
          rw [f1, f2, e1, e2, ht]
          exact StC.ends h12
      · refine (PEnd_spec 1 (hS.at 1 rfl)).of fun v w10 ⟨hv, hS⟩ => ⟨_, hv, ?_⟩
        have hS : St W [Base W, PumpA pb mo (s.end_ 1), Row b13 4 [.bool s.w1.told, .bool s.w0.told], Row b15 4 [.bool s.w0.ended, .bool s.w1.ended], Row b 30 [.int .i64 what, .int .i64 1, .slice p1 xs.length c1, .int .i64 nn]] w10 := St.back 1 (A := PumpA pb mo s) (l := [Base W, PumpA pb mo s, Row b13 4 [.bool s.w1.told, .bool s.w0.told], Row b15 4 [.bool s.w0.ended, .bool s.w1.ended], Row b 30 [.int .i64 what, .int .i64 1, .slice p1 xs.length c1, .int .i64 nn]]) rfl (B := [_]) hS
        obtain ⟨f1, f2, f3⟩ := end_told s 1
        obtain ⟨e1, e2⟩ := (end_ended s).2
        have hh : s.hears 1 = (!s.broken && !s.w1.ended) := by
          have a1 : sideB 1 = true := rfl
          simp [PS.hears, PS.at, a1]
        refine ⟨fun vs w => vs = [] ∧ St W [Base W, PumpA pb mo (s.end_ 1), Row b13 4 [.bool s.w1.told, .bool s.w0.told], Row b15 4 [.bool s.w0.ended, .bool s.w1.ended], Row b 30 [.int .i64 what, .int .i64 1, .slice p1 xs.length c1, .int .i64 nn]] w, ?_, fun w11 hJ => ?_⟩
        · repeat' (first
            | exact ⟨rfl, hS⟩
            | (show Value.bool false = Value.bool true ∧ _; exfalso; clear hS; simp_all; done)
            | refine LdI.n 4 hS rfl rfl ?_
            | refine ⟨_, rfl, ⟨by decide, by decide⟩, LdB.a 3 hS rfl rfl ?_⟩
            | refine Bif.i (fun _ => ?_) fun _ => ?_)
        obtain ⟨_, hS⟩ := hJ
        have hC := Is.refl W [Base W, PumpA pb mo (s.end_ 1), Row b13 4 [.bool s.w1.told, .bool s.w0.told], Row b15 4 [.bool s.w0.ended, .bool s.w1.ended], Row b 30 [.int .i64 what, .int .i64 1, .slice p1 xs.length c1, .int .i64 nn]]
        refine ⟨StC W _, StC.start hS, _, QtI.n 4 hC rfl rfl, _, QtI.n 4 hC rfl rfl, _, rfl, ⟨by decide, by decide⟩, _, QtB.a 3 hC rfl rfl, Bif.i (fun ht => ⟨_, rfl, ⟨by decide, by decide⟩, Ef.sta 3 hC rfl (Nat.le_of_ble_eq_true rfl) ⟨rfl, trivial, fun G w12 h12 => ?_⟩⟩) fun ht => ⟨_, rfl, ⟨by decide, by decide⟩, Ef.sta 3 hC rfl (Nat.le_of_ble_eq_true rfl) ⟨rfl, trivial, fun G w12 h12 => ?_⟩⟩⟩
        all_goals
          refine ⟨(s.end_ 1), by rw [f3], hD.end_ _, ?_⟩
          rw [f1, f2, e1, e2, ht]
          exact StC.ends h12
    refine LdI.n 4 hS rfl rfl (Bif.i (fun hw4 => ?_) fun hw4 => ?_)
    · refine (PBreak_spec (hS.at 1 rfl)).of fun v w10 ⟨hv, hS⟩ => ⟨hv, s.break_, rfl, hD.break_, ?_⟩
      exact St.back 1 (A := PumpA pb mo s) (l := [Base W, PumpA pb mo s, Row b13 4 [.bool s.w1.told, .bool s.w0.told], Row b15 4 [.bool s.w0.ended, .bool s.w1.ended], Row b 30 [.int .i64 what, .int .i64 side, .slice p1 xs.length c1, .int .i64 nn]]) rfl (B := [_]) hS
    · refine LdI.n 4 hS rfl rfl (LdL.n 4 hS rfl rfl ((PIn_spec (xs := xs) side ((ho.2.1.mem (l := [_, _, _, _]) (by simp))) ho.1 (hS.at 1 rfl)).of fun v w10 ⟨hv, hS⟩ => ⟨_, hv, ?_⟩))
      have hS : St W [Base W, PumpA pb mo (s.in_ (capOf mo) side xs), Row b13 4 [.bool s.w1.told, .bool s.w0.told], Row b15 4 [.bool s.w0.ended, .bool s.w1.ended], Row b 30 [.int .i64 what, .int .i64 side, .slice p1 xs.length c1, .int .i64 nn]] w10 := St.back 1 (A := PumpA pb mo s) (l := [Base W, PumpA pb mo s, Row b13 4 [.bool s.w1.told, .bool s.w0.told], Row b15 4 [.bool s.w0.ended, .bool s.w1.ended], Row b 30 [.int .i64 what, .int .i64 side, .slice p1 xs.length c1, .int .i64 nn]]) rfl (B := [_]) hS
      obtain ⟨f1, f2, f3, f4, f5⟩ := in_told s (capOf mo) side xs
      have hn : 0 < s.inN (capOf mo) side xs → s.hears side = true := fun h => by
        unfold PS.inN at h
        split at h
        · assumption
        · omega
      have fin : ∃ s' : PS, [Value.bool s.broken] = [.bool s'.broken] ∧ Done s' ∧ St W [Base W, PumpA pb mo s', Row b13 4 [.bool s'.w1.told, .bool s'.w0.told], Row b15 4 [.bool s'.w0.ended, .bool s'.w1.ended], Row b 30 [.int .i64 what, .int .i64 side, .slice p1 xs.length c1, .int .i64 nn]] w10 := ⟨s.in_ (capOf mo) side xs, by rw [f5], hD.in_ _ _ _, by rw [f1, f2, f3, f4]; exact hS⟩
      refine Bif.i (fun hp => LdI.n 4 hS rfl rfl ?_) fun _ => fin
      have hh := hn (by have := of_decide_eq_true hp; omega)
      simp only [PS.hears, Bool.and_eq_true, Bool.not_eq_true'] at hh
      rcases hside with rfl | rfl
      · refine ⟨_, rfl, ⟨by decide, by decide⟩, LdB.a 3 hS rfl rfl (Bif.i (fun he => ?_) fun _ => Bif.i (fun hbr => ?_) fun _ => fin)⟩
        · simp [PS.at, he] at hh
        · simp [hbr] at hh
      · refine ⟨_, rfl, ⟨by decide, by decide⟩, LdB.a 3 hS rfl rfl (Bif.i (fun he => ?_) fun _ => Bif.i (fun hbr => ?_) fun _ => fin)⟩
        · simp [PS.at, he] at hh
        · simp [hbr] at hh
  · obtain ⟨s', he, hD', hS⟩ := hJ
    cases he
    refine (POver_spec (hS.at 1 rfl)).of fun v w10 ⟨hv, hS⟩ => ⟨_, hv, ?_⟩
    have hS : St W [Base W, PumpA pb mo s', Row b13 4 [.bool s'.w1.told, .bool s'.w0.told], Row b15 4 [.bool s'.w0.ended, .bool s'.w1.ended], Row b 30 [.int .i64 what, .int .i64 side, .slice p1 xs.length c1, .int .i64 nn]] w10 := St.back 1 (A := PumpA pb mo s') (l := [Base W, PumpA pb mo s', Row b13 4 [.bool s'.w1.told, .bool s'.w0.told], Row b15 4 [.bool s'.w0.ended, .bool s'.w1.ended], Row b 30 [.int .i64 what, .int .i64 side, .slice p1 xs.length c1, .int .i64 nn]]) rfl (B := [_]) hS
    have hov : s'.over = (s'.broken || s'.w0.told && s'.w1.told) := rfl
    refine Bif.i (fun hb => Bif.i (fun h => ?_) fun _ => next s' _ hD' hS) fun hb => ⟨_, rfl, ⟨by decide, by decide⟩, LdB.a 2 hS rfl rfl (Bif.i (fun h1 => ⟨_, rfl, ⟨by decide, by decide⟩, LdB.a 2 hS rfl rfl (Bif.i (fun h => ?_) fun _ => next s' _ hD' hS)⟩) fun h1 => Bif.i (fun h => ?_) fun _ => next s' _ hD' hS)⟩
    · rw [hov, hb] at h; simp at h
    · rw [hov, hb, h1] at h; simp at h
    · rw [hov, hb, h1] at h; simp at h
end Go.Proofs.Ytneilmoiahphkaa
