/-
  What the laws of an agent are handed.
-/
import Derived.Test.YtlkbjkmpanohfaaAgH
import Derived.Test.YtlkbjkmpanohfaaUpto
set_option linter.unusedVariables false
set_option linter.unusedSimpArgs false
namespace Go.Proofs.Ytlkbjkmpanohfaa
open Go
theorem cS : Try.prog.cellsOf 9 = 1 := by kernel_rfl
theorem cI : Try.prog.cellsOf 3 = 1 := by kernel_rfl
theorem cI64 : Try.prog.cellsOf 2 = 1 := by kernel_rfl
theorem cMsg : Try.prog.cellsOf 32 = 5 := by kernel_rfl
theorem cPlan : Try.prog.cellsOf 23 = 6 := by kernel_rfl
theorem cOp : Try.prog.cellsOf 34 = 8 := by kernel_rfl
def planC (P : PlanD) : List Value := [.string P.ten, .string P.tok, .string P.sec, .string P.nam, .int .i64 P.ttl, .int .i64 P.every]
abbrev planV (P : PlanD) : Value := .agg #[.string P.ten, .string P.tok, .string P.sec, .string P.nam, .int .i64 P.ttl, .int .i64 P.every]
section
variable {H : Type} {enc : TypeId × Value → H} {W : World} {base b0 fuel : Nat} {spare : Nat → Bool} {held : Bool} {cs : List Value} {x : DataW H × List MemPlace}
theorem plan_arg (h : DataW.trod enc Try.prog W base spare held fuel 23 cs = some x) : ∃ P : PlanD, cs = planC P ∧ PlanOk P ∧ P.ten.size + P.tok.size + P.sec.size + P.nam.size ≤ Rows.uptoBulk x.1 := by
  obtain ⟨xs, n, _, rfl, hl, hlen, hf⟩ := DataW.trod_struct Try.underlying23 h
  rw [cPlan] at hl
  match cs, hl, xs, hlen with
  | [c0, c1, c2, c3, c4, c5], _, [y0, y1, y2, y3, y4, y5], _ =>
    have h0 : DataW.trod enc Try.prog W base spare held n 9 [c0] = some y0 := by simpa [cS] using hf 0 _ rfl
    have h1 : DataW.trod enc Try.prog W base spare held n 9 [c1] = some y1 := by simpa [cS] using hf 1 _ rfl
    have h2 : DataW.trod enc Try.prog W base spare held n 9 [c2] = some y2 := by simpa [cS] using hf 2 _ rfl
    have h3 : DataW.trod enc Try.prog W base spare held n 9 [c3] = some y3 := by simpa [cS] using hf 3 _ rfl
    have h4 : DataW.trod enc Try.prog W base spare held n 2 [c4] = some y4 := by simpa [cI64] using hf 4 _ rfl
    have h5 : DataW.trod enc Try.prog W base spare held n 2 [c5] = some y5 := by simpa [cI64] using hf 5 _ rfl
    obtain ⟨s0, a0, d0, l0⟩ := DataW.trod_string uS h0
    obtain ⟨s1, a1, d1, l1⟩ := DataW.trod_string uS h1
    obtain ⟨s2, a2, d2, l2⟩ := DataW.trod_string uS h2
    obtain ⟨s3, a3, d3, l3⟩ := DataW.trod_string uS h3
    obtain ⟨n4, a4, _⟩ := int_arg uI64 h4
    obtain ⟨n5, a5, _⟩ := int_arg uI64 h5
    simp only [List.cons.injEq, and_true] at a0 a1 a2 a3 a4 a5
    refine ⟨⟨s0, s1, s2, s3, n4, n5⟩, by rw [a0, a1, a2, a3, a4, a5]; rfl, l2, ?_⟩
    subst d0; subst d1; subst d2; subst d3
    simp only [List.map_cons, Rows.uptoBulk, Rows.uptoBulkAll]
    have e : ∀ s : ByteArray, s.data.toList.length = s.size := fun s => rfl
    rw [e, e, e, e]
    omega
theorem msg_arg (h : DataW.trod enc Try.prog W base spare held fuel 32 cs = some x) : ∃ m : MsgD, cs = msgC m ∧ m.A.size + m.B.size ≤ Rows.uptoBulk x.1 := by
  obtain ⟨xs, n, _, rfl, hl, hlen, hf⟩ := DataW.trod_struct Try.underlying32 h
  rw [cMsg] at hl
  match cs, hl, xs, hlen with
  | [c0, c1, c2, c3, c4], _, [y0, y1, y2, y3, y4], _ =>
    have h0 : DataW.trod enc Try.prog W base spare held n 3 [c0] = some y0 := by simpa [cI] using hf 0 _ rfl
    have h1 : DataW.trod enc Try.prog W base spare held n 9 [c1] = some y1 := by simpa [cS] using hf 1 _ rfl
    have h2 : DataW.trod enc Try.prog W base spare held n 9 [c2] = some y2 := by simpa [cS] using hf 2 _ rfl
    have h3 : DataW.trod enc Try.prog W base spare held n 2 [c3] = some y3 := by simpa [cI64] using hf 3 _ rfl
    have h4 : DataW.trod enc Try.prog W base spare held n 2 [c4] = some y4 := by simpa [cI64] using hf 4 _ rfl
    obtain ⟨n0, a0, _⟩ := int_arg uInt h0
    obtain ⟨s1, a1, d1, l1⟩ := DataW.trod_string uS h1
    obtain ⟨s2, a2, d2, l2⟩ := DataW.trod_string uS h2
    obtain ⟨n3, a3, _⟩ := int_arg uI64 h3
    obtain ⟨n4, a4, _⟩ := int_arg uI64 h4
    simp only [List.cons.injEq, and_true] at a0 a1 a2 a3 a4
    refine ⟨⟨n0, s1, s2, n3, n4⟩, by rw [a0, a1, a2, a3, a4]; rfl, ?_⟩
    subst d1; subst d2
    simp only [List.map_cons, Rows.uptoBulk, Rows.uptoBulkAll]
    have e : ∀ s : ByteArray, s.data.toList.length = s.size := fun s => rfl
    rw [e, e]
    omega
theorem op_arg (h : DataW.trod enc Try.prog W base spare held fuel 34 cs = some x) : ∃ o : OpD, cs = opC o := by
  obtain ⟨xs, n, _, rfl, hl, hlen, hf⟩ := DataW.trod_struct Try.underlying34 h
  rw [cOp] at hl
  match cs, hl, xs, hlen with
  | [c0, c1, c2, c3, c4, c5, c6, c7], _, [y0, y1, y2, y3], _ =>
    have h0 : DataW.trod enc Try.prog W base spare held n 3 [c0] = some y0 := by simpa [cI] using hf 0 _ rfl
    have h1 : DataW.trod enc Try.prog W base spare held n 3 [c1] = some y1 := by simpa [cI] using hf 1 _ rfl
    have h2 : DataW.trod enc Try.prog W base spare held n 32 [c2, c3, c4, c5, c6] = some y2 := by simpa [cMsg] using hf 2 _ rfl
    have h3 : DataW.trod enc Try.prog W base spare held n 2 [c7] = some y3 := by simpa [cI64] using hf 3 _ rfl
    obtain ⟨n0, a0, _⟩ := int_arg uInt h0
    obtain ⟨n1, a1, _⟩ := int_arg uInt h1
    obtain ⟨m, a2, _⟩ := msg_arg h2
    obtain ⟨n3, a3, _⟩ := int_arg uI64 h3
    simp only [List.cons.injEq, and_true] at a0 a1 a3
    simp only [msgC, List.cons.injEq, and_true] at a2
    obtain ⟨b1, b2, b3, b4, b5⟩ := a2
    exact ⟨⟨n0, n1, m, n3⟩, by rw [a0, a1, b1, b2, b3, b4, b5, a3]; rfl⟩
theorem ops_open {r : _root_.Go.Reach} {v : Value} {d : DataW H} {ps : List MemPlace} (hval : Value.okWide Try.prog W r b0 24 v) (h : DataW.Trod enc Try.prog W base spare held 24 v d ps) :
    ∃ (p : Option Addr) (os : List OpD) (c : Nat), v = .slice p os.length c ∧ os.length ≤ c ∧ c ≤ 9223372036854775807 ∧ Rd [Base W] p (os.flatMap opC) ∧ ∀ o ∈ os, True := by
  obtain ⟨a, len, cap, rfl⟩ := WideShapes.okWide_slice Try.underlying24 hval
  obtain ⟨fuel, hf⟩ := h
  obtain ⟨p, xs, c, h1, h2⟩ := sl_arg opC (fun _ => True) Try.underlying24 cOp (by decide) (fun _ => rfl) (fun n cs' y hl h => by
    obtain ⟨o, ho⟩ := op_arg h
    exact ⟨o, ho, trivial⟩) hf
  simp [Value.cells] at h1
  obtain ⟨rfl, rfl, rfl⟩ := h1
  exact ⟨_, xs, _, rfl, h2⟩
theorem plan_open {r : _root_.Go.Reach} {v : Value} {d : DataW H} {ps : List MemPlace} (hval : Value.okWide Try.prog W r b0 23 v) (h : DataW.Trod enc Try.prog W base spare held 23 v d ps) :
    ∃ P : PlanD, v = planV P ∧ PlanOk P ∧ P.ten.size + P.tok.size + P.sec.size + P.nam.size ≤ Rows.uptoBulk d := by
  obtain ⟨cs, rfl, _⟩ := WideShapes.okWide_struct Try.underlying23 hval
  obtain ⟨fuel, hf⟩ := h
  obtain ⟨P, h1, h2⟩ := plan_arg hf
  refine ⟨P, ?_, h2⟩
  have : cs = (planC P).toArray := by
    apply Array.ext'
    simpa [Value.cells] using h1
  rw [this]; rfl
theorem msg_open {r : _root_.Go.Reach} {v : Value} {d : DataW H} {ps : List MemPlace} (hval : Value.okWide Try.prog W r b0 32 v) (h : DataW.Trod enc Try.prog W base spare held 32 v d ps) :
    ∃ m : MsgD, v = msgV m ∧ m.A.size + m.B.size ≤ Rows.uptoBulk d := by
  obtain ⟨cs, rfl, _⟩ := WideShapes.okWide_struct Try.underlying32 hval
  obtain ⟨fuel, hf⟩ := h
  obtain ⟨m, h1, h2⟩ := msg_arg hf
  refine ⟨m, ?_, h2⟩
  have : cs = (msgC m).toArray := by
    apply Array.ext'
    simpa [Value.cells] using h1
  rw [this]; rfl
end
end Go.Proofs.Ytlkbjkmpanohfaa
