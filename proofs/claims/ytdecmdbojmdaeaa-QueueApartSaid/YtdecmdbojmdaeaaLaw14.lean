/-
  The laws of who waits: what lists of calls tell.
-/
import Derived.Test.YtdecmdbojmdaeaaRef14
import Derived.Test.YtdecmdbojmdaeaaArgs
set_option linter.unusedVariables false
set_option linter.unusedSimpArgs false
namespace Go.Proofs.Ytdecmdbojmdaeaa
open Go
theorem head_spec {W w : World} {F : List Asn} (hS : St W F w) : CallR Try.prog 9 #[] w fun v w' => v = .bool true ∧ St W F w' := by
  refine F9_of ((New_spec hS).of fun v w1 ⟨q, hv, hS⟩ => ⟨_, hv, Bif.i (fun h => by cases h) fun _ => ?_⟩)
  refine (Put_spec _ 1 hS).of fun v w1 ⟨hv, hS⟩ => ⟨_, hv, ?_⟩
  refine (Put_spec _ 2 hS).of fun v w1 ⟨hv, hS⟩ => ⟨_, hv, ?_⟩
  refine (Put_spec _ 1 hS).of fun v w1 ⟨hv, hS⟩ => ⟨_, hv, ?_⟩
  refine (Put_spec _ 3 hS).of fun v w1 ⟨hv, hS⟩ => ⟨_, hv, ?_⟩
  refine (Where_spec 3 hS).of fun v w1 ⟨hv, hS⟩ => ⟨_, _, hv, ?_⟩
  refine (Drop_spec 1 hS).of fun v w1 ⟨hv, hS⟩ => ⟨_, hv, ?_⟩
  refine (Take_spec _ hS).of fun v w1 ⟨hv, hS⟩ => ⟨_, _, hv, ?_⟩
  refine (Take_spec _ hS).of fun v w1 ⟨hv, hS⟩ => ⟨_, _, hv, ?_⟩
  refine Bif.i (fun _ => ?_) fun h => absurd h (by decide +kernel)
  refine Bif.i (fun _ => ?_) fun h => absurd h (by decide +kernel)
  refine Bif.i (fun _ => ?_) fun h => absurd h (by decide +kernel)
  refine Bif.i (fun _ => ?_) fun h => absurd h (by decide +kernel)
  rw [bytes_beq]
  refine Bif.i (fun _ => ?_) fun h => absurd h (by decide +kernel)
  refine Bif.i (fun _ => ?_) fun h => absurd h (by decide +kernel)
  refine Bif.i (fun _ => ?_) fun h => absurd h (by decide +kernel)
  refine Bif.i (fun _ => ?_) fun h => absurd h (by decide +kernel)
  refine Bif.i (fun _ => ?_) fun h => absurd h (by decide +kernel)
  refine Bif.i (fun _ => ?_) fun h => absurd h (by decide +kernel)
  refine (Many_spec hS).of fun v w1 ⟨hv, hS⟩ => ⟨_, hv, ?_⟩
  refine Bif.i (fun _ => ?_) fun h => absurd h (by decide +kernel)
  refine (List_spec _ hS).of fun v w1 ⟨p, c, hv, hS⟩ => ⟨_, _, _, hv, ?_⟩
  exact ⟨congrArg Value.bool (by decide +kernel), hS.drop.drop⟩

/-! ### A list of calls -/
structure OpD where
  what : Int
  name : Name
  id : Int
deriving Inhabited
def opCells (o : OpD) : List Value := [.int .i64 o.what, .string o.name, .int .i64 o.id]
theorem op3 (o : OpD) : (opCells o).length = 3 := rfl
def OpOk (W : World) (o : OpD) : Prop := o.name.size ≤ 9223372036854775807 ∧ (Lit.int .i64 o.id).wf = true
theorem cOp : Try.prog.cellsOf 30 = 3 := by kernel_rfl
theorem cInt : Try.prog.cellsOf 3 = 1 := by kernel_rfl
theorem cS : Try.prog.cellsOf 9 = 1 := by kernel_rfl
theorem ops_arg {H : Type} {enc : TypeId × Value → H} {W : World} {base fuel : Nat} {spare : Nat → Bool} {held : Bool} {cs : List Value} {x : DataW H × List MemPlace} (h : DataW.trod enc Try.prog W base spare held fuel 22 cs = some x) :
    ∃ (p : Option Addr) (os : List OpD) (c : Nat), cs = [.slice p os.length c] ∧ os.length ≤ c ∧ c ≤ 9223372036854775807 ∧ Rd [Base W] p (os.flatMap opCells) ∧ ∀ o ∈ os, OpOk W o := by
  refine sl_arg opCells (OpOk W) Try.underlying22 cOp (by decide) (fun _ => rfl) (fun n cs' y hl h => ?_) h
  obtain ⟨y0, y1, y2, n, _, _, h0, h1, h2⟩ := Deep.trod_struct3 Try.underlying30 h
  match cs', hl with
  | [u0, u1, u2], _ =>
    rw [cInt] at h0 h2
    rw [cS] at h1
    obtain ⟨z0, e0, _⟩ := int_arg Try.underlying3 h0
    obtain ⟨s, e1, g1⟩ := str_arg Try.underlying9 h1
    obtain ⟨z2, e2, g2⟩ := int_arg Try.underlying3 h2
    refine ⟨⟨z0, s, z2⟩, ?_, g1, g2⟩
    simp at e0 e1 e2
    rw [e0, e1, e2]
    rfl
theorem ops_open {H : Type} {enc : TypeId × Value → H} {W : World} {base b0 : Nat} {spare : Nat → Bool} {held : Bool} {r : _root_.Go.Reach} {v : Value} {d : DataW H} {ps : List MemPlace} (hval : Value.okWide Try.prog W r b0 22 v) (h : DataW.Trod enc Try.prog W base spare held 22 v d ps) :
    ∃ (p : Option Addr) (os : List OpD) (c : Nat), v = .slice p os.length c ∧ os.length ≤ c ∧ c ≤ 9223372036854775807 ∧ Rd [Base W] p (os.flatMap opCells) ∧ ∀ o ∈ os, OpOk W o := by
  obtain ⟨a, len, cap, rfl⟩ := WideShapes.okWide_slice Try.underlying22 hval
  obtain ⟨fuel, hf⟩ := h
  obtain ⟨p, xs, c, h1, h2⟩ := ops_arg hf
  simp [Value.cells] at h1
  obtain ⟨rfl, rfl, rfl⟩ := h1
  exact ⟨_, xs, _, rfl, h2⟩

theorem great_spec {W w : World} {l : List Asn} {p : Option Addr} {os : List OpD} {c : Nat} (hl : Rd [Base W] p (os.flatMap opCells)) (hm : Base W ∈ l) (hlen : os.length ≤ 9223372036854775807) (hS : St W l w) :
    CallR Try.prog 12 #[.slice p os.length c] w fun v w' => ∃ b, v = .bool b ∧ (b = false → os.length ≤ 400) ∧ St W l w' := by
  refine F12_of ⟨fun vs w => ∃ k : Nat, k ≤ os.length ∧ vs = [.int .i64 k] ∧ St W l w, leftN os.length, ⟨0, Nat.zero_le _, rfl, hS⟩, fun i w hI => ?_⟩
  obtain ⟨k, hk, he, hS⟩ := hI
  cases he
  refine Bif.i (fun hlt => ?_) fun _ => ⟨_, rfl, fun h => by have := of_decide_eq_false h; omega, hS⟩
  have hlt : k < os.length := by have := of_decide_eq_true hlt; omega
  generalize decide ((k : Int) < 600) = b6
  refine Bif.i (fun _ => ?_) fun _ => ⟨_, rfl, fun h => by have := of_decide_eq_false h; omega, hS⟩
  refine IxP.el op3 (by decide) (hl.mem hm) hS rfl hlt (List.getElem?_eq_getElem hlt) fun a ha => ?_
  refine LdS.at (ha 1 _ rfl) ?_
  refine Bif.i (fun _ => ⟨true, rfl, fun h => (by cases h), hS⟩) fun _ => ?_
  rw [up hlt hlen]
  exact ⟨⟨k + 1, by omega, rfl, hS⟩, by show os.length - (k + 1) < os.length - k; omega⟩
end Go.Proofs.Ytdecmdbojmdaeaa
