/-
  The second form: how much a reading holds.
-/
import Derived.Test.YtlkbjkmpanohfaaArgs
set_option linter.unusedVariables false
set_option linter.unusedSimpArgs false
namespace Go.Proofs.Ytlkbjkmpanohfaa
open Go
theorem bulk_pos {H : Type} (d : DataW H) : 1 ≤ Rows.uptoBulk d := by
  cases d with
  | lit l => cases l <;> simp [Rows.uptoBulk]
  | _ => simp [Rows.uptoBulk]
theorem bulk_all {H : Type} : ∀ l : List (DataW H), l.length ≤ Rows.uptoBulkAll l
  | [] => by simp [Rows.uptoBulkAll]
  | d :: r => by
    have := bulk_pos d
    have := bulk_all r
    simp only [Rows.uptoBulkAll, List.length_cons]; omega
theorem bulk_sl {H : Type} {enc : TypeId × Value → H} {P : Program} {W : World} {base : Nat} {spare : Nat → Bool} {held : Bool} {t e : TypeId} {p : Option Addr} {n c : Nat} {d : DataW H} {ps : List MemPlace} (ht : P.underlying t = some (.slice e)) (h : DataW.Trod enc P W base spare held t (.slice p n c) d ps) : n ≤ Rows.uptoBulk d := by
  obtain ⟨fuel, hf⟩ := h
  rcases Deep.open_slice ht hf with ⟨h1, h2⟩ | ⟨a, len, cap, m, k, D, Pl, h1, _, _, _, _, h2, _⟩
  · simp [Value.cells] at h1
    omega
  · simp [Value.cells] at h1
    obtain ⟨_, h3, _⟩ := h1
    subst h3
    cases h2
    have h5 := bulk_all ((List.range n).map D)
    have e5 : ((List.range n).map D).length = n := by simp
    rw [e5] at h5
    simp only [Rows.uptoBulk]
    omega
end Go.Proofs.Ytlkbjkmpanohfaa
