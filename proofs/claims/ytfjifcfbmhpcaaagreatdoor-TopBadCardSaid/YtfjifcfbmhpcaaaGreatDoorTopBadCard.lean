/-
  TopBad: the law returns true whatever the input, and leaves its arguments as they were; the tied card: what the row lists of package variables is tied to the program's text by the given tie. Conditions: the row's own (laid).
-/
import Derived.Test.YtfjifcfbmhpcaaaGreatDoorTopBad
import Derived.Test.YtfjifcfbmhpcaaaGreatDoorCards
import Derived.Test.YtfjifcfbmhpcaaaGreatDoorTie
namespace Go.Proofs.YtfjifcfbmhpcaaaGreatDoor
open Go
theorem topBad_wfT : Rows.topBadRow.wfByText (OpenSpec.ofChange Rows.topBadSpec) = true := by kernel_rfl
theorem topBad_main : Tryz.pinned.checked.prog.mainIs = some ((true, "df94d0252967944bb532234c22c6a26446cf7254720b3410229380bc615bdeaf").1, ((true, "df94d0252967944bb532234c22c6a26446cf7254720b3410229380bc615bdeaf") : Bool × String).2.toList) := by kernel_rfl
theorem topBad_func : Tryz.prog.funcNamed Rows.topBadRow.func = some 5 := by kernel_rfl
theorem topBad_looks : true = Tryz.pinned.checked.prog.looks [] := by kernel_rfl
theorem noGoes : Tryz.pinned.checked.prog.funcs.any Func.goes = false := by kernel_rfl
theorem goesBy_none {P : Program} (h : P.funcs.any Func.goes = false) {c : OpenClaim} (hs : c.start = .entering) : false = c.goesBy P := by
  have hg : ∀ f, P.goes f = false := fun f => by
    unfold Program.goes
    rw [h, Bool.and_false, Bool.or_false]
    rw [List.any_eq_false]
    intro g _
    cases hq : P.funcs[g]? with
    | none => simp
    | some fn =>
      obtain ⟨hlt, rfl⟩ := Array.getElem?_eq_some_iff.1 hq
      rw [Array.any_eq_false] at h
      simpa using h g hlt
  unfold OpenClaim.goesBy Program.goesAt Program.goesFrom
  rw [hs]
  cases P.funcNamed c.func with
  | none => rfl
  | some f => simp [hg]
theorem topBad_card : Rows.TopBadCardSaid :=
  Claim7.holds_tied_plain_at .later [] [.data, .data, .data, .data, .pinned] true (true, "df94d0252967944bb532234c22c6a26446cf7254720b3410229380bc615bdeaf") true
    topBad_proved (fun _ h => by cases h) topBad_wfT (fun _ h => by cases h) topBad_row_tie rfl ⟨rfl, rfl⟩ topBad_main rfl
    (fun f fn hf hfn => by
      obtain rfl : f = 5 := (Option.some.inj (topBad_func.symm.trans hf)).symm
      obtain rfl : fn = Tryz.f5 := (Option.some.inj (Tryz.func5.symm.trans hfn)).symm
      refine ⟨topBad_looks, fun j t ht => ?_⟩
      rw [Tryz.params5] at ht
      have h := Array.mem_of_getElem? ht
      simp only [List.mem_toArray, List.mem_cons, List.not_mem_nil, or_false] at h
      rcases h with rfl | rfl | rfl | rfl <;> exact (show Tryz.prog.wantsStandIn _ = false by kernel_rfl))
    (goesBy_none noGoes rfl)
#print axioms topBad_card
end Go.Proofs.YtfjifcfbmhpcaaaGreatDoor
