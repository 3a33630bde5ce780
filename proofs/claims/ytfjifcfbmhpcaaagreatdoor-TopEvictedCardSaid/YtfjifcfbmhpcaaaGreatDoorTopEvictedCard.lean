/-
  TopEvicted: the law returns true whatever the input, and leaves its arguments as they were; the tied card: what the row lists of package variables is tied to the program's text by the given tie. Conditions: the row's own (laid).
-/
import Derived.Test.YtfjifcfbmhpcaaaGreatDoorTopEvicted
import Derived.Test.YtfjifcfbmhpcaaaGreatDoorCards
import Derived.Test.YtfjifcfbmhpcaaaGreatDoorTie
namespace Go.Proofs.YtfjifcfbmhpcaaaGreatDoor
open Go
theorem topEvicted_wfT : Rows.topEvictedRow.wfByText (OpenSpec.ofChange Rows.topEvictedSpec) = true := by kernel_rfl
theorem topEvicted_main : Tryz.pinned.checked.prog.mainIs = some ((true, "df94d0252967944bb532234c22c6a26446cf7254720b3410229380bc615bdeaf").1, ((true, "df94d0252967944bb532234c22c6a26446cf7254720b3410229380bc615bdeaf") : Bool × String).2.toList) := by kernel_rfl
theorem topEvicted_func : Tryz.prog.funcNamed Rows.topEvictedRow.func = some 4 := by kernel_rfl
theorem topEvicted_looks : true = Tryz.pinned.checked.prog.looks [] := by kernel_rfl
theorem noGoes : Tryz.pinned.checked.prog.funcs.any Func.goes = false := by kernel_rfl
theorem goesBy_none {P : Program} (h : P.funcs.any Func.goes = false) {c : OpenClaim} (hs : c.start = .entering) : false = c.goesBy P := by
  have hg : ∀ f, P.goes f = false := fun f => by
    unfold Program.goes
    rw [h, Bool.and_false, Bool.or_false]
    rw [List.any_eq_false]
    intro g _
    cases hq : P.funcs[g]? with
    | none => simp
    | some fn =>
      obtain ⟨hlt, rfl⟩ := Array.getElem?_eq_some_iff.1 hq
      rw [Array.any_eq_false] at h
      simpa using h g hlt
  unfold OpenClaim.goesBy Program.goesAt Program.goesFrom
  rw [hs]
  cases P.funcNamed c.func with
  | none => rfl
  | some f => simp [hg]
theorem topEvicted_card : Rows.TopEvictedCardSaid :=
  Claim7.holds_tied_plain_at .later [] [.data, .data, .data, .data, .pinned] true (true, "df94d0252967944bb532234c22c6a26446cf7254720b3410229380bc615bdeaf") true
    topEvicted_proved (fun _ h => by cases h) topEvicted_wfT (fun _ h => by cases h) topEvicted_row_tie rfl ⟨rfl, rfl⟩ topEvicted_main rfl
    (fun f fn hf hfn => by
      obtain rfl : f = 4 := (Option.some.inj (topEvicted_func.symm.trans hf)).symm
      obtain rfl : fn = Tryz.f4 := (Option.some.inj (Tryz.func4.symm.trans hfn)).symm
      refine ⟨topEvicted_looks, fun j t ht => ?_⟩
      rw [Tryz.params4] at ht
      have h := Array.mem_of_getElem? ht
      simp only [List.mem_toArray, List.mem_cons, List.not_mem_nil, or_false] at h
      rcases h with rfl | rfl | rfl <;> exact (show Tryz.prog.wantsStandIn _ = false by kernel_rfl))
    (goesBy_none noGoes rfl)
#print axioms topEvicted_card
end Go.Proofs.YtfjifcfbmhpcaaaGreatDoor
