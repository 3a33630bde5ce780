/-
  MacStill: the law returns true whatever the input. This text closes it over the walk.
-/
import Derived.Test.YtbfccpbijimjmaaLaw03d
namespace Go.Proofs.Ytbfccpbijimjmaa
open Go Go.ChangeShapes Go.WideShapes Go.ChangeAt Go.RowKit
set_option linter.unusedVariables false
set_option linter.unusedSimpArgs false

set_option maxRecDepth 100000 in
theorem macStill_lifted (os : Os) (started : os.Started) (H : Type) (enc : TypeId × Value → H) :
    ReturnsInHanded {} Try.checked os 8 .any (Rows.macStillSpec.pre6 enc Try.prog Try.f8 Rows.macStillRow.domain false) (Rows.macStillSpec.post enc Try.prog Try.f8 false true false false) := by
  refine returnsInHanded_of_change (C := Try.checked) (by kernel_rfl) started (by kernel_rfl) Try.func8
    (ChangeSpec.witness6 (enc := enc) (C := Try.checked) false ⟨#[], #[.slice none 0 0, .slice none 0 0, .slice none 0 0], []⟩ 8 (by kernel_rfl) (by kernel_rfl) (by kernel_rfl) (by kernel_rfl)) ?_
  intro W base args ds gs before hval0 hW hcnd _
  have hval : ∀ (j : Nat) t v, Try.f8.params[j]? = some t → args[j]? = some v → Value.okWide Try.prog W .any base t v := hval0
  have hW' := hW
  obtain ⟨p, q, hA0, hV, rfl, hfz, hnd⟩ := hW
  have hA : DataW.TrodAll enc Try.prog W 0 (fun _ => true) true Try.f8.params.toList args.toList ds p := hA0
  rw [Try.params8] at hA hval
  obtain ⟨v0, vs0, d0, ds0, q0, r0, hargs, rfl, rfl, h0, t0⟩ := trodAll_cons hA
  obtain ⟨v1, vs1, d1, ds1, q1, r1, rfl, rfl, rfl, h1, t1⟩ := trodAll_cons t0
  obtain ⟨v2, vs2, d2, ds2, q2, r2, rfl, rfl, rfl, h2, t2⟩ := trodAll_cons t1
  obtain ⟨rfl, rfl, rfl⟩ := trodAll_nil t2
  obtain rfl : args = #[v0, v1, v2] := by cases args; simp_all
  obtain ⟨p0, xs0, c0, rfl, hc0, hm0, hr0⟩ := bytes_open uB uU8 cU8 (hval 0 _ v0 rfl rfl) h0
  obtain ⟨p1, xs1, c1, rfl, hc1, hm1, hr1⟩ := bytes_open uB uU8 cU8 (hval 1 _ v1 rfl rfl) h1
  obtain ⟨p2, xs2, c2, rfl, hc2, hm2, hr2, hok2⟩ := strs_open (hval 2 _ v2 rfl rfl) h2
  refine Calls.mono (Still_walk hr0 hc0 hm0 hr1 hc1 hm1 hr2 hc2 hm2 hok2) fun e W' ⟨v, he, hv, _, hS⟩ => ⟨v, he, ?_⟩
  subst hv
  exact law_post (tb := 4) laid hW' rfl (fun gs' hg => by subst hg; rfl) (by kernel_rfl) Try.underlying4 (by rw [Try.params8]; intro t ht; simp at ht; rcases ht with rfl | rfl | rfl <;> exact ⟨by kernel_rfl, of_decide_eq_true (by kernel_rfl)⟩) (St.below hS)

theorem macStill_proved : Rows.MacStillSaid :=
  OpenClaim.holds_of_wide 8 Try.f8 rfl rfl rfl rfl rfl rfl rfl ⟨rfl, rfl, rfl, rfl, rfl⟩ rfl rfl rfl rfl rfl (by kernel_rfl) Try.func8 (by kernel_rfl)
    (of_decide_eq_true (by kernel_rfl)) (by unfold Func.isWrapper; first | (rw [if_pos (by decide +kernel)]; kernel_rfl) | (rw [if_neg (by decide +kernel)]; exact ⟨rfl, rfl⟩))
    (fun os started H enc _ => macStill_lifted os started H enc)
end Go.Proofs.Ytbfccpbijimjmaa
