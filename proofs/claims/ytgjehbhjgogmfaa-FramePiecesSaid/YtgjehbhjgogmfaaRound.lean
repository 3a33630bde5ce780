/-
  Regions of a function that ranges over a function: walked in whatever frame, one operation behind the other; drawn ones that only look.
-/
import Derived.Test.YtgjehbhjgogmfaaLift
set_option linter.unusedVariables false
set_option linter.unusedSimpArgs false
namespace Go.Proofs.Ytgjehbhjgogmfaa
open Go
def isDefer (o : Oper) : Bool := match o.op with | .defer _ => true | _ => false
theorem isDefer_no {o : Oper} (h : isDefer o = false) : ∀ c, o.op ≠ .defer c := fun c e => by unfold isDefer at h; rw [e] at h; cases h
def tame (o : Oper) : Bool := o.guard.isNone && !isDefer o
def ops0 (P : Program) (n : Nat) : List Oper → Env → World → (Env → World → Prop) → Prop
  | [], e, w, K => K e w
  | o :: r, e, w, K => opX P r o e w fun v w' => eput n o.dst v e fun e' => ops0 P n r e' w' K
theorem ops0_sound {F : Fence} (hF : Wide F) {P : Program} {n : Nat} {ops : Array Oper} {Q : Exit → Act → World → Prop} {K : Env → World → Prop} (hq : ∀ e' a' w', K e' w' → Agree n e' a' → Q .normal a' w') :
    ∀ (l : List Oper) (e : Env) (w : World) (a : Act), l.all tame = true → ops0 P n l e w K → Agree n e a → wpListIn F 0 P ops Q l a w
  | [], e, w, a, _, h, ha => hq e a w h ha
  | o :: r, e, w, a, ht, h, ha => by
    simp only [List.all_cons, Bool.and_eq_true] at ht
    obtain ⟨h1, h2⟩ := ht
    unfold tame at h1
    simp only [Bool.and_eq_true, Bool.not_eq_true', Option.isNone_iff_eq_none] at h1
    refine wpListIn_plain h1.1 fun K' hK' => Does.wpIn hF (opX_does h ha) (.inr (isDefer_no h1.2)) fun v w' hv => hK' _ _ ?_
    obtain ⟨e2, h3, ha2, _⟩ := eput_sound hv ha
    exact ops0_sound hF hq r e2 w' _ h2 h3 ha2
theorem reg_in {F : Fence} (hF : Wide F) {P : Program} {n id : Nat} {ops : Array Oper} {Q : Exit → Act → World → Prop} {K : Env → World → Prop} {e : Env} {w : World} {a : Act} (ht : ops.toList.all tame = true) (h : ops0 P n ops.toList e w K) (ha : Agree n e a)
    (hq : ∀ e' a' w', K e' w' → Agree n e' a' → Q .normal a' w') : (Code.region id ops false).wpIn F 0 P Q a w :=
  wpIn_region_list (ops0_sound hF hq _ _ _ _ ht h ha)
/-- The activation as if no deferred call waited. -/
def bare (a : Act) : Act := { a with defers := [] }
/-- An operation that looks at most. -/
def opL (P : Program) (o : Oper) (e : Env) (w : World) (K : Value → World → Prop) : Prop :=
  match o.op with
  | .load t x => withV e x fun v => ldK P t v w K
  | _ => opP P o e fun v => K v w
theorem opL_val {P : Program} {n : Nat} {o : Oper} {e : Env} {w : World} {K : Value → World → Prop} {a : Act} (h : opL P o e w K) (ha : Agree n e a) : ∃ v, K v w ∧ (execOp a.eval o).run P w = .ok (.value v) w := by
  unfold opL at h
  split at h
  · rename_i t x ho
    obtain ⟨u, hk, hr⟩ := ld_run (withV_sound h ha)
    exact ⟨u, hk, by simp only [execOp, ho, Sem.run_bind, hr]; rfl⟩
  · obtain ⟨v, hk, hv⟩ := opP_sound h ha
    exact ⟨v, hk, hv w⟩
def opsS (P : Program) (n : Nat) : List Oper → Env → World → (Env → World → Prop) → Prop
  | [], e, w, K => K e w
  | o :: r, e, w, K => opL P o e w fun v w' => eput n o.dst v e fun e' => opsS P n r e' w' K
theorem opsS_sound {P : Program} {n : Nat} {ops : Array Oper} {w : World} {K : Env → World → Prop} {Q : Act → Prop} {d : List Deferred} (hq : ∀ e' a', K e' w → Agree n e' (bare a') → a'.defers = d → Q a') :
    ∀ (l : List Oper) (e : Env) (a : Act), l.all (fun o => o.guard.isNone) = true → opsS P n l e w K → Agree n e (bare a) → a.defers = d → wpStill P ops w Q l a
  | [], e, a, _, h, ha, hd => hq e a h ha hd
  | o :: r, e, a, ht, h, ha, hd => by
    simp only [List.all_cons, Bool.and_eq_true, Option.isNone_iff_eq_none] at ht
    refine wpStill_step fun K' hK' => ?_
    rw [if_pos (by simp [Region.wanted, ht.1])]
    obtain ⟨v, hv, hr⟩ := opL_val (a := bare a) h ha
    obtain ⟨e2, h3, ha2, _⟩ := eput_sound hv ha
    have eb : (bare a).put o.dst v = bare (a.put o.dst v) := by cases o.dst <;> rfl
    rw [eb] at ha2
    have hr' : (execOp a.eval o).run P w = .ok (.value v) w := hr
    unfold Oper.still
    rw [hr', Oper.stillUpon_value]
    exact hK' _ (opsS_sound hq r e2 _ ht.2 h3 ha2 ((Act.put_defers' ..).trans hd))
theorem reg_still {F : Fence} (hF : F = Fence.wide) {P : Program} {n id : Nat} {ops : Array Oper} {Q : Exit → Act → World → Prop} {K : Env → World → Prop} {e : Env} {w : World} {a : Act} (hm : P.follows .mixedOrders = true) (hB : Region.lexB .any ops = true) (ht : ops.toList.all (fun o => o.guard.isNone) = true)
    (h : opsS P n ops.toList e w.drew K) (ha : Agree n e (bare a)) (hq : ∀ e' a', K e' w.drew → Agree n e' (bare a') → a'.defers = a.defers → Q .normal a' w.drew) : (Code.region id ops true).wpIn F 0 P Q a w := by
  subst hF
  exact wpIn_wide.2 (wp_region_still hm hB (opsS_sound hq _ _ _ ht h ha rfl))
end Go.Proofs.Ytgjehbhjgogmfaa
