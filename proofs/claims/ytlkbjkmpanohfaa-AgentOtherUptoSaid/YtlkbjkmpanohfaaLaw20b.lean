/-
  The walk of the law of an agent to which others' messages come.
-/
import Derived.Test.YtlkbjkmpanohfaaLaw20
set_option linter.unusedVariables false
set_option linter.unusedSimpArgs false
namespace Go.Proofs.Ytlkbjkmpanohfaa
open Go
/-! ### Plain -/
theorem hear_other {P : PlanD} {G : AG} (hG : AOk G) (ht : throughP G 0 = true) {m : MsgD} (hm : m.A ≠ P.nam) (b : Nat) : hearP P G 0 m 1 b = (G, []) := by
  unfold hearP
  unfold throughP at ht
  cases hl : lineOf G 0 with
  | none => rw [hl] at ht
  | some d =>
    rw [hl] at ht
    have h2 : 2 ≤ d.st := of_decide_eq_true ht
    obtain ⟨hd, hn⟩ := lineOf_some hl
    obtain ⟨h3, h4, h5⟩ := hG.sts d hd
    have h6 : d.st = 2 := by
      apply Decidable.byContradiction
      intro hc
      exact h5 (by omega) hn
    dsimp only
    have ht : timeOk 1 := by decide
    rw [if_neg (fun h => h.elim (fun h => by omega) (fun h => h ht)), if_neg (by omega : ¬ d.st = 0), if_neg (by omega : ¬ d.st = 1)]
    unfold calledP
    rw [if_neg (fun h => hm h.1), if_neg (fun h => hm h.1), if_neg (fun h => hm h.1)]
theorem hear_neg {P : PlanD} {G : AG} (hG : AOk G) {m : MsgD} {now : Int} (b : Nat) : hearP P G (-1) m now b = (G, []) := by
  unfold hearP
  rw [lineOf_none.2 fun d hd e => by have := (hG.nos d hd).1; omega]
theorem hear_late {P : PlanD} {G : AG} {no : Int} {m : MsgD} {now : Int} (hn : ¬ timeOk now) (b : Nat) : hearP P G no m now b = (G, []) := by
  unfold hearP
  cases lineOf G no with
  | none => rfl
  | some d => dsimp only; rw [if_pos (.inr hn)]
theorem through_neg {G : AG} (hG : AOk G) : throughP G (-1) = false := by
  unfold throughP
  rw [lineOf_none.2 fun d hd e => by have := (hG.nos d hd).1; omega]
section
variable {W : World}
theorem Other_walk {P : PlanD} {X : Nat} (hP : PlanOk P ∧ P.ten.size + P.tok.size + P.sec.size + P.nam.size ≤ X) {p : Option Addr} {os : List OpD} {c : Nat} (hr : Rd [Base W] p (os.flatMap opC)) (hc : os.length ≤ c) (hcm : c ≤ 9223372036854775807) (_hok : ∀ o ∈ os, True) {m : MsgD} {Y : Nat} (_hm : m.A.size + m.B.size ≤ Y) (line : Int) (_wn : (Lit.int .i64 line).wf = true) (hX : X ≤ 1048576) :
    CallR Try.prog 5 #[planV P, .slice p os.length c, msgV m, .int .i64 line] W fun v w' => v = .bool true ∧ ∃ r, St W (Base W :: r) w' := by
  refine F5_of (NewC.i (St.base W) fun b15 w hS => ?_)
  have hS : St W [Row b15 23 (planC P), Base W] w := hS
  refine NewC.i hS fun b17 w hS => ?_
  have hS : St W [Row b17 32 (msgC m), Row b15 23 (planC P), Base W] w := hS
  refine (head_spec hS).of fun v w ⟨hv, hS⟩ => ⟨_, hv, ?_⟩
  refine LdS.a 1 hS rfl rfl (LdS.a 1 hS rfl rfl (LdS.a 1 hS rfl rfl (LdS.a 1 hS rfl rfl (LdI.a 1 hS rfl rfl (LdI.a 1 hS rfl rfl ?_)))))
  refine (New_spec P hP.1 hS).of fun v w ⟨a, hv, hS⟩ => ⟨_, hv, Bif.no rfl ?_⟩
  refine (greatOps_spec (((hr.cons _).cons _).cons _) (by omega) hS).of fun v w ⟨bg, hv, hlen, hS⟩ => ⟨_, hv, Bif.i (fun _ => Bif.yes rfl ⟨rfl, _, hS.p3⟩) fun hbg => ?_⟩
  have hlen := hlen hbg
  refine LdS.a 2 hS rfl rfl (LdS.a 2 hS rfl rfl (LdS.a 2 hS rfl rfl (LdS.a 2 hS rfl rfl (LdI.a 2 hS rfl rfl (LdI.a 2 hS rfl rfl ?_)))))
  refine (greatPlan_spec P hS).of fun v w ⟨⟨bp, hv⟩, hS⟩ => ⟨_, hv, Bif.i (fun _ => Bif.yes rfl ⟨rfl, _, hS.p3⟩) fun _ => ?_⟩
  refine LdI.a 1 hS rfl rfl (LdS.a 1 hS rfl rfl (LdS.a 1 hS rfl rfl (LdI.a 1 hS rfl rfl (LdI.a 1 hS rfl rfl ?_))))
  refine (Great_spec m hS).of fun v w ⟨⟨bm, hv⟩, hS⟩ => ⟨_, hv, Bif.i (fun _ => Bif.yes rfl ⟨rfl, _, hS.p3⟩) fun _ => ?_⟩
  refine ⟨fun vs w => ∃ (i : Nat) (G : AG), vs = [.int .i64 i] ∧ i ≤ os.length ∧ St W [AgentA a P G, Row b17 32 (msgC m), Row b15 23 (planC P), Base W] w, leftN os.length, ⟨0, _, rfl, by omega, hS⟩, fun x w hI => ?_⟩
  clear hS
  obtain ⟨i, G, he, hi, hS⟩ := hI
  cases he
  refine Bif.i (fun hlt => ?_) fun hge => ?_
  · have hlt : i < os.length := by have := of_decide_eq_true hlt; omega
    have hx : os[i]? = some (os[i]'hlt) := List.getElem?_eq_getElem _
    generalize os[i]'hlt = o at hx
    rw [up hlt (by omega)]
    refine IxP.el op8 (by decide) (((hr.cons _).cons _).cons _) hS rfl hlt hx fun a2 h2 => LdI.at (h2 0 _ rfl) (LdI.at (h2 1 _ rfl) (LdI.at (h2 2 _ rfl) (LdS.at (h2 3 _ rfl) (LdS.at (h2 4 _ rfl) (LdI.at (h2 5 _ rfl) (LdI.at (h2 6 _ rfl) (LdI.at (h2 7 _ rfl) ?_)))))))
    refine (does_spec o hS).of fun v w ⟨p1, c1, b1, hv, hS⟩ => ⟨_, _, _, hv, ?_⟩
    exact ⟨⟨i + 1, _, rfl, by omega, hS.drop⟩, by show os.length - (i + 1) < os.length - i; omega⟩
  have hG := (AgentA.ok hS).1
  refine (Holds_spec hS).of fun v w ⟨hv, hS⟩ => ⟨_, _, hv, ?_⟩
  refine (Through_spec 0 hS).of fun v w ⟨hv, hS⟩ => ⟨_, hv, ?_⟩
  refine LdI.a 1 hS rfl rfl (LdS.a 1 hS rfl rfl (LdS.a 1 hS rfl rfl (LdI.a 1 hS rfl rfl (LdI.a 1 hS rfl rfl ?_))))
  refine NewC.i hS fun b79 w hS => St1.a 0 hS rfl (by simp) fun w hS => St1.a 0 hS rfl (by simp) fun w hS => St1.a 0 hS rfl (by simp) fun w hS => St1.a 0 hS rfl (by simp) fun w hS => St1.a 0 hS rfl (by simp) fun w hS => LdS.a 3 hS rfl rfl ⟨?_, St1.a 0 hS rfl (by simp) fun w hS => ?_⟩
  · have : (⟨#[120]⟩ : ByteArray).size = 1 := rfl
    have := hP.2
    omega
  have hS : St W [Row b79 32 (msgC ⟨m.k, P.nam ++ ⟨#[120]⟩, m.B, m.N, m.M⟩), AgentA a P G, Row b17 32 (msgC m), Row b15 23 (planC P), Base W] w := hS
  have hne : P.nam ++ ⟨#[120]⟩ ≠ P.nam := fun e => by
    have h1 := congrArg ByteArray.size e
    rw [ByteArray.size_append] at h1
    have : (⟨#[120]⟩ : ByteArray).size = 1 := rfl
    omega
  generalize P.nam ++ ⟨#[120]⟩ = oth at hS hne
  refine ⟨fun vs w => ∃ p c, vs = [.slice p 0 c] ∧ St W [AgentA a P G, Row b17 32 (msgC m), Row b15 23 (planC P), Base W] w, ?_, fun xp xn xc w hJ => ?_⟩
  · refine Bif.i (fun ht => ?_) fun _ => ⟨none, 0, rfl, hS.drop⟩
    refine LdI.a 0 hS rfl rfl (LdS.a 0 hS rfl rfl (LdS.a 0 hS rfl rfl (LdI.a 0 hS rfl rfl (LdI.a 0 hS rfl rfl ?_))))
    refine (Hear_spec 0 ⟨m.k, oth, m.B, m.N, m.M⟩ 1 hS.drop).of fun v w ⟨p1, c1, b1, hv, hS⟩ => ⟨_, _, _, hv, ?_⟩
    have hh : ∀ b, hearP P G 0 ⟨m.k, oth, m.B, m.N, m.M⟩ 1 b = (G, []) := fun b => hear_other hG ht hne b
    rw [hh] at hS ⊢
    exact ⟨p1, c1, rfl, hS.drop⟩
  clear hS
  obtain ⟨p0, c0, he, hS⟩ := hJ
  cases he
  refine LdI.a 1 hS rfl rfl (LdS.a 1 hS rfl rfl (LdS.a 1 hS rfl rfl (LdI.a 1 hS rfl rfl (LdI.a 1 hS rfl rfl ?_))))
  refine (Hear_spec (-1) m 1 hS).of fun v w ⟨p1, c1, b1, hv, hS⟩ => ⟨_, _, _, hv, ?_⟩
  rw [hear_neg hG] at hS ⊢
  have hS := hS.drop
  refine LdI.a 1 hS rfl rfl (LdS.a 1 hS rfl rfl (LdS.a 1 hS rfl rfl (LdI.a 1 hS rfl rfl (LdI.a 1 hS rfl rfl ?_))))
  refine (Hear_spec line m (-1) hS).of fun v w ⟨p2, c2, b2, hv, hS⟩ => ⟨_, _, _, hv, ?_⟩
  rw [hear_late (by decide)] at hS ⊢
  have hS := hS.drop
  refine LdI.a 1 hS rfl rfl (LdS.a 1 hS rfl rfl (LdS.a 1 hS rfl rfl (LdI.a 1 hS rfl rfl (LdI.a 1 hS rfl rfl ?_))))
  refine (Hear_spec line m 1099511627777 hS).of fun v w ⟨p3, c3, b3, hv, hS⟩ => ⟨_, _, _, hv, ?_⟩
  rw [hear_late (by decide)] at hS ⊢
  have hS := hS.drop
  refine (Holds_spec hS).of fun v w ⟨hv, hS⟩ => ⟨_, _, hv, ?_⟩
  refine Bif.yes rfl (Bif.yes rfl (Bif.yes (by simp) (Bif.yes (by simp) ?_)))
  refine (Through_spec 0 hS).of fun v w ⟨hv, hS⟩ => ⟨_, hv, Bif.yes (by simp) ?_⟩
  exact (Through_spec (-1) hS).of fun v w ⟨hv, hS⟩ => ⟨_, hv, by rw [through_neg hG]; rfl, _, hS.p3⟩
end
end Go.Proofs.Ytlkbjkmpanohfaa
