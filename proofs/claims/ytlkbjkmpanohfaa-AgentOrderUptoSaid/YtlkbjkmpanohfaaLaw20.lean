/-
  The walk of the law of an agent whose line is lost.
-/
import Derived.Test.YtlkbjkmpanohfaaAgO
set_option linter.unusedVariables false
set_option linter.unusedSimpArgs false
namespace Go.Proofs.Ytlkbjkmpanohfaa
open Go
/-! ### Plain -/
def has0 (G : AG) : Prop := (lineOf G 0).isSome = true
theorem has0_iff {G : AG} : has0 G ↔ (0 : Int) ∈ G.L.map (·.no) := by
  unfold has0
  constructor
  · intro h
    obtain ⟨d, hd⟩ := Option.isSome_iff_exists.1 h
    obtain ⟨h1, h2⟩ := lineOf_some hd
    exact List.mem_map.2 ⟨d, h1, h2⟩
  · intro h
    obtain ⟨d, h1, h2⟩ := List.mem_map.1 h
    cases hl : lineOf G 0 with
    | some _ => rfl
    | none => exact absurd h2 (lineOf_none.1 hl d h1)
theorem called_nos (P : PlanD) (G : AG) (m : MsgD) (now : Int) (b : Nat) : ∃ t, (calledP P G m now b).1.L.map (·.no) = G.L.map (·.no) ++ t := by
  unfold calledP
  split
  · exact ⟨[], by simp⟩
  · split
    · exact ⟨[], by simp⟩
    · split
      · exact ⟨[G.next], by unfold openP; simp⟩
      · exact ⟨[], by simp⟩
theorem hear_nos (P : PlanD) (G : AG) (no : Int) (m : MsgD) (now : Int) (b : Nat) : ∃ t, (hearP P G no m now b).1.L.map (·.no) = G.L.map (·.no) ++ t := by
  unfold hearP
  cases lineOf G no with
  | none => exact ⟨[], by simp⟩
  | some d =>
    dsimp only
    split
    · exact ⟨[], by simp⟩
    · split
      · split
        · exact ⟨[], by rw [setSt_nos]; simp⟩
        · exact ⟨[], by simp⟩
      · split
        · split
          · split
            · exact ⟨[], by rw [setSt_nos]; simp⟩
            · exact ⟨[], by rw [setSt_nos]; simp⟩
          · exact ⟨[], by simp⟩
        · exact called_nos P G m now b
theorem does_has0 {P : PlanD} {G : AG} {o : OpD} {b : Nat} (h : has0 G) (ho : o.what < 5) : has0 (doesP P G o b).1 := by
  unfold doesP
  split
  · unfold tickP
    rw [if_neg (by unfold has0 at h; cases hl : lineOf G 0 <;> rw [hl] at h <;> simp_all)]
    split
    · exact h
    · exact h
  · rw [if_neg (by omega), if_neg (by omega)]
    split
    · obtain ⟨t, ht⟩ := hear_nos P G o.line o.m o.now b
      rw [has0_iff] at h ⊢
      rw [ht]; exact List.mem_append_left _ h
    · exact h
section
variable {W : World}
theorem Lost_walk {P : PlanD} {X : Prop} (hP : PlanOk P ∧ X) {p : Option Addr} {os : List OpD} {c : Nat} (hr : Rd [Base W] p (os.flatMap opC)) (hc : os.length ≤ c) (hcm : c ≤ 9223372036854775807) (_hok : ∀ o ∈ os, True) (now : Int) (_wn : (Lit.int .i64 now).wf = true) :
    CallR Try.prog 4 #[planV P, .slice p os.length c, .int .i64 now] W fun v w' => v = .bool true ∧ ∃ r, St W (Base W :: r) w' := by
  refine F4_of (NewC.i (St.base W) fun b10 w hS => ?_)
  have hS : St W [Row b10 23 (planC P), Base W] w := hS
  refine (head_spec hS).of fun v w ⟨hv, hS⟩ => ⟨_, hv, ?_⟩
  refine LdS.a 0 hS rfl rfl (LdS.a 0 hS rfl rfl (LdS.a 0 hS rfl rfl (LdS.a 0 hS rfl rfl (LdI.a 0 hS rfl rfl (LdI.a 0 hS rfl rfl ?_)))))
  refine (New_spec P hP.1 hS).of fun v w ⟨a, hv, hS⟩ => ⟨_, hv, Bif.no rfl ?_⟩
  refine (greatOps_spec ((hr.cons _).cons _) (by omega) hS).of fun v w ⟨bg, hv, hlen, hS⟩ => ⟨_, hv, Bif.i (fun _ => Bif.yes rfl ⟨rfl, _, hS.p2⟩) fun hbg => ?_⟩
  have hlen := hlen hbg
  refine LdS.a 1 hS rfl rfl (LdS.a 1 hS rfl rfl (LdS.a 1 hS rfl rfl (LdS.a 1 hS rfl rfl (LdI.a 1 hS rfl rfl (LdI.a 1 hS rfl rfl ?_)))))
  refine (greatPlan_spec P hS).of fun v w ⟨⟨bp, hv⟩, hS⟩ => ⟨_, hv, Bif.i (fun _ => Bif.yes rfl ⟨rfl, _, hS.p2⟩) fun _ => ?_⟩
  refine (Start_spec hS).of fun v w ⟨p0, c0, b0, hv, hS⟩ => ⟨_, _, _, hv, ?_⟩
  have hst : startP P ⟨false, 0, 0, 1, []⟩ b0 = (⟨false, 0, 0, 1, [⟨b0, 0, e0, 0⟩]⟩, [openA 0, sayA 0 (helloM P)]) := rfl
  rw [hst] at hS
  refine ⟨fun vs w => ∃ (i : Nat) (G : AG), vs = [.int .i64 i] ∧ i ≤ os.length ∧ has0 G ∧ St W [AgentA a P G, Row b10 23 (planC P), Base W] w, leftN os.length, ⟨0, ⟨false, 0, 0, 1, [⟨b0, 0, e0, 0⟩]⟩, rfl, by omega, by rw [has0_iff]; simp, hS.drop⟩, fun x w hI => ?_⟩
  clear hS
  obtain ⟨i, G, he, hi, hG0, hS⟩ := hI
  cases he
  refine Bif.i (fun hlt => ?_) fun hge => ?_
  · have hlt : i < os.length := by have := of_decide_eq_true hlt; omega
    have hx : os[i]? = some (os[i]'hlt) := List.getElem?_eq_getElem _
    generalize os[i]'hlt = o at hx
    rw [up hlt (by omega)]
    refine IxP.el op8 (by decide) ((hr.cons _).cons _) hS rfl hlt hx fun a1 h1 => LdI.at (h1 0 _ rfl) (Bif.i (fun h5 => ?_) fun h5 => ?_)
    · have h5 := of_decide_eq_true h5
      refine IxP.el op8 (by decide) ((hr.cons _).cons _) hS rfl hlt hx fun a2 h2 => LdI.at (h2 0 _ rfl) (LdI.at (h2 1 _ rfl) (LdI.at (h2 2 _ rfl) (LdS.at (h2 3 _ rfl) (LdS.at (h2 4 _ rfl) (LdI.at (h2 5 _ rfl) (LdI.at (h2 6 _ rfl) (LdI.at (h2 7 _ rfl) ?_)))))))
      refine (does_spec o hS).of fun v w ⟨p1, c1, b1, hv, hS⟩ => ⟨_, _, _, hv, ?_⟩
      exact ⟨⟨i + 1, _, rfl, by omega, does_has0 hG0 h5, hS.drop⟩, by show os.length - (i + 1) < os.length - i; omega⟩
    · exact ⟨⟨i + 1, G, rfl, by omega, hG0, hS⟩, by show os.length - (i + 1) < os.length - i; omega⟩
  have hl1 : lostP G 0 = ({ G with L := [], held := false, epoch := 0 }, true) := by
    unfold lostP
    rw [if_neg (by unfold has0 at hG0; cases hl : lineOf G 0 <;> rw [hl] at hG0 <;> simp_all), if_pos rfl]
  refine (Lost_spec 0 hS).of fun v w ⟨hv, hS⟩ => ⟨_, hv, ?_⟩
  rw [hl1] at hS ⊢
  dsimp only at hS
  have hl2 : lostP { G with L := [], held := false, epoch := 0 } 0 = ({ G with L := [], held := false, epoch := 0 }, false) := rfl
  have hhe : ({ G with L := [], held := false, epoch := 0 } : AG).held = false := rfl
  have hL0 : ({ G with L := [], held := false, epoch := 0 } : AG).L = [] := rfl
  generalize ({ G with L := [], held := false, epoch := 0 } : AG) = G1 at hS hl2 hhe hL0
  have hl0 : ∀ no, lineOf G1 no = none := fun no => by unfold lineOf; rw [hL0]; rfl
  refine (Lost_spec 0 hS).of fun v w ⟨hv, hS⟩ => ⟨_, hv, ?_⟩
  rw [hl2] at hS ⊢
  dsimp only at hS
  refine (Holds_spec hS).of fun v w ⟨hv, hS⟩ => ⟨_, _, hv, ?_⟩
  refine (Hear_spec 0 ⟨2, ⟨#[110]⟩, e0, 0, 0⟩ 1 hS).of fun v w ⟨p1, c1, b1, hv, hS⟩ => ⟨_, _, _, hv, ?_⟩
  have hh : ∀ b, hearP P G1 0 ⟨2, ⟨#[110]⟩, e0, 0, 0⟩ 1 b = (G1, []) := fun b => by unfold hearP; rw [hl0]
  rw [hh] at hS ⊢
  have hth : ∀ no, throughP G1 no = false := fun no => by unfold throughP; rw [hl0]
  have hS := hS.drop
  refine ⟨fun vs w => vs = [.bool false] ∧ St W [AgentA a P G1, Row b10 23 (planC P), Base W] w, ?_, fun thr w hJ => ?_⟩
  · refine (Through_spec 0 hS).of fun v w ⟨hv, hS⟩ => ⟨_, hv, Bif.no (hth 0) ?_⟩
    refine (Through_spec 1 hS).of fun v w ⟨hv, hS⟩ => ⟨_, hv, Bif.no (hth 1) ?_⟩
    exact (Through_spec 2 hS).of fun v w ⟨hv, hS⟩ => ⟨_, hv, by rw [hth], hS⟩
  clear hS
  obtain ⟨he, hS⟩ := hJ
  cases he
  refine (Tick_spec now hS).of fun v w ⟨p2, c2, b2, hv, hS⟩ => ⟨_, _, _, hv, ?_⟩
  have ht : tickP P G1 now b2 = openP P G1 0 e0 b2 := by
    unfold tickP startP
    rw [hl0]; rfl
  have hto : (openP P G1 0 e0 b2).2 = [openA 0, sayA 0 (helloM P)] := rfl
  have hl3 : lineOf (openP P G1 0 e0 b2).1 0 = some ⟨b2, 0, e0, 0⟩ := by
    unfold lineOf openP
    dsimp only
    rw [hL0]; rfl
  rw [ht, hto] at hS ⊢
  generalize (openP P G1 0 e0 b2).1 = G2 at hS hl3
  refine (Tick_spec now hS.p1).of fun v w ⟨p3, c3, b3, hv, hS⟩ => ⟨_, _, _, hv, ?_⟩
  have ht2 : ∀ b, tickP P G2 now b = (G2, []) := fun b => by
    have hthr : throughP G2 0 = false := by unfold throughP; rw [hl3]; rfl
    unfold tickP
    rw [hl3, hthr]
    simp
  rw [ht2] at hS ⊢
  have hS : St W [AgentA a P G2, ActsA p2 c2 [openA 0, sayA 0 (helloM P)], Row b10 23 (planC P), Base W] w := hS.drop
  refine Bif.no rfl (Bif.no rfl (Bif.no hhe (Bif.no rfl (Bif.no rfl (Bif.no rfl (Bif.no rfl ?_))))))
  have hC := Is.refl W [AgentA a P G2, ActsA p2 c2 [openA 0, sayA 0 (helloM P)], Row b10 23 (planC P), Base W]
  have hCe : ∀ G' w, (StC W [AgentA a P G2, ActsA p2 c2 [openA 0, sayA 0 (helloM P)], Row b10 23 (planC P), Base W]).p G' w → St W [AgentA a P G2, ActsA p2 c2 [openA 0, sayA 0 (helloM P)], Row b10 23 (planC P), Base W] w := fun G' w h => StC.ends h
  have r1 : Rd [AgentA a P G2, ActsA p2 c2 [openA 0, sayA 0 (helloM P)], Row b10 23 (planC P), Base W] p2 ([openA 0, sayA 0 (helloM P)].flatMap actC) := Rd.n 1 rfl fun F => SlA.rd F
  refine ⟨StC W _, StC.start hS, Bif.yes rfl ?_⟩
  refine IxP.actM (k := 0) (c := 0) hCe r1 hS rfl (by simp) rfl fun a89 h89 => ⟨_, _, _, _, _, _, _, Qt.act h89, _, fun w => eqAct (openA 0) (openA 0) w, _, rfl, Bif.yes (decide_eq_true rfl) ?_⟩
  refine IxP.actM (k := 1) (c := 0) hCe r1 hS rfl (by simp) rfl fun a108 h108 => ⟨_, _, _, _, _, _, _, Qt.act h108, P.ten, QtS.at fun G' w hw => hC.cell 2 rfl rfl hw, P.tok, QtS.at fun G' w hw => hC.cell 2 rfl rfl hw, _, fun w => eqAct (sayA 0 (helloM P)) (sayA 0 (helloM P)) w, _, rfl, fun G' w h => ⟨?_, _, (StC.ends h).p3⟩⟩
  rw [decide_eq_true rfl]
end
end Go.Proofs.Ytlkbjkmpanohfaa
