/-
  The walk of the law of alarms and steps.
-/
import Derived.Test.YtgmpnonjhpopdaaLaw08b
set_option linter.unusedVariables false
set_option linter.unusedSimpArgs false
namespace Go.Proofs.Ytgmpnonjhpopdaa
open Go
section
variable {W : World}
theorem Steps_walk {p : Option Addr} {os : List OpD} {c : Nat} (hr : Rd [Base W] p (os.flatMap opCells)) (hc : os.length ≤ c) (hcm : c ≤ 9223372036854775807) (hok : ∀ o ∈ os, OpOk o)
    (a : Int) (wa : (Lit.int .u16 a).wf = true) (b : Int) (wb : (Lit.int .u16 b).wf = true) :
    CallR Try.prog 5 #[.slice p os.length c, .int .u16 a, .int .u16 b] W fun v w' => v = .bool true ∧ ∃ r, St W (Base W :: r) w' := by
  have ha := u16_wf wa
  have hb := u16_wf wb
  refine F5_of ((head_spec (St.base W)).of fun v w ⟨hv, hS⟩ => ⟨_, hv, (New_spec hS).of fun v w ⟨q, hv, hS⟩ => ⟨_, hv, (New_spec hS).of fun v w ⟨q2, hv, hS⟩ => ⟨_, hv, Bif.no rfl (Bif.no rfl ?_)⟩⟩⟩)
  refine Bif.i (fun h => Bif.yes rfl (Bif.yes rfl ⟨rfl, _, hS.drop.drop⟩)) fun h => ?_
  have h := of_decide_eq_false h
  refine ⟨fun vs w => ∃ (i : Nat) (G : ClG), vs = [.int .i64 i] ∧ i ≤ os.length ∧ G.now = 0 ∧ St W [ClockA q2 G, ClockA q G, Base W] w, leftN os.length, ⟨0, _, rfl, by omega, rfl, hS⟩, fun x w hI => ?_⟩
  obtain ⟨i, G, he, hi, hG0, hS⟩ := hI
  cases he
  have hG := ClockA.ok hS
  have hmx : maxN = 1099511627776 := rfl
  have hset0 : ∀ x y, (cSet G x y).1.now = 0 := fun x y => by
    unfold cSet
    split
    · exact hG0
    · split <;> exact hG0
  refine Bif.i (fun hlt => ?_) fun hge => ?_
  · have hlt : i < os.length := by have := of_decide_eq_true hlt; omega
    have hx : os[i]? = some (os[i]'hlt) := List.getElem?_eq_getElem _
    generalize os[i]'hlt = o at hx
    have next : ∀ (G' : ClG) (w : World), G'.now = 0 → St W [ClockA q2 G', ClockA q G', Base W] w → (∃ (i' : Nat) (G : ClG), [Value.int .i64 (IntKind.wrap .i64 ((i : Int) + 1))] = [.int .i64 i'] ∧ i' ≤ os.length ∧ G.now = 0 ∧ St W [ClockA q2 G, ClockA q G, Base W] w) ∧ leftN os.length [Value.int .i64 (IntKind.wrap .i64 ((i : Int) + 1))] w < leftN os.length [Value.int .i64 (i : Int)] w := fun G' w h0 hS => by
      rw [up hlt (by omega)]
      exact ⟨⟨i + 1, G', rfl, by omega, h0, hS⟩, by show os.length - (i + 1) < os.length - i; omega⟩
    refine opD_at (j := 0) hx rfl hr hlt fun a18 h18 => LdI.at (h18 (j := 0) rfl (by simp) hS) (Bif.i (fun h2 => ?_) fun h2 => ?_)
    · refine opD_at (j := 0) hx rfl hr hlt fun a20 h20 => LdI.at (h20 (j := 1) rfl (by simp) hS) ((Drop_spec o.id hS.p1).of fun v w ⟨hv, hS⟩ => ⟨_, hv, ?_⟩)
      refine opD_at (j := 0) hx rfl hr hlt fun a25 h25 => LdI.at (h25 (j := 1) rfl (by simp) hS) ((Drop_spec o.id hS.p1).of fun v w ⟨hv, hS⟩ => ⟨_, hv, ?_⟩)
      exact next (cDrop G o.id).1 w hG0 hS
    · refine opD_at (j := 0) hx rfl hr hlt fun a30 h30 => LdI.at (h30 (j := 0) rfl (by simp) hS) (Bif.i (fun h3 => ?_) fun h3 => ?_)
      · have hC := Is.refl W [ClockA q2 G, ClockA q G, Base W]
        refine ⟨StC W _, StC.start hS, opD_at (j := 0) hx rfl hr hlt fun a33 h33 => opD_at (j := 0) hx rfl hr hlt fun a34 h34 => ⟨o.id, QtI.at fun G' w hw => h33 (j := 1) rfl (by simp) ((hC G' w).1 hw), o.n, QtI.at fun G' w hw => h34 (j := 2) rfl (by simp) ((hC G' w).1 hw), ?_⟩⟩
        refine Ef.n0 (α := Unit) (V := fun _ => .int .i64 (cSet G o.id o.n).2) (B := fun _ => [ClockA q (cSet G o.id o.n).1, ClockA q2 G, Base W]) () hC (fun G' w h => (Set_spec o.id o.n (St.p1 h)).of fun v w' ⟨hv, h⟩ => ⟨_, hv, (), rfl, h⟩) fun _ => ⟨_, rfl, trivial, fun G' w h => ?_⟩
        have hS := StC.ends h
        have hC := Is.refl W [ClockA q (cSet G o.id o.n).1, ClockA q2 G, Base W]
        refine ⟨StC W _, StC.start hS, opD_at (j := 0) hx rfl hr hlt fun a33 h33 => opD_at (j := 0) hx rfl hr hlt fun a34 h34 => ⟨o.id, QtI.at fun G' w hw => h33 (j := 1) rfl (by simp) ((hC G' w).1 hw), o.n, QtI.at fun G' w hw => h34 (j := 2) rfl (by simp) ((hC G' w).1 hw), ?_⟩⟩
        refine Ef.n0 (α := Unit) (V := fun _ => .int .i64 (cSet G o.id o.n).2) (B := fun _ => [ClockA q2 (cSet G o.id o.n).1, ClockA q (cSet G o.id o.n).1, Base W]) () hC (fun G' w h => (Set_spec o.id o.n (St.p1 h)).of fun v w' ⟨hv, h⟩ => ⟨_, hv, (), rfl, h⟩) fun _ => ⟨_, rfl, trivial, fun G' w h => ?_⟩
        exact next _ w (hset0 _ _) (StC.ends h)
      · exact next _ w hG0 hS
  rw [w64 (n := a) (by omega) (by omega), w64 (n := b) (by omega) (by omega), w64 (n := a + b) (by omega) (by omega)]
  obtain ⟨now, al⟩ := G
  dsimp only at hG0
  subst hG0
  have t1 := tick_ok (G := ⟨0, al⟩) (n := a) (by omega) (by show a ≤ maxN - 0; omega)
  have t3 := tick_ok (G := ⟨0, al⟩) (n := a + b) (by omega) (by show a + b ≤ maxN - 0; omega)
  dsimp only at t1 t3
  have t2 := tick_ok (G := ⟨0 + a, al.filter fun x => decide (¬ x.2 ≤ 0 + a)⟩) (n := b) (by omega) (by show b ≤ maxN - (0 + a); omega)
  dsimp only at t2
  have es := filter_steps (a := 0 + a) (b := 0 + a + b) (by omega) hG.srt.1
  have el := filter_late (a := 0 + a) (b := 0 + a + b) (by omega) al
  have e0 : (0 : Int) + (a + b) = 0 + a + b := by omega
  rw [e0] at t3
  refine (Tick_spec a (by omega) hS.p1).of fun v w ⟨p1, c1, hv, hS⟩ => ⟨_, _, _, _, hv, ?_⟩
  rw [t1] at hS ⊢
  dsimp only at hS ⊢
  refine (Tick_spec b (by omega) hS).of fun v w ⟨p2, c2, hv, hS⟩ => ⟨_, _, _, _, hv, ?_⟩
  rw [t2] at hS ⊢
  dsimp only at hS ⊢
  refine (Tick_spec (a + b) (by omega) hS.p3).of fun v w ⟨p3, c3, hv, hS⟩ => ⟨_, _, _, _, hv, Bif.yes rfl (Bif.yes rfl (Bif.yes rfl (Bif.yes (by rw [t3]; rfl) (NewC.i hS fun b88 w hS => ?_))))⟩
  rw [t3] at hS ⊢
  dsimp only at hS ⊢
  rw [el] at hS
  have hmany := hG.many
  have k1 : ((al.filter fun x => decide (x.2 ≤ 0 + a)).map fun x : Al => x.1).length ≤ 1024 := by rw [List.length_map]; exact Nat.le_trans (List.length_filter_le _ _) hmany
  have k2 : (((al.filter fun x => decide (¬ x.2 ≤ 0 + a)).filter fun x => decide (x.2 ≤ 0 + a + b)).map fun x : Al => x.1).length ≤ 1024 := by
    rw [List.length_map]
    exact Nat.le_trans (List.length_filter_le _ _) (Nat.le_trans (List.length_filter_le _ _) hmany)
  have eo : ((al.filter fun x => decide (x.2 ≤ 0 + a)).map fun x : Al => x.1) ++ (((al.filter fun x => decide (¬ x.2 ≤ 0 + a)).filter fun x => decide (x.2 ≤ 0 + a + b)).map fun x : Al => x.1) = ((al.filter fun x => decide (x.2 ≤ 0 + a + b)).map fun x : Al => x.1) := by rw [es, List.map_append]
  generalize ((al.filter fun x => decide (x.2 ≤ 0 + a)).map fun x : Al => x.1) = O1 at hS k1 eo ⊢
  generalize (((al.filter fun x => decide (¬ x.2 ≤ 0 + a)).filter fun x => decide (x.2 ≤ 0 + a + b)).map fun x : Al => x.1) = O2 at hS k2 eo ⊢
  generalize ((al.filter fun x => decide (x.2 ≤ 0 + a + b)).map fun x : Al => x.1) = O3 at hS eo ⊢
  generalize (al.filter fun x => decide (¬ x.2 ≤ 0 + a + b)) = R at hS
  have hS : St W [Row b88 3 [], ClockA q2 ⟨0 + a + b, R⟩, SlA 3 1 iV p3 c3 O3, ClockA q ⟨0 + a + b, R⟩, SlA 3 1 iV p2 c2 O2, SlA 3 1 iV p1 c1 O1, Base W] w := hS.perm (by
    refine List.Perm.cons _ (List.Perm.cons _ (List.Perm.cons _ (List.Perm.cons _ (List.Perm.cons _ ?_))))
    exact .refl _)
  have hS : St W (SlA 3 1 iV (some ⟨b88, 0, none⟩) 0 ([] : List Int) :: [ClockA q2 ⟨0 + a + b, R⟩, SlA 3 1 iV p3 c3 O3, ClockA q ⟨0 + a + b, R⟩, SlA 3 1 iV p2 c2 O2, SlA 3 1 iV p1 c1 O1, Base W]) w := SlA.of_row (os := []) iV1 hS
  refine append_el (os := ([] : List Int)) (xs := O1) iV1 uIs (.inr ⟨_, uIs⟩) iInt sInt zInt rfl 0 hS rfl (Rd.n 4 rfl fun F => SlA.rd F) rfl iVn (by rw [bInt, List.length_nil]; omega) (by rw [List.length_nil]; omega) fun p4 c4 w hS => ⟨_, _, _, rfl, ?_⟩
  have hS : St W [SlA 3 1 iV p4 c4 ([] ++ O1), ClockA q2 ⟨0 + a + b, R⟩, SlA 3 1 iV p3 c3 O3, ClockA q ⟨0 + a + b, R⟩, SlA 3 1 iV p2 c2 O2, SlA 3 1 iV p1 c1 O1, Base W] w := hS
  rw [List.nil_append] at hS ⊢
  refine append_el (os := O1) (xs := O2) iV1 uIs (.inr ⟨_, uIs⟩) iInt sInt zInt rfl 0 hS rfl (Rd.n 3 rfl fun F => SlA.rd F) rfl iVn (by rw [bInt]; omega) (by omega) fun p5 c5 w hS => ⟨_, _, _, rfl, ?_⟩
  have hS : St W [SlA 3 1 iV p5 c5 (O1 ++ O2), ClockA q2 ⟨0 + a + b, R⟩, SlA 3 1 iV p3 c3 O3, ClockA q ⟨0 + a + b, R⟩, SlA 3 1 iV p2 c2 O2, SlA 3 1 iV p1 c1 O1, Base W] w := hS
  refine (Same_spec (Rd.n 0 rfl fun F => SlA.rd F) (Rd.n 2 rfl fun F => SlA.rd F) (by rw [List.length_append]; omega) hS).of fun v w ⟨hv, hS⟩ => ⟨_, hv, Bif.yes (decide_eq_true eo) ?_⟩
  have hS : St W [ClockA q2 ⟨0 + a + b, R⟩, ClockA q ⟨0 + a + b, R⟩, Base W] w := by
    have h1 : St W [ClockA q2 ⟨0 + a + b, R⟩, SlA 3 1 iV p3 c3 O3, ClockA q ⟨0 + a + b, R⟩, SlA 3 1 iV p2 c2 O2, SlA 3 1 iV p1 c1 O1, Base W] w := hS.drop
    exact St.del 2 (St.del 2 (St.del 1 h1 rfl) rfl) rfl
  refine (Now_spec hS.p1).of fun v w ⟨hv, hS⟩ => ⟨_, hv, ?_⟩
  refine (Now_spec hS.p1).of fun v w ⟨hv, hS⟩ => ⟨_, hv, Bif.yes (by simp) ?_⟩
  refine (Many_spec hS.p1).of fun v w ⟨hv, hS⟩ => ⟨_, hv, ?_⟩
  refine (Many_spec hS.p1).of fun v w ⟨hv, hS⟩ => ⟨_, hv, ?_, _, hS.p2⟩
  simp
end
end Go.Proofs.Ytgmpnonjhpopdaa
