/-
  The walk of the law that alarms are the document's.
-/
import Derived.Test.YtgmpnonjhpopdaaRef08
set_option linter.unusedVariables false
set_option linter.unusedSimpArgs false
namespace Go.Proofs.Ytgmpnonjhpopdaa
open Go
theorem cTick_len (G : ClG) (n : Int) : (cTick G n).2.1.length ≤ G.al.length := by
  unfold cTick
  split
  · simp
  · dsimp only; rw [List.length_map]; exact List.length_filter_le _ _
section
variable {W : World}
theorem Plays_walk {p : Option Addr} {os : List OpD} {c : Nat} (hr : Rd [Base W] p (os.flatMap opCells)) (hc : os.length ≤ c) (hcm : c ≤ 9223372036854775807) (hok : ∀ o ∈ os, OpOk o) :
    CallR Try.prog 3 #[.slice p os.length c] W fun v w' => v = .bool true ∧ ∃ r, St W (Base W :: r) w' := by
  refine F3_of ((head_spec (St.base W)).of fun v w ⟨hv, hS⟩ => ⟨_, hv, (New_spec hS).of fun v w ⟨q, hv, hS⟩ => ⟨_, hv, (RNew_spec hS).of fun v w ⟨r, hv, hS⟩ => ⟨_, hv, Bif.no rfl ?_⟩⟩⟩)
  refine Bif.i (fun h => Bif.yes rfl ⟨rfl, _, hS.drop.drop⟩) fun h => ?_
  have h := of_decide_eq_false h
  refine ⟨fun vs w => ∃ (i : Nat) (G : ClG), vs = [.int .i64 i] ∧ i ≤ os.length ∧ St W [RefC r G, ClockA q G, Base W] w, leftN os.length, ⟨0, _, rfl, by omega, hS⟩, fun x w hI => ?_⟩
  clear hS
  obtain ⟨i, G, he, hi, hS⟩ := hI
  cases he
  refine Bif.i (fun hlt => ?_) fun _ => ⟨rfl, _, hS.p2⟩
  have hlt : i < os.length := by have := of_decide_eq_true hlt; omega
  have hx : os[i]? = some (os[i]'hlt) := List.getElem?_eq_getElem _
  have hwf := (hok _ (List.getElem_mem hlt)).2
  generalize os[i]'hlt = o at hx hwf
  have hwf := i64_wf hwf
  refine opD_at (j := 0) hx rfl hr hlt fun a18 h18 => LdI.at (h18 (j := 0) rfl (by simp) hS) ?_
  refine ⟨fun vs w => vs = [] ∧ ∃ G, St W [RefC r G, ClockA q G, Base W] w, ?_, fun w hJ => ?_⟩
  · have hG := ClockA.ok hS.p1
    have hall := hG.many
    refine Bif.i (fun h2 => ?_) fun h2 => Bif.i (fun h3 => ?_) fun h3 => ?_
    · refine opD_at (j := 0) hx rfl hr hlt fun a20 h20 => LdI.at (h20 (j := 1) rfl (by simp) hS) ((Drop_spec o.id hS.p1).of fun v w ⟨hv, hS⟩ => ⟨_, hv, ?_⟩)
      refine opD_at (j := 0) hx rfl hr hlt fun a25 h25 => LdI.at (h25 (j := 1) rfl (by simp) hS) ((RDrop_spec o.id hall hS.p1).of fun v w ⟨hv, hS⟩ => ⟨_, hv, Bif.no (by simp) ⟨rfl, _, hS⟩⟩)
    · refine opD_at (j := 0) hx rfl hr hlt fun a20 h20 => LdI.at (h20 (j := 2) rfl (by simp) hS) ((Tick_spec o.n hwf hS.p1).of fun v w ⟨p1, c1, hv, hS⟩ => ⟨_, _, _, _, hv, ?_⟩)
      refine opD_at (j := 0) hx rfl hr hlt fun a25 h25 => LdI.at (h25 (j := 2) rfl (by simp) hS) ((RTick_spec o.n hwf hG hS.p2).of fun v w ⟨p2, c2, hv, hS⟩ => ⟨_, _, _, _, hv, ?_⟩)
      have hl := cTick_len G o.n
      refine (Same_spec (Rd.n 3 rfl fun F => SlA.rd F) (Rd.n 1 rfl fun F => SlA.rd F) (by omega) hS).of fun v w ⟨hv, hS⟩ => ⟨_, hv, Bif.no (by simp) (Bif.no (by simp) ⟨rfl, _, St.del 1 (St.del 3 hS rfl) rfl⟩)⟩
    · have hC := Is.refl W [RefC r G, ClockA q G, Base W]
      refine ⟨StC W _, StC.start hS, opD_at (j := 0) hx rfl hr hlt fun a33 h33 => opD_at (j := 0) hx rfl hr hlt fun a34 h34 => ⟨o.id, QtI.at fun G' w hw => h33 (j := 1) rfl (by simp) ((hC G' w).1 hw), o.n, QtI.at fun G' w hw => h34 (j := 2) rfl (by simp) ((hC G' w).1 hw), ?_⟩⟩
      refine Ef.n0 (α := Unit) (V := fun _ => .int .i64 (cSet G o.id o.n).2) (B := fun _ => [ClockA q (cSet G o.id o.n).1, RefC r G, Base W]) () hC (fun G' w h => (Set_spec o.id o.n (St.p1 h)).of fun v w' ⟨hv, h⟩ => ⟨_, hv, (), rfl, h⟩) fun _ => ⟨_, rfl, trivial, fun G' w h => ?_⟩
      have hS := StC.ends h
      have hC := Is.refl W [ClockA q (cSet G o.id o.n).1, RefC r G, Base W]
      refine ⟨StC W _, StC.start hS, opD_at (j := 0) hx rfl hr hlt fun a33 h33 => opD_at (j := 0) hx rfl hr hlt fun a34 h34 => ⟨o.id, QtI.at fun G' w hw => h33 (j := 1) rfl (by simp) ((hC G' w).1 hw), o.n, QtI.at fun G' w hw => h34 (j := 2) rfl (by simp) ((hC G' w).1 hw), ?_⟩⟩
      refine Ef.n0 (α := Unit) (V := fun _ => .int .i64 (cSet G o.id o.n).2) (B := fun _ => [RefC r (cSet G o.id o.n).1, ClockA q (cSet G o.id o.n).1, Base W]) () hC (fun G' w h => (RSet_spec o.id o.n hG (St.p1 h)).of fun v w' ⟨hv, h⟩ => ⟨_, hv, (), rfl, h⟩) fun _ => ⟨_, rfl, trivial, fun G' w h => ?_⟩
      exact Bif.no (by simp) ⟨rfl, _, StC.ends h⟩
  clear hS G
  obtain ⟨_, G, hS⟩ := hJ
  have hG := ClockA.ok hS.p1
  have hall := hG.many
  refine opD_at (j := 0) hx rfl hr hlt fun a20 h20 => LdI.at (h20 (j := 1) rfl (by simp) hS) ((At_spec o.id hS.p1).of fun v w ⟨hv, hS⟩ => ⟨_, _, hv, ?_⟩)
  refine opD_at (j := 0) hx rfl hr hlt fun a25 h25 => LdI.at (h25 (j := 1) rfl (by simp) hS) ((RAt_spec o.id hall hS.p1).of fun v w ⟨hv, hS⟩ => ⟨_, _, hv, ?_⟩)
  obtain ⟨p2, c2, hS⟩ := RefC.open_ hS
  have hC := Is.refl W [Row r 42 [.slice p2 G.al.length c2, .int .i64 G.now], SlA 70 2 aV p2 c2 G.al, ClockA q G, Base W]
  refine ⟨StC W _, StC.start hS, Bif.no (by simp) (Bif.no (by simp) (NilP.i ⟨_, QtI.a 0 hC rfl rfl, ?_⟩))⟩
  refine Ef.n (α := Unit) (V := fun _ => .int .i64 G.now) (B := fun _ => [ClockA q G]) () 2 hC rfl (fun G' w h => (Now_spec h).of fun v w' ⟨hv, h⟩ => ⟨_, hv, (), rfl, Is.back 2 rfl (B := [_]) h⟩) fun _ => ⟨_, rfl, QtI.a 0 hC rfl rfl, Bif.no (by simp) (NilP.i ⟨_, _, _, QtL.a 0 hC rfl rfl, ?_⟩)⟩
  refine Ef.n (α := Unit) (V := fun _ => .int .i64 G.al.length) (B := fun _ => [ClockA q G]) () 2 hC rfl (fun G' w h => (Many_spec h).of fun v w' ⟨hv, h⟩ => ⟨_, hv, (), rfl, Is.back 2 rfl (B := [_]) h⟩) fun _ => ⟨_, rfl, QtL.a 0 hC rfl rfl, fun G' w h => Bif.no (by simp) ?_⟩
  have hS := StC.ends h
  have hS : St W [Row r 42 [.slice p2 G.al.length c2, .int .i64 G.now], SlA 70 2 aV p2 c2 G.al, ClockA q G, Base W] w := hS
  rw [up hlt (by omega)]
  exact ⟨⟨i + 1, G, rfl, by omega, RefC.shut hS⟩, by show os.length - (i + 1) < os.length - i; omega⟩
end
end Go.Proofs.Ytgmpnonjhpopdaa
