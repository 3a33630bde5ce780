/-
  The laws of who waits: bounds, and to the end.
-/
import Derived.Test.YtdecmdbojmdaeaaLaw14b
set_option linter.unusedVariables false
set_option linter.unusedSimpArgs false
namespace Go.Proofs.Ytdecmdbojmdaeaa
open Go
theorem drop_len {G : QG} (hn : (G.map (·.2)).Nodup) {id : Int} {n : Name} (h : gW G id = some n) : (gDrop G id).length + 1 = G.length := by
  induction G with
  | nil => simp [gW] at h
  | cons x r ih =>
    simp only [List.map_cons, List.nodup_cons] at hn
    simp only [gW] at h
    unfold gDrop at ih ⊢
    simp only [List.filter_cons]
    split at h
    · rename_i e
      have : r.filter (fun y => decide (y.2 ≠ id)) = r := by
        rw [List.filter_eq_self]
        intro y hy
        simp only [decide_eq_true_eq]
        exact fun e' => hn.1 (List.mem_map.2 ⟨y, hy, e'.trans e.symm⟩)
      simp only [e, ne_eq, not_true, decide_false, Bool.false_eq_true, if_false]
      simp only [ne_eq] at this
      rw [this]; simp
    · rename_i e
      simp only [ne_eq, e, not_false_eq_true, decide_true, if_true, List.length_cons]
      have := ih hn.2 h
      simp only [ne_eq] at this
      omega

theorem Drain_walk {W : World} {p : Option Addr} {os : List OpD} {c : Nat} (hl : Rd [Base W] p (os.flatMap opCells)) (hc : os.length ≤ c) (hcm : c ≤ 9223372036854775807) (hok : ∀ o ∈ os, OpOk W o) (name : Name) (hnm : name.size ≤ 9223372036854775807) :
    CallR Try.prog 8 #[.slice p os.length c, .string name] W fun v w' => v = .bool true ∧ ∃ r, St W (Base W :: r) w' := by
  have hlen : os.length ≤ 9223372036854775807 := Nat.le_trans hc hcm
  refine F8_of ((head_spec (St.base W)).of fun v w1 ⟨hv, hS⟩ => ⟨_, hv, ?_⟩)
  refine (New_spec hS).of fun v w ⟨q, hv, hS⟩ => ⟨_, hv, Bif.i (fun h => by cases h) fun _ => ?_⟩
  refine (great_spec hl (by simp) hlen hS.last).of fun v w ⟨b, hv, hb, hS⟩ => ⟨_, hv, Bif.i (fun _ => ⟨rfl, _, hS⟩) fun hb' => ?_⟩
  refine ⟨fun vs w => ∃ (k : Nat) (G : QG), vs = [.int .i64 k] ∧ k ≤ os.length ∧ QOk G ∧ St W [Base W, QueueA q G] w, leftN os.length, ⟨0, [], rfl, Nat.zero_le _, QOk.nil, hS⟩, fun i w hI => ?_⟩
  obtain ⟨k, G, he, hk, hQ, hS⟩ := hI
  cases he
  refine Bif.i (fun hlt => ?_) fun _ => ?_
  · have hlt : k < os.length := by have := of_decide_eq_true hlt; omega
    have hx : os[k]? = some os[k] := List.getElem?_eq_getElem hlt
    have hm : ∀ w0 w1, leftN os.length [.int .i64 ((k + 1 : Nat) : Int)] w0 < leftN os.length [.int .i64 (k : Int)] w1 := fun _ _ => by show os.length - (k + 1) < os.length - k; omega
    rw [up hlt hlen]
    refine IxP.el op3 (by decide) (hl.mem (by simp)) hS rfl hlt hx fun a ha => LdI.at (ha 0 _ rfl) (Bif.i (fun _ => ?_) fun _ => ?_)
    · refine IxP.el op3 (by decide) (hl.mem (by simp)) hS rfl hlt hx fun a ha => LdI.at (ha 2 _ rfl) ?_
      (refine (Drop_spec _ (hS.at 1 rfl)).of fun v w ⟨hv, hS⟩ => ⟨_, hv, ?_⟩; replace hS := St.bk 1 (B := [_]) hS rfl; dsimp only [put, del, ins, List.cons_append, List.nil_append, List.append_assoc, List.set, List.length_cons, List.length_nil, Nat.zero_add, Nat.reduceAdd] at hS)
      exact ⟨⟨k + 1, _, rfl, by omega, hQ.drop _, hS⟩, hm _ _⟩
    · have hC := Is.refl W [Base W, QueueA q G]
      refine ⟨StC W _, StC.start hS, IxP.elC hC op3 (by decide) (hl.mem (by simp)) hS rfl hlt hx fun a1 ha1 => IxP.elC hC op3 (by decide) (hl.mem (by simp)) hS rfl hlt hx fun a2 ha2 => ?_⟩
      refine ⟨os[k].name, fun G w h => LdS.at (ha1 h 1 _ rfl) ⟨rfl, h⟩, os[k].id, fun G w h => LdI.at (ha2 h 2 _ rfl) ⟨rfl, h⟩, ?_⟩
      refine Ef.n (α := Unit) (V := fun _ => .int .i64 (gPut G os[k].name os[k].id).2) (B := fun _ => [QueueA q (gPut G os[k].name os[k].id).1]) () 1 hC rfl (fun G w h => (Put_spec _ _ h).of fun v w' ⟨hv, h⟩ => ⟨_, hv, (), rfl, Is.back 1 rfl h⟩) fun _ => ⟨_, rfl, trivial, fun K w h => ?_⟩
      exact ⟨⟨k + 1, _, rfl, by omega, hQ.put _ _, StC.ends h⟩, hm _ _⟩
  · refine (List_spec name (hS.at 1 rfl)).of fun v w ⟨p2, c2, hv, hS⟩ => ⟨_, _, _, hv, ?_⟩
    replace hS := St.mv 1 2 (St.bk 1 (B := [_, _]) hS rfl) rfl
    dsimp only [put, del, ins, List.cons_append, List.nil_append, List.append_assoc, List.set, List.length_cons, List.length_nil, Nat.zero_add, Nat.reduceAdd] at hS
    (refine (Many_spec (hS.at 1 rfl)).of fun v w ⟨hv, hS⟩ => ⟨_, hv, ?_⟩; replace hS := St.bk 1 (B := [_]) hS rfl; dsimp only [put, del, ins, List.cons_append, List.nil_append, List.append_assoc, List.set, List.length_cons, List.length_nil, Nat.zero_add, Nat.reduceAdd] at hS)
    have hrow := hQ.row name
    have hall := hQ.all
    have hgl := gL_len G name
    refine ⟨fun vs w => ∃ (k : Nat) (H : QG), vs = [.int .i64 k] ∧ k ≤ (gL G name).length ∧ QOk H ∧ gL H name = (gL G name).drop k ∧ H.length + k = G.length ∧ St W [Base W, QueueA q H, SlA 3 1 iV p2 c2 (gL G name)] w, leftN (gL G name).length, ⟨0, G, rfl, Nat.zero_le _, hQ, rfl, rfl, hS⟩, fun i w hI => ?_⟩
    obtain ⟨j, H, he, hj, hQH, hgH, hlH, hS⟩ := hI
    cases he
    refine Bif.i (fun hlt => ?_) fun hge => ?_
    · have hlt : j < (gL G name).length := by have := of_decide_eq_true hlt; omega
      have hd : (gL G name).drop j = (gL G name)[j] :: (gL G name).drop (j + 1) := List.drop_eq_getElem_cons hlt
      (refine (Take_spec name (hS.at 1 rfl)).of fun v w ⟨hv, hS⟩ => ⟨_, _, hv, ?_⟩; replace hS := St.bk 1 (B := [_]) hS rfl; dsimp only [put, del, ins, List.cons_append, List.nil_append, List.append_assoc, List.set, List.length_cons, List.length_nil, Nat.zero_add, Nat.reduceAdd] at hS)
      rw [hd] at hgH
      have e1 : gTake H name = (gDrop H (gL G name)[j], (gL G name)[j], true) := by unfold gTake; rw [hgH]
      rw [e1] at hS ⊢
      refine Bif.i (fun h => by cases h) fun _ => IxP.el iV1 (by decide) (Rd.n 2 rfl SlA.rd) hS rfl hlt (List.getElem?_eq_getElem hlt) fun a ha => LdI.at (ha 0 _ rfl) (Bif.i (fun h => by simp at h) fun _ => ?_)
      have hw := head_where hQH hgH
      have hdl := drop_len hQH.nod hw
      rw [up hlt (by omega)]
      exact ⟨⟨j + 1, _, rfl, by omega, hQH.drop _, drop_head hQH hgH, by omega, hS⟩, by show (gL G name).length - (j + 1) < (gL G name).length - j; omega⟩
    · have hj2 : j = (gL G name).length := by have := of_decide_eq_false hge; omega
      subst hj2
      rw [List.drop_length] at hgH
      have e1 : gTake H name = (H, 0, false) := by unfold gTake; rw [hgH]
      (refine (Take_spec name (hS.at 1 rfl)).of fun v w ⟨hv, hS⟩ => ⟨_, _, hv, ?_⟩; replace hS := St.bk 1 (B := [_]) hS rfl; dsimp only [put, del, ins, List.cons_append, List.nil_append, List.append_assoc, List.set, List.length_cons, List.length_nil, Nat.zero_add, Nat.reduceAdd] at hS)
      rw [e1] at hS ⊢
      refine Bif.i (fun _ => ?_) fun h => by cases h
      refine Bif.i (fun _ => ?_) fun h => by cases h
      refine (List_spec name (hS.at 1 rfl)).of fun v w ⟨p3, c3, hv, hS⟩ => ⟨_, _, _, hv, ?_⟩
      replace hS := St.mv 1 3 (St.bk 1 (B := [_, _]) hS rfl) rfl
      dsimp only [put, del, ins, List.cons_append, List.nil_append, List.append_assoc, List.set, List.length_cons, List.length_nil, Nat.zero_add, Nat.reduceAdd] at hS
      rw [hgH]
      refine Bif.i (fun _ => ?_) fun h => by simp at h
      (refine (Many_spec (hS.at 1 rfl)).of fun v w ⟨hv, hS⟩ => ⟨_, hv, ?_⟩; replace hS := St.bk 1 (B := [_]) hS rfl; dsimp only [put, del, ins, List.cons_append, List.nil_append, List.append_assoc, List.set, List.length_cons, List.length_nil, Nat.zero_add, Nat.reduceAdd] at hS)
      rw [w64 (by omega) (by omega)]
      refine Bif.i (fun _ => ⟨congrArg Value.bool (decide_eq_true (by omega)), _, hS⟩) fun h => ?_
      simp at h
      omega

theorem Bounds_walk {W : World} {p : Option Addr} {os : List OpD} {c : Nat} (hl : Rd [Base W] p (os.flatMap opCells)) (hc : os.length ≤ c) (hcm : c ≤ 9223372036854775807) (hok : ∀ o ∈ os, OpOk W o) :
    CallR Try.prog 5 #[.slice p os.length c] W fun v w' => v = .bool true ∧ ∃ r, St W (Base W :: r) w' := by
  have hlen : os.length ≤ 9223372036854775807 := Nat.le_trans hc hcm
  refine F5_of ((head_spec (St.base W)).of fun v w1 ⟨hv, hS⟩ => ⟨_, hv, ?_⟩)
  refine (New_spec hS).of fun v w ⟨q, hv, hS⟩ => ⟨_, hv, Bif.i (fun h => by cases h) fun _ => ?_⟩
  refine (great_spec hl (by simp) hlen hS.last).of fun v w ⟨b, hv, hb, hS⟩ => ⟨_, hv, Bif.i (fun _ => ⟨rfl, _, hS⟩) fun hb' => ?_⟩
  refine ⟨fun vs w => ∃ (k : Nat) (G : QG), vs = [.int .i64 k] ∧ k ≤ os.length ∧ QOk G ∧ St W [Base W, QueueA q G] w, leftN os.length, ⟨0, [], rfl, Nat.zero_le _, QOk.nil, hS⟩, fun i w hI => ?_⟩
  obtain ⟨k, G, he, hk, hQ, hS⟩ := hI
  cases he
  refine Bif.i (fun hlt => ?_) fun _ => ⟨rfl, _, hS⟩
  have hlt : k < os.length := by have := of_decide_eq_true hlt; omega
  have ho := hok _ (List.getElem_mem hlt)
  refine IxP.el op3 (by decide) (hl.mem (by simp)) hS rfl hlt (List.getElem?_eq_getElem hlt) fun a ha => LdI.at (ha 0 _ rfl) (LdS.at (ha 1 _ rfl) (LdI.at (ha 2 _ rfl) (NewC.n hS fun b w hS => ?_)))
  generalize os[k] = o at ho
  obtain ⟨what, nm, id⟩ := o
  dsimp only [put, del, ins, List.cons_append, List.nil_append, List.append_assoc, List.set, List.length_cons, List.length_nil, Nat.zero_add, Nat.reduceAdd] at hS
  iterate 3 ((first | (refine St1.n 0 hS rfl (Nat.le_of_ble_eq_true rfl) fun w hS => ?_; dsimp only [put, del, ins, List.cons_append, List.nil_append, List.append_assoc, List.set, List.length_cons, List.length_nil, Nat.zero_add, Nat.reduceAdd] at hS) | (refine St1.a 0 hS rfl (Nat.le_of_ble_eq_true rfl) fun w hS => ?_; dsimp only [put, del, ins, List.cons_append, List.nil_append, List.append_assoc, List.set, List.length_cons, List.length_nil, Nat.zero_add, Nat.reduceAdd] at hS) | (refine St1.n 1 hS rfl (Nat.le_of_ble_eq_true rfl) fun w hS => ?_; dsimp only [put, del, ins, List.cons_append, List.nil_append, List.append_assoc, List.set, List.length_cons, List.length_nil, Nat.zero_add, Nat.reduceAdd] at hS) | (refine St1.a 1 hS rfl (Nat.le_of_ble_eq_true rfl) fun w hS => ?_; dsimp only [put, del, ins, List.cons_append, List.nil_append, List.append_assoc, List.set, List.length_cons, List.length_nil, Nat.zero_add, Nat.reduceAdd] at hS) | (refine St1.n 2 hS rfl (Nat.le_of_ble_eq_true rfl) fun w hS => ?_; dsimp only [put, del, ins, List.cons_append, List.nil_append, List.append_assoc, List.set, List.length_cons, List.length_nil, Nat.zero_add, Nat.reduceAdd] at hS) | (refine St1.a 2 hS rfl (Nat.le_of_ble_eq_true rfl) fun w hS => ?_; dsimp only [put, del, ins, List.cons_append, List.nil_append, List.append_assoc, List.set, List.length_cons, List.length_nil, Nat.zero_add, Nat.reduceAdd] at hS) | (refine St1.n 3 hS rfl (Nat.le_of_ble_eq_true rfl) fun w hS => ?_; dsimp only [put, del, ins, List.cons_append, List.nil_append, List.append_assoc, List.set, List.length_cons, List.length_nil, Nat.zero_add, Nat.reduceAdd] at hS) | (refine St1.a 3 hS rfl (Nat.le_of_ble_eq_true rfl) fun w hS => ?_; dsimp only [put, del, ins, List.cons_append, List.nil_append, List.append_assoc, List.set, List.length_cons, List.length_nil, Nat.zero_add, Nat.reduceAdd] at hS) | (refine St1.n 4 hS rfl (Nat.le_of_ble_eq_true rfl) fun w hS => ?_; dsimp only [put, del, ins, List.cons_append, List.nil_append, List.append_assoc, List.set, List.length_cons, List.length_nil, Nat.zero_add, Nat.reduceAdd] at hS) | (refine St1.a 4 hS rfl (Nat.le_of_ble_eq_true rfl) fun w hS => ?_; dsimp only [put, del, ins, List.cons_append, List.nil_append, List.append_assoc, List.set, List.length_cons, List.length_nil, Nat.zero_add, Nat.reduceAdd] at hS) | (refine St1.n 5 hS rfl (Nat.le_of_ble_eq_true rfl) fun w hS => ?_; dsimp only [put, del, ins, List.cons_append, List.nil_append, List.append_assoc, List.set, List.length_cons, List.length_nil, Nat.zero_add, Nat.reduceAdd] at hS) | (refine St1.a 5 hS rfl (Nat.le_of_ble_eq_true rfl) fun w hS => ?_; dsimp only [put, del, ins, List.cons_append, List.nil_append, List.append_assoc, List.set, List.length_cons, List.length_nil, Nat.zero_add, Nat.reduceAdd] at hS) | (refine St1.n 6 hS rfl (Nat.le_of_ble_eq_true rfl) fun w hS => ?_; dsimp only [put, del, ins, List.cons_append, List.nil_append, List.append_assoc, List.set, List.length_cons, List.length_nil, Nat.zero_add, Nat.reduceAdd] at hS) | (refine St1.a 6 hS rfl (Nat.le_of_ble_eq_true rfl) fun w hS => ?_; dsimp only [put, del, ins, List.cons_append, List.nil_append, List.append_assoc, List.set, List.length_cons, List.length_nil, Nat.zero_add, Nat.reduceAdd] at hS) | (refine St1.n 7 hS rfl (Nat.le_of_ble_eq_true rfl) fun w hS => ?_; dsimp only [put, del, ins, List.cons_append, List.nil_append, List.append_assoc, List.set, List.length_cons, List.length_nil, Nat.zero_add, Nat.reduceAdd] at hS) | (refine St1.a 7 hS rfl (Nat.le_of_ble_eq_true rfl) fun w hS => ?_; dsimp only [put, del, ins, List.cons_append, List.nil_append, List.append_assoc, List.set, List.length_cons, List.length_nil, Nat.zero_add, Nat.reduceAdd] at hS) | (refine St1.n 8 hS rfl (Nat.le_of_ble_eq_true rfl) fun w hS => ?_; dsimp only [put, del, ins, List.cons_append, List.nil_append, List.append_assoc, List.set, List.length_cons, List.length_nil, Nat.zero_add, Nat.reduceAdd] at hS) | (refine St1.a 8 hS rfl (Nat.le_of_ble_eq_true rfl) fun w hS => ?_; dsimp only [put, del, ins, List.cons_append, List.nil_append, List.append_assoc, List.set, List.length_cons, List.length_nil, Nat.zero_add, Nat.reduceAdd] at hS) | (refine St1.n 9 hS rfl (Nat.le_of_ble_eq_true rfl) fun w hS => ?_; dsimp only [put, del, ins, List.cons_append, List.nil_append, List.append_assoc, List.set, List.length_cons, List.length_nil, Nat.zero_add, Nat.reduceAdd] at hS) | (refine St1.a 9 hS rfl (Nat.le_of_ble_eq_true rfl) fun w hS => ?_; dsimp only [put, del, ins, List.cons_append, List.nil_append, List.append_assoc, List.set, List.length_cons, List.length_nil, Nat.zero_add, Nat.reduceAdd] at hS) | (refine St1.n 10 hS rfl (Nat.le_of_ble_eq_true rfl) fun w hS => ?_; dsimp only [put, del, ins, List.cons_append, List.nil_append, List.append_assoc, List.set, List.length_cons, List.length_nil, Nat.zero_add, Nat.reduceAdd] at hS) | (refine St1.a 10 hS rfl (Nat.le_of_ble_eq_true rfl) fun w hS => ?_; dsimp only [put, del, ins, List.cons_append, List.nil_append, List.append_assoc, List.set, List.length_cons, List.length_nil, Nat.zero_add, Nat.reduceAdd] at hS) | (refine St1.n 11 hS rfl (Nat.le_of_ble_eq_true rfl) fun w hS => ?_; dsimp only [put, del, ins, List.cons_append, List.nil_append, List.append_assoc, List.set, List.length_cons, List.length_nil, Nat.zero_add, Nat.reduceAdd] at hS) | (refine St1.a 11 hS rfl (Nat.le_of_ble_eq_true rfl) fun w hS => ?_; dsimp only [put, del, ins, List.cons_append, List.nil_append, List.append_assoc, List.set, List.length_cons, List.length_nil, Nat.zero_add, Nat.reduceAdd] at hS)))
  have hall := hQ.all
  have hrow := hQ.row nm
  (refine (Many_spec (hS.at 1 rfl)).of fun v w ⟨hv, hS⟩ => ⟨_, hv, ?_⟩; replace hS := St.bk 1 (B := [_]) hS rfl; dsimp only [put, del, ins, List.cons_append, List.nil_append, List.append_assoc, List.set, List.length_cons, List.length_nil, Nat.zero_add, Nat.reduceAdd] at hS)
  refine LdS.n 2 hS rfl rfl ((List_spec nm (hS.at 1 rfl)).of fun v w ⟨p2, c2, hv, hS⟩ => ⟨_, _, _, hv, ?_⟩)
  replace hS := St.mv 1 3 (St.bk 1 (B := [_, _]) hS rfl) rfl
  dsimp only [put, del, ins, List.cons_append, List.nil_append, List.append_assoc, List.set, List.length_cons, List.length_nil, Nat.zero_add, Nat.reduceAdd] at hS
  refine LdI.n 2 hS rfl rfl ⟨fun vs w => vs = [] ∧ ∃ G, QOk G ∧ St W [Base W, QueueA q G, Row b 30 [.int .i64 what, .string nm, .int .i64 id]] w, ?_, fun w hJ => ?_⟩
  · refine Bif.i (fun _ => ?_) fun _ => LdI.n 2 hS rfl rfl (Bif.i (fun _ => ?_) fun _ => ?_)
    · refine LdS.n 2 hS rfl rfl ?_
      (refine (Take_spec nm (hS.at 1 rfl)).of fun v w ⟨hv, hS⟩ => ⟨_, _, hv, ?_⟩; replace hS := St.bk 1 (B := [_]) hS rfl; dsimp only [put, del, ins, List.cons_append, List.nil_append, List.append_assoc, List.set, List.length_cons, List.length_nil, Nat.zero_add, Nat.reduceAdd] at hS)
      exact ⟨rfl, _, hQ.take nm, hS.keep [_, _, _]⟩
    · refine LdI.n 2 hS rfl rfl ?_
      (refine (Drop_spec id (hS.at 1 rfl)).of fun v w ⟨hv, hS⟩ => ⟨_, hv, ?_⟩; replace hS := St.bk 1 (B := [_]) hS rfl; dsimp only [put, del, ins, List.cons_append, List.nil_append, List.append_assoc, List.set, List.length_cons, List.length_nil, Nat.zero_add, Nat.reduceAdd] at hS)
      exact ⟨rfl, _, hQ.drop id, hS.keep [_, _, _]⟩
    · refine LdI.n 2 hS rfl rfl ?_
      (refine (Where_spec id (hS.at 1 rfl)).of fun v w ⟨hv, hS⟩ => ⟨_, _, hv, ?_⟩; replace hS := St.bk 1 (B := [_]) hS rfl; dsimp only [put, del, ins, List.cons_append, List.nil_append, List.append_assoc, List.set, List.length_cons, List.length_nil, Nat.zero_add, Nat.reduceAdd] at hS)
      refine LdS.n 2 hS rfl rfl (LdI.n 2 hS rfl rfl ?_)
      (refine (Put_spec nm id (hS.at 1 rfl)).of fun v w ⟨hv, hS⟩ => ⟨_, hv, ?_⟩; replace hS := St.bk 1 (B := [_]) hS rfl; dsimp only [put, del, ins, List.cons_append, List.nil_append, List.append_assoc, List.set, List.length_cons, List.length_nil, Nat.zero_add, Nat.reduceAdd] at hS)
      have hQ' := hQ.put nm id
      have key : ((gW G id).isSome = true ∧ gPut G nm id = (G, 4)) ∨ ((gW G id).isSome = false ∧ (8 ≤ (gL G nm).length ∨ 64 ≤ G.length) ∧ gPut G nm id = (G, 2)) ∨ ((gW G id).isSome = false ∧ ¬ (8 ≤ (gL G nm).length ∨ 64 ≤ G.length) ∧ (gPut G nm id).2 = 0) := by
        unfold gPut
        by_cases h1 : (gW G id).isSome = true
        · exact .inl ⟨h1, by rw [if_pos h1]⟩
        · have h1' : (gW G id).isSome = false := by simpa using h1
          by_cases h2 : 8 ≤ (gL G nm).length ∨ 64 ≤ G.length
          · exact .inr (.inl ⟨h1', h2, by rw [if_neg h1, if_pos h2]⟩)
          · exact .inr (.inr ⟨h1', h2, by rw [if_neg h1, if_neg h2]⟩)
      have same : ∀ {w : World}, St W [Base W, QueueA q G, Row b 30 [.int .i64 what, .string nm, .int .i64 id], SlA 3 1 iV p2 c2 (gL G nm)] w → ∀ {R : Value → World → Prop}, (∀ w p3 c3, St W [Base W, QueueA q G, Row b 30 [.int .i64 what, .string nm, .int .i64 id], SlA 3 1 iV p2 c2 (gL G nm), SlA 3 1 iV p3 c3 (gL G nm)] w → R (.slice p3 (gL G nm).length c3) w) → CallR Try.prog 23 #[.pointer (some ⟨q, 0, none⟩), .string nm] w R := fun hS R hR => (List_spec nm (hS.at 1 rfl)).of fun v w ⟨p3, c3, hv, hS⟩ => by
        subst hv
        replace hS := St.mv 1 4 (St.bk 1 (B := [_, _]) hS rfl) rfl
        exact hR w p3 c3 hS
      rcases key with ⟨h1, e1⟩ | ⟨h1, h2, e1⟩ | ⟨h1, h2, e1⟩
      · rw [e1] at hS hQ' ⊢
        rw [h1]
        refine ⟨fun vs w => ∃ f, vs = [.bool f] ∧ St W [Base W, QueueA q G, Row b 30 [.int .i64 what, .string nm, .int .i64 id], SlA 3 1 iV p2 c2 (gL G nm)] w, Bif.i (fun _ => ⟨_, rfl, hS⟩) fun _ => ⟨_, rfl, hS⟩, fun f w hJ => ?_⟩
        obtain ⟨f', he, hS⟩ := hJ
        cases he
        refine Bif.i (fun h => by simp at h) fun _ => Bif.i (fun h => by cases h) fun _ => Bif.i (fun h => by simp at h) fun _ => Bif.i (fun _ => ?_) fun h => by simp at h
        refine LdS.n 2 hS rfl rfl (same hS fun w p3 c3 hS => ⟨_, _, _, rfl, ?_⟩)
        refine (Same_spec (Rd.n 4 rfl SlA.rd) (Rd.n 3 rfl SlA.rd) (by omega) hS).of fun v w ⟨hv, hS⟩ => ⟨_, hv, Bif.i (fun h => by simp at h) fun _ => ?_⟩
        (refine (Many_spec (hS.at 1 rfl)).of fun v w ⟨hv, hS⟩ => ⟨_, hv, ?_⟩; replace hS := St.bk 1 (B := [_]) hS rfl; dsimp only [put, del, ins, List.cons_append, List.nil_append, List.append_assoc, List.set, List.length_cons, List.length_nil, Nat.zero_add, Nat.reduceAdd] at hS)
        exact Bif.i (fun h => by simp at h) fun _ => ⟨rfl, G, hQ, hS.keep [_, _, _]⟩
      · rw [e1] at hS hQ' ⊢
        rw [h1]
        refine ⟨fun vs w => vs = [.bool true] ∧ St W [Base W, QueueA q G, Row b 30 [.int .i64 what, .string nm, .int .i64 id], SlA 3 1 iV p2 c2 (gL G nm)] w, Bif.i (fun _ => ⟨rfl, hS⟩) fun h8 => ⟨?_, hS⟩, fun f w hJ => ?_⟩
        · have h8 : (gL G nm).length ≠ 8 := by simp at h8; omega
          have : G.length = 64 := by omega
          rw [this]; rfl
        obtain ⟨he, hS⟩ := hJ
        cases he
        refine Bif.i (fun h => by simp at h) fun _ => Bif.i (fun _ => ?_) fun h => by cases h
        refine Bif.i (fun h => by simp at h) fun _ => Bif.i (fun _ => ?_) fun h => by simp at h
        refine LdS.n 2 hS rfl rfl (same hS fun w p3 c3 hS => ⟨_, _, _, rfl, ?_⟩)
        refine (Same_spec (Rd.n 4 rfl SlA.rd) (Rd.n 3 rfl SlA.rd) (by omega) hS).of fun v w ⟨hv, hS⟩ => ⟨_, hv, Bif.i (fun h => by simp at h) fun _ => ?_⟩
        (refine (Many_spec (hS.at 1 rfl)).of fun v w ⟨hv, hS⟩ => ⟨_, hv, ?_⟩; replace hS := St.bk 1 (B := [_]) hS rfl; dsimp only [put, del, ins, List.cons_append, List.nil_append, List.append_assoc, List.set, List.length_cons, List.length_nil, Nat.zero_add, Nat.reduceAdd] at hS)
        exact Bif.i (fun h => by simp at h) fun _ => ⟨rfl, G, hQ, hS.keep [_, _, _]⟩
      · generalize hG' : (gPut G nm id).1 = G' at hS hQ'
        rw [e1, h1]
        refine ⟨fun vs w => vs = [.bool false] ∧ St W [Base W, QueueA q G', Row b 30 [.int .i64 what, .string nm, .int .i64 id], SlA 3 1 iV p2 c2 (gL G nm)] w, Bif.i (fun h8 => ?_) fun h8 => ⟨?_, hS⟩, fun f w hJ => ?_⟩
        · have h8 : (gL G nm).length = 8 := by simp at h8; omega
          omega
        · have : ((G.length : Int) == 64) = false := by simp; omega
          rw [this]
        obtain ⟨he, hS⟩ := hJ
        cases he
        refine Bif.i (fun h => by simp at h) fun _ => Bif.i (fun _ => ?_) fun h => by cases h
        refine Bif.i (fun h => by simp at h) fun _ => Bif.i (fun h => by simp at h) fun _ => ?_
        (refine (Many_spec (hS.at 1 rfl)).of fun v w ⟨hv, hS⟩ => ⟨_, hv, ?_⟩; replace hS := St.bk 1 (B := [_]) hS rfl; dsimp only [put, del, ins, List.cons_append, List.nil_append, List.append_assoc, List.set, List.length_cons, List.length_nil, Nat.zero_add, Nat.reduceAdd] at hS)
        exact Bif.i (fun _ => Bif.i (fun h => by simp at h) fun _ => ⟨rfl, G', hQ', hS.keep [_, _, _]⟩) fun _ => ⟨rfl, G', hQ', hS.keep [_, _, _]⟩
  · clear hQ hall hrow
    obtain ⟨_, G, hQ, hS⟩ := hJ
    have hall := hQ.all
    have hrow := hQ.row nm
    have hnd := gL_nodup hQ nm
    refine LdS.n 2 hS rfl rfl ((List_spec nm (hS.at 1 rfl)).of fun v w ⟨p2, c2, hv, hS⟩ => ⟨_, _, _, hv, ?_⟩)
    replace hS := St.mv 1 3 (St.bk 1 (B := [_, _]) hS rfl) rfl
    dsimp only [put, del, ins, List.cons_append, List.nil_append, List.append_assoc, List.set, List.length_cons, List.length_nil, Nat.zero_add, Nat.reduceAdd] at hS
    refine ⟨fun vs w => ∃ k : Nat, vs = [.int .i64 k] ∧ k ≤ (gL G nm).length ∧ St W [Base W, QueueA q G, Row b 30 [.int .i64 what, .string nm, .int .i64 id], SlA 3 1 iV p2 c2 (gL G nm)] w, leftN (gL G nm).length, ⟨0, rfl, Nat.zero_le _, hS⟩, fun i w hI => ?_⟩
    obtain ⟨m, he, hm, hS⟩ := hI
    cases he
    refine Bif.i (fun hlt2 => ?_) fun _ => ?_
    · have hlt2 : m < (gL G nm).length := by have := of_decide_eq_true hlt2; omega
      refine ⟨fun vs w => ∃ j : Nat, vs = [.int .i64 j] ∧ j ≤ m ∧ St W [Base W, QueueA q G, Row b 30 [.int .i64 what, .string nm, .int .i64 id], SlA 3 1 iV p2 c2 (gL G nm)] w, leftN m, ⟨0, rfl, Nat.zero_le _, hS⟩, fun i w hI => ?_⟩
      obtain ⟨j, he, hj, hS⟩ := hI
      cases he
      refine Bif.i (fun hlt3 => ?_) fun _ => ?_
      · have hlt3 : j < m := by have := of_decide_eq_true hlt3; omega
        have hC := Is.refl W [Base W, QueueA q G, Row b 30 [.int .i64 what, .string nm, .int .i64 id], SlA 3 1 iV p2 c2 (gL G nm)]
        have hxj : (gL G nm)[j]? = some ((gL G nm)[j]'(by omega)) := List.getElem?_eq_getElem _
        have hxm : (gL G nm)[m]? = some (gL G nm)[m] := List.getElem?_eq_getElem _
        refine ⟨StC W _, StC.start hS, IxP.elC hC iV1 (by decide) (Rd.n 3 rfl SlA.rd) hS rfl (by omega) hxj fun a1 ha1 => IxP.elC hC iV1 (by decide) (Rd.n 3 rfl SlA.rd) hS rfl hlt2 hxm fun a2 ha2 => ?_⟩
        refine ⟨_, fun G w h => LdI.at (ha1 h 0 _ rfl) ⟨rfl, h⟩, _, fun G w h => LdI.at (ha2 h 0 _ rfl) ⟨rfl, h⟩, fun K w h => Bif.i (fun he => ?_) fun _ => ?_⟩
        · have he : (gL G nm)[j]'(by omega) = (gL G nm)[m] := by simpa using he
          have := (List.getElem?_inj (by omega) hnd).1 (hxj.trans ((congrArg some he).trans hxm.symm))
          omega
        · rw [up hlt3 (by omega)]
          exact ⟨⟨j + 1, rfl, by omega, StC.ends h⟩, by show m - (j + 1) < m - j; omega⟩
      · rw [up hlt2 (by omega)]
        exact ⟨⟨m + 1, rfl, by omega, hS⟩, by show (gL G nm).length - (m + 1) < (gL G nm).length - m; omega⟩
    · refine Bif.i (fun h => ?_) fun _ => ?_
      · have := of_decide_eq_true h; omega
      (refine (Many_spec (hS.at 1 rfl)).of fun v w ⟨hv, hS⟩ => ⟨_, hv, ?_⟩; replace hS := St.bk 1 (B := [_]) hS rfl; dsimp only [put, del, ins, List.cons_append, List.nil_append, List.append_assoc, List.set, List.length_cons, List.length_nil, Nat.zero_add, Nat.reduceAdd] at hS)
      refine Bif.i (fun h => ?_) fun _ => ?_
      · have := of_decide_eq_true h; omega
      rw [up hlt hlen]
      exact ⟨⟨k + 1, G, rfl, by omega, hQ, hS.keep [_, _]⟩, by show os.length - (k + 1) < os.length - k; omega⟩
end Go.Proofs.Ytdecmdbojmdaeaa
