/-
  The law of who waits: calls answer as the document says.
-/
import Derived.Test.YtdecmdbojmdaeaaLaw14
set_option linter.unusedVariables false
set_option linter.unusedSimpArgs false
namespace Go.Proofs.Ytdecmdbojmdaeaa
open Go
theorem Plays_walk {W : World} {p : Option Addr} {os : List OpD} {c : Nat} (hl : Rd [Base W] p (os.flatMap opCells)) (hc : os.length ≤ c) (hcm : c ≤ 9223372036854775807) (hok : ∀ o ∈ os, OpOk W o) :
    CallR Try.prog 3 #[.slice p os.length c] W fun v w' => v = .bool true ∧ ∃ r, St W (Base W :: r) w' := by
  have hlen : os.length ≤ 9223372036854775807 := Nat.le_trans hc hcm
  refine F3_of ((head_spec (St.base W)).of fun v w1 ⟨hv, hS⟩ => ⟨_, hv, ?_⟩)
  refine (New_spec hS).of fun v w ⟨q, hv, hS⟩ => ⟨_, hv, ?_⟩
  refine (RNew_spec hS.last).of fun v w ⟨r, hv, hS⟩ => ⟨_, hv, Bif.i (fun h => by cases h) fun _ => ?_⟩
  refine (great_spec hl (by simp) hlen hS.last).of fun v w ⟨b, hv, hb, hS⟩ => ⟨_, hv, Bif.i (fun _ => ⟨rfl, _, hS⟩) fun hb' => ?_⟩
  refine ⟨fun vs w => ∃ (k : Nat) (G : QG), vs = [.int .i64 k] ∧ k ≤ os.length ∧ QOk G ∧ St W [Base W, QueueA q G, RefQ r G] w, leftN os.length, ⟨0, [], rfl, Nat.zero_le _, QOk.nil, hS⟩, fun i w hI => ?_⟩
  obtain ⟨k, G, he, hk, hQ, hS⟩ := hI
  cases he
  refine Bif.i (fun hlt => ?_) fun _ => ⟨rfl, _, hS⟩
  have hlt : k < os.length := by have := of_decide_eq_true hlt; omega
  have ho := hok _ (List.getElem_mem hlt)
  refine IxP.el op3 (by decide) (hl.mem (by simp)) hS rfl hlt (List.getElem?_eq_getElem hlt) fun a ha => LdI.at (ha 0 _ rfl) (LdS.at (ha 1 _ rfl) (LdI.at (ha 2 _ rfl) (NewC.n hS fun b w hS => ?_)))
  generalize os[k] = o at ho
  obtain ⟨what, name, id⟩ := o
  dsimp only [put, del, ins, List.cons_append, List.nil_append, List.append_assoc, List.set, List.length_cons, List.length_nil, Nat.zero_add, Nat.reduceAdd] at hS
  iterate 3 ((first | (refine St1.n 0 hS rfl (Nat.le_of_ble_eq_true rfl) fun w hS => ?_; dsimp only [put, del, ins, List.cons_append, List.nil_append, List.append_assoc, List.set, List.length_cons, List.length_nil, Nat.zero_add, Nat.reduceAdd] at hS) | (refine St1.a 0 hS rfl (Nat.le_of_ble_eq_true rfl) fun w hS => ?_; dsimp only [put, del, ins, List.cons_append, List.nil_append, List.append_assoc, List.set, List.length_cons, List.length_nil, Nat.zero_add, Nat.reduceAdd] at hS) | (refine St1.n 1 hS rfl (Nat.le_of_ble_eq_true rfl) fun w hS => ?_; dsimp only [put, del, ins, List.cons_append, List.nil_append, List.append_assoc, List.set, List.length_cons, List.length_nil, Nat.zero_add, Nat.reduceAdd] at hS) | (refine St1.a 1 hS rfl (Nat.le_of_ble_eq_true rfl) fun w hS => ?_; dsimp only [put, del, ins, List.cons_append, List.nil_append, List.append_assoc, List.set, List.length_cons, List.length_nil, Nat.zero_add, Nat.reduceAdd] at hS) | (refine St1.n 2 hS rfl (Nat.le_of_ble_eq_true rfl) fun w hS => ?_; dsimp only [put, del, ins, List.cons_append, List.nil_append, List.append_assoc, List.set, List.length_cons, List.length_nil, Nat.zero_add, Nat.reduceAdd] at hS) | (refine St1.a 2 hS rfl (Nat.le_of_ble_eq_true rfl) fun w hS => ?_; dsimp only [put, del, ins, List.cons_append, List.nil_append, List.append_assoc, List.set, List.length_cons, List.length_nil, Nat.zero_add, Nat.reduceAdd] at hS) | (refine St1.n 3 hS rfl (Nat.le_of_ble_eq_true rfl) fun w hS => ?_; dsimp only [put, del, ins, List.cons_append, List.nil_append, List.append_assoc, List.set, List.length_cons, List.length_nil, Nat.zero_add, Nat.reduceAdd] at hS) | (refine St1.a 3 hS rfl (Nat.le_of_ble_eq_true rfl) fun w hS => ?_; dsimp only [put, del, ins, List.cons_append, List.nil_append, List.append_assoc, List.set, List.length_cons, List.length_nil, Nat.zero_add, Nat.reduceAdd] at hS) | (refine St1.n 4 hS rfl (Nat.le_of_ble_eq_true rfl) fun w hS => ?_; dsimp only [put, del, ins, List.cons_append, List.nil_append, List.append_assoc, List.set, List.length_cons, List.length_nil, Nat.zero_add, Nat.reduceAdd] at hS) | (refine St1.a 4 hS rfl (Nat.le_of_ble_eq_true rfl) fun w hS => ?_; dsimp only [put, del, ins, List.cons_append, List.nil_append, List.append_assoc, List.set, List.length_cons, List.length_nil, Nat.zero_add, Nat.reduceAdd] at hS) | (refine St1.n 5 hS rfl (Nat.le_of_ble_eq_true rfl) fun w hS => ?_; dsimp only [put, del, ins, List.cons_append, List.nil_append, List.append_assoc, List.set, List.length_cons, List.length_nil, Nat.zero_add, Nat.reduceAdd] at hS) | (refine St1.a 5 hS rfl (Nat.le_of_ble_eq_true rfl) fun w hS => ?_; dsimp only [put, del, ins, List.cons_append, List.nil_append, List.append_assoc, List.set, List.length_cons, List.length_nil, Nat.zero_add, Nat.reduceAdd] at hS) | (refine St1.n 6 hS rfl (Nat.le_of_ble_eq_true rfl) fun w hS => ?_; dsimp only [put, del, ins, List.cons_append, List.nil_append, List.append_assoc, List.set, List.length_cons, List.length_nil, Nat.zero_add, Nat.reduceAdd] at hS) | (refine St1.a 6 hS rfl (Nat.le_of_ble_eq_true rfl) fun w hS => ?_; dsimp only [put, del, ins, List.cons_append, List.nil_append, List.append_assoc, List.set, List.length_cons, List.length_nil, Nat.zero_add, Nat.reduceAdd] at hS) | (refine St1.n 7 hS rfl (Nat.le_of_ble_eq_true rfl) fun w hS => ?_; dsimp only [put, del, ins, List.cons_append, List.nil_append, List.append_assoc, List.set, List.length_cons, List.length_nil, Nat.zero_add, Nat.reduceAdd] at hS) | (refine St1.a 7 hS rfl (Nat.le_of_ble_eq_true rfl) fun w hS => ?_; dsimp only [put, del, ins, List.cons_append, List.nil_append, List.append_assoc, List.set, List.length_cons, List.length_nil, Nat.zero_add, Nat.reduceAdd] at hS) | (refine St1.n 8 hS rfl (Nat.le_of_ble_eq_true rfl) fun w hS => ?_; dsimp only [put, del, ins, List.cons_append, List.nil_append, List.append_assoc, List.set, List.length_cons, List.length_nil, Nat.zero_add, Nat.reduceAdd] at hS) | (refine St1.a 8 hS rfl (Nat.le_of_ble_eq_true rfl) fun w hS => ?_; dsimp only [put, del, ins, List.cons_append, List.nil_append, List.append_assoc, List.set, List.length_cons, List.length_nil, Nat.zero_add, Nat.reduceAdd] at hS) | (refine St1.n 9 hS rfl (Nat.le_of_ble_eq_true rfl) fun w hS => ?_; dsimp only [put, del, ins, List.cons_append, List.nil_append, List.append_assoc, List.set, List.length_cons, List.length_nil, Nat.zero_add, Nat.reduceAdd] at hS) | (refine St1.a 9 hS rfl (Nat.le_of_ble_eq_true rfl) fun w hS => ?_; dsimp only [put, del, ins, List.cons_append, List.nil_append, List.append_assoc, List.set, List.length_cons, List.length_nil, Nat.zero_add, Nat.reduceAdd] at hS) | (refine St1.n 10 hS rfl (Nat.le_of_ble_eq_true rfl) fun w hS => ?_; dsimp only [put, del, ins, List.cons_append, List.nil_append, List.append_assoc, List.set, List.length_cons, List.length_nil, Nat.zero_add, Nat.reduceAdd] at hS) | (refine St1.a 10 hS rfl (Nat.le_of_ble_eq_true rfl) fun w hS => ?_; dsimp only [put, del, ins, List.cons_append, List.nil_append, List.append_assoc, List.set, List.length_cons, List.length_nil, Nat.zero_add, Nat.reduceAdd] at hS) | (refine St1.n 11 hS rfl (Nat.le_of_ble_eq_true rfl) fun w hS => ?_; dsimp only [put, del, ins, List.cons_append, List.nil_append, List.append_assoc, List.set, List.length_cons, List.length_nil, Nat.zero_add, Nat.reduceAdd] at hS) | (refine St1.a 11 hS rfl (Nat.le_of_ble_eq_true rfl) fun w hS => ?_; dsimp only [put, del, ins, List.cons_append, List.nil_append, List.append_assoc, List.set, List.length_cons, List.length_nil, Nat.zero_add, Nat.reduceAdd] at hS)))
  have hall := hQ.all
  refine LdI.n 3 hS rfl rfl ⟨fun vs w => vs = [] ∧ ∃ G, QOk G ∧ St W [Base W, QueueA q G, RefQ r G, Row b 30 [.int .i64 what, .string name, .int .i64 id]] w, ?_, fun w hJ => ?_⟩
  · refine Bif.i (fun _ => ?_) fun _ => Bif.i (fun _ => ?_) fun _ => ?_
    · refine LdS.n 3 hS rfl rfl ?_
      (refine (Take_spec name (hS.at 1 rfl)).of fun v w ⟨hv, hS⟩ => ⟨_, _, hv, ?_⟩; replace hS := St.bk 1 (B := [_]) hS rfl; dsimp only [put, del, ins, List.cons_append, List.nil_append, List.append_assoc, List.set, List.length_cons, List.length_nil, Nat.zero_add, Nat.reduceAdd] at hS)
      refine LdS.n 3 hS rfl rfl ?_
      (refine (RTake_spec name hQ (hS.at 2 rfl)).of fun v w ⟨hv, hS⟩ => ⟨_, _, hv, ?_⟩; replace hS := St.bk 2 (B := [_]) hS rfl; dsimp only [put, del, ins, List.cons_append, List.nil_append, List.append_assoc, List.set, List.length_cons, List.length_nil, Nat.zero_add, Nat.reduceAdd] at hS)
      exact Bif.i (fun h => by simp at h) fun _ => Bif.i (fun h => by simp at h) fun _ => ⟨rfl, _, hQ.take name, hS⟩
    · refine LdI.n 3 hS rfl rfl ?_
      (refine (Drop_spec id (hS.at 1 rfl)).of fun v w ⟨hv, hS⟩ => ⟨_, hv, ?_⟩; replace hS := St.bk 1 (B := [_]) hS rfl; dsimp only [put, del, ins, List.cons_append, List.nil_append, List.append_assoc, List.set, List.length_cons, List.length_nil, Nat.zero_add, Nat.reduceAdd] at hS)
      refine LdI.n 3 hS rfl rfl ?_
      (refine (RDrop_spec id (by omega) (hS.at 2 rfl)).of fun v w ⟨hv, hS⟩ => ⟨_, hv, ?_⟩; replace hS := St.bk 2 (B := [_]) hS rfl; dsimp only [put, del, ins, List.cons_append, List.nil_append, List.append_assoc, List.set, List.length_cons, List.length_nil, Nat.zero_add, Nat.reduceAdd] at hS)
      exact Bif.i (fun h => by simp at h) fun _ => ⟨rfl, _, hQ.drop id, hS⟩
    · refine LdS.n 3 hS rfl rfl (LdI.n 3 hS rfl rfl ?_)
      (refine (Put_spec name id (hS.at 1 rfl)).of fun v w ⟨hv, hS⟩ => ⟨_, hv, ?_⟩; replace hS := St.bk 1 (B := [_]) hS rfl; dsimp only [put, del, ins, List.cons_append, List.nil_append, List.append_assoc, List.set, List.length_cons, List.length_nil, Nat.zero_add, Nat.reduceAdd] at hS)
      refine LdS.n 3 hS rfl rfl (LdI.n 3 hS rfl rfl ?_)
      (refine (RPut_spec name id hall (hS.at 2 rfl)).of fun v w ⟨hv, hS⟩ => ⟨_, hv, ?_⟩; replace hS := St.bk 2 (B := [_]) hS rfl; dsimp only [put, del, ins, List.cons_append, List.nil_append, List.append_assoc, List.set, List.length_cons, List.length_nil, Nat.zero_add, Nat.reduceAdd] at hS)
      exact Bif.i (fun h => by simp at h) fun _ => ⟨rfl, _, hQ.put name id, hS⟩
  · clear hQ hall
    obtain ⟨_, G, hQ, hS⟩ := hJ
    have hall := hQ.all
    refine LdI.n 3 hS rfl rfl ?_
    (refine (Where_spec id (hS.at 1 rfl)).of fun v w ⟨hv, hS⟩ => ⟨_, _, hv, ?_⟩; replace hS := St.bk 1 (B := [_]) hS rfl; dsimp only [put, del, ins, List.cons_append, List.nil_append, List.append_assoc, List.set, List.length_cons, List.length_nil, Nat.zero_add, Nat.reduceAdd] at hS)
    refine LdI.n 3 hS rfl rfl ?_
    (refine (RWhere_spec id (by omega) (hS.at 2 rfl)).of fun v w ⟨hv, hS⟩ => ⟨_, _, hv, ?_⟩; replace hS := St.bk 2 (B := [_]) hS rfl; dsimp only [put, del, ins, List.cons_append, List.nil_append, List.append_assoc, List.set, List.length_cons, List.length_nil, Nat.zero_add, Nat.reduceAdd] at hS)
    obtain ⟨p2, c2, hS2⟩ := RefQ.open_ (hS.at 2 rfl)
    replace hS := St.bk 2 (B := [_, _]) hS2 rfl
    dsimp only [put, del, ins, List.cons_append, List.nil_append, List.append_assoc, List.set, List.length_cons, List.length_nil, Nat.zero_add, Nat.reduceAdd] at hS
    refine ⟨StC W _, StC.start hS, Bif.i (fun h => by simp at h) fun _ => Bif.i (fun h => by simp at h) fun _ => NilP.i ?_⟩
    have hC := Is.refl W [Base W, QueueA q G, Row r 41 [.slice p2 G.length c2], SlA 53 2 oV p2 c2 G, Row b 30 [.int .i64 what, .string name, .int .i64 id]]
    refine ⟨_, _, _, QtL.a 2 hC rfl rfl, ?_⟩
    refine Ef.n (α := Unit) (V := fun _ => .int .i64 G.length) (B := fun _ => [QueueA q G]) () 1 hC rfl (fun G w h => (Many_spec h).of fun v w' ⟨hv, h⟩ => ⟨_, hv, (), rfl, Is.back 1 rfl h⟩) fun _ => ⟨_, rfl, QtL.a 2 hC rfl rfl, Bif.i (fun h => by simp at h) fun _ => ?_⟩
    refine ⟨_, QtS.a 4 hC rfl rfl, _, QtS.a 4 hC rfl rfl, ?_⟩
    refine Ef.n (α := Option Addr × Nat) (V := fun x => .slice x.1 (gL G name).length x.2) (B := fun x => [SlA 3 1 iV x.1 x.2 (gL G name), QueueA q G]) (none, 0) 1 hC rfl (fun G w h => (List_spec name h).of fun v w' ⟨p, c, hv, h⟩ => ⟨_, _, _, hv, (p, c), rfl, Is.back 1 rfl h⟩) fun x => ⟨_, _, _, rfl, ?_⟩
    have hC2 := Is.refl W [Base W, SlA 3 1 iV x.1 x.2 (gL G name), QueueA q G, Row r 41 [.slice p2 G.length c2], SlA 53 2 oV p2 c2 G, Row b 30 [.int .i64 what, .string name, .int .i64 id]]
    refine ⟨QtS.a 5 hC2 rfl rfl, ?_⟩
    refine ⟨Option Addr × Nat, (none, 0), fun y => .slice y.1 (gL G name).length y.2, fun y => StC W [SlA 3 1 iV y.1 y.2 (gL G name), RefQ r G, Base W, SlA 3 1 iV x.1 x.2 (gL G name), QueueA q G, Row b 30 [.int .i64 what, .string name, .int .i64 id]], fun G w h => ?_, fun y => ⟨_, _, _, rfl, trivial, ?_⟩⟩
    · have h := RefQ.shut (St.mv 4 1 (St.mv 3 0 h rfl) rfl)
      exact (RList_spec name (by omega) h).of fun v w' ⟨p, c, hv, h⟩ => ⟨_, _, _, hv, (p, c), rfl, h⟩
    have hC3 := Is.refl W [SlA 3 1 iV y.1 y.2 (gL G name), RefQ r G, Base W, SlA 3 1 iV x.1 x.2 (gL G name), QueueA q G, Row b 30 [.int .i64 what, .string name, .int .i64 id]]
    have hlg := gL_len G name
    refine Ef.n0 (α := Unit) (V := fun _ => .bool true) (B := fun _ => [SlA 3 1 iV y.1 y.2 (gL G name), RefQ r G, Base W, SlA 3 1 iV x.1 x.2 (gL G name), QueueA q G, Row b 30 [.int .i64 what, .string name, .int .i64 id]]) () hC3 (fun K w h => (Same_spec (Rd.n 3 rfl SlA.rd) (Rd.n 0 rfl SlA.rd) (by omega) h).of fun v w' ⟨hv, h⟩ => ⟨_, hv, (), by simp, h⟩) fun _ => ⟨_, rfl, trivial, fun K w h => Bif.i (fun h => by simp at h) fun _ => ?_⟩
    have hS := StC.ends h
    rw [up hlt hlen]
    exact ⟨⟨k + 1, G, rfl, by omega, hQ, St.mv 0 2 (St.del 0 (St.del 3 (St.del 5 hS rfl) rfl) rfl) rfl⟩, by show os.length - (k + 1) < os.length - k; omega⟩
end Go.Proofs.Ytdecmdbojmdaeaa
