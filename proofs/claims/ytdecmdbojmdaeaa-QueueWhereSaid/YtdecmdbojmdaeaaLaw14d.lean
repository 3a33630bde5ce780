/-
  The laws of who waits: other names, and where.
-/
import Derived.Test.YtdecmdbojmdaeaaLaw14c
set_option linter.unusedVariables false
set_option linter.unusedSimpArgs false
namespace Go.Proofs.Ytdecmdbojmdaeaa
open Go
def fil (n : Name) (G : QG) : QG := G.filter fun x => decide (x.1 = n)
theorem fil_gL (G : QG) (n : Name) : gL (fil n G) n = gL G n := by
  unfold gL fil
  rw [List.filter_filter]
  congr 1
  exact List.filter_congr fun x _ => by simp
theorem fil_drop (G : QG) (n : Name) (id : Int) : fil n (gDrop G id) = gDrop (fil n G) id := by
  unfold fil gDrop
  rw [List.filter_filter, List.filter_filter]
  exact List.filter_congr fun x _ => Bool.and_comm _ _
theorem drop_absent {G : QG} {id : Int} (h : ∀ x ∈ G, x.2 ≠ id) : gDrop G id = G := by
  unfold gDrop
  rw [List.filter_eq_self]
  exact fun x hx => by simpa using h x hx
/-- Those of a name bear even numbers, all other ones odd ones; the second row has those of the name alone. -/
structure ApR (n : Name) (G H : QG) (k : Nat) : Prop where
  g : QOk G
  h : QOk H
  fil : H = fil n G
  par : ∀ x ∈ G, (x.1 = n ↔ x.2 % 2 = 0)
  len : G.length ≤ k
section
variable {n : Name} {G H : QG} {k : Nat}
theorem ApR.mem (h : ApR n G H k) {x : Name × Int} (hx : x ∈ H) : x ∈ G ∧ x.1 = n := by
  rw [h.fil] at hx
  have := List.mem_filter.1 hx
  exact ⟨this.1, of_decide_eq_true this.2⟩
theorem ApR.row (h : ApR n G H k) : gL H n = gL G n := by rw [h.fil, fil_gL]
theorem ApR.even (h : ApR n G H k) {id : Int} (he : id % 2 = 0) : gW H id = gW G id := by
  cases hg : gW G id with
  | none =>
    rw [gW_none]
    intro hm
    obtain ⟨x, hx, rfl⟩ := List.mem_map.1 hm
    exact gW_none.1 hg (List.mem_map.2 ⟨x, (h.mem hx).1, rfl⟩)
  | some m =>
    have hm := gW_some hg
    have : m = n := (h.par _ hm).2 he
    subst this
    exact gW_mem h.h.nod (by rw [h.fil]; exact List.mem_filter.2 ⟨hm, by simp⟩)
theorem ApR.len2 (h : ApR n G H k) : H.length ≤ G.length := by rw [h.fil]; exact List.length_filter_le _ _
theorem ApR.more (h : ApR n G H k) : ApR n G H (k + 1) := ⟨h.g, h.h, h.fil, h.par, by have := h.len; omega⟩
theorem ApR.drop (h : ApR n G H k) (id : Int) : ApR n (gDrop G id) (gDrop H id) (k + 1) := ⟨h.g.drop id, h.h.drop id, by rw [fil_drop, h.fil], fun x hx => h.par x (List.mem_filter.1 hx).1, by have := h.len; have := gDrop_len G id; omega⟩
theorem ApR.odd (h : ApR n G H k) {id : Int} (ho : id % 2 ≠ 0) : gDrop H id = H := drop_absent fun x hx e => by
  obtain ⟨h1, h2⟩ := h.mem hx
  have := (h.par x h1).1 h2
  rw [e] at this; exact ho this
theorem ApR.take_own (h : ApR n G H k) : (gTake H n).2 = (gTake G n).2 ∧ ApR n (gTake G n).1 (gTake H n).1 (k + 1) := by
  unfold gTake
  rw [h.row]
  cases gL G n with
  | nil => exact ⟨rfl, h.more⟩
  | cons i r => exact ⟨rfl, h.drop i⟩
theorem ApR.take_other (h : ApR n G H k) {m : Name} (hm : m ≠ n) : ApR n (gTake G m).1 H (k + 1) := by
  unfold gTake
  cases hl : gL G m with
  | nil => exact h.more
  | cons i r =>
    have hi : (m, i) ∈ G := mem_gL.1 (by rw [hl]; exact List.mem_cons_self)
    have ho : i % 2 ≠ 0 := fun e => hm ((h.par _ hi).2 e)
    have := h.drop i
    rwa [h.odd ho] at this
theorem ApR.drop_other (h : ApR n G H k) {id : Int} (ho : id % 2 ≠ 0) : ApR n (gDrop G id) H (k + 1) := by
  have := h.drop id
  rwa [h.odd ho] at this
theorem ApR.put_own (h : ApR n G H k) (hk : k < 64) {id : Int} (he : id % 2 = 0) : (gPut H n id).2 = (gPut G n id).2 ∧ ApR n (gPut G n id).1 (gPut H n id).1 (k + 1) := by
  have h1 := h.len
  have h2 := h.len2
  have hg := h.g.put n id
  have hh := h.h.put n id
  unfold gPut at hg hh ⊢
  rw [h.even he, h.row] at hh ⊢
  by_cases a : (gW G id).isSome = true
  · simp only [if_pos a]; exact ⟨trivial, h.more⟩
  · by_cases b : 8 ≤ (gL G n).length
    · simp only [if_neg a, if_pos (Or.inl b : 8 ≤ (gL G n).length ∨ 64 ≤ G.length), if_pos (Or.inl b : 8 ≤ (gL G n).length ∨ 64 ≤ H.length)]; exact ⟨trivial, h.more⟩
    · have c1 : ¬ (8 ≤ (gL G n).length ∨ 64 ≤ G.length) := by omega
      have c2 : ¬ (8 ≤ (gL G n).length ∨ 64 ≤ H.length) := by omega
      simp only [if_neg a, if_neg c1, if_neg c2] at hg hh ⊢
      refine ⟨trivial, hg, hh, ?_, fun x hx => ?_, by simp; omega⟩
      · unfold Go.Proofs.Ytdecmdbojmdaeaa.fil
        rw [List.filter_append, h.fil]
        simp [Go.Proofs.Ytdecmdbojmdaeaa.fil]
      · rcases List.mem_append.1 hx with hx | hx
        · exact h.par x hx
        · simp at hx; subst hx; simp [he]
theorem ApR.put_other (h : ApR n G H k) {m : Name} (hm : m ≠ n) {id : Int} (ho : id % 2 ≠ 0) : ApR n (gPut G m id).1 H (k + 1) := by
  have h1 := h.len
  have hg := h.g.put m id
  unfold gPut at hg ⊢
  split
  · exact h.more
  · rename_i a
    simp only [if_neg a] at hg
    split
    · exact h.more
    · rename_i b
      simp only [if_neg b] at hg
      refine ⟨hg, h.h, ?_, fun x hx => ?_, by simp; omega⟩
      · unfold Go.Proofs.Ytdecmdbojmdaeaa.fil
        rw [List.filter_append, h.fil]
        simp [Go.Proofs.Ytdecmdbojmdaeaa.fil, hm]
      · rcases List.mem_append.1 hx with hx | hx
        · exact h.par x hx
        · simp at hx; subst hx; simp [hm, ho]
end
theorem tmod_b (x : Int) : -1000 < Int.tmod x 1000 ∧ Int.tmod x 1000 < 1000 := by
  rcases Int.le_total 0 x with h | h
  · rw [Int.tmod_eq_emod_of_nonneg h]; omega
  · obtain ⟨y, rfl⟩ : ∃ y, x = -y := ⟨-x, by omega⟩
    rw [Int.neg_tmod, Int.tmod_eq_emod_of_nonneg (by omega)]; omega

theorem Apart_walk {W : World} {p : Option Addr} {os : List OpD} {c : Nat} (hl : Rd [Base W] p (os.flatMap opCells)) (hc : os.length ≤ c) (hcm : c ≤ 9223372036854775807) (hok : ∀ o ∈ os, OpOk W o) (name : Name) (hnm : name.size ≤ 9223372036854775807) :
    CallR Try.prog 6 #[.slice p os.length c, .string name] W fun v w' => v = .bool true ∧ ∃ r, St W (Base W :: r) w' := by
  have hlen : os.length ≤ 9223372036854775807 := Nat.le_trans hc hcm
  refine F6_of ((head_spec (St.base W)).of fun v w1 ⟨hv, hS⟩ => ⟨_, hv, ?_⟩)
  refine (New_spec hS).of fun v w ⟨q, hv, hS⟩ => ⟨_, hv, ?_⟩
  refine (New_spec hS.last).of fun v w ⟨r, hv, hS⟩ => ⟨_, hv, Bif.i (fun h => by cases h) fun _ => Bif.i (fun h => by cases h) fun _ => ?_⟩
  refine (great_spec hl (by simp) hlen hS.last).of fun v w ⟨b, hv, hb, hS⟩ => ⟨_, hv, Bif.i (fun _ => ⟨rfl, _, hS⟩) fun hb' => Bif.i (fun _ => ⟨rfl, _, hS⟩) fun h60 => ?_⟩
  have h60 : os.length ≤ 60 := by have := of_decide_eq_false h60; omega
  refine ⟨fun vs w => ∃ (k : Nat) (G H : QG), vs = [.int .i64 k] ∧ k ≤ os.length ∧ ApR name G H k ∧ St W [Base W, QueueA q G, QueueA r H] w, leftN os.length, ⟨0, [], [], rfl, Nat.zero_le _, ⟨QOk.nil, QOk.nil, rfl, by simp, by simp⟩, hS⟩, fun i w hI => ?_⟩
  obtain ⟨k, G, H, he, hk, hA, hS⟩ := hI
  cases he
  refine Bif.i (fun hlt => ?_) fun _ => ⟨rfl, _, hS⟩
  have hlt : k < os.length := by have := of_decide_eq_true hlt; omega
  have ho := hok _ (List.getElem_mem hlt)
  refine IxP.el op3 (by decide) (hl.mem (by simp)) hS rfl hlt (List.getElem?_eq_getElem hlt) fun a ha => LdI.at (ha 0 _ rfl) (LdS.at (ha 1 _ rfl) (LdI.at (ha 2 _ rfl) (NewC.n hS fun b w hS => ?_)))
  generalize os[k] = o at ho
  obtain ⟨what, nm, id⟩ := o
  dsimp only [put, del, ins, List.cons_append, List.nil_append, List.append_assoc, List.set, List.length_cons, List.length_nil, Nat.zero_add, Nat.reduceAdd] at hS
  iterate 3 ((first | (refine St1.n 0 hS rfl (Nat.le_of_ble_eq_true rfl) fun w hS => ?_; dsimp only [put, del, ins, List.cons_append, List.nil_append, List.append_assoc, List.set, List.length_cons, List.length_nil, Nat.zero_add, Nat.reduceAdd] at hS) | (refine St1.a 0 hS rfl (Nat.le_of_ble_eq_true rfl) fun w hS => ?_; dsimp only [put, del, ins, List.cons_append, List.nil_append, List.append_assoc, List.set, List.length_cons, List.length_nil, Nat.zero_add, Nat.reduceAdd] at hS) | (refine St1.n 1 hS rfl (Nat.le_of_ble_eq_true rfl) fun w hS => ?_; dsimp only [put, del, ins, List.cons_append, List.nil_append, List.append_assoc, List.set, List.length_cons, List.length_nil, Nat.zero_add, Nat.reduceAdd] at hS) | (refine St1.a 1 hS rfl (Nat.le_of_ble_eq_true rfl) fun w hS => ?_; dsimp only [put, del, ins, List.cons_append, List.nil_append, List.append_assoc, List.set, List.length_cons, List.length_nil, Nat.zero_add, Nat.reduceAdd] at hS) | (refine St1.n 2 hS rfl (Nat.le_of_ble_eq_true rfl) fun w hS => ?_; dsimp only [put, del, ins, List.cons_append, List.nil_append, List.append_assoc, List.set, List.length_cons, List.length_nil, Nat.zero_add, Nat.reduceAdd] at hS) | (refine St1.a 2 hS rfl (Nat.le_of_ble_eq_true rfl) fun w hS => ?_; dsimp only [put, del, ins, List.cons_append, List.nil_append, List.append_assoc, List.set, List.length_cons, List.length_nil, Nat.zero_add, Nat.reduceAdd] at hS) | (refine St1.n 3 hS rfl (Nat.le_of_ble_eq_true rfl) fun w hS => ?_; dsimp only [put, del, ins, List.cons_append, List.nil_append, List.append_assoc, List.set, List.length_cons, List.length_nil, Nat.zero_add, Nat.reduceAdd] at hS) | (refine St1.a 3 hS rfl (Nat.le_of_ble_eq_true rfl) fun w hS => ?_; dsimp only [put, del, ins, List.cons_append, List.nil_append, List.append_assoc, List.set, List.length_cons, List.length_nil, Nat.zero_add, Nat.reduceAdd] at hS) | (refine St1.n 4 hS rfl (Nat.le_of_ble_eq_true rfl) fun w hS => ?_; dsimp only [put, del, ins, List.cons_append, List.nil_append, List.append_assoc, List.set, List.length_cons, List.length_nil, Nat.zero_add, Nat.reduceAdd] at hS) | (refine St1.a 4 hS rfl (Nat.le_of_ble_eq_true rfl) fun w hS => ?_; dsimp only [put, del, ins, List.cons_append, List.nil_append, List.append_assoc, List.set, List.length_cons, List.length_nil, Nat.zero_add, Nat.reduceAdd] at hS) | (refine St1.n 5 hS rfl (Nat.le_of_ble_eq_true rfl) fun w hS => ?_; dsimp only [put, del, ins, List.cons_append, List.nil_append, List.append_assoc, List.set, List.length_cons, List.length_nil, Nat.zero_add, Nat.reduceAdd] at hS) | (refine St1.a 5 hS rfl (Nat.le_of_ble_eq_true rfl) fun w hS => ?_; dsimp only [put, del, ins, List.cons_append, List.nil_append, List.append_assoc, List.set, List.length_cons, List.length_nil, Nat.zero_add, Nat.reduceAdd] at hS) | (refine St1.n 6 hS rfl (Nat.le_of_ble_eq_true rfl) fun w hS => ?_; dsimp only [put, del, ins, List.cons_append, List.nil_append, List.append_assoc, List.set, List.length_cons, List.length_nil, Nat.zero_add, Nat.reduceAdd] at hS) | (refine St1.a 6 hS rfl (Nat.le_of_ble_eq_true rfl) fun w hS => ?_; dsimp only [put, del, ins, List.cons_append, List.nil_append, List.append_assoc, List.set, List.length_cons, List.length_nil, Nat.zero_add, Nat.reduceAdd] at hS) | (refine St1.n 7 hS rfl (Nat.le_of_ble_eq_true rfl) fun w hS => ?_; dsimp only [put, del, ins, List.cons_append, List.nil_append, List.append_assoc, List.set, List.length_cons, List.length_nil, Nat.zero_add, Nat.reduceAdd] at hS) | (refine St1.a 7 hS rfl (Nat.le_of_ble_eq_true rfl) fun w hS => ?_; dsimp only [put, del, ins, List.cons_append, List.nil_append, List.append_assoc, List.set, List.length_cons, List.length_nil, Nat.zero_add, Nat.reduceAdd] at hS) | (refine St1.n 8 hS rfl (Nat.le_of_ble_eq_true rfl) fun w hS => ?_; dsimp only [put, del, ins, List.cons_append, List.nil_append, List.append_assoc, List.set, List.length_cons, List.length_nil, Nat.zero_add, Nat.reduceAdd] at hS) | (refine St1.a 8 hS rfl (Nat.le_of_ble_eq_true rfl) fun w hS => ?_; dsimp only [put, del, ins, List.cons_append, List.nil_append, List.append_assoc, List.set, List.length_cons, List.length_nil, Nat.zero_add, Nat.reduceAdd] at hS) | (refine St1.n 9 hS rfl (Nat.le_of_ble_eq_true rfl) fun w hS => ?_; dsimp only [put, del, ins, List.cons_append, List.nil_append, List.append_assoc, List.set, List.length_cons, List.length_nil, Nat.zero_add, Nat.reduceAdd] at hS) | (refine St1.a 9 hS rfl (Nat.le_of_ble_eq_true rfl) fun w hS => ?_; dsimp only [put, del, ins, List.cons_append, List.nil_append, List.append_assoc, List.set, List.length_cons, List.length_nil, Nat.zero_add, Nat.reduceAdd] at hS) | (refine St1.n 10 hS rfl (Nat.le_of_ble_eq_true rfl) fun w hS => ?_; dsimp only [put, del, ins, List.cons_append, List.nil_append, List.append_assoc, List.set, List.length_cons, List.length_nil, Nat.zero_add, Nat.reduceAdd] at hS) | (refine St1.a 10 hS rfl (Nat.le_of_ble_eq_true rfl) fun w hS => ?_; dsimp only [put, del, ins, List.cons_append, List.nil_append, List.append_assoc, List.set, List.length_cons, List.length_nil, Nat.zero_add, Nat.reduceAdd] at hS) | (refine St1.n 11 hS rfl (Nat.le_of_ble_eq_true rfl) fun w hS => ?_; dsimp only [put, del, ins, List.cons_append, List.nil_append, List.append_assoc, List.set, List.length_cons, List.length_nil, Nat.zero_add, Nat.reduceAdd] at hS) | (refine St1.a 11 hS rfl (Nat.le_of_ble_eq_true rfl) fun w hS => ?_; dsimp only [put, del, ins, List.cons_append, List.nil_append, List.append_assoc, List.set, List.length_cons, List.length_nil, Nat.zero_add, Nat.reduceAdd] at hS)))
  refine LdS.n 3 hS rfl rfl (LdI.n 3 hS rfl rfl ⟨by decide, ?_⟩)
  (first | (refine St1.n 0 hS rfl (Nat.le_of_ble_eq_true rfl) fun w hS => ?_; dsimp only [put, del, ins, List.cons_append, List.nil_append, List.append_assoc, List.set, List.length_cons, List.length_nil, Nat.zero_add, Nat.reduceAdd] at hS) | (refine St1.a 0 hS rfl (Nat.le_of_ble_eq_true rfl) fun w hS => ?_; dsimp only [put, del, ins, List.cons_append, List.nil_append, List.append_assoc, List.set, List.length_cons, List.length_nil, Nat.zero_add, Nat.reduceAdd] at hS) | (refine St1.n 1 hS rfl (Nat.le_of_ble_eq_true rfl) fun w hS => ?_; dsimp only [put, del, ins, List.cons_append, List.nil_append, List.append_assoc, List.set, List.length_cons, List.length_nil, Nat.zero_add, Nat.reduceAdd] at hS) | (refine St1.a 1 hS rfl (Nat.le_of_ble_eq_true rfl) fun w hS => ?_; dsimp only [put, del, ins, List.cons_append, List.nil_append, List.append_assoc, List.set, List.length_cons, List.length_nil, Nat.zero_add, Nat.reduceAdd] at hS) | (refine St1.n 2 hS rfl (Nat.le_of_ble_eq_true rfl) fun w hS => ?_; dsimp only [put, del, ins, List.cons_append, List.nil_append, List.append_assoc, List.set, List.length_cons, List.length_nil, Nat.zero_add, Nat.reduceAdd] at hS) | (refine St1.a 2 hS rfl (Nat.le_of_ble_eq_true rfl) fun w hS => ?_; dsimp only [put, del, ins, List.cons_append, List.nil_append, List.append_assoc, List.set, List.length_cons, List.length_nil, Nat.zero_add, Nat.reduceAdd] at hS) | (refine St1.n 3 hS rfl (Nat.le_of_ble_eq_true rfl) fun w hS => ?_; dsimp only [put, del, ins, List.cons_append, List.nil_append, List.append_assoc, List.set, List.length_cons, List.length_nil, Nat.zero_add, Nat.reduceAdd] at hS) | (refine St1.a 3 hS rfl (Nat.le_of_ble_eq_true rfl) fun w hS => ?_; dsimp only [put, del, ins, List.cons_append, List.nil_append, List.append_assoc, List.set, List.length_cons, List.length_nil, Nat.zero_add, Nat.reduceAdd] at hS) | (refine St1.n 4 hS rfl (Nat.le_of_ble_eq_true rfl) fun w hS => ?_; dsimp only [put, del, ins, List.cons_append, List.nil_append, List.append_assoc, List.set, List.length_cons, List.length_nil, Nat.zero_add, Nat.reduceAdd] at hS) | (refine St1.a 4 hS rfl (Nat.le_of_ble_eq_true rfl) fun w hS => ?_; dsimp only [put, del, ins, List.cons_append, List.nil_append, List.append_assoc, List.set, List.length_cons, List.length_nil, Nat.zero_add, Nat.reduceAdd] at hS) | (refine St1.n 5 hS rfl (Nat.le_of_ble_eq_true rfl) fun w hS => ?_; dsimp only [put, del, ins, List.cons_append, List.nil_append, List.append_assoc, List.set, List.length_cons, List.length_nil, Nat.zero_add, Nat.reduceAdd] at hS) | (refine St1.a 5 hS rfl (Nat.le_of_ble_eq_true rfl) fun w hS => ?_; dsimp only [put, del, ins, List.cons_append, List.nil_append, List.append_assoc, List.set, List.length_cons, List.length_nil, Nat.zero_add, Nat.reduceAdd] at hS) | (refine St1.n 6 hS rfl (Nat.le_of_ble_eq_true rfl) fun w hS => ?_; dsimp only [put, del, ins, List.cons_append, List.nil_append, List.append_assoc, List.set, List.length_cons, List.length_nil, Nat.zero_add, Nat.reduceAdd] at hS) | (refine St1.a 6 hS rfl (Nat.le_of_ble_eq_true rfl) fun w hS => ?_; dsimp only [put, del, ins, List.cons_append, List.nil_append, List.append_assoc, List.set, List.length_cons, List.length_nil, Nat.zero_add, Nat.reduceAdd] at hS) | (refine St1.n 7 hS rfl (Nat.le_of_ble_eq_true rfl) fun w hS => ?_; dsimp only [put, del, ins, List.cons_append, List.nil_append, List.append_assoc, List.set, List.length_cons, List.length_nil, Nat.zero_add, Nat.reduceAdd] at hS) | (refine St1.a 7 hS rfl (Nat.le_of_ble_eq_true rfl) fun w hS => ?_; dsimp only [put, del, ins, List.cons_append, List.nil_append, List.append_assoc, List.set, List.length_cons, List.length_nil, Nat.zero_add, Nat.reduceAdd] at hS) | (refine St1.n 8 hS rfl (Nat.le_of_ble_eq_true rfl) fun w hS => ?_; dsimp only [put, del, ins, List.cons_append, List.nil_append, List.append_assoc, List.set, List.length_cons, List.length_nil, Nat.zero_add, Nat.reduceAdd] at hS) | (refine St1.a 8 hS rfl (Nat.le_of_ble_eq_true rfl) fun w hS => ?_; dsimp only [put, del, ins, List.cons_append, List.nil_append, List.append_assoc, List.set, List.length_cons, List.length_nil, Nat.zero_add, Nat.reduceAdd] at hS) | (refine St1.n 9 hS rfl (Nat.le_of_ble_eq_true rfl) fun w hS => ?_; dsimp only [put, del, ins, List.cons_append, List.nil_append, List.append_assoc, List.set, List.length_cons, List.length_nil, Nat.zero_add, Nat.reduceAdd] at hS) | (refine St1.a 9 hS rfl (Nat.le_of_ble_eq_true rfl) fun w hS => ?_; dsimp only [put, del, ins, List.cons_append, List.nil_append, List.append_assoc, List.set, List.length_cons, List.length_nil, Nat.zero_add, Nat.reduceAdd] at hS) | (refine St1.n 10 hS rfl (Nat.le_of_ble_eq_true rfl) fun w hS => ?_; dsimp only [put, del, ins, List.cons_append, List.nil_append, List.append_assoc, List.set, List.length_cons, List.length_nil, Nat.zero_add, Nat.reduceAdd] at hS) | (refine St1.a 10 hS rfl (Nat.le_of_ble_eq_true rfl) fun w hS => ?_; dsimp only [put, del, ins, List.cons_append, List.nil_append, List.append_assoc, List.set, List.length_cons, List.length_nil, Nat.zero_add, Nat.reduceAdd] at hS) | (refine St1.n 11 hS rfl (Nat.le_of_ble_eq_true rfl) fun w hS => ?_; dsimp only [put, del, ins, List.cons_append, List.nil_append, List.append_assoc, List.set, List.length_cons, List.length_nil, Nat.zero_add, Nat.reduceAdd] at hS) | (refine St1.a 11 hS rfl (Nat.le_of_ble_eq_true rfl) fun w hS => ?_; dsimp only [put, del, ins, List.cons_append, List.nil_append, List.append_assoc, List.set, List.length_cons, List.length_nil, Nat.zero_add, Nat.reduceAdd] at hS))
  have hb1 := tmod_b id
  generalize Int.tmod id 1000 = z at hS hb1 ⊢
  rw [w64 (n := 2 * z) (by omega) (by omega)] at hS
  refine ⟨fun vs w => vs = [] ∧ ∃ id2 : Int, (nm = name ↔ id2 % 2 = 0) ∧ St W [Base W, QueueA q G, QueueA r H, Row b 30 [.int .i64 what, .string nm, .int .i64 id2]] w, ?_, fun w hJ => ?_⟩
  · rw [bytes_beq]
    refine Bif.i (fun hn => LdI.n 3 hS rfl rfl ?_) fun hn => ⟨rfl, 2 * z, ?_, hS⟩
    · (first | (refine St1.n 0 hS rfl (Nat.le_of_ble_eq_true rfl) fun w hS => ?_; dsimp only [put, del, ins, List.cons_append, List.nil_append, List.append_assoc, List.set, List.length_cons, List.length_nil, Nat.zero_add, Nat.reduceAdd] at hS) | (refine St1.a 0 hS rfl (Nat.le_of_ble_eq_true rfl) fun w hS => ?_; dsimp only [put, del, ins, List.cons_append, List.nil_append, List.append_assoc, List.set, List.length_cons, List.length_nil, Nat.zero_add, Nat.reduceAdd] at hS) | (refine St1.n 1 hS rfl (Nat.le_of_ble_eq_true rfl) fun w hS => ?_; dsimp only [put, del, ins, List.cons_append, List.nil_append, List.append_assoc, List.set, List.length_cons, List.length_nil, Nat.zero_add, Nat.reduceAdd] at hS) | (refine St1.a 1 hS rfl (Nat.le_of_ble_eq_true rfl) fun w hS => ?_; dsimp only [put, del, ins, List.cons_append, List.nil_append, List.append_assoc, List.set, List.length_cons, List.length_nil, Nat.zero_add, Nat.reduceAdd] at hS) | (refine St1.n 2 hS rfl (Nat.le_of_ble_eq_true rfl) fun w hS => ?_; dsimp only [put, del, ins, List.cons_append, List.nil_append, List.append_assoc, List.set, List.length_cons, List.length_nil, Nat.zero_add, Nat.reduceAdd] at hS) | (refine St1.a 2 hS rfl (Nat.le_of_ble_eq_true rfl) fun w hS => ?_; dsimp only [put, del, ins, List.cons_append, List.nil_append, List.append_assoc, List.set, List.length_cons, List.length_nil, Nat.zero_add, Nat.reduceAdd] at hS) | (refine St1.n 3 hS rfl (Nat.le_of_ble_eq_true rfl) fun w hS => ?_; dsimp only [put, del, ins, List.cons_append, List.nil_append, List.append_assoc, List.set, List.length_cons, List.length_nil, Nat.zero_add, Nat.reduceAdd] at hS) | (refine St1.a 3 hS rfl (Nat.le_of_ble_eq_true rfl) fun w hS => ?_; dsimp only [put, del, ins, List.cons_append, List.nil_append, List.append_assoc, List.set, List.length_cons, List.length_nil, Nat.zero_add, Nat.reduceAdd] at hS) | (refine St1.n 4 hS rfl (Nat.le_of_ble_eq_true rfl) fun w hS => ?_; dsimp only [put, del, ins, List.cons_append, List.nil_append, List.append_assoc, List.set, List.length_cons, List.length_nil, Nat.zero_add, Nat.reduceAdd] at hS) | (refine St1.a 4 hS rfl (Nat.le_of_ble_eq_true rfl) fun w hS => ?_; dsimp only [put, del, ins, List.cons_append, List.nil_append, List.append_assoc, List.set, List.length_cons, List.length_nil, Nat.zero_add, Nat.reduceAdd] at hS) | (refine St1.n 5 hS rfl (Nat.le_of_ble_eq_true rfl) fun w hS => ?_; dsimp only [put, del, ins, List.cons_append, List.nil_append, List.append_assoc, List.set, List.length_cons, List.length_nil, Nat.zero_add, Nat.reduceAdd] at hS) | (refine St1.a 5 hS rfl (Nat.le_of_ble_eq_true rfl) fun w hS => ?_; dsimp only [put, del, ins, List.cons_append, List.nil_append, List.append_assoc, List.set, List.length_cons, List.length_nil, Nat.zero_add, Nat.reduceAdd] at hS) | (refine St1.n 6 hS rfl (Nat.le_of_ble_eq_true rfl) fun w hS => ?_; dsimp only [put, del, ins, List.cons_append, List.nil_append, List.append_assoc, List.set, List.length_cons, List.length_nil, Nat.zero_add, Nat.reduceAdd] at hS) | (refine St1.a 6 hS rfl (Nat.le_of_ble_eq_true rfl) fun w hS => ?_; dsimp only [put, del, ins, List.cons_append, List.nil_append, List.append_assoc, List.set, List.length_cons, List.length_nil, Nat.zero_add, Nat.reduceAdd] at hS) | (refine St1.n 7 hS rfl (Nat.le_of_ble_eq_true rfl) fun w hS => ?_; dsimp only [put, del, ins, List.cons_append, List.nil_append, List.append_assoc, List.set, List.length_cons, List.length_nil, Nat.zero_add, Nat.reduceAdd] at hS) | (refine St1.a 7 hS rfl (Nat.le_of_ble_eq_true rfl) fun w hS => ?_; dsimp only [put, del, ins, List.cons_append, List.nil_append, List.append_assoc, List.set, List.length_cons, List.length_nil, Nat.zero_add, Nat.reduceAdd] at hS) | (refine St1.n 8 hS rfl (Nat.le_of_ble_eq_true rfl) fun w hS => ?_; dsimp only [put, del, ins, List.cons_append, List.nil_append, List.append_assoc, List.set, List.length_cons, List.length_nil, Nat.zero_add, Nat.reduceAdd] at hS) | (refine St1.a 8 hS rfl (Nat.le_of_ble_eq_true rfl) fun w hS => ?_; dsimp only [put, del, ins, List.cons_append, List.nil_append, List.append_assoc, List.set, List.length_cons, List.length_nil, Nat.zero_add, Nat.reduceAdd] at hS) | (refine St1.n 9 hS rfl (Nat.le_of_ble_eq_true rfl) fun w hS => ?_; dsimp only [put, del, ins, List.cons_append, List.nil_append, List.append_assoc, List.set, List.length_cons, List.length_nil, Nat.zero_add, Nat.reduceAdd] at hS) | (refine St1.a 9 hS rfl (Nat.le_of_ble_eq_true rfl) fun w hS => ?_; dsimp only [put, del, ins, List.cons_append, List.nil_append, List.append_assoc, List.set, List.length_cons, List.length_nil, Nat.zero_add, Nat.reduceAdd] at hS) | (refine St1.n 10 hS rfl (Nat.le_of_ble_eq_true rfl) fun w hS => ?_; dsimp only [put, del, ins, List.cons_append, List.nil_append, List.append_assoc, List.set, List.length_cons, List.length_nil, Nat.zero_add, Nat.reduceAdd] at hS) | (refine St1.a 10 hS rfl (Nat.le_of_ble_eq_true rfl) fun w hS => ?_; dsimp only [put, del, ins, List.cons_append, List.nil_append, List.append_assoc, List.set, List.length_cons, List.length_nil, Nat.zero_add, Nat.reduceAdd] at hS) | (refine St1.n 11 hS rfl (Nat.le_of_ble_eq_true rfl) fun w hS => ?_; dsimp only [put, del, ins, List.cons_append, List.nil_append, List.append_assoc, List.set, List.length_cons, List.length_nil, Nat.zero_add, Nat.reduceAdd] at hS) | (refine St1.a 11 hS rfl (Nat.le_of_ble_eq_true rfl) fun w hS => ?_; dsimp only [put, del, ins, List.cons_append, List.nil_append, List.append_assoc, List.set, List.length_cons, List.length_nil, Nat.zero_add, Nat.reduceAdd] at hS))
      rw [w64 (by omega) (by omega)] at hS
      have hn : ¬ nm = name := by simpa using hn
      exact ⟨rfl, 2 * z + 1, ⟨fun h => (hn h).elim, fun h => by omega⟩, hS⟩
    · have hn : nm = name := by simpa using hn
      exact ⟨fun _ => by omega, fun _ => hn⟩
  obtain ⟨_, id2, hpar, hS⟩ := hJ
  have own : (ByteArray.toList nm == ByteArray.toList name) = decide (nm = name) := bytes_beq _ _
  rw [own]
  refine LdI.n 3 hS rfl rfl ⟨fun vs w => vs = [] ∧ ∃ G H, ApR name G H (k + 1) ∧ St W [Base W, QueueA q G, QueueA r H, Row b 30 [.int .i64 what, .string nm, .int .i64 id2]] w, ?_, fun w hJ => ?_⟩
  · refine Bif.i (fun _ => ?_) fun _ => LdI.n 3 hS rfl rfl (Bif.i (fun _ => ?_) fun _ => ?_)
    · refine LdS.n 3 hS rfl rfl ?_
      (refine (Take_spec nm (hS.at 1 rfl)).of fun v w ⟨hv, hS⟩ => ⟨_, _, hv, ?_⟩; replace hS := St.bk 1 (B := [_]) hS rfl; dsimp only [put, del, ins, List.cons_append, List.nil_append, List.append_assoc, List.set, List.length_cons, List.length_nil, Nat.zero_add, Nat.reduceAdd] at hS)
      refine Bif.i (fun hn => LdS.n 3 hS rfl rfl ?_) fun hn => ⟨rfl, _, _, hA.take_other (of_decide_eq_false hn), hS⟩
      have hn := of_decide_eq_true hn
      subst hn
      (refine (Take_spec nm (hS.at 2 rfl)).of fun v w ⟨hv, hS⟩ => ⟨_, _, hv, ?_⟩; replace hS := St.bk 2 (B := [_]) hS rfl; dsimp only [put, del, ins, List.cons_append, List.nil_append, List.append_assoc, List.set, List.length_cons, List.length_nil, Nat.zero_add, Nat.reduceAdd] at hS)
      obtain ⟨e1, e2⟩ := hA.take_own
      rw [e1]
      exact Bif.i (fun h => by simp at h) fun _ => Bif.i (fun h => by simp at h) fun _ => ⟨rfl, _, _, e2, hS⟩
    · refine LdI.n 3 hS rfl rfl ?_
      (refine (Drop_spec id2 (hS.at 1 rfl)).of fun v w ⟨hv, hS⟩ => ⟨_, hv, ?_⟩; replace hS := St.bk 1 (B := [_]) hS rfl; dsimp only [put, del, ins, List.cons_append, List.nil_append, List.append_assoc, List.set, List.length_cons, List.length_nil, Nat.zero_add, Nat.reduceAdd] at hS)
      refine Bif.i (fun hn => LdI.n 3 hS rfl rfl ?_) fun hn => ⟨rfl, _, _, hA.drop_other (fun e => of_decide_eq_false hn (hpar.2 e)), hS⟩
      have hn := of_decide_eq_true hn
      (refine (Drop_spec id2 (hS.at 2 rfl)).of fun v w ⟨hv, hS⟩ => ⟨_, hv, ?_⟩; replace hS := St.bk 2 (B := [_]) hS rfl; dsimp only [put, del, ins, List.cons_append, List.nil_append, List.append_assoc, List.set, List.length_cons, List.length_nil, Nat.zero_add, Nat.reduceAdd] at hS)
      rw [hA.even (hpar.1 hn)]
      exact Bif.i (fun h => by simp at h) fun _ => ⟨rfl, _, _, hA.drop id2, hS⟩
    · refine LdS.n 3 hS rfl rfl (LdI.n 3 hS rfl rfl ?_)
      (refine (Put_spec nm id2 (hS.at 1 rfl)).of fun v w ⟨hv, hS⟩ => ⟨_, hv, ?_⟩; replace hS := St.bk 1 (B := [_]) hS rfl; dsimp only [put, del, ins, List.cons_append, List.nil_append, List.append_assoc, List.set, List.length_cons, List.length_nil, Nat.zero_add, Nat.reduceAdd] at hS)
      refine Bif.i (fun hn => LdS.n 3 hS rfl rfl (LdI.n 3 hS rfl rfl ?_)) fun hn => ⟨rfl, _, _, hA.put_other (of_decide_eq_false hn) (fun e => of_decide_eq_false hn (hpar.2 e)), hS⟩
      have hn := of_decide_eq_true hn
      subst hn
      (refine (Put_spec nm id2 (hS.at 2 rfl)).of fun v w ⟨hv, hS⟩ => ⟨_, hv, ?_⟩; replace hS := St.bk 2 (B := [_]) hS rfl; dsimp only [put, del, ins, List.cons_append, List.nil_append, List.append_assoc, List.set, List.length_cons, List.length_nil, Nat.zero_add, Nat.reduceAdd] at hS)
      obtain ⟨e1, e2⟩ := hA.put_own (by omega) (hpar.1 rfl)
      rw [e1]
      exact Bif.i (fun h => by simp at h) fun _ => ⟨rfl, _, _, e2, hS⟩
  · clear hA
    obtain ⟨_, G, H, hA, hS⟩ := hJ
    have hrow := hA.g.row name
    refine (List_spec name (hS.at 1 rfl)).of fun v w ⟨p2, c2, hv, hS⟩ => ⟨_, _, _, hv, ?_⟩
    replace hS := St.mv 1 4 (St.bk 1 (B := [_, _]) hS rfl) rfl
    dsimp only [put, del, ins, List.cons_append, List.nil_append, List.append_assoc, List.set, List.length_cons, List.length_nil, Nat.zero_add, Nat.reduceAdd] at hS
    refine (List_spec name (hS.at 2 rfl)).of fun v w ⟨p3, c3, hv, hS⟩ => ⟨_, _, _, hv, ?_⟩
    replace hS := St.mv 2 5 (St.bk 2 (B := [_, _]) hS rfl) rfl
    dsimp only [put, del, ins, List.cons_append, List.nil_append, List.append_assoc, List.set, List.length_cons, List.length_nil, Nat.zero_add, Nat.reduceAdd] at hS
    rw [hA.row] at hS ⊢
    refine (Same_spec (Rd.n 4 rfl SlA.rd) (Rd.n 5 rfl SlA.rd) (by omega) hS).of fun v w ⟨hv, hS⟩ => ⟨_, hv, Bif.i (fun h => by simp at h) fun _ => ?_⟩
    rw [up hlt hlen]
    exact ⟨⟨k + 1, G, H, rfl, by omega, hA, hS.keep [_, _, _]⟩, by show os.length - (k + 1) < os.length - k; omega⟩

/-! ### One of a row is cut out -/
theorem flat_drop {α : Type} {f : α → List Value} {size : Nat} (hf : ∀ x, (f x).length = size) : ∀ (xs : List α) (k : Nat), (xs.flatMap f).drop (k * size) = (xs.drop k).flatMap f
  | [], k => by simp
  | x :: xs, 0 => by simp
  | x :: xs, k + 1 => by
    rw [List.flatMap_cons, Nat.succ_mul, List.drop_append, hf, List.drop_of_length_le (by rw [hf]; omega), List.nil_append, Nat.add_sub_cancel, flat_drop hf xs k]
    rfl
theorem flat_take {α : Type} {f : α → List Value} {size : Nat} (hf : ∀ x, (f x).length = size) : ∀ (xs : List α) (k : Nat), (xs.flatMap f).take (k * size) = (xs.take k).flatMap f
  | [], k => by simp
  | x :: xs, 0 => by simp
  | x :: xs, k + 1 => by
    rw [List.flatMap_cons, List.take_succ_cons, List.flatMap_cons, ← flat_take hf xs k, List.take_append, hf, List.take_of_length_le (by rw [hf, Nat.succ_mul]; exact Nat.le_add_left _ _), Nat.succ_mul, Nat.add_sub_cancel]
theorem cut_region {α : Type} {f : α → List Value} {W w : World} {l : List Asn} {p : Option Addr} {c : Nat} {os : List α} {sT e ty : TypeId} {inf : TypeInfo} {z : Value} {R : Option Addr → Nat → Nat → World → Prop} {j : Nat}
    (hf : ∀ x, (f x).length = 1) (hu : Try.prog.underlying sT = some (.slice e)) (hi : Try.prog.info? e = some inf) (hs : inf.size = 1) (hz : inf.zero = some z) (hzs : z.cells.size = 1) (hby : inf.bytes ≤ 1000) (hna : ∀ x, ∀ v ∈ f x, NotAgg v)
    (i : Nat) (hS : St W l w) (hn : nth l i = some (SlA e 1 f p c os)) (hj : j < os.length) (hl : os.length ≤ 1000000)
    (hR : ∀ p' c' w', St W (SlA e 1 f p' c' (os.take j ++ os.drop (j + 1)) :: l) w' → R p' (os.take j ++ os.drop (j + 1)).length c' w') :
    ∃ C : Cls, C.p [] w ∧ SlP p os.length c 1 0 (j : Int) fun x1p x1n x1c => SlP p os.length c 1 (IntKind.wrap .i64 ((j : Int) + 1)) (os.length : Int) fun x2p x2n x2c => ∀ b : Nat,
      Ef (Cls.push C (b, .cells #[] e)) (fun w K => Run Try.prog (Builtin.append_ #[sT, sT] ty #[.slice (some ⟨b, 0, none⟩) 0 0, .slice x1p x1n x1c]) w fun v w' => AsL v fun p n c => K (.slice p n c) w') fun v D => AsL v fun x3p x3n x3c => True ∧
        Ef D (fun w K => Run Try.prog (Builtin.append_ #[sT, sT] ty #[.slice x3p x3n x3c, .slice x2p x2n x2c]) w fun v w' => AsL v fun p n c => K (.slice p n c) w') fun v D => AsL v fun x4p x4n x4c => True ∧ ∀ G w, D.p G w → R x4p x4n x4c w := by
  have hrd : Rd l p (os.flatMap f) := Rd.n i hn SlA.rd
  have hle := SlA.le (hS.at i hn)
  have hfl := flat_length f 1 hf os
  refine ⟨StC W l, StC.start hS, SlP.i (a := 0) (b := j) hrd hfl hle rfl rfl (Nat.zero_le _) (by omega) fun p1 hr1 => SlP.i (a := j + 1) (b := os.length) hrd hfl hle ?_ rfl (by omega) (Nat.le_refl _) fun p2 hr2 b => ?_⟩
  · rw [w64 (by omega) (by omega)]; omega
  rw [flat_drop hf, flat_take hf] at hr1 hr2
  rw [List.drop_zero, Nat.sub_zero] at hr1
  rw [show (os.drop (j + 1)).take (os.length - (j + 1)) = os.drop (j + 1) from List.take_of_length_le (by simp)] at hr2
  have hl1 : (os.take j).length = j := by simp; omega
  have hl2 : (os.drop (j + 1)).length = os.length - (j + 1) := by simp
  have hC := (Is.refl W l).push b (.cells #[] e)
  refine Ef.n (α := Option Addr × Nat) (V := fun x => .slice x.1 ([] ++ os.take j).length x.2) (B := fun x => [SlA e 1 f x.1 x.2 ([] ++ os.take j)]) (none, 0) 0 hC rfl (fun G w h => ?_) fun x => ⟨_, _, _, rfl, trivial, ?_⟩
  · have h := SlA.of_row (os := []) hf (St.imp h Pt.row)
    refine append_el (os := []) (xs := os.take j) hf hu (.inr ⟨_, hu⟩) hi hs hz hzs 0 h rfl (hr1.app (pts G)) (by rw [hl1]; rfl) hna ?_ (by simp; omega) fun p' c' w2 hS => ⟨_, _, _, rfl, (p', c'), rfl, hS⟩
    have : ([] : List α).length + (os.take j).length ≤ 1000000 := by simp; omega
    exact Nat.le_trans (Nat.mul_le_mul this hby) (by decide)
  · have hC2 := Is.refl W (SlA e 1 f x.1 x.2 ([] ++ os.take j) :: l)
    refine Ef.n (α := Option Addr × Nat) (V := fun x => .slice x.1 (([] ++ os.take j) ++ os.drop (j + 1)).length x.2) (B := fun x => [SlA e 1 f x.1 x.2 (([] ++ os.take j) ++ os.drop (j + 1))]) (none, 0) 0 hC2 rfl (fun G w h => ?_) fun y => ⟨_, _, _, rfl, trivial, fun G w h => ?_⟩
    · refine append_el (os := [] ++ os.take j) (xs := os.drop (j + 1)) hf hu (.inr ⟨_, hu⟩) hi hs hz hzs 0 h rfl (hr2.app (pts G)) (by rw [hl2]) hna ?_ (by simp; omega) fun p' c' w2 hS => ⟨_, _, _, rfl, (p', c'), rfl, hS⟩
      have : ([] ++ os.take j).length + (os.drop (j + 1)).length ≤ 1000000 := by simp; omega
      exact Nat.le_trans (Nat.mul_le_mul this hby) (by decide)
    · exact hR _ _ _ (StC.ends h)
theorem uSs : Try.prog.underlying 47 = some (.slice 9) := Try.underlying47
theorem sS : Try.t9.size = 1 := rfl
theorem bS : Try.t9.bytes = 16 := rfl
def sV (x : Name) : List Value := [.string x]
theorem sV1 (x : Name) : (sV x).length = 1 := rfl
theorem sVn (x : Name) : ∀ v ∈ sV x, NotAgg v := fun v hv => by simp [sV] at hv; subst hv; trivial

theorem gDrop_cons (x : Name × Int) (r : QG) (id : Int) : gDrop (x :: r) id = if x.2 = id then gDrop r id else x :: gDrop r id := by
  unfold gDrop
  by_cases h : x.2 = id <;> simp [h]
def idsOf (G : QG) : List Int := G.map fun x => x.2
def namesOf (G : QG) : List Name := G.map fun x => x.1
theorem ids_len (G : QG) : (idsOf G).length = G.length := List.length_map ..
theorem names_len (G : QG) : (namesOf G).length = G.length := List.length_map ..
theorem ids_get (G : QG) {j : Nat} {x : Name × Int} (h : G[j]? = some x) : (idsOf G)[j]? = some x.2 := by simp [idsOf, h]
theorem names_get (G : QG) {j : Nat} {x : Name × Int} (h : G[j]? = some x) : (namesOf G)[j]? = some x.1 := by simp [namesOf, h]
theorem ids_app (G H : QG) : idsOf (G ++ H) = idsOf G ++ idsOf H := List.map_append ..
theorem names_app (G H : QG) : namesOf (G ++ H) = namesOf G ++ namesOf H := List.map_append ..
theorem ids_cut (G : QG) (j : Nat) : idsOf (G.take j ++ G.drop (j + 1)) = (idsOf G).take j ++ (idsOf G).drop (j + 1) := by simp [idsOf]
theorem names_cut (G : QG) (j : Nat) : namesOf (G.take j ++ G.drop (j + 1)) = (namesOf G).take j ++ (namesOf G).drop (j + 1) := by simp [namesOf]
set_option maxHeartbeats 1000000 in
theorem Where_walk {W : World} {p : Option Addr} {os : List OpD} {c : Nat} (hl : Rd [Base W] p (os.flatMap opCells)) (hc : os.length ≤ c) (hcm : c ≤ 9223372036854775807) (hok : ∀ o ∈ os, OpOk W o) :
    CallR Try.prog 7 #[.slice p os.length c] W fun v w' => v = .bool true ∧ ∃ r, St W (Base W :: r) w' := by
  have hlen : os.length ≤ 9223372036854775807 := Nat.le_trans hc hcm
  refine F7_of ((head_spec (St.base W)).of fun v w1 ⟨hv, hS⟩ => ⟨_, hv, ?_⟩)
  refine (New_spec hS).of fun v w ⟨q, hv, hS⟩ => ⟨_, hv, Bif.i (fun h => by cases h) fun _ => ?_⟩
  refine (great_spec hl (by simp) hlen hS.last).of fun v w ⟨b, hv, hb, hS⟩ => ⟨_, hv, Bif.i (fun _ => ⟨rfl, _, hS⟩) fun hb' => ?_⟩
  refine ⟨fun vs w => ∃ (k : Nat) (G : QG) (p1 : Option Addr) (c1 : Nat) (p2 : Option Addr) (c2 : Nat), vs = [.slice p1 (idsOf G).length c1, .slice p2 (namesOf G).length c2, .int .i64 k] ∧ k ≤ os.length ∧ QOk G ∧ St W [Base W, QueueA q G, SlA 3 1 iV p1 c1 (idsOf G), SlA 9 1 sV p2 c2 (namesOf G)] w, leftN os.length, ⟨0, [], none, 0, none, 0, rfl, Nat.zero_le _, QOk.nil, (SlA.nil (SlA.nil hS).last).last⟩, fun a1 a2 a3 b1 b2 b3 i w hI => ?_⟩
  obtain ⟨k, G, p1, c1, p2, c2, he, hk, hQ, hS⟩ := hI
  cases he
  have hall := hQ.all
  refine Bif.i (fun hlt => ?_) fun _ => ?_
  · have hlt : k < os.length := by have := of_decide_eq_true hlt; omega
    have ho := hok _ (List.getElem_mem hlt)
    refine IxP.el op3 (by decide) (hl.mem (by simp)) hS rfl hlt (List.getElem?_eq_getElem hlt) fun a ha => LdI.at (ha 0 _ rfl) (LdS.at (ha 1 _ rfl) (LdI.at (ha 2 _ rfl) (NewC.n hS fun b w hS => ?_)))
    generalize os[k] = o at ho
    obtain ⟨what, nm, id⟩ := o
    dsimp only [put, del, ins, List.cons_append, List.nil_append, List.append_assoc, List.set, List.length_cons, List.length_nil, Nat.zero_add, Nat.reduceAdd] at hS
    iterate 3 ((first | (refine St1.n 0 hS rfl (Nat.le_of_ble_eq_true rfl) fun w hS => ?_; dsimp only [put, del, ins, List.cons_append, List.nil_append, List.append_assoc, List.set, List.length_cons, List.length_nil, Nat.zero_add, Nat.reduceAdd] at hS) | (refine St1.a 0 hS rfl (Nat.le_of_ble_eq_true rfl) fun w hS => ?_; dsimp only [put, del, ins, List.cons_append, List.nil_append, List.append_assoc, List.set, List.length_cons, List.length_nil, Nat.zero_add, Nat.reduceAdd] at hS) | (refine St1.n 1 hS rfl (Nat.le_of_ble_eq_true rfl) fun w hS => ?_; dsimp only [put, del, ins, List.cons_append, List.nil_append, List.append_assoc, List.set, List.length_cons, List.length_nil, Nat.zero_add, Nat.reduceAdd] at hS) | (refine St1.a 1 hS rfl (Nat.le_of_ble_eq_true rfl) fun w hS => ?_; dsimp only [put, del, ins, List.cons_append, List.nil_append, List.append_assoc, List.set, List.length_cons, List.length_nil, Nat.zero_add, Nat.reduceAdd] at hS) | (refine St1.n 2 hS rfl (Nat.le_of_ble_eq_true rfl) fun w hS => ?_; dsimp only [put, del, ins, List.cons_append, List.nil_append, List.append_assoc, List.set, List.length_cons, List.length_nil, Nat.zero_add, Nat.reduceAdd] at hS) | (refine St1.a 2 hS rfl (Nat.le_of_ble_eq_true rfl) fun w hS => ?_; dsimp only [put, del, ins, List.cons_append, List.nil_append, List.append_assoc, List.set, List.length_cons, List.length_nil, Nat.zero_add, Nat.reduceAdd] at hS) | (refine St1.n 3 hS rfl (Nat.le_of_ble_eq_true rfl) fun w hS => ?_; dsimp only [put, del, ins, List.cons_append, List.nil_append, List.append_assoc, List.set, List.length_cons, List.length_nil, Nat.zero_add, Nat.reduceAdd] at hS) | (refine St1.a 3 hS rfl (Nat.le_of_ble_eq_true rfl) fun w hS => ?_; dsimp only [put, del, ins, List.cons_append, List.nil_append, List.append_assoc, List.set, List.length_cons, List.length_nil, Nat.zero_add, Nat.reduceAdd] at hS) | (refine St1.n 4 hS rfl (Nat.le_of_ble_eq_true rfl) fun w hS => ?_; dsimp only [put, del, ins, List.cons_append, List.nil_append, List.append_assoc, List.set, List.length_cons, List.length_nil, Nat.zero_add, Nat.reduceAdd] at hS) | (refine St1.a 4 hS rfl (Nat.le_of_ble_eq_true rfl) fun w hS => ?_; dsimp only [put, del, ins, List.cons_append, List.nil_append, List.append_assoc, List.set, List.length_cons, List.length_nil, Nat.zero_add, Nat.reduceAdd] at hS) | (refine St1.n 5 hS rfl (Nat.le_of_ble_eq_true rfl) fun w hS => ?_; dsimp only [put, del, ins, List.cons_append, List.nil_append, List.append_assoc, List.set, List.length_cons, List.length_nil, Nat.zero_add, Nat.reduceAdd] at hS) | (refine St1.a 5 hS rfl (Nat.le_of_ble_eq_true rfl) fun w hS => ?_; dsimp only [put, del, ins, List.cons_append, List.nil_append, List.append_assoc, List.set, List.length_cons, List.length_nil, Nat.zero_add, Nat.reduceAdd] at hS) | (refine St1.n 6 hS rfl (Nat.le_of_ble_eq_true rfl) fun w hS => ?_; dsimp only [put, del, ins, List.cons_append, List.nil_append, List.append_assoc, List.set, List.length_cons, List.length_nil, Nat.zero_add, Nat.reduceAdd] at hS) | (refine St1.a 6 hS rfl (Nat.le_of_ble_eq_true rfl) fun w hS => ?_; dsimp only [put, del, ins, List.cons_append, List.nil_append, List.append_assoc, List.set, List.length_cons, List.length_nil, Nat.zero_add, Nat.reduceAdd] at hS) | (refine St1.n 7 hS rfl (Nat.le_of_ble_eq_true rfl) fun w hS => ?_; dsimp only [put, del, ins, List.cons_append, List.nil_append, List.append_assoc, List.set, List.length_cons, List.length_nil, Nat.zero_add, Nat.reduceAdd] at hS) | (refine St1.a 7 hS rfl (Nat.le_of_ble_eq_true rfl) fun w hS => ?_; dsimp only [put, del, ins, List.cons_append, List.nil_append, List.append_assoc, List.set, List.length_cons, List.length_nil, Nat.zero_add, Nat.reduceAdd] at hS) | (refine St1.n 8 hS rfl (Nat.le_of_ble_eq_true rfl) fun w hS => ?_; dsimp only [put, del, ins, List.cons_append, List.nil_append, List.append_assoc, List.set, List.length_cons, List.length_nil, Nat.zero_add, Nat.reduceAdd] at hS) | (refine St1.a 8 hS rfl (Nat.le_of_ble_eq_true rfl) fun w hS => ?_; dsimp only [put, del, ins, List.cons_append, List.nil_append, List.append_assoc, List.set, List.length_cons, List.length_nil, Nat.zero_add, Nat.reduceAdd] at hS) | (refine St1.n 9 hS rfl (Nat.le_of_ble_eq_true rfl) fun w hS => ?_; dsimp only [put, del, ins, List.cons_append, List.nil_append, List.append_assoc, List.set, List.length_cons, List.length_nil, Nat.zero_add, Nat.reduceAdd] at hS) | (refine St1.a 9 hS rfl (Nat.le_of_ble_eq_true rfl) fun w hS => ?_; dsimp only [put, del, ins, List.cons_append, List.nil_append, List.append_assoc, List.set, List.length_cons, List.length_nil, Nat.zero_add, Nat.reduceAdd] at hS) | (refine St1.n 10 hS rfl (Nat.le_of_ble_eq_true rfl) fun w hS => ?_; dsimp only [put, del, ins, List.cons_append, List.nil_append, List.append_assoc, List.set, List.length_cons, List.length_nil, Nat.zero_add, Nat.reduceAdd] at hS) | (refine St1.a 10 hS rfl (Nat.le_of_ble_eq_true rfl) fun w hS => ?_; dsimp only [put, del, ins, List.cons_append, List.nil_append, List.append_assoc, List.set, List.length_cons, List.length_nil, Nat.zero_add, Nat.reduceAdd] at hS) | (refine St1.n 11 hS rfl (Nat.le_of_ble_eq_true rfl) fun w hS => ?_; dsimp only [put, del, ins, List.cons_append, List.nil_append, List.append_assoc, List.set, List.length_cons, List.length_nil, Nat.zero_add, Nat.reduceAdd] at hS) | (refine St1.a 11 hS rfl (Nat.le_of_ble_eq_true rfl) fun w hS => ?_; dsimp only [put, del, ins, List.cons_append, List.nil_append, List.append_assoc, List.set, List.length_cons, List.length_nil, Nat.zero_add, Nat.reduceAdd] at hS)))
    refine LdI.n 4 hS rfl rfl ⟨fun vs w => ∃ (G P : QG) (p1 : Option Addr) (c1 : Nat) (p2 : Option Addr) (c2 : Nat) (gone : Int) (is : Bool), vs = [.slice p1 (idsOf P).length c1, .slice p2 (namesOf P).length c2, .int .i64 gone, .bool is] ∧ QOk G ∧ P.length ≤ 64 ∧ (is = false → P = G) ∧ (is = true → G = gDrop P gone) ∧ St W [Base W, QueueA q G, SlA 3 1 iV p1 c1 (idsOf P), SlA 9 1 sV p2 c2 (namesOf P)] w, ?_, fun d1 d2 d3 e1 e2 e3 gone is w hJ => ?_⟩
    · refine Bif.i (fun _ => ?_) fun _ => LdI.n 4 hS rfl rfl (Bif.i (fun _ => ?_) fun _ => ?_)
      · refine LdS.n 4 hS rfl rfl ?_
        (refine (Take_spec nm (hS.at 1 rfl)).of fun v w ⟨hv, hS⟩ => ⟨_, _, hv, ?_⟩; replace hS := St.bk 1 (B := [_]) hS rfl; dsimp only [put, del, ins, List.cons_append, List.nil_append, List.append_assoc, List.set, List.length_cons, List.length_nil, Nat.zero_add, Nat.reduceAdd] at hS)
        refine ⟨_, G, _, _, _, _, _, _, rfl, hQ.take nm, hall, fun h => ?_, fun h => ?_, hS.keep [_, _, _, _]⟩
        · unfold gTake at h ⊢
          cases hg : gL G nm with
          | nil => rfl
          | cons i r => rw [hg] at h; cases h
        · unfold gTake at h ⊢
          cases hg : gL G nm with
          | nil => rw [hg] at h; cases h
          | cons i r => rfl
      · refine LdI.n 4 hS rfl rfl ?_
        (refine (Drop_spec id (hS.at 1 rfl)).of fun v w ⟨hv, hS⟩ => ⟨_, hv, ?_⟩; replace hS := St.bk 1 (B := [_]) hS rfl; dsimp only [put, del, ins, List.cons_append, List.nil_append, List.append_assoc, List.set, List.length_cons, List.length_nil, Nat.zero_add, Nat.reduceAdd] at hS)
        refine LdI.n 4 hS rfl rfl ⟨_, G, _, _, _, _, _, _, rfl, hQ.drop id, hall, fun h => ?_, fun h => rfl, hS.keep [_, _, _, _]⟩
        exact (drop_none (by simpa using h)).symm
      · refine LdS.n 4 hS rfl rfl (LdI.n 4 hS rfl rfl ?_)
        (refine (Put_spec nm id (hS.at 1 rfl)).of fun v w ⟨hv, hS⟩ => ⟨_, hv, ?_⟩; replace hS := St.bk 1 (B := [_]) hS rfl; dsimp only [put, del, ins, List.cons_append, List.nil_append, List.append_assoc, List.set, List.length_cons, List.length_nil, Nat.zero_add, Nat.reduceAdd] at hS)
        have hQ' := hQ.put nm id
        refine Bif.i (fun h0 => ?_) fun h0 => ?_
        · have h0 : (gPut G nm id).2 = 0 := by simpa using h0
          rw [put_zero h0] at hS hQ'
          have hall' := hQ'.all
          refine LdI.n 4 hS rfl rfl (NewC.n hS fun b2 w2 hS => ?_)
          dsimp only [put, del, ins, List.cons_append, List.nil_append, List.append_assoc, List.set, List.length_cons, List.length_nil, Nat.zero_add, Nat.reduceAdd] at hS
          refine append_el (os := idsOf G) (xs := [id]) iV1 uIs (.inr ⟨_, uIs⟩) iInt sInt zInt rfl 2 hS rfl (Rd.n 4 rfl fun F => Rd.all) rfl iVn (by rw [bInt, ids_len]; simp; omega) (by rw [ids_len]; simp; omega) fun p4 c4 w4 hS => ⟨_, _, _, rfl, ?_⟩
          dsimp only [put, del, ins, List.cons_append, List.nil_append, List.append_assoc, List.set, List.length_cons, List.length_nil, Nat.zero_add, Nat.reduceAdd] at hS
          refine LdS.n 4 hS rfl rfl (NewC.n hS fun b3 w5 hS => ?_)
          dsimp only [put, del, ins, List.cons_append, List.nil_append, List.append_assoc, List.set, List.length_cons, List.length_nil, Nat.zero_add, Nat.reduceAdd] at hS
          refine append_el (os := namesOf G) (xs := [nm]) sV1 uSs (.inr ⟨_, uSs⟩) iS sS zS rfl 3 hS rfl (Rd.n 5 rfl fun F => Rd.all) rfl sVn (by rw [bS, names_len]; simp; omega) (by rw [names_len]; simp; omega) fun p5 c5 w6 hS => ⟨_, _, _, rfl, ?_⟩
          refine ⟨_, G ++ [(nm, id)], p4, c4, p5, c5, 0, false, by rw [ids_app, names_app]; rfl, hQ', hall', fun _ => rfl, fun h => (by cases h), ?_⟩
          rw [ids_app, names_app]
          exact hS.keep [_, _, _, _]
        · have h0 : (gPut G nm id).2 ≠ 0 := by simpa using h0
          rw [put_fst h0] at hS
          exact ⟨G, G, _, _, _, _, 0, false, rfl, hQ, hall, fun _ => rfl, fun h => (by cases h), hS.keep [_, _, _, _]⟩
    clear hQ hall hS
    obtain ⟨G, P, p1, c1, p2, c2, gone', is', he, hQ, hall, hf, ht, hS⟩ := hJ
    cases he
    refine ⟨fun vs w => ∃ (p1 : Option Addr) (c1 : Nat) (p2 : Option Addr) (c2 : Nat), vs = [.slice p1 (idsOf G).length c1, .slice p2 (namesOf G).length c2] ∧ St W [Base W, QueueA q G, SlA 3 1 iV p1 c1 (idsOf G), SlA 9 1 sV p2 c2 (namesOf G)] w, ?_, fun d1 d2 d3 e1 e2 e3 w hJ => ?_⟩
    · refine ⟨fun vs w => ∃ (m : Nat) (Q : QG) (p1 : Option Addr) (c1 : Nat) (p2 : Option Addr) (c2 : Nat), m ≤ P.length ∧ Q = (if is = true then P.take m ++ gDrop (P.drop m) gone else P) ∧ vs = [.slice p1 (idsOf Q).length c1, .slice p2 (namesOf Q).length c2, .int .i64 ((m : Int) - 1)] ∧ St W [Base W, QueueA q G, SlA 3 1 iV p1 c1 (idsOf Q), SlA 9 1 sV p2 c2 (namesOf Q)] w, fun vs _ => (match vs.getLast? with | some (.int _ i) => (i + 1).toNat | _ => 0), ⟨P.length, P, _, _, _, _, Nat.le_refl _, ?_, ?_, hS⟩, fun d1 d2 d3 e1 e2 e3 kk w hI => ?_⟩
      · cases is <;> simp [gDrop]
      · rw [w64 (by rw [ids_len]; omega) (by rw [ids_len]; omega), ids_len]
      obtain ⟨m, Q, p1, c1, p2, c2, hm, hq, he, hS⟩ := hI
      cases he
      refine Bif.i (fun his => ?_) fun his => ⟨d1, d3, e1, e3, ?_, ?_⟩
      · subst his
        rw [if_pos rfl] at hq
        have hG := ht rfl
        refine Bif.i (fun hge => ?_) fun hlt2 => ⟨d1, d3, e1, e3, ?_, ?_⟩
        · obtain ⟨j, rfl⟩ : ∃ j, m = j + 1 := ⟨m - 1, by have := of_decide_eq_true hge; omega⟩
          rw [show ((j + 1 : Nat) : Int) - 1 = (j : Int) by omega]
          have hjP : j < P.length := by omega
          have htk : P.take (j + 1) = P.take j ++ [P[j]] := by rw [List.take_add_one, List.getElem?_eq_getElem hjP]; rfl
          have hdr : P.drop j = P[j] :: P.drop (j + 1) := List.drop_eq_getElem_cons hjP
          have hlq : Q.length ≤ 64 := by
            have := gDrop_len (P.drop (j + 1)) gone
            rw [hq]; simp only [List.length_append, List.length_take, List.length_drop] at this ⊢; omega
          have hjQ : j < Q.length := by rw [hq]; simp; omega
          have hQj : Q[j]? = some P[j] := by
            rw [hq, List.getElem?_append_left (by simp; omega), List.getElem?_take_of_lt (by omega), List.getElem?_eq_getElem hjP]
          have hcut : Q.take j ++ Q.drop (j + 1) = P.take j ++ gDrop (P.drop (j + 1)) gone := by
            have l1 : (P.take (j + 1)).length = j + 1 := by simp; omega
            rw [hq, List.take_append_of_le_length (by omega), List.drop_append_of_le_length (by omega), List.take_take, Nat.min_eq_left (by omega), List.drop_of_length_le (by omega), List.nil_append]
          refine IxP.el iV1 (by decide) (Rd.n 2 rfl SlA.rd) hS rfl (by rw [ids_len]; exact hjQ) (ids_get Q hQj) fun a ha => LdI.at (ha 0 _ rfl) (Bif.i (fun hg => ?_) fun hg => ?_)
          · have hg : P[j].2 = gone := by simpa using hg
            refine cut_region iV1 uIs iInt sInt zInt rfl (by decide) iVn 2 hS rfl (by rw [ids_len]; exact hjQ) (by rw [ids_len]; omega) fun p4 c4 w4 hS => ?_
            refine cut_region sV1 uSs iS sS zS rfl (by decide) sVn 4 hS rfl (by rw [names_len]; exact hjQ) (by rw [names_len]; omega) fun p5 c5 w5 hS => ?_
            refine ⟨⟨j, Q.take j ++ Q.drop (j + 1), p4, c4, p5, c5, by omega, ?_, ?_, ?_⟩, (by rw [w64 (by omega) (by omega)]; show ((j : Int) - 1 + 1).toNat < ((j : Int) + 1).toNat; omega)⟩
            · rw [if_pos rfl, hcut, hdr, gDrop_cons, if_pos hg]
            · rw [w64 (by omega) (by omega)]
              rw [ids_cut, names_cut]
            · have h : St W [Base W, QueueA q G, SlA 3 1 iV p4 c4 ((idsOf Q).take j ++ (idsOf Q).drop (j + 1)), SlA 9 1 sV p5 c5 ((namesOf Q).take j ++ (namesOf Q).drop (j + 1))] w5 := St.mv 0 2 (St.mv 0 3 (St.del 4 (St.del 5 hS rfl) rfl) rfl) rfl
              rw [ids_cut, names_cut]; exact h
          · have hg : P[j].2 ≠ gone := by simpa using hg
            refine ⟨⟨j, Q, _, _, _, _, by omega, ?_, ?_, hS⟩, (by rw [w64 (by omega) (by omega)]; show ((j : Int) - 1 + 1).toNat < ((j : Int) + 1).toNat; omega)⟩
            · rw [if_pos rfl, hq, htk, hdr, gDrop_cons, if_neg hg, List.append_assoc]
              rfl
            · rw [w64 (by omega) (by omega)]
        · have hm0 : m = 0 := by have := of_decide_eq_false hlt2; omega
          subst hm0
          rw [hG]
          rw [List.take_zero, List.nil_append, List.drop_zero] at hq
          rw [hq]
        · have hm0 : m = 0 := by have := of_decide_eq_false hlt2; omega
          subst hm0
          rw [List.take_zero, List.nil_append, List.drop_zero] at hq
          rw [hq, ← hG] at hS
          exact hS
      · subst his
        rw [if_neg (by simp)] at hq
        rw [hq, hf rfl]
      · subst his
        rw [if_neg (by simp)] at hq
        rw [hq, hf rfl] at hS
        exact hS
    · clear hS
      obtain ⟨p1, c1, p2, c2, he, hS⟩ := hJ
      cases he
      (refine (Many_spec (hS.at 1 rfl)).of fun v w ⟨hv, hS⟩ => ⟨_, hv, ?_⟩; replace hS := St.bk 1 (B := [_]) hS rfl; dsimp only [put, del, ins, List.cons_append, List.nil_append, List.append_assoc, List.set, List.length_cons, List.length_nil, Nat.zero_add, Nat.reduceAdd] at hS)
      refine Bif.i (fun h => by rw [ids_len] at h; simp at h) fun _ => ?_
      rw [up hlt hlen]
      exact ⟨⟨k + 1, G, _, _, _, _, rfl, by omega, hQ, hS⟩, by show os.length - (k + 1) < os.length - k; omega⟩
  · refine ⟨fun vs w => ∃ j : Nat, vs = [.int .i64 j] ∧ j ≤ G.length ∧ St W [Base W, QueueA q G, SlA 3 1 iV a1 a3 (idsOf G), SlA 9 1 sV b1 b3 (namesOf G)] w, leftN G.length, ⟨0, rfl, Nat.zero_le _, hS⟩, fun i w hI => ?_⟩
    obtain ⟨j, he, hj, hS⟩ := hI
    cases he
    refine Bif.i (fun hlt => ?_) fun _ => ⟨rfl, _, hS⟩
    have hlt : j < G.length := by have := of_decide_eq_true hlt; rw [ids_len] at this; omega
    have hx : G[j]? = some G[j] := List.getElem?_eq_getElem hlt
    have hw := gW_mem hQ.nod (show (G[j].1, G[j].2) ∈ G from List.getElem_mem hlt)
    refine IxP.el iV1 (by decide) (Rd.n 2 rfl SlA.rd) hS rfl (by rw [ids_len]; exact hlt) (ids_get G hx) fun a ha => LdI.at (ha 0 _ rfl) ?_
    (refine (Where_spec G[j].2 (hS.at 1 rfl)).of fun v w ⟨hv, hS⟩ => ⟨_, _, hv, ?_⟩; replace hS := St.bk 1 (B := [_]) hS rfl; dsimp only [put, del, ins, List.cons_append, List.nil_append, List.append_assoc, List.set, List.length_cons, List.length_nil, Nat.zero_add, Nat.reduceAdd] at hS)
    rw [hw]
    refine Bif.i (fun h => by cases h) fun _ => ?_
    refine IxP.el sV1 (by decide) (Rd.n 3 rfl SlA.rd) hS rfl (by rw [names_len]; exact hlt) (names_get G hx) fun a ha => LdS.at (ha 0 _ rfl) (Bif.i (fun h => by simp at h) fun _ => ?_)
    rw [up hlt (by omega)]
    exact ⟨⟨j + 1, rfl, by omega, hS⟩, by show G.length - (j + 1) < G.length - j; omega⟩
end Go.Proofs.Ytdecmdbojmdaeaa
