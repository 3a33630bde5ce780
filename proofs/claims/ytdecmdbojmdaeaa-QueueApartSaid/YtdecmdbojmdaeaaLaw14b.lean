/-
  The law of who waits: of a name they go in the order in which they came.
-/
import Derived.Test.YtdecmdbojmdaeaaLaw14
set_option linter.unusedVariables false
set_option linter.unusedSimpArgs false
namespace Go.Proofs.Ytdecmdbojmdaeaa
open Go
theorem without_spec {W w : World} {F : List Asn} {p : Option Addr} {c : Nat} {xs : List Int} (id : Int) (hx : Rd F p (xs.flatMap iV)) (hl : xs.length ≤ 1000000) (hS : St W F w) :
    CallR Try.prog 25 #[.slice p xs.length c, .int .i64 id] w fun v w' => ∃ p' c', v = .slice p' (xs.filter fun x => decide (x ≠ id)).length c' ∧ St W (SlA 3 1 iV p' c' (xs.filter fun x => decide (x ≠ id)) :: F) w' := by
  refine F25_of ⟨fun vs w => ∃ (k : Nat) (p' : Option Addr) (c' : Nat), k ≤ xs.length ∧ vs = [.slice p' ((xs.take k).filter fun x => decide (x ≠ id)).length c', .int .i64 k] ∧ St W (SlA 3 1 iV p' c' ((xs.take k).filter fun x => decide (x ≠ id)) :: F) w, leftN xs.length, ⟨0, none, 0, Nat.zero_le _, rfl, SlA.nil hS⟩, fun op on oc i w hI => ?_⟩
  obtain ⟨k, p', c', hk, he, hS⟩ := hI
  cases he
  refine Bif.i (fun hlt => ?_) fun hge => ?_
  · have hlt : k < xs.length := by have := of_decide_eq_true hlt; omega
    have hx1 : xs[k]? = some xs[k] := List.getElem?_eq_getElem hlt
    have htk : xs.take (k + 1) = xs.take k ++ [xs[k]] := by rw [List.take_add_one, hx1]; rfl
    have hm : leftN xs.length [.int .i64 ((k + 1 : Nat) : Int)] w < leftN xs.length [.int .i64 (k : Int)] w := by show xs.length - (k + 1) < xs.length - k; omega
    have hln := List.length_filter_le (fun x => decide (x ≠ id)) (xs.take k)
    simp only [List.length_take] at hln
    rw [up hlt (by omega)]
    refine IxP.el iV1 (by decide) (hx.cons _) hS rfl hlt hx1 fun a ha => LdI.at (ha 0 _ rfl) (Bif.i (fun hne => ?_) fun he => ?_)
    · have hne : ¬ xs[k] = id := by simpa using hne
      refine IxP.el iV1 (by decide) (hx.cons _) hS rfl hlt hx1 fun a ha => LdI.at (ha 0 _ rfl) (NewC.i hS fun b w1 hS => ?_)
      refine append_el (os := (xs.take k).filter fun x => decide (x ≠ id)) (xs := [xs[k]]) iV1 uIs (.inr ⟨_, uIs⟩) iInt sInt zInt rfl 1 hS rfl (Rd.n 0 rfl fun F => Rd.all) rfl iVn (by rw [bInt]; simp only [List.length_cons, List.length_nil]; omega) (by simp only [List.length_cons, List.length_nil]; omega) fun p2 c2 w2 hS => ⟨_, _, _, rfl, ⟨k + 1, p2, c2, by omega, ?_, ?_⟩, hm⟩
      · rw [htk, List.filter_append]; simp [hne]
      · rw [htk, List.filter_append]
        simp only [List.filter_cons, List.filter_nil, hne, ne_eq, not_false_eq_true, decide_true, if_true]
        exact St.drop hS
    · have he : xs[k] = id := by simpa using he
      refine ⟨⟨k + 1, op, oc, by omega, ?_, ?_⟩, hm⟩
      · rw [htk, List.filter_append]; simp [he]
      · rw [htk, List.filter_append]; simpa [he] using hS
  · have hk2 : k = xs.length := by have := of_decide_eq_false hge; omega
    subst hk2
    rw [List.take_length] at hS ⊢
    exact ⟨op, oc, rfl, hS⟩

theorem gL_nodup {G : QG} (h : QOk G) (n : Name) : (gL G n).Nodup := (List.filter_sublist.map _).nodup h.nod
theorem drop_other {G : QG} (h : QOk G) {id : Int} {n m : Name} (hw : gW G id = some n) (hm : n ≠ m) : gL (gDrop G id) m = gL G m := by
  rw [gL_drop, List.filter_eq_self]
  intro x hx
  simp only [decide_eq_true_eq]
  intro e; subst e
  have := gW_mem h.nod (mem_gL.1 hx)
  rw [hw] at this
  exact hm (Option.some.inj this)
theorem drop_none {G : QG} {id : Int} (hw : gW G id = none) : gDrop G id = G := by
  unfold gDrop
  rw [List.filter_eq_self]
  intro x hx
  simp only [decide_eq_true_eq]
  exact fun e => gW_none.1 hw (List.mem_map.2 ⟨x, hx, e⟩)
theorem drop_head {G : QG} (h : QOk G) {n : Name} {i : Int} {r : List Int} (hl : gL G n = i :: r) : gL (gDrop G i) n = r := by
  rw [gL_drop, hl]
  have := gL_nodup h n
  rw [hl] at this
  simp only [List.nodup_cons] at this
  simp only [List.filter_cons, ne_eq, not_true, decide_false, Bool.false_eq_true, if_false]
  rw [List.filter_eq_self]
  intro x hx
  simp only [decide_eq_true_eq]
  exact fun e => this.1 (e ▸ hx)
theorem head_where {G : QG} (h : QOk G) {n : Name} {i : Int} {r : List Int} (hl : gL G n = i :: r) : gW G i = some n := gW_mem h.nod (mem_gL.1 (by rw [hl]; exact List.mem_cons_self))
theorem put_zero {G : QG} {n : Name} {id : Int} (h : (gPut G n id).2 = 0) : gPut G n id = (G ++ [(n, id)], 0) := by
  unfold gPut at h ⊢
  split at h
  · cases h
  · rename_i h1
    split at h
    · cases h
    · rename_i h2
      rw [if_neg h1, if_neg h2]
theorem put_fst {G : QG} {n : Name} {id : Int} (h : (gPut G n id).2 ≠ 0) : (gPut G n id).1 = G := by
  unfold gPut at h ⊢
  split
  · rfl
  · rename_i h1
    split
    · rfl
    · rename_i h2
      rw [if_neg h1, if_neg h2] at h
      exact (h rfl).elim

theorem Order_walk {W : World} {p : Option Addr} {os : List OpD} {c : Nat} (hl : Rd [Base W] p (os.flatMap opCells)) (hc : os.length ≤ c) (hcm : c ≤ 9223372036854775807) (hok : ∀ o ∈ os, OpOk W o) (name : Name) (hnm : name.size ≤ 9223372036854775807) :
    CallR Try.prog 4 #[.slice p os.length c, .string name] W fun v w' => v = .bool true ∧ ∃ r, St W (Base W :: r) w' := by
  have hlen : os.length ≤ 9223372036854775807 := Nat.le_trans hc hcm
  refine F4_of ((head_spec (St.base W)).of fun v w1 ⟨hv, hS⟩ => ⟨_, hv, ?_⟩)
  refine (New_spec hS).of fun v w ⟨q, hv, hS⟩ => ⟨_, hv, Bif.i (fun h => by cases h) fun _ => ?_⟩
  refine (great_spec hl (by simp) hlen hS.last).of fun v w ⟨b, hv, hb, hS⟩ => ⟨_, hv, Bif.i (fun _ => ⟨rfl, _, hS⟩) fun hb' => ?_⟩
  refine ⟨fun vs w => ∃ (k : Nat) (G : QG) (rp : Option Addr) (rc : Nat), vs = [.slice rp (gL G name).length rc, .int .i64 k] ∧ k ≤ os.length ∧ QOk G ∧ St W [Base W, QueueA q G, SlA 3 1 iV rp rc (gL G name)] w, leftN os.length, ⟨0, [], none, 0, rfl, Nat.zero_le _, QOk.nil, (SlA.nil hS).last⟩, fun rp rn rc i w hI => ?_⟩
  obtain ⟨k, G, rp', rc', he, hk, hQ, hS⟩ := hI
  cases he
  refine Bif.i (fun hlt => ?_) fun _ => ?_
  · have hlt : k < os.length := by have := of_decide_eq_true hlt; omega
    have ho := hok _ (List.getElem_mem hlt)
    refine IxP.el op3 (by decide) (hl.mem (by simp)) hS rfl hlt (List.getElem?_eq_getElem hlt) fun a ha => LdI.at (ha 0 _ rfl) (LdS.at (ha 1 _ rfl) (LdI.at (ha 2 _ rfl) (NewC.n hS fun b w hS => ?_)))
    generalize os[k] = o at ho
    obtain ⟨what, nm, id⟩ := o
    dsimp only [put, del, ins, List.cons_append, List.nil_append, List.append_assoc, List.set, List.length_cons, List.length_nil, Nat.zero_add, Nat.reduceAdd] at hS
    iterate 3 ((first | (refine St1.n 0 hS rfl (Nat.le_of_ble_eq_true rfl) fun w hS => ?_; dsimp only [put, del, ins, List.cons_append, List.nil_append, List.append_assoc, List.set, List.length_cons, List.length_nil, Nat.zero_add, Nat.reduceAdd] at hS) | (refine St1.a 0 hS rfl (Nat.le_of_ble_eq_true rfl) fun w hS => ?_; dsimp only [put, del, ins, List.cons_append, List.nil_append, List.append_assoc, List.set, List.length_cons, List.length_nil, Nat.zero_add, Nat.reduceAdd] at hS) | (refine St1.n 1 hS rfl (Nat.le_of_ble_eq_true rfl) fun w hS => ?_; dsimp only [put, del, ins, List.cons_append, List.nil_append, List.append_assoc, List.set, List.length_cons, List.length_nil, Nat.zero_add, Nat.reduceAdd] at hS) | (refine St1.a 1 hS rfl (Nat.le_of_ble_eq_true rfl) fun w hS => ?_; dsimp only [put, del, ins, List.cons_append, List.nil_append, List.append_assoc, List.set, List.length_cons, List.length_nil, Nat.zero_add, Nat.reduceAdd] at hS) | (refine St1.n 2 hS rfl (Nat.le_of_ble_eq_true rfl) fun w hS => ?_; dsimp only [put, del, ins, List.cons_append, List.nil_append, List.append_assoc, List.set, List.length_cons, List.length_nil, Nat.zero_add, Nat.reduceAdd] at hS) | (refine St1.a 2 hS rfl (Nat.le_of_ble_eq_true rfl) fun w hS => ?_; dsimp only [put, del, ins, List.cons_append, List.nil_append, List.append_assoc, List.set, List.length_cons, List.length_nil, Nat.zero_add, Nat.reduceAdd] at hS) | (refine St1.n 3 hS rfl (Nat.le_of_ble_eq_true rfl) fun w hS => ?_; dsimp only [put, del, ins, List.cons_append, List.nil_append, List.append_assoc, List.set, List.length_cons, List.length_nil, Nat.zero_add, Nat.reduceAdd] at hS) | (refine St1.a 3 hS rfl (Nat.le_of_ble_eq_true rfl) fun w hS => ?_; dsimp only [put, del, ins, List.cons_append, List.nil_append, List.append_assoc, List.set, List.length_cons, List.length_nil, Nat.zero_add, Nat.reduceAdd] at hS) | (refine St1.n 4 hS rfl (Nat.le_of_ble_eq_true rfl) fun w hS => ?_; dsimp only [put, del, ins, List.cons_append, List.nil_append, List.append_assoc, List.set, List.length_cons, List.length_nil, Nat.zero_add, Nat.reduceAdd] at hS) | (refine St1.a 4 hS rfl (Nat.le_of_ble_eq_true rfl) fun w hS => ?_; dsimp only [put, del, ins, List.cons_append, List.nil_append, List.append_assoc, List.set, List.length_cons, List.length_nil, Nat.zero_add, Nat.reduceAdd] at hS) | (refine St1.n 5 hS rfl (Nat.le_of_ble_eq_true rfl) fun w hS => ?_; dsimp only [put, del, ins, List.cons_append, List.nil_append, List.append_assoc, List.set, List.length_cons, List.length_nil, Nat.zero_add, Nat.reduceAdd] at hS) | (refine St1.a 5 hS rfl (Nat.le_of_ble_eq_true rfl) fun w hS => ?_; dsimp only [put, del, ins, List.cons_append, List.nil_append, List.append_assoc, List.set, List.length_cons, List.length_nil, Nat.zero_add, Nat.reduceAdd] at hS) | (refine St1.n 6 hS rfl (Nat.le_of_ble_eq_true rfl) fun w hS => ?_; dsimp only [put, del, ins, List.cons_append, List.nil_append, List.append_assoc, List.set, List.length_cons, List.length_nil, Nat.zero_add, Nat.reduceAdd] at hS) | (refine St1.a 6 hS rfl (Nat.le_of_ble_eq_true rfl) fun w hS => ?_; dsimp only [put, del, ins, List.cons_append, List.nil_append, List.append_assoc, List.set, List.length_cons, List.length_nil, Nat.zero_add, Nat.reduceAdd] at hS) | (refine St1.n 7 hS rfl (Nat.le_of_ble_eq_true rfl) fun w hS => ?_; dsimp only [put, del, ins, List.cons_append, List.nil_append, List.append_assoc, List.set, List.length_cons, List.length_nil, Nat.zero_add, Nat.reduceAdd] at hS) | (refine St1.a 7 hS rfl (Nat.le_of_ble_eq_true rfl) fun w hS => ?_; dsimp only [put, del, ins, List.cons_append, List.nil_append, List.append_assoc, List.set, List.length_cons, List.length_nil, Nat.zero_add, Nat.reduceAdd] at hS) | (refine St1.n 8 hS rfl (Nat.le_of_ble_eq_true rfl) fun w hS => ?_; dsimp only [put, del, ins, List.cons_append, List.nil_append, List.append_assoc, List.set, List.length_cons, List.length_nil, Nat.zero_add, Nat.reduceAdd] at hS) | (refine St1.a 8 hS rfl (Nat.le_of_ble_eq_true rfl) fun w hS => ?_; dsimp only [put, del, ins, List.cons_append, List.nil_append, List.append_assoc, List.set, List.length_cons, List.length_nil, Nat.zero_add, Nat.reduceAdd] at hS) | (refine St1.n 9 hS rfl (Nat.le_of_ble_eq_true rfl) fun w hS => ?_; dsimp only [put, del, ins, List.cons_append, List.nil_append, List.append_assoc, List.set, List.length_cons, List.length_nil, Nat.zero_add, Nat.reduceAdd] at hS) | (refine St1.a 9 hS rfl (Nat.le_of_ble_eq_true rfl) fun w hS => ?_; dsimp only [put, del, ins, List.cons_append, List.nil_append, List.append_assoc, List.set, List.length_cons, List.length_nil, Nat.zero_add, Nat.reduceAdd] at hS) | (refine St1.n 10 hS rfl (Nat.le_of_ble_eq_true rfl) fun w hS => ?_; dsimp only [put, del, ins, List.cons_append, List.nil_append, List.append_assoc, List.set, List.length_cons, List.length_nil, Nat.zero_add, Nat.reduceAdd] at hS) | (refine St1.a 10 hS rfl (Nat.le_of_ble_eq_true rfl) fun w hS => ?_; dsimp only [put, del, ins, List.cons_append, List.nil_append, List.append_assoc, List.set, List.length_cons, List.length_nil, Nat.zero_add, Nat.reduceAdd] at hS) | (refine St1.n 11 hS rfl (Nat.le_of_ble_eq_true rfl) fun w hS => ?_; dsimp only [put, del, ins, List.cons_append, List.nil_append, List.append_assoc, List.set, List.length_cons, List.length_nil, Nat.zero_add, Nat.reduceAdd] at hS) | (refine St1.a 11 hS rfl (Nat.le_of_ble_eq_true rfl) fun w hS => ?_; dsimp only [put, del, ins, List.cons_append, List.nil_append, List.append_assoc, List.set, List.length_cons, List.length_nil, Nat.zero_add, Nat.reduceAdd] at hS)))
    have hrow := hQ.row name
    have next : ∀ (G : QG) (rp : Option Addr) (rc : Nat) (w' : World) (l : List Asn), QOk G → St W (Base W :: QueueA q G :: SlA 3 1 iV rp rc (gL G name) :: l) w' → (∃ (k' : Nat) (G' : QG) (rp' : Option Addr) (rc' : Nat), [Value.slice rp (gL G name).length rc, Value.int .i64 (IntKind.wrap .i64 ((k : Int) + 1))] = [.slice rp' (gL G' name).length rc', .int .i64 k'] ∧ k' ≤ os.length ∧ QOk G' ∧ St W [Base W, QueueA q G', SlA 3 1 iV rp' rc' (gL G' name)] w') ∧ ∀ w0 : World, ∀ v0 : Value, leftN os.length [Value.slice rp (gL G name).length rc, Value.int .i64 (IntKind.wrap .i64 ((k : Int) + 1))] w' < leftN os.length [v0, Value.int .i64 k] w0 := fun G rp rc w' l hQ hS => by
      rw [up hlt hlen]
      exact ⟨⟨k + 1, G, rp, rc, rfl, by omega, hQ, hS.keep [_, _, _]⟩, fun _ _ => by show os.length - (k + 1) < os.length - k; omega⟩
    refine LdI.n 3 hS rfl rfl (Bif.i (fun _ => ?_) fun _ => LdI.n 3 hS rfl rfl (Bif.i (fun _ => ?_) fun _ => ?_))
    · refine LdS.n 3 hS rfl rfl ?_
      (refine (Take_spec nm (hS.at 1 rfl)).of fun v w ⟨hv, hS⟩ => ⟨_, _, hv, ?_⟩; replace hS := St.bk 1 (B := [_]) hS rfl; dsimp only [put, del, ins, List.cons_append, List.nil_append, List.append_assoc, List.set, List.length_cons, List.length_nil, Nat.zero_add, Nat.reduceAdd] at hS)
      cases hl : gL G nm with
      | nil =>
        have e1 : gTake G nm = (G, 0, false) := by unfold gTake; rw [hl]
        rw [e1] at hS ⊢
        refine ⟨fun vs w => vs = [] ∧ St W [Base W, QueueA q G, SlA 3 1 iV rp rc (gL G name), Row b 30 [.int .i64 what, .string nm, .int .i64 id]] w, ?_, fun w ⟨_, hS⟩ => Bif.i (fun h => by cases h) fun _ => ⟨(next G rp rc w _ hQ hS).1, (next G rp rc w _ hQ hS).2 _ _⟩⟩
        refine LdS.n 3 hS rfl rfl ?_
        rw [bytes_beq]
        refine Bif.i (fun hn => ?_) fun _ => Bif.i (fun h => by cases h) fun _ => ⟨rfl, hS⟩
        have hn := of_decide_eq_true hn
        subst hn
        rw [hl]
        exact Bif.i (fun h => by simp at h) fun _ => Bif.i (fun h => by cases h) fun _ => ⟨rfl, by rwa [hl] at hS⟩
      | cons i r =>
        have e1 : gTake G nm = (gDrop G i, i, true) := by unfold gTake; rw [hl]
        rw [e1] at hS ⊢
        have hw := head_where hQ hl
        refine ⟨fun vs w => vs = [] ∧ St W [Base W, QueueA q (gDrop G i), SlA 3 1 iV rp rc (gL G name), Row b 30 [.int .i64 what, .string nm, .int .i64 id]] w, ?_, fun w hJ => ?_⟩
        · refine LdS.n 3 hS rfl rfl ?_
          rw [bytes_beq]
          refine Bif.i (fun hn => ?_) fun hn => Bif.i (fun _ => LdS.n 3 hS rfl rfl ?_) fun _ => ⟨rfl, hS⟩
          · have hn := of_decide_eq_true hn
            subst hn
            refine Bif.i (fun h => by rw [hl] at h; simp at h) fun _ => Bif.i (fun _ => LdS.n 3 hS rfl rfl ?_) fun h => by cases h
            rw [bytes_beq]
            refine Bif.i (fun _ => ?_) fun h => by simp at h
            exact IxP.el (k := 0) (x := i) iV1 (by decide) (Rd.n 2 rfl SlA.rd) hS rfl (by rw [hl]; simp) (by rw [hl]; rfl) fun a ha => LdI.at (ha 0 _ rfl) (Bif.i (fun h => by simp at h) fun _ => ⟨rfl, hS⟩)
          · rw [bytes_beq]
            exact Bif.i (fun h => by rw [hn] at h; cases h) fun _ => ⟨rfl, hS⟩
        · obtain ⟨_, hS⟩ := hJ
          refine Bif.i (fun _ => LdS.n 3 hS rfl rfl ?_) fun h => by cases h
          rw [bytes_beq]
          refine Bif.i (fun hn => ?_) fun hn => ?_
          · have hn := of_decide_eq_true hn
            subst hn
            rw [hl] at hS hrow ⊢
            have e2 := drop_head hQ hl
            simp only [List.length_cons] at hrow
            refine NewC.n hS fun b2 w2 hS => ?_
            have hS : St W [Base W, QueueA q (gDrop G i), SlA 3 1 iV rp rc (i :: r), Row b 30 [.int .i64 what, .string nm, .int .i64 id], SlA 3 1 iV (some ⟨b2, 0, none⟩) 0 []] w2 := St.mv 0 4 (SlA.of_row (os := []) iV1 (St.mv 4 0 hS rfl)) rfl
            have hle := SlA.le (hS.at 2 rfl)
            refine SlP.i (F := [Base W, QueueA q (gDrop G i), SlA 3 1 iV rp rc (i :: r), Row b 30 [.int .i64 what, .string nm, .int .i64 id]]) (a := 1) (b := (i :: r).length) (Rd.n 2 rfl SlA.rd) (flat_length iV 1 iV1 _) hle rfl rfl (by simp) (Nat.le_refl _) fun p3 hr3 => ?_
            have e3 : (((i :: r).flatMap iV).drop (1 * 1)).take (((i :: r).length - 1) * 1) = r.flatMap iV := by
              rw [List.flatMap_cons]
              show ((iV i ++ r.flatMap iV).drop 1).take _ = _
              rw [show (iV i ++ r.flatMap iV).drop 1 = r.flatMap iV from rfl]
              exact List.take_of_length_le (by rw [flat_length iV 1 iV1]; simp)
            rw [e3] at hr3
            refine append_el (os := []) (xs := r) iV1 uIs (.inr ⟨_, uIs⟩) iInt sInt zInt rfl 4 hS rfl hr3 (by simp) iVn (by rw [bInt]; simp; omega) (by simp; omega) fun p4 c4 w4 hS => ⟨_, _, _, rfl, ?_⟩
            have hS : St W [Base W, QueueA q (gDrop G i), SlA 3 1 iV p4 c4 (gL (gDrop G i) nm)] w4 := by
              rw [e2]
              exact St.del 2 (St.del 2 hS rfl) rfl
            have := next (gDrop G i) p4 c4 w4 [] (hQ.drop i) hS
            rw [e2] at this
            exact ⟨this.1, this.2 _ _⟩
          · have hn := of_decide_eq_false hn
            have e2 : gL (gDrop G i) name = gL G name := drop_other hQ hw hn
            have := next (gDrop G i) rp rc w _ (hQ.drop i) (by rw [e2]; exact hS)
            rw [e2] at this
            exact ⟨this.1, this.2 _ _⟩
    · refine LdI.n 3 hS rfl rfl ?_
      (refine (Where_spec id (hS.at 1 rfl)).of fun v w ⟨hv, hS⟩ => ⟨_, _, hv, ?_⟩; replace hS := St.bk 1 (B := [_]) hS rfl; dsimp only [put, del, ins, List.cons_append, List.nil_append, List.append_assoc, List.set, List.length_cons, List.length_nil, Nat.zero_add, Nat.reduceAdd] at hS)
      refine LdI.n 3 hS rfl rfl ?_
      (refine (Drop_spec id (hS.at 1 rfl)).of fun v w ⟨hv, hS⟩ => ⟨_, hv, ?_⟩; replace hS := St.bk 1 (B := [_]) hS rfl; dsimp only [put, del, ins, List.cons_append, List.nil_append, List.append_assoc, List.set, List.length_cons, List.length_nil, Nat.zero_add, Nat.reduceAdd] at hS)
      refine Bif.i (fun h => by simp at h) fun _ => ?_
      cases hw : gW G id with
      | none =>
        rw [drop_none hw] at hS
        exact Bif.i (fun h => by simp at h) fun _ => ⟨(next G rp rc w _ hQ hS).1, (next G rp rc w _ hQ hS).2 _ _⟩
      | some n =>
        refine Bif.i (fun _ => ?_) fun h => by simp at h
        rw [Option.getD_some, bytes_beq]
        refine Bif.i (fun hn => ?_) fun hn => ?_
        · have hn := of_decide_eq_true hn
          subst hn
          refine LdI.n 3 hS rfl rfl ((without_spec id (Rd.n 2 rfl SlA.rd) (by omega) hS).of fun v w2 ⟨p4, c4, hv, hS⟩ => ⟨_, _, _, hv, ?_⟩)
          rw [← gL_drop] at hS ⊢
          have hS : St W [Base W, QueueA q (gDrop G id), SlA 3 1 iV p4 c4 (gL (gDrop G id) n), Row b 30 [.int .i64 what, .string nm, .int .i64 id]] w2 := St.mv 0 2 (St.del 3 hS rfl) rfl
          have := next (gDrop G id) p4 c4 w2 _ (hQ.drop id) hS
          exact ⟨this.1, this.2 _ _⟩
        · have hn := of_decide_eq_false hn
          have e2 : gL (gDrop G id) name = gL G name := drop_other hQ hw hn
          have := next (gDrop G id) rp rc w _ (hQ.drop id) (by rw [e2]; exact hS)
          rw [e2] at this
          exact ⟨this.1, this.2 _ _⟩
    · refine LdS.n 3 hS rfl rfl (LdI.n 3 hS rfl rfl ?_)
      (refine (Put_spec nm id (hS.at 1 rfl)).of fun v w ⟨hv, hS⟩ => ⟨_, hv, ?_⟩; replace hS := St.bk 1 (B := [_]) hS rfl; dsimp only [put, del, ins, List.cons_append, List.nil_append, List.append_assoc, List.set, List.length_cons, List.length_nil, Nat.zero_add, Nat.reduceAdd] at hS)
      refine Bif.i (fun h0 => LdS.n 3 hS rfl rfl ?_) fun h0 => ?_
      · have h0 : (gPut G nm id).2 = 0 := by simpa using h0
        have hQ' := hQ.put nm id
        rw [put_zero h0] at hS hQ'
        rw [bytes_beq]
        refine Bif.i (fun hn => LdI.n 3 hS rfl rfl (NewC.n hS fun b2 w2 hS => ?_)) fun hn => ?_
        · have hn := of_decide_eq_true hn
          subst hn
          have e2 : gL (G ++ [(nm, id)]) nm = gL G nm ++ [id] := by rw [gL_app, gL_one, if_pos rfl]
          refine append_el (os := gL G nm) (xs := [id]) iV1 uIs (.inr ⟨_, uIs⟩) iInt sInt zInt rfl 2 hS rfl (Rd.n 3 rfl fun F => Rd.all) rfl iVn (by rw [bInt]; simp; omega) (by simp; omega) fun p4 c4 w4 hS => ⟨_, _, _, rfl, ?_⟩
          rw [← e2] at hS ⊢
          have := next (G ++ [(nm, id)]) p4 c4 w4 _ hQ' hS
          exact ⟨this.1, this.2 _ _⟩
        · have hn := of_decide_eq_false hn
          have e2 : gL (G ++ [(nm, id)]) name = gL G name := by rw [gL_app, gL_one, if_neg hn, List.append_nil]
          have := next (G ++ [(nm, id)]) rp rc w _ hQ' (by rw [e2]; exact hS)
          rw [e2] at this
          exact ⟨this.1, this.2 _ _⟩
      · have h0 : (gPut G nm id).2 ≠ 0 := by simpa using h0
        rw [put_fst h0] at hS
        exact ⟨(next G rp rc w _ hQ hS).1, (next G rp rc w _ hQ hS).2 _ _⟩
  · refine Bif.i (fun _ => ?_) fun h => by cases h
    refine (List_spec name (hS.at 1 rfl)).of fun v w2 ⟨p2, c2, hv, hS⟩ => ⟨_, _, _, hv, ?_⟩
    have hrow := hQ.row name
    refine (Same_spec (Rd.n 0 rfl SlA.rd) (Rd.n 3 rfl SlA.rd) (by omega) hS).of fun v w3 ⟨hv, hS⟩ => ⟨_, hv, by simp, _, St.mv 2 0 hS rfl⟩
end Go.Proofs.Ytdecmdbojmdaeaa
