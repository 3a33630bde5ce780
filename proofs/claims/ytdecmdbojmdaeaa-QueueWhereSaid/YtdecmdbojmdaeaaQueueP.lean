/-
  Who waits, in plain Lean: all of them in the order in which they came; and what maps of rows say the same.
-/
import Derived.Test.YtdecmdbojmdaeaaSl
set_option linter.unusedVariables false
set_option linter.unusedSimpArgs false
namespace Go.Proofs.Ytdecmdbojmdaeaa
open Go

abbrev Name := ByteArray
abbrev QG := List (Name × Int)
def gL (G : QG) (n : Name) : List Int := (G.filter fun x => decide (x.1 = n)).map (·.2)
def gW : QG → Int → Option Name
  | [], _ => none
  | x :: r, id => if x.2 = id then some x.1 else gW r id
def gDrop (G : QG) (id : Int) : QG := G.filter fun x => decide (x.2 ≠ id)
def gPut (G : QG) (n : Name) (id : Int) : QG × Int :=
  if (gW G id).isSome then (G, 4) else if 8 ≤ (gL G n).length ∨ 64 ≤ G.length then (G, 2) else (G ++ [(n, id)], 0)
def gTake (G : QG) (n : Name) : QG × Int × Bool := match gL G n with
  | [] => (G, 0, false)
  | id :: _ => (gDrop G id, id, true)
/-- Nobody waits twice; there are no more than may be. -/
structure QOk (G : QG) : Prop where
  nod : (G.map (·.2)).Nodup
  row : ∀ n, (gL G n).length ≤ 8
  all : G.length ≤ 64

theorem gW_none {G : QG} {id : Int} : gW G id = none ↔ id ∉ G.map (·.2) := by
  induction G with
  | nil => simp [gW]
  | cons x r ih =>
    simp only [gW, List.map_cons, List.mem_cons, not_or]
    split
    · rename_i h; simp [h]
    · rename_i h; rw [ih]; exact ⟨fun k => ⟨fun e => h e.symm, k⟩, fun k => k.2⟩
theorem gW_some {G : QG} {id : Int} {n : Name} (h : gW G id = some n) : (n, id) ∈ G := by
  induction G with
  | nil => simp [gW] at h
  | cons x r ih =>
    simp only [gW] at h
    split at h
    · rename_i e; cases h; subst e; exact List.mem_cons_self
    · exact List.mem_cons_of_mem _ (ih h)
theorem gW_mem {G : QG} (hn : (G.map (·.2)).Nodup) {id : Int} {n : Name} (h : (n, id) ∈ G) : gW G id = some n := by
  induction G with
  | nil => cases h
  | cons x r ih =>
    simp only [List.map_cons, List.nodup_cons] at hn
    simp only [gW]
    rcases List.mem_cons.1 h with h | h
    · subst h; simp
    · have : x.2 ≠ id := fun e => hn.1 (List.mem_map.2 ⟨_, h, e.symm⟩)
      rw [if_neg this]; exact ih hn.2 h
theorem mem_gL {G : QG} {n : Name} {id : Int} : id ∈ gL G n ↔ (n, id) ∈ G := by
  unfold gL
  simp only [List.mem_map, List.mem_filter, decide_eq_true_eq]
  constructor
  · rintro ⟨x, ⟨hx, rfl⟩, rfl⟩; exact hx
  · intro h; exact ⟨_, ⟨h, rfl⟩, rfl⟩
theorem gL_app (G H : QG) (n : Name) : gL (G ++ H) n = gL G n ++ gL H n := by simp [gL]
theorem gL_one (m n : Name) (id : Int) : gL [(m, id)] n = if m = n then [id] else [] := by
  unfold gL
  by_cases h : m = n <;> simp [h]
theorem gW_app (G : QG) (m : Name) (id j : Int) (h : gW G id = none) : gW (G ++ [(m, id)]) j = if id = j then some m else gW G j := by
  induction G with
  | nil => simp [gW]
  | cons x r ih =>
    simp only [gW] at h
    split at h
    · cases h
    · rename_i hx
      simp only [List.cons_append, gW, ih h]
      by_cases e : x.2 = j
      · rw [if_pos e, if_pos e, if_neg (fun k => hx (e.trans k.symm))]
      · rw [if_neg e, if_neg e]
theorem gW_drop (G : QG) (id j : Int) : gW (gDrop G id) j = if id = j then none else gW G j := by
  induction G with
  | nil => simp [gW, gDrop]
  | cons x r ih =>
    unfold gDrop at ih ⊢
    simp only [List.filter_cons]
    by_cases h : x.2 = id
    · simp only [h, ne_eq, not_true, decide_false, Bool.false_eq_true, if_false, ih, gW]
      by_cases e : id = j
      · rw [if_pos e, if_pos e]
      · rw [if_neg e, if_neg e, if_neg e]
    · simp only [ne_eq, h, not_false_eq_true, decide_true, if_true, gW, ih]
      by_cases e : x.2 = j
      · rw [if_pos e, if_pos e, if_neg (fun k => h (e.trans k.symm))]
      · rw [if_neg e, if_neg e]
theorem gL_drop (G : QG) (id : Int) (n : Name) : gL (gDrop G id) n = (gL G n).filter fun x => decide (x ≠ id) := by
  unfold gL gDrop
  rw [List.filter_map, List.filter_filter, List.filter_filter]
  congr 1
  refine List.filter_congr fun x _ => ?_
  simp [Function.comp_def, Bool.and_comm]
theorem gDrop_len (G : QG) (id : Int) : (gDrop G id).length ≤ G.length := List.length_filter_le _ _
theorem QOk.nil : QOk [] := ⟨by simp, fun n => by simp [gL], by simp⟩
theorem QOk.drop {G : QG} (h : QOk G) (id : Int) : QOk (gDrop G id) := ⟨(List.filter_sublist.map _).nodup h.nod, fun n => by
  rw [gL_drop]; exact Nat.le_trans (List.length_filter_le _ _) (h.row n), Nat.le_trans (gDrop_len G id) h.all⟩
theorem QOk.put {G : QG} (h : QOk G) (n : Name) (id : Int) : QOk (gPut G n id).1 := by
  unfold gPut
  split
  · exact h
  · rename_i h1
    split
    · exact h
    · rename_i h2
      have h1 : gW G id = none := by simpa using h1
      rw [not_or] at h2
      refine ⟨?_, fun m => ?_, by simp; omega⟩
      · rw [List.map_append]
        exact List.nodup_append.2 ⟨h.nod, by simp, fun a ha b hb => by simp at hb; subst hb; exact fun e => gW_none.1 h1 (e ▸ ha)⟩
      · rw [gL_app, gL_one]
        by_cases e : n = m
        · subst e; simp; omega
        · simp [e]; exact h.row m
theorem QOk.take {G : QG} (h : QOk G) (n : Name) : QOk (gTake G n).1 := by
  unfold gTake
  split
  · exact h
  · exact h.drop _

/-! ### Rows by names -/
structure RepQ (rows : List (Name × List Int)) (wh : List (Int × Name)) (G : QG) : Prop where
  ok : QOk G
  keys : (rows.map (·.1)).Nodup
  row : ∀ n, (aget rows n).getD [] = gL G n
  full : ∀ x ∈ rows, x.2 ≠ []
  wh : ∀ id, aget wh id = gW G id
theorem RepQ.nil : RepQ [] [] [] := ⟨QOk.nil, by simp, fun n => rfl, by simp, fun id => rfl⟩
theorem RepQ.nil_iff {rows : List (Name × List Int)} {wh : List (Int × Name)} {G : QG} (h : RepQ rows wh G) {n : Name} : aget rows n = none ↔ gL G n = [] := by
  have := h.row n
  constructor
  · intro e; rw [e] at this; exact this.symm
  · intro e
    cases hg : aget rows n with
    | none => rfl
    | some x =>
      rw [hg, e] at this
      exact (h.full _ (aget_some hg) this).elim
def sumL (rows : List (Name × List Int)) : Nat := (rows.map fun x => x.2.length).sum
theorem count_rows (G : QG) : ∀ (K : List Name), K.Nodup → (∀ x ∈ G, x.1 ∈ K) → (K.map fun n => (gL G n).length).sum = G.length := by
  induction G with
  | nil => intro K _ _; simp [gL]; induction K with | nil => rfl | cons a r ih => simp_all
  | cons g r ih =>
    intro K hK hm
    have h1 := ih K hK fun x hx => hm x (List.mem_cons_of_mem _ hx)
    have step : ∀ (K : List Name), K.Nodup → (g.1 ∈ K → (K.map fun n => (gL (g :: r) n).length).sum = (K.map fun n => (gL r n).length).sum + 1) ∧ (g.1 ∉ K → (K.map fun n => (gL (g :: r) n).length).sum = (K.map fun n => (gL r n).length).sum) := by
      intro K
      induction K with
      | nil => intro _; simp
      | cons a K ihK =>
        intro hn
        simp only [List.nodup_cons] at hn
        obtain ⟨i1, i2⟩ := ihK hn.2
        simp only [List.map_cons, List.sum_cons, List.mem_cons, not_or]
        have e : g.1 = a → (gL (g :: r) a).length = (gL r a).length + 1 := fun h => by unfold gL; simp [h]
        have e' : g.1 ≠ a → (gL (g :: r) a).length = (gL r a).length := fun h => by unfold gL; simp [h]
        constructor
        · rintro (h | h)
          · have : g.1 ∉ K := by rw [h]; exact hn.1
            rw [e h, i2 this]; omega
          · have : g.1 ≠ a := fun e => hn.1 (e ▸ h)
            rw [e' this, i1 h]; omega
        · rintro ⟨h, h2⟩
          rw [e' h, i2 h2]
    rw [(step K hK).1 (hm g List.mem_cons_self), h1, List.length_cons]

theorem RepQ.sum {rows : List (Name × List Int)} {wh : List (Int × Name)} {G : QG} (h : RepQ rows wh G) : sumL rows = G.length := by
  rw [← count_rows G (rows.map (·.1)) h.keys]
  · unfold sumL
    rw [List.map_map]
    congr 1
    refine List.map_congr_left fun x hx => ?_
    have h1 := h.row x.1
    rw [aget_mem h.keys (show (x.1, x.2) ∈ rows from hx)] at h1
    simp only [Option.getD_some] at h1
    simp [h1]
  · intro x hx
    have : x.2 ∈ gL G x.1 := mem_gL.2 hx
    cases hg : aget rows x.1 with
    | none => rw [h.nil_iff.1 hg] at this; cases this
    | some l => exact List.mem_map.2 ⟨_, aget_some hg, rfl⟩
theorem RepQ.put {rows : List (Name × List Int)} {wh : List (Int × Name)} {G : QG} (h : RepQ rows wh G) {n : Name} {id : Int} (h1 : gW G id = none) (h2 : (gL G n).length < 8) (h3 : G.length < 64) :
    RepQ (aset rows n ((aget rows n).getD [] ++ [id])) (aset wh id n) (G ++ [(n, id)]) := by
  have hok := h.ok.put n id
  have hp : gPut G n id = (G ++ [(n, id)], 0) := by
    unfold gPut
    rw [if_neg (by simp [h1]), if_neg (by omega)]
  rw [hp] at hok
  refine ⟨hok, aset_nodup h.keys _ _, fun m => ?_, fun x hx => ?_, fun j => ?_⟩
  · rw [aget_aset, gL_app, gL_one]
    by_cases e : n = m
    · subst e; simp [h.row n]
    · simp [e, h.row m]
  · rcases aset_mem hx with rfl | hx
    · simp
    · exact h.full x hx
  · rw [aget_aset, gW_app _ _ _ _ h1, h.wh]
where
  aset_mem {L : List (Name × List Int)} {k : Name} {v : List Int} {x : Name × List Int} (hx : x ∈ aset L k v) : x = (k, v) ∨ x ∈ L := by
    induction L with
    | nil => simp [aset] at hx; exact .inl hx
    | cons y r ih =>
      simp only [aset] at hx
      split at hx
      · rcases List.mem_cons.1 hx with h | h
        · exact .inl h
        · exact .inr (List.mem_cons_of_mem _ h)
      · rcases List.mem_cons.1 hx with h | h
        · subst h; exact .inr List.mem_cons_self
        · rcases ih h with h | h
          · exact .inl h
          · exact .inr (List.mem_cons_of_mem _ h)
def leftOver (rows : List (Name × List Int)) (n : Name) (id : Int) : List Int := ((aget rows n).getD []).filter fun x => decide (x ≠ id)
def dropRows (rows : List (Name × List Int)) (n : Name) (id : Int) : List (Name × List Int) :=
  if leftOver rows n id = [] then adel (aset rows n (leftOver rows n id)) n else aset rows n (leftOver rows n id)
theorem RepQ.drop {rows : List (Name × List Int)} {wh : List (Int × Name)} {G : QG} (h : RepQ rows wh G) (hk : (wh.map (·.1)).Nodup) {n : Name} {id : Int} (h1 : gW G id = some n) :
    RepQ (dropRows rows n id) (adel wh id) (gDrop G id) := by
  have hn : (aset rows n (leftOver rows n id)).map (·.1) |>.Nodup := aset_nodup h.keys _ _
  have hlo : leftOver rows n id = gL (gDrop G id) n := by rw [gL_drop]; unfold leftOver; rw [h.row]
  have hoth : ∀ m, n ≠ m → gL (gDrop G id) m = gL G m := fun m hm => by
    rw [gL_drop, List.filter_eq_self]
    intro x hx
    simp only [decide_eq_true_eq]
    intro e; subst e
    have := gW_mem h.ok.nod (mem_gL.1 hx)
    rw [h1] at this
    exact hm (Option.some.inj this)
  refine ⟨h.ok.drop id, ?_, fun m => ?_, fun x hx => ?_, fun j => ?_⟩
  · unfold dropRows
    split
    · exact adel_nodup hn n
    · exact hn
  · unfold dropRows
    split
    · rename_i e
      rw [aget_adel hn, aget_aset]
      by_cases hm : n = m
      · subst hm; simp [← hlo, e]
      · simp only [if_neg hm, h.row, hoth m hm]
    · rename_i e
      rw [aget_aset]
      by_cases hm : n = m
      · subst hm; simp [hlo]
      · simp only [if_neg hm, h.row, hoth m hm]
  · unfold dropRows at hx
    split at hx
    · rename_i e
      have hx1 := (adel_keys _ _).subset hx
      rcases RepQ.put.aset_mem hx1 with rfl | hx2
      · have := aget_mem (adel_nodup hn n) hx
        rw [aget_adel hn] at this
        simp at this
      · exact h.full x hx2
    · rename_i e
      rcases RepQ.put.aset_mem hx with rfl | hx2
      · exact e
      · exact h.full x hx2
  · rw [aget_adel hk, gW_drop, h.wh]
end Go.Proofs.Ytdecmdbojmdaeaa
