/-
  Maps, as lists of keys and what stands by them.
-/
import Derived.Test.YtbfccpbijimjmaaPos
import Derived.Maps.RangeRun
set_option linter.unusedVariables false
set_option linter.unusedSimpArgs false
namespace Go.Proofs.Ytbfccpbijimjmaa
open Go Go.MapKept

/-! ### Lists of keys -/
section
variable {κ ν : Type} [DecidableEq κ]
def aget : List (κ × ν) → κ → Option ν
  | [], _ => none
  | x :: r, k => if x.1 = k then some x.2 else aget r k
def aset : List (κ × ν) → κ → ν → List (κ × ν)
  | [], k, v => [(k, v)]
  | x :: r, k, v => if x.1 = k then (k, v) :: r else x :: aset r k v
def adel : List (κ × ν) → κ → List (κ × ν)
  | [], _ => []
  | x :: r, k => if x.1 = k then r else x :: adel r k
theorem aget_none {L : List (κ × ν)} {k : κ} : aget L k = none ↔ ∀ x ∈ L, x.1 ≠ k := by
  induction L with
  | nil => simp [aget]
  | cons x r ih =>
    simp only [aget]
    split
    · rename_i h; simp [h]
    · rename_i h; simp [ih, h]
theorem aget_some {L : List (κ × ν)} {k : κ} {v : ν} (h : aget L k = some v) : (k, v) ∈ L := by
  induction L with
  | nil => simp [aget] at h
  | cons x r ih =>
    simp only [aget] at h
    split at h
    · rename_i e; cases h; subst e; exact List.mem_cons_self
    · exact List.mem_cons_of_mem _ (ih h)
theorem aget_mem {L : List (κ × ν)} (hn : (L.map (·.1)).Nodup) {k : κ} {v : ν} (h : (k, v) ∈ L) : aget L k = some v := by
  induction L with
  | nil => cases h
  | cons x r ih =>
    simp only [List.map_cons, List.nodup_cons] at hn
    simp only [aget]
    rcases List.mem_cons.1 h with h | h
    · subst h; simp
    · have : x.1 ≠ k := fun e => hn.1 (List.mem_map.2 ⟨_, h, e.symm⟩)
      rw [if_neg this]; exact ih hn.2 h
theorem aget_aset (L : List (κ × ν)) (k j : κ) (v : ν) : aget (aset L k v) j = if k = j then some v else aget L j := by
  induction L with
  | nil => simp [aset, aget]
  | cons x r ih =>
    simp only [aset]
    split
    · rename_i h
      simp only [aget, h]
      split <;> rfl
    · rename_i h
      simp only [aget, ih]
      by_cases hj : x.1 = j
      · rw [if_pos hj, if_pos hj, if_neg (fun e => h (hj.trans e.symm))]
      · rw [if_neg hj, if_neg hj]
theorem adel_keys (L : List (κ × ν)) (k : κ) : (adel L k).Sublist L := by
  induction L with
  | nil => exact .slnil
  | cons x r ih =>
    simp only [adel]
    split
    · exact List.sublist_cons_self _ _
    · exact ih.cons_cons _
theorem aget_adel {L : List (κ × ν)} (hn : (L.map (·.1)).Nodup) (k j : κ) : aget (adel L k) j = if k = j then none else aget L j := by
  induction L with
  | nil => simp [adel, aget]
  | cons x r ih =>
    simp only [List.map_cons, List.nodup_cons] at hn
    simp only [adel]
    split
    · rename_i h
      by_cases hj : k = j
      · rw [if_pos hj, aget_none]
        exact fun y hy e => hn.1 (List.mem_map.2 ⟨y, hy, by rw [e, ← hj, ← h]⟩)
      · rw [if_neg hj]
        simp only [aget]
        rw [if_neg (fun e => hj (h.symm.trans e))]
    · rename_i h
      simp only [aget, ih hn.2]
      by_cases hj : x.1 = j
      · rw [if_pos hj, if_pos hj, if_neg (fun e => h (hj.trans e.symm))]
      · rw [if_neg hj, if_neg hj]
theorem aset_keys (L : List (κ × ν)) (k : κ) (v : ν) : (aset L k v).map (·.1) = if aget L k = none then L.map (·.1) ++ [k] else L.map (·.1) := by
  induction L with
  | nil => simp [aset, aget]
  | cons x r ih =>
    simp only [aset, aget]
    by_cases h : x.1 = k
    · simp [h]
    · simp only [if_neg h, List.map_cons, ih]
      split <;> simp
theorem aset_nodup {L : List (κ × ν)} (hn : (L.map (·.1)).Nodup) (k : κ) (v : ν) : ((aset L k v).map (·.1)).Nodup := by
  rw [aset_keys]
  split
  · rename_i h
    rw [aget_none] at h
    refine List.nodup_append.2 ⟨hn, by simp, fun a ha b hb => ?_⟩
    simp only [List.mem_singleton] at hb
    subst hb
    obtain ⟨x, hx, rfl⟩ := List.mem_map.1 ha
    exact h x hx
  · exact hn
theorem adel_nodup {L : List (κ × ν)} (hn : (L.map (·.1)).Nodup) (k : κ) : ((adel L k).map (·.1)).Nodup := ((adel_keys L k).map _).nodup hn
theorem adel_none {L : List (κ × ν)} {k : κ} (h : aget L k = none) : adel L k = L := by
  induction L with
  | nil => rfl
  | cons x r ih =>
    simp only [aget] at h
    split at h
    · cases h
    · rename_i hx; simp only [adel, if_neg hx, ih h]
theorem aset_none {L : List (κ × ν)} {k : κ} {v : ν} (h : aget L k = none) : aset L k v = L ++ [(k, v)] := by
  induction L with
  | nil => rfl
  | cons x r ih =>
    simp only [aget] at h
    split at h
    · cases h
    · rename_i hx; simp only [aset, if_neg hx, ih h, List.cons_append]
theorem aset_at {L : List (κ × ν)} {k : κ} {v u : ν} {j : Nat} (hn : (L.map (·.1)).Nodup) (h : L[j]? = some (k, u)) : aset L k v = L.set j (k, v) := by
  induction L generalizing j with
  | nil => simp at h
  | cons x r ih =>
    simp only [List.map_cons, List.nodup_cons] at hn
    cases j with
    | zero => simp at h; subst h; simp [aset]
    | succ j =>
      have h' : r[j]? = some (k, u) := by simpa using h
      have : x.1 ≠ k := fun e => hn.1 (List.mem_map.2 ⟨_, List.mem_of_getElem? h', e.symm⟩)
      simp only [aset, if_neg this, List.set_cons_succ, ih hn.2 h']
theorem adel_at {L : List (κ × ν)} {k : κ} {u : ν} {j : Nat} (hn : (L.map (·.1)).Nodup) (h : L[j]? = some (k, u)) : adel L k = L.eraseIdx j := by
  induction L generalizing j with
  | nil => simp at h
  | cons x r ih =>
    simp only [List.map_cons, List.nodup_cons] at hn
    cases j with
    | zero => simp at h; subst h; simp [adel]
    | succ j =>
      have h' : r[j]? = some (k, u) := by simpa using h
      have : x.1 ≠ k := fun e => hn.1 (List.mem_map.2 ⟨_, List.mem_of_getElem? h', e.symm⟩)
      simp only [adel, if_neg this, List.eraseIdx_cons_succ, ih hn.2 h']
theorem aget_at {L : List (κ × ν)} {k : κ} {u : ν} {j : Nat} (hn : (L.map (·.1)).Nodup) (h : L[j]? = some (k, u)) : aget L k = some u := aget_mem hn (List.mem_of_getElem? h)
end

theorem map_erase {α β : Type} (f : α → β) : ∀ (l : List α) (j : Nat), (l.eraseIdx j).map f = (l.map f).eraseIdx j
  | [], j => by simp
  | x :: r, 0 => by simp
  | x :: r, j + 1 => by simp [map_erase f r j]

/-! ### A block that is no row is turned -/
theorem St.turn {W w : World} {r : List Asn} {b : Nat} {o o' : Obj} (h : St W (Pt b o :: r) w) : w.heap[b]? = some o ∧ St W (Pt b o' :: r) { w with heap := w.heap.setIfInBounds b o' } := by
  obtain ⟨h0, g, h1, hb, h3⟩ := h
  have hw : w.heap[b]? = some o := h1 b _ hb
  have hlt : b < w.heap.size := lt_of_heap hw
  refine ⟨hw, ⟨h0.os, h0.tape, h0.output, by simpa using h0.size⟩, fun x => if x = b then some o' else g x, fun x u hx => ?_, by simp [Pt], Own.mono (fun x u hx => ?_) h3⟩
  · simp only at hx
    unfold hpOf
    simp only [Array.getElem?_setIfInBounds]
    split at hx
    · rename_i e; subst e; cases hx; simp [hlt]
    · rename_i e; rw [if_neg (fun h => e h.symm)]; exact h1 x u hx
  · unfold cutH at hx ⊢
    cases hg : g x with
    | some u => simp [hg] at hx
    | none =>
      simp only [hg] at hx
      have hxb : ¬ x = b := fun e => by subst e; rw [show g x = some o from hb] at hg; cases hg
      simp only [if_neg hxb, hg]
      unfold hpOf
      simp only [Array.getElem?_setIfInBounds]
      rw [if_neg (fun h => hxb h.symm)]
      exact hx

/-! ### A map -/
structure Keys (P : Program) (kt : TypeId) {κ : Type} (enc : κ → Value) : Prop where
  kind : ∃ d, P.underlying kt = some d ∧ ∀ k, IsKey d (enc k)
  inj : ∀ a b, enc a = enc b → a = b
theorem Keys.i64 {P : Program} {kt : TypeId} (h : P.underlying kt = some (.int .i64)) : Keys P kt (Value.int .i64) := ⟨⟨_, h, fun _ => rfl⟩, fun a b h => by cases h; rfl⟩
theorem Keys.str {P : Program} {kt : TypeId} (h : P.underlying kt = some .string) : Keys P kt Value.string := ⟨⟨_, h, fun _ => trivial⟩, fun a b h => by cases h; rfl⟩

section
variable {κ ν : Type} {P : Program} {kt et mt : TypeId} {enc : κ → Value} {vl : ν → Value}
def entL (enc : κ → Value) (vl : ν → Value) (L : List (κ × ν)) : List (Value × Value) := L.map fun x => (enc x.1, vl x.2)
def MapOf (enc : κ → Value) (vl : ν → Value) (m : Nat) (L : List (κ × ν)) : Asn := exA fun x : Array MapEntry × Nat => sepA [
  prA (Stamped x.1 x.2 ∧ x.1.toList.map (fun e => (e.key, e.val)) = entL enc vl L), Pt m (.map x.1 x.2)]
theorem MapOf.open_ {W w : World} {F : List Asn} {m : Nat} {L : List (κ × ν)} (h : St W (MapOf enc vl m L :: F) w) :
    ∃ es clock, Stamped es clock ∧ es.toList.map (fun e => (e.key, e.val)) = entL enc vl L ∧ St W (Pt m (.map es clock) :: F) w := by
  obtain ⟨⟨es, clock⟩, h⟩ := h.of_ex
  obtain ⟨⟨h1, h2⟩, h⟩ := h.of_sep.of_pr
  exact ⟨es, clock, h1, h2, h⟩
theorem MapOf.shut {W w : World} {F : List Asn} {m clock : Nat} {es : Array MapEntry} {L : List (κ × ν)} (h1 : Stamped es clock) (h2 : es.toList.map (fun e => (e.key, e.val)) = entL enc vl L) (h : St W (Pt m (.map es clock) :: F) w) : St W (MapOf enc vl m L :: F) w :=
  St.to_ex (es, clock) (St.to_sep (l := [_, _]) (St.to_pr ⟨h1, h2⟩ h))
theorem ent_key {es : Array MapEntry} {L : List (κ × ν)} (h : es.toList.map (fun e => (e.key, e.val)) = entL enc vl L) : es.toList.map (·.key) = (L.map (·.1)).map enc := by
  have := congrArg (List.map Prod.fst) h
  simpa [entL, Function.comp_def] using this
theorem ent_at {es : Array MapEntry} {L : List (κ × ν)} (h : es.toList.map (fun e => (e.key, e.val)) = entL enc vl L) {j : Nat} {e : MapEntry} (he : es.toList[j]? = some e) : ∃ k v, L[j]? = some (k, v) ∧ e.key = enc k ∧ e.val = vl v := by
  have := congrArg (fun l : List (Value × Value) => l[j]?) h
  simp only [entL, List.getElem?_map, he, Option.map_some] at this
  cases hL : L[j]? with
  | none => rw [hL] at this; cases this
  | some x => rw [hL] at this; simp at this; exact ⟨x.1, x.2, rfl, this.1, this.2⟩
theorem MapOf.nodup (hk : Keys P kt enc) {es : Array MapEntry} {clock : Nat} {L : List (κ × ν)} (hs : Stamped es clock) (h : es.toList.map (fun e => (e.key, e.val)) = entL enc vl L) : (L.map (·.1)).Nodup := by
  have := hs.2.2
  rw [ent_key h] at this
  exact List.Pairwise.of_map enc (fun a b hab e => hab (congrArg enc e)) this
end
section
variable {κ ν : Type} [DecidableEq κ] {P : Program} {kt et mt : TypeId} {enc : κ → Value} {vl : ν → Value}
/-- What a key finds. -/
theorem find_eq (hk : Keys P kt enc) {es : Array MapEntry} {clock : Nat} {L : List (κ × ν)} (hs : Stamped es clock) (h : es.toList.map (fun e => (e.key, e.val)) = entL enc vl L) (k : κ) {d : TypeDesc} (hd : P.underlying kt = some d) (hkd : ∀ k, IsKey d (enc k)) :
    (aget L k = none ∧ Instr.findNow d (enc k) es.toList 0 = some none ∧ ∀ x ∈ es.toList, x.key ≠ enc k) ∨ ∃ (j : Nat) (e : MapEntry) (v : ν), aget L k = some v ∧ Instr.findNow d (enc k) es.toList 0 = some (some (j, vl v)) ∧ es.toList[j]? = some e ∧ L[j]? = some (k, v) ∧ e.key = enc k ∧ e.val = vl v := by
  have hks : ∀ x ∈ es.toList, IsKey d x.key := fun x hx => by
    obtain ⟨j, hj⟩ := List.getElem?_of_mem hx
    obtain ⟨k', v', _, e, _⟩ := ent_at h hj
    rw [e]; exact hkd k'
  rcases findNow_spec (hkd k) es.toList 0 hks with ⟨h1, h2⟩ | ⟨j, e, h1, h2, h3⟩
  · refine .inl ⟨aget_none.2 fun x hx e => ?_, h1, h2⟩
    have : enc x.1 ∈ es.toList.map (·.key) := by rw [ent_key h]; exact List.mem_map.2 ⟨_, List.mem_map.2 ⟨x, hx, rfl⟩, rfl⟩
    obtain ⟨y, hy, hye⟩ := List.mem_map.1 this
    exact h2 y hy (by rw [hye, e])
  · obtain ⟨k', v', hL, e1, e2⟩ := ent_at h h2
    have : k' = k := hk.inj _ _ (e1.symm.trans h3)
    subst this
    exact .inr ⟨j, e, v', aget_at (MapOf.nodup hk hs h) hL, by rw [h1, Nat.zero_add, e2], h2, hL, h3, e2⟩

variable {W w : World} {l : List Asn} {m : Nat} {L : List (κ × ν)}
/-- A key is looked up. -/
theorem lookup_i (hk : Keys P kt enc) (hm : P.underlying mt = some (.map kt et)) {z : Value} {inf : TypeInfo} (hi : P.info? et = some inf) (hz : inf.zero = some z) {F : Value → World → Prop} (n : Nat) (hS : St W l w) (hn : nth l n = some (MapOf enc vl m L)) (k : κ) (ok : Bool)
    (hF : F (if ok = true then .tuple #[((aget L k).map vl).getD z, .bool (aget L k).isSome] else ((aget L k).map vl).getD z) w) : Run P (Instr.lookup mt (.map (some m)) (enc k) ok) w F := by
  obtain ⟨es, clock, h1, h2, hS'⟩ := MapOf.open_ (hS.at n hn)
  have hb := (hS'.turn (o' := .map #[] 0)).1
  obtain ⟨d, hd, hkd⟩ := hk.kind
  refine ⟨_, w, ?_, hF⟩
  rcases find_eq hk h1 h2 k hd hkd with ⟨g1, g2, _⟩ | ⟨j, e, v, g1, g2, _⟩
  · simp [Instr.lookup, run_underlying hm, MapKept.run_getObj_map hb, run_checkKey hd (hkd k), run_findKey hd g2, g1, zeroValue, typeInfo, hi, hz]
  · simp [Instr.lookup, run_underlying hm, MapKept.run_getObj_map hb, run_checkKey hd (hkd k), run_findKey hd g2, g1]
theorem mapUpdate_i (hk : Keys P kt enc) (hm : P.underlying mt = some (.map kt et)) {K : World → Prop} (n : Nat) (hS : St W l w) (hn : nth l n = some (MapOf enc vl m L)) (k : κ) (v : ν)
    (hK : ∀ w', St W (put l n [MapOf enc vl m (aset L k v)]) w' → K w') : RunU P (Instr.mapUpdate mt (.map (some m)) (enc k) (vl v)) w K := by
  obtain ⟨es, clock, h1, h2, hS'⟩ := MapOf.open_ (hS.at n hn)
  obtain ⟨d, hd, hkd⟩ := hk.kind
  have fin : ∀ es' clock', Stamped es' clock' → es'.toList.map (fun e => (e.key, e.val)) = entL enc vl (aset L k v) → K { w with heap := w.heap.setIfInBounds m (.map es' clock') } := fun es' clock' g1 g2 =>
    hK _ (St.back n hn (B := [_]) (MapOf.shut g1 g2 hS'.turn.2))
  have hb := (hS'.turn (o' := .map #[] 0)).1
  rcases find_eq hk h1 h2 k hd hkd with ⟨g1, g2, g3⟩ | ⟨j, e, v0, g1, g2, g3, g4, g5, g6⟩
  · refine ⟨_, ?_, fin (es.push { key := enc k, val := vl v, born := clock }) (clock + 1) (stamped_push h1 g3) ?_⟩
    · simp [Instr.mapUpdate, run_underlying hm, MapKept.run_getObj_map hb, run_checkKey hd (hkd k), run_findKey hd g2, run_setObj_map _ hb]
    · rw [aset_none g1]
      simp [entL, h2]
  · have hj : es[j]? = some e := by simpa using g3
    refine ⟨_, ?_, fin (es.modify j fun e => { e with key := enc k, val := vl v }) clock (stamped_modify h1 _ _ (fun _ _ => rfl) (fun e' _ he' => by rw [hj] at he'; cases he'; exact g5.symm)) ?_⟩
    · simp [Instr.mapUpdate, run_underlying hm, MapKept.run_getObj_map hb, run_checkKey hd (hkd k), run_findKey hd g2, hj, g5, run_keyThatStays (hkd k), run_setObj_map _ hb]
    · rw [aset_at (MapOf.nodup hk h1 h2) g4]
      refine List.ext_getElem? fun i => ?_
      have h2i := congrArg (fun l : List (Value × Value) => l[i]?) h2
      simp only [entL, List.getElem?_map, Array.getElem?_toList] at h2i
      simp only [entL, List.getElem?_map, Array.getElem?_toList, Array.getElem?_modify, List.getElem?_set]
      by_cases hij : j = i
      · subst hij
        have hlt : j < L.length := (List.getElem?_eq_some_iff.1 g4).1
        simp [hj, hlt]
      · simp [hij, h2i]

theorem delete_i (hk : Keys P kt enc) (hm : P.underlying mt = some (.map kt et)) {ty : TypeId} {F : Value → World → Prop} (n : Nat) (hS : St W l w) (hn : nth l n = some (MapOf enc vl m L)) (k : κ)
    (hF : ∀ w', St W (put l n [MapOf enc vl m (adel L k)]) w' → F (.tuple #[]) w') : Run P (Builtin.delete_ #[mt, kt] ty #[.map (some m), enc k]) w F := by
  obtain ⟨es, clock, h1, h2, hS'⟩ := MapOf.open_ (hS.at n hn)
  obtain ⟨d, hd, hkd⟩ := hk.kind
  have fin : ∀ es' clock', Stamped es' clock' → es'.toList.map (fun e => (e.key, e.val)) = entL enc vl (adel L k) → F (.tuple #[]) { w with heap := w.heap.setIfInBounds m (.map es' clock') } := fun es' clock' g1 g2 =>
    hF _ (St.back n hn (B := [_]) (MapOf.shut g1 g2 hS'.turn.2))
  have hb := (hS'.turn (o' := .map #[] 0)).1
  rcases find_eq hk h1 h2 k hd hkd with ⟨g1, g2, g3⟩ | ⟨j, e, v0, g1, g2, g3, g4, g5, g6⟩
  · refine ⟨_, _, ?_, fin es clock h1 (by rw [adel_none g1]; exact h2)⟩
    simp [Builtin.delete_, run_underlying hm, MapKept.run_getObj_map hb, run_checkKey hd (hkd k), run_findKey hd g2, run_setObj_map _ hb]
  · refine ⟨_, _, ?_, fin (es.eraseIdxIfInBounds j) clock (stamped_erase h1 j) ?_⟩
    · simp [Builtin.delete_, run_underlying hm, MapKept.run_getObj_map hb, run_checkKey hd (hkd k), run_findKey hd g2, run_setObj_map _ hb]
    · rw [adel_at (MapOf.nodup hk h1 h2) g4]
      have hlt : j < es.size := by simpa using (List.getElem?_eq_some_iff.1 g3).1
      have e1 : (es.eraseIdxIfInBounds j).toList = es.toList.eraseIdx j := by
        unfold Array.eraseIdxIfInBounds
        rw [dif_pos hlt, Array.toList_eraseIdx]
      unfold entL at h2 ⊢
      rw [e1, map_erase, h2, map_erase]
end
section
variable {κ ν : Type} {P : Program} {kt et mt : TypeId} {enc : κ → Value} {vl : ν → Value}
variable {W w : World} {l : List Asn} {m : Nat} {L : List (κ × ν)}
theorem lookup_nil (hk : Keys P kt enc) (hm : P.underlying mt = some (.map kt et)) {z : Value} {inf : TypeInfo} (hi : P.info? et = some inf) (hz : inf.zero = some z) {F : Value → World → Prop} (k : κ) (ok : Bool)
    (hF : F (if ok = true then .tuple #[z, .bool false] else z) w) : Run P (Instr.lookup mt (.map none) (enc k) ok) w F := by
  obtain ⟨d, hd, hkd⟩ := hk.kind
  refine ⟨_, w, ?_, hF⟩
  have g2 : Instr.findNow d (enc k) [] 0 = some none := rfl
  simp [Instr.lookup, run_underlying hm, run_checkKey hd (hkd k), run_findKey hd g2, zeroValue, typeInfo, hi, hz]

theorem clear_i (hm : P.underlying mt = some (.map kt et)) {ty : TypeId} {F : Value → World → Prop} (n : Nat) (hS : St W l w) (hn : nth l n = some (MapOf enc vl m L))
    (hF : ∀ w', St W (put l n [MapOf enc vl m ([] : List (κ × ν))]) w' → F (.tuple #[]) w') : Run P (Builtin.clear_ #[mt] ty #[.map (some m)]) w F := by
  obtain ⟨es, clock, h1, h2, hS'⟩ := MapOf.open_ (hS.at n hn)
  have hb := (hS'.turn (o' := .map #[] 0)).1
  refine ⟨_, _, ?_, hF _ (St.back n hn (B := [_]) (MapOf.shut (stamped_empty clock) rfl hS'.turn.2))⟩
  simp [Builtin.clear_, run_underlying hm, MapKept.run_getObj_map hb, run_setObj_map _ hb]
theorem NewM.n {F : Nat → World → Prop} (enc : κ → Value) (vl : ν → Value) (hS : St W l w) (hF : ∀ b w', St W (l ++ [MapOf enc vl b ([] : List (κ × ν))]) w' → F b w') : NewM w F :=
  hF _ _ (St.last (MapOf.shut (stamped_empty 0) rfl (hS.alloc _)))
theorem MapOf.of_pt {h : Hp} {b : Nat} (enc : κ → Value) (vl : ν → Value) (hp : Pt b (.map #[] 0) h) : MapOf enc vl b ([] : List (κ × ν)) h :=
  ⟨(#[], 0), fun _ => none, fun b o hb => by (cases hb), ⟨stamped_empty 0, rfl⟩, h, fun b o hb => by unfold cutH; exact hb, hp, trivial⟩
theorem MapOf.keys (hk : Keys P kt enc) {F : List Asn} (h : St W (MapOf enc vl m L :: F) w) : (L.map (·.1)).Nodup := by
  obtain ⟨es, clock, h1, h2, _⟩ := MapOf.open_ h
  exact MapOf.nodup hk h1 h2
end
end Go.Proofs.Ytbfccpbijimjmaa
