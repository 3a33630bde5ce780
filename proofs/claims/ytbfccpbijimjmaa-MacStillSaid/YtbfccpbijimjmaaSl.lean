/-
  Slices of elements: read, put behind, written; walks over maps.
-/
import Derived.Test.YtbfccpbijimjmaaMaps
set_option linter.unusedVariables false
set_option linter.unusedSimpArgs false
namespace Go.Proofs.Ytbfccpbijimjmaa
open Go Go.MapKept

theorem bytes_toList_inj {a b : ByteArray} (h : a.toList = b.toList) : a = b := by
  rw [ByteArray.toList_eq, ByteArray.toList_eq] at h
  apply ByteArray.ext
  exact Array.ext' h
theorem bytes_beq (a b : ByteArray) : (a.toList == b.toList) = decide (a = b) := by
  rw [Bool.eq_iff_iff]
  simp only [beq_iff_eq, decide_eq_true_eq]
  exact ⟨bytes_toList_inj, fun h => by rw [h]⟩

theorem flat_get {α : Type} (f : α → List Value) (k : Nat) (hk : 0 < k) (hf : ∀ x, (f x).length = k) : ∀ (l : List α) (i : Nat), (l.flatMap f)[i]? = (l[i / k]?).bind fun x => (f x)[i % k]?
  | [], i => by simp
  | x :: l, i => by
    rw [List.flatMap_cons]
    rcases Nat.lt_or_ge i k with h | h
    · rw [List.getElem?_append_left (by rw [hf]; exact h), Nat.div_eq_of_lt h, Nat.mod_eq_of_lt h]; rfl
    · have e1 : i / k = (i - k) / k + 1 := by
        have h1 := Nat.add_div_right (i - k) hk
        rwa [Nat.sub_add_cancel h] at h1
      have e2 : i % k = (i - k) % k := by
        have h1 := Nat.add_mod_right (i - k) k
        rwa [Nat.sub_add_cancel h] at h1
      rw [List.getElem?_append_right (by rw [hf]; exact h), hf, flat_get f k hk hf l (i - k), e1, e2]
      rfl
theorem flat_length {α : Type} (f : α → List Value) (k : Nat) (hf : ∀ x, (f x).length = k) : ∀ l : List α, (l.flatMap f).length = l.length * k
  | [] => by simp
  | x :: l => by rw [List.flatMap_cons, List.length_append, hf, flat_length f k hf l, List.length_cons, Nat.succ_mul, Nat.add_comm]
/-- The cell j of the element i. -/
theorem flat_at {α : Type} {f : α → List Value} {k : Nat} (hf : ∀ x, (f x).length = k) {l : List α} {i j : Nat} {x : α} {v : Value} (hx : l[i]? = some x) (hj : (f x)[j]? = some v) : (l.flatMap f)[i * k + j]? = some v := by
  have hjk : j < k := by
    have := (List.getElem?_eq_some_iff.1 hj).1
    rwa [hf] at this
  rw [flat_get f k (by omega) hf, Nat.mul_comm i k, Nat.mul_add_div (by omega), Nat.div_eq_of_lt hjk, Nat.add_zero, hx, Nat.mul_add_mod, Nat.mod_eq_of_lt hjk]
  exact hj
theorem flat_one {α : Type} (f : α → Value) : ∀ xs : List α, xs.flatMap (fun x => [f x]) = xs.map f
  | [] => rfl
  | a :: l => by rw [List.flatMap_cons, flat_one f l]; rfl

theorem Rd.mono_mem {A : Asn} {l : List Asn} {p : Option Addr} {cs : List Value} (h : Rd [A] p cs) (hm : A ∈ l) : Rd l p cs := by
  induction l with
  | nil => cases hm
  | cons B r ih =>
    rcases List.mem_cons.1 hm with rfl | hm
    · have := h.app r
      exact this
    · exact (ih hm).cons B
/-- A slice that owns a row of such elements. -/
def SlA {α : Type} (e : TypeId) (size : Nat) (f : α → List Value) (p : Option Addr) (c : Nat) (os : List α) : Asn := OwnS e size p os.length c (os.flatMap f)
def iV (x : Int) : List Value := [.int .i64 x]

section
variable {α : Type} {f : α → List Value} {size : Nat} {P : Program} {W w : World} {l : List Asn} {p : Option Addr} {os xs : List α} {n c : Nat} {e : TypeId}
theorem SlA.rd (F : List Asn) : Rd (SlA e size f p c os :: F) p (os.flatMap f) := OwnS.rd F
theorem SlA.le {F : List Asn} (h : St W (SlA e size f p c os :: F) w) : os.length ≤ c := (OwnS.le h).2
theorem SlA.nil (hS : St W l w) : St W (SlA e size f p 0 ([] : List α) :: l) w := OwnS.nil e size p hS
theorem SlA.of_row {q : Nat} {F : List Asn} (hf : ∀ x, (f x).length = size) (h : St W (Row q e (os.flatMap f) :: F) w) : St W (SlA e size f (some ⟨q, 0, none⟩) os.length os :: F) w :=
  OwnS.whole (flat_length f size hf os) h
/-- An element is looked at. -/
theorem IxP.el {i : Int} {k : Nat} {x : α} {K : Addr → Prop} (hf : ∀ x, (f x).length = size) (hsz : 0 < size) (hr : Rd l p (os.flatMap f)) (hS : St W l w) (hi : i = (k : Int)) (hn : k < n) (hx : os[k]? = some x)
    (hK : ∀ a, (∀ j v, (f x)[j]? = some v → w.cell? (a.add j) = some v) → K a) : IxP p n i size K := by
  subst hi
  have h0 : (os.flatMap f)[k * size + 0]? = some ((f x)[0]'(by rw [hf]; exact hsz)) := flat_at hf hx (List.getElem?_eq_getElem _)
  obtain ⟨a, ha, _⟩ := hr.of hS h0
  refine ⟨a, ha, ⟨by omega, by omega⟩, hK _ fun j v hj => ?_⟩
  rw [Int.toNat_natCast]
  exact hr.at2 hS ha (flat_at hf hx hj)
/-- An element is looked at in each world of a class. -/
theorem IxP.elC {C : Cls} {i : Int} {k : Nat} {x : α} {K : Addr → Prop} (hC : Is W C l) (hf : ∀ x, (f x).length = size) (hsz : 0 < size) (hr : Rd l p (os.flatMap f)) (hS : St W l w) (hi : i = (k : Int)) (hn : k < n) (hx : os[k]? = some x)
    (hK : ∀ a, (∀ {G : List (Nat × Obj)} {w : World}, C.p G w → ∀ j v, (f x)[j]? = some v → w.cell? (a.add j) = some v) → K a) : IxP p n i size K := by
  subst hi
  have h0 : (os.flatMap f)[k * size + 0]? = some ((f x)[0]'(by rw [hf]; exact hsz)) := flat_at hf hx (List.getElem?_eq_getElem _)
  obtain ⟨a, ha, _⟩ := hr.of hS h0
  refine ⟨a, ha, ⟨by omega, by omega⟩, hK _ fun {G w} hw j v hj => ?_⟩
  rw [Int.toNat_natCast]
  exact (hr.app (pts G)).at2 ((hC G w).1 hw) ha (flat_at hf hx hj)
/-- Elements are put behind. -/
theorem append_el {sT xT ty : TypeId} {inf : TypeInfo} {z : Value} {sp : Option Addr} {sc m : Nat} {F : Value → World → Prop} (hf : ∀ x, (f x).length = size) (hu : P.underlying sT = some (.slice e)) (hx : Src P xT) (hi : P.info? e = some inf) (hs : inf.size = size) (hz : inf.zero = some z) (hzs : z.cells.size = size)
    (k : Nat) (hS : St W l w) (hn : nth l k = some (SlA e size f p c os)) (hr : Rd (del l k) sp (xs.flatMap f)) (hm : m = xs.length) (hna : ∀ x, ∀ v ∈ f x, NotAgg v)
    (hb : (os.length + xs.length) * inf.bytes ≤ 140737488355328) (h63 : os.length + xs.length ≤ 9223372036854775807)
    (hF : ∀ p' c' w', St W (put l k [SlA e size f p' c' (os ++ xs)]) w' → F (.slice p' (os ++ xs).length c') w') :
    Run P (Builtin.append_ #[sT, xT] ty #[.slice p os.length c, .slice sp m sc]) w F := by
  subst hm
  refine append_sl hu hx hi hs hz hzs (hS.at k hn) hr (flat_length f size hf xs) (fun v hv => ?_) hb (by omega) fun p' c' w' h => ?_
  · obtain ⟨x, _, hx⟩ := List.mem_flatMap.1 hv
    exact hna x v hx
  · rw [← List.flatMap_append, ← List.length_append] at h
    have := hF p' c' w' (St.back k hn (B := [_]) h)
    rwa [List.length_append] at this
end

theorem nodup_of_map {α β : Type} (g : α → β) {l : List α} (h : (l.map g).Nodup) : l.Nodup := List.Pairwise.of_map g (fun a b hab e => hab (congrArg g e)) h
theorem sum_sub {α : Type} (f : α → Nat) : ∀ {V L : List α}, V.Nodup → (∀ x ∈ V, x ∈ L) → (V.map f).sum ≤ (L.map f).sum
  | [], L, _, _ => by simp
  | x :: V, L, hn, hs => by
    simp only [List.nodup_cons] at hn
    obtain ⟨l1, l2, rfl⟩ := List.append_of_mem (hs x List.mem_cons_self)
    have ih := sum_sub f (V := V) (L := l1 ++ l2) hn.2 fun y hy => by
      have := hs y (List.mem_cons_of_mem _ hy)
      have hne : y ≠ x := fun e => hn.1 (e ▸ hy)
      simp_all
    simp only [List.map_append, List.sum_append, List.map_cons, List.sum_cons] at ih ⊢
    omega
theorem len_sub {α : Type} {V L : List α} (hn : V.Nodup) (hs : ∀ x ∈ V, x ∈ L) : V.length ≤ L.length := by
  have h1 : ∀ l : List α, (l.map fun _ => 1).sum = l.length := fun l => by
    induction l with
    | nil => rfl
    | cons x r ih => simp only [List.map_cons, List.sum_cons, ih, List.length_cons]; omega
  have := sum_sub (fun _ => 1) hn hs
  rwa [h1, h1] at this

/-! ### A walk over a map -/
section
variable {κ ν : Type} {P : Program} {kt et mt : TypeId} {enc : κ → Value} {vl : ν → Value}
structure RangeP (enc : κ → Value) (vl : ν → Value) (L V : List (κ × ν)) (es : Array MapEntry) (clock : Nat) (seen : Array Nat) (c0 : Nat) : Prop where
  st : Stamped es clock
  ent : es.toList.map (fun e => (e.key, e.val)) = entL enc vl L
  old : clock ≤ c0
  sub : ∀ x ∈ V, x ∈ L
  nod : (V.map (·.1)).Nodup
  len : seen.size = V.length
  seen : ∀ e ∈ es.toList, seen.contains e.born = true ↔ e.key ∈ V.map fun x => enc x.1
def RangeOf (enc : κ → Value) (vl : ν → Value) (m it : Nat) (L V : List (κ × ν)) : Asn := exA fun x : Array MapEntry × Nat × Array Nat × Nat => sepA [
  prA (RangeP enc vl L V x.1 x.2.1 x.2.2.1 x.2.2.2), Pt m (.map x.1 x.2.1), Pt it (.mapIter (some m) x.2.1 x.2.2.1 x.2.2.2)]
/-- Just behind a step: the last one that was seen is this one. -/
def RangeAt (enc : κ → Value) (vl : ν → Value) (m it : Nat) (L V : List (κ × ν)) (x : κ × ν) : Asn := exA fun y : Array MapEntry × Nat × Array Nat × MapEntry => sepA [
  prA (RangeP enc vl L (V ++ [x]) y.1 y.2.1 (y.2.2.1.push y.2.2.2.born) y.2.1 ∧ y.2.2.2 ∈ y.1.toList ∧ y.2.2.2.key = enc x.1 ∧ y.2.2.2.val = vl x.2), Pt m (.map y.1 y.2.1), Pt it (.mapIter (some m) y.2.1 (y.2.2.1.push y.2.2.2.born) y.2.1)]
variable {W w : World} {l : List Asn} {m it : Nat} {L V : List (κ × ν)}
theorem range_i (hm : P.underlying mt = some (.map kt et)) {F : Value → World → Prop} (n : Nat) (hS : St W l w) (hn : nth l n = some (MapOf enc vl m L))
    (hF : ∀ it w', St W (put l n [RangeOf enc vl m it L []]) w' → F (.pointer (some ⟨it, 0, none⟩)) w') : Run P (Instr.range mt (.map (some m))) w F := by
  obtain ⟨es, clock, h1, h2, hS'⟩ := MapOf.open_ (hS.at n hn)
  have hb := (hS'.turn (o' := .map #[] 0)).1
  have h3 := hS'.alloc (.mapIter (some m) clock #[] clock)
  refine ⟨_, _, run_range_map w mt kt et m es clock hm hb, hF _ _ (St.back n hn (B := [_]) ?_)⟩
  refine St.to_ex (es, clock, #[], clock) (St.to_sep (l := [_, _, _]) (St.to_pr ⟨h1, h2, Nat.le_refl _, by simp, by simp, rfl, by simp⟩ h3.p1))
theorem St.pt {r : List Asn} {b : Nat} {o : Obj} (h : St W (Pt b o :: r) w) : w.heap[b]? = some o := (h.turn (o' := o)).1
/-- What is left of a walk over a map. -/
def leftR (it n : Nat) (w : World) : Nat := match w.heap[it]? with
  | some (.mapIter _ _ seen _) => n - seen.size
  | _ => 0
theorem RangeOf.left {F : List Asn} (h : St W (RangeOf enc vl m it L V :: F) w) (n : Nat) : leftR it n w = n - V.length := by
  obtain ⟨⟨es, clock, seen, c0⟩, h⟩ := h.of_ex
  obtain ⟨hp, h⟩ := h.of_sep.of_pr
  dsimp only at hp h
  have h : St W (Pt m (.map es clock) :: Pt it (.mapIter (some m) clock seen c0) :: F) w := h
  unfold leftR
  rw [h.p1.pt]
  show n - seen.size = _
  rw [hp.len]
theorem mem_key {es : Array MapEntry} {clock : Nat} (hs : Stamped es clock) {a b : MapEntry} (ha : a ∈ es.toList) (hb : b ∈ es.toList) : (a.born = b.born ↔ a = b) ∧ (a.key = b.key ↔ a = b) := by
  have inj : ∀ {β : Type} (g : MapEntry → β), (es.toList.map g).Nodup → g a = g b → a = b := fun g hg h => by
    obtain ⟨i, hi⟩ := List.getElem?_of_mem ha
    obtain ⟨j, hj⟩ := List.getElem?_of_mem hb
    have hi' : (es.toList.map g)[i]? = some (g a) := by simp [hi]
    have hj' : (es.toList.map g)[j]? = some (g b) := by simp [hj]
    have : i = j := by
      have hil := (List.getElem?_eq_some_iff.1 hi').1
      exact (List.getElem?_inj hil hg).1 (by rw [hi', hj', h])
    subst this
    rw [hi] at hj; cases hj; rfl
  exact ⟨⟨inj _ hs.2.1, fun h => by rw [h]⟩, ⟨inj _ hs.2.2, fun h => by rw [h]⟩⟩
theorem entry_i {F : Value → World → Prop} {x : κ × ν} (n : Nat) (hS : St W l w) (hn : nth l n = some (RangeAt enc vl m it L V x))
    (hF : St W (put l n [RangeOf enc vl m it L (V ++ [x])]) w → F (.tuple #[enc x.1, vl x.2]) w) : Run P (Instr.entry (.pointer (some ⟨it, 0, none⟩))) w F := by
  obtain ⟨⟨es, clock, seen, e⟩, h⟩ := (hS.at n hn).of_ex
  obtain ⟨⟨hp, he, e1, e2⟩, h⟩ := h.of_sep.of_pr
  dsimp only at hp h he e1 e2
  have h : St W (Pt m (.map es clock) :: Pt it (.mapIter (some m) clock (seen.push e.born) clock) :: del l n) w := h
  refine ⟨_, w, run_entry_at w it m clock seen es clock e h.p1.pt h.pt he hp.st.2.1, ?_⟩
  rw [e1, e2]
  exact hF (St.back n hn (B := [_]) (St.to_ex (es, clock, seen.push e.born, clock) (St.to_sep (l := [_, _, _]) (St.to_pr hp h))))
end
section
variable {κ ν : Type} [DecidableEq κ] {P : Program} {kt et mt : TypeId} {enc : κ → Value} {vl : ν → Value}
variable {W w : World} {l : List Asn} {m it : Nat} {L V : List (κ × ν)}
theorem next_i (hk : Keys P kt enc) {ty : TypeId} {A : World → Prop} {B : Value → Value → World → Prop} (n : Nat) (hS : St W l w) (hn : nth l n = some (RangeOf enc vl m it L V))
    (hA : (∀ x ∈ L, x ∈ V) → V.Nodup → (∀ x ∈ V, x ∈ L) → ∀ w', St W (put l n [MapOf enc vl m L]) w' → A w')
    (hB : ∀ x, x ∈ L → x.1 ∉ V.map (·.1) → ∀ w', St W (put l n [RangeAt enc vl m it L V x]) w' → B (enc x.1) (vl x.2) w') : NextK P (Instr.next (.pointer (some ⟨it, 0, none⟩)) false ty) w A B := by
  obtain ⟨⟨es, clock, seen, c0⟩, h⟩ := (hS.at n hn).of_ex
  obtain ⟨hp, h⟩ := h.of_sep.of_pr
  dsimp only at hp h
  have h : St W (Pt m (.map es clock) :: Pt it (.mapIter (some m) clock seen c0) :: del l n) w := h
  have hb := h.pt
  have hr := h.p1.pt
  have hnd := MapOf.nodup hk hp.st hp.ent
  rcases run_next_at (P := P) w ty it m clock c0 seen es clock hr hb (fun x hx => hp.st.1 x hx) hp.old with ⟨h0, hrun⟩ | ⟨e, he, w1, hw1, hrun⟩
  · refine ⟨_, _, hrun, .inl ⟨rfl, hA (fun x hx => ?_) ?_ hp.sub _ (St.back n hn (B := [_]) (MapOf.shut hp.st hp.ent (h.p1.drop)))⟩⟩
    · have hkx : enc x.1 ∈ es.toList.map (·.key) := by rw [ent_key hp.ent]; exact List.mem_map.2 ⟨_, List.mem_map.2 ⟨x, hx, rfl⟩, rfl⟩
      obtain ⟨e, he, hek⟩ := List.mem_map.1 hkx
      have hs : seen.contains e.born = true := by
        cases hc : seen.contains e.born with
        | true => rfl
        | false =>
          have : e ∈ leftOf es seen := by
            unfold leftOf
            rw [Array.mem_filter]
            exact ⟨by simpa using he, by rw [hc]; rfl⟩
          have hh := Array.size_pos_of_mem this
          omega
      obtain ⟨y, hy, hye⟩ := List.mem_map.1 ((hp.seen e he).1 hs)
      have : y.1 = x.1 := hk.inj _ _ (hye.trans hek)
      have h1 := aget_mem hnd (show (x.1, x.2) ∈ L from hx)
      have h2 := aget_mem hnd (show (y.1, y.2) ∈ L from hp.sub y hy)
      rw [this, h1] at h2
      cases y
      cases x
      simp_all
    · exact List.Pairwise.of_map (·.1) (fun a b hab e => hab (congrArg (·.1) e)) hp.nod
  · have he' : e ∈ es.toList ∧ seen.contains e.born = false := by
      unfold leftOf at he
      rw [Array.toList_filter, List.mem_filter] at he
      exact ⟨he.1, by simpa using he.2⟩
    obtain ⟨j, hj⟩ := List.getElem?_of_mem he'.1
    obtain ⟨k, v, hL, e1, e2⟩ := ent_at hp.ent hj
    have hkV : k ∉ V.map (·.1) := fun hkv => by
      have : e.key ∈ V.map fun x => enc x.1 := by
        obtain ⟨y, hy, rfl⟩ := List.mem_map.1 hkv
        rw [e1]; exact List.mem_map.2 ⟨y, hy, rfl⟩
      have := (hp.seen e he'.1).2 this
      rw [he'.2] at this; cases this
    refine ⟨_, _, hrun, .inr ⟨_, _, rfl, ?_⟩⟩
    rw [e1, e2]
    refine hB (k, v) (List.mem_of_getElem? hL) hkV _ (St.back n hn (B := [_]) ?_)
    have hw : St W (Pt m (.map es clock) :: Pt it (.mapIter (some m) clock seen c0) :: del l n) w1 := by
      rcases hw1 with rfl | rfl
      · exact h
      · exact h.draws
    have h5 := (hw.p1.turn (o' := .mapIter (some m) clock (seen.push e.born) clock)).2.p1
    refine St.to_ex (es, clock, seen, e) (St.to_sep (l := [_, _, _]) (St.to_pr ⟨⟨hp.st, hp.ent, Nat.le_refl _, fun x hx => ?_, ?_, by simp [hp.len], fun e' he2 => ?_⟩, he'.1, e1, e2⟩ h5))
    · rcases List.mem_append.1 hx with hx | hx
      · exact hp.sub x hx
      · simp only [List.mem_singleton] at hx; subst hx; exact List.mem_of_getElem? hL
    · rw [List.map_append]
      exact List.nodup_append.2 ⟨hp.nod, by simp, fun a ha b hb => by simp at hb; subst hb; exact fun e => hkV (e ▸ ha)⟩
    · have hme := mem_key hp.st he2 he'.1
      simp only [Array.contains_eq_mem, Array.mem_push, List.map_append, List.mem_append, List.map_cons, List.map_nil, List.mem_singleton, decide_eq_true_eq]
      have := hp.seen e' he2
      simp only [Array.contains_eq_mem, decide_eq_true_eq] at this
      rw [this, ← e1, hme.1, hme.2]
end
end Go.Proofs.Ytbfccpbijimjmaa
