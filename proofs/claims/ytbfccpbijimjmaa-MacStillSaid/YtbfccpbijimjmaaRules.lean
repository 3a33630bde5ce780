/-
  What the lifted conditions come to where memory is known by parts.
-/
import Derived.Test.YtbfccpbijimjmaaSL
import Derived.Lib.SlBytesConst
set_option linter.unusedVariables false
set_option linter.unusedSimpArgs false
namespace Go.Proofs.Ytbfccpbijimjmaa
open Go

theorem NilP.i {a : Addr} {F : Addr → Prop} (h : F a) : NilP (some a) F := h
theorem CallR.of {P : Program} {f : FuncId} {args : Array Value} {w : World} {R R' : Value → World → Prop} (h : CallR P f args w R) (hr : ∀ v w', R v w' → R' v w') : CallR P f args w R' := h.mono hr

section
variable {W w : World} {r : List Asn} {b : Nat} {t : TypeId} {cs : List Value} {k0 : Nat}
theorem LdI.i {k : IntKind} {x : Int} {F : Int → Prop} (hS : St W (Row b t cs :: r) w) (h : cs[k0]? = some (.int k x)) (hF : F x) : LdI k ⟨b, k0, none⟩ w F := ⟨x, hS.ld h, hF⟩
theorem LdB.i {x : Bool} {F : Bool → Prop} (hS : St W (Row b t cs :: r) w) (h : cs[k0]? = some (.bool x)) (hF : F x) : LdB ⟨b, k0, none⟩ w F := ⟨x, hS.ld h, hF⟩
theorem LdS.i {x : ByteArray} {F : ByteArray → Prop} (hS : St W (Row b t cs :: r) w) (h : cs[k0]? = some (.string x)) (hF : F x) : LdS ⟨b, k0, none⟩ w F := ⟨x, hS.ld h, hF⟩
theorem LdP.i {x : Option Addr} {F : Option Addr → Prop} (hS : St W (Row b t cs :: r) w) (h : cs[k0]? = some (.pointer x)) (hF : F x) : LdP ⟨b, k0, none⟩ w F := ⟨x, hS.ld h, hF⟩
theorem LdL.i {p : Option Addr} {n c : Nat} {F : Option Addr → Nat → Nat → Prop} (hS : St W (Row b t cs :: r) w) (h : cs[k0]? = some (.slice p n c)) (hF : F p n c) : LdL ⟨b, k0, none⟩ w F := ⟨p, n, c, hS.ld h, hF⟩
theorem LdM.i {x : Option Nat} {F : Option Nat → Prop} (hS : St W (Row b t cs :: r) w) (h : cs[k0]? = some (.map x)) (hF : F x) : LdM ⟨b, k0, none⟩ w F := ⟨x, hS.ld h, hF⟩
theorem LdV.i {x : Value} {F : Value → Prop} (hS : St W (Row b t cs :: r) w) (h : cs[k0]? = some x) (hF : F x) : LdV ⟨b, k0, none⟩ w F := ⟨x, hS.ld h, hF⟩
theorem St1.i {v : Value} {F : World → Prop} (hS : St W (Row b t cs :: r) w) (h : k0 < cs.length) (hF : ∀ w', St W (Row b t (cs.set k0 v) :: r) w' → F w') : St1 ⟨b, k0, none⟩ v w F :=
  ⟨(hS.st h v).1, hF _ (hS.st h v).2⟩
theorem NewC.i {l : List Asn} {c : Array Value} {e : TypeId} {F : Nat → World → Prop} (hS : St W l w) (hF : ∀ b w', St W (Row b e c.toList :: l) w' → F b w') : NewC c e w F := hF _ _ (hS.allocRow c e)
end

theorem mkCells_one (z : Value) (n : Nat) : (mkCells #[z] n).toList = List.replicate n z := by
  unfold mkCells
  refine List.ext_getElem? fun j => ?_
  simp only [Array.toList_map, Array.toList_range, List.getElem?_map, List.getElem?_replicate]
  rcases Nat.lt_or_ge j n with h | h
  · rw [List.getElem?_range h, if_pos h]
    simp [Nat.mod_one]
  · rw [List.getElem?_eq_none (by simpa using h), if_neg (by omega)]
    rfl
theorem MkS.i {W w : World} {l : List Asn} {z : Value} {bytes : Nat} {e : TypeId} {n c : Int} {F : Nat → World → Prop} (hS : St W l w) (h0 : 0 ≤ n) (h1 : n ≤ c) (h2 : c < 9223372036854775808) (h3 : bytes * c ≤ 281474976710656)
    (hF : ∀ b w', St W (Row b e (List.replicate c.toNat z) :: l) w' → F b w') : MkS #[z] 1 bytes e n c w F := by
  refine ⟨⟨h0, h1, h2, h3⟩, NewC.i hS fun b w' h => hF b w' ?_⟩
  rwa [Nat.mul_one, mkCells_one] at h

/-! ### Cells that are read and written in a row -/
def setAll : List Value → Nat → List Value → List Value
  | all, _, [] => all
  | all, k, v :: vs => setAll (all.set k v) (k + 1) vs
theorem setAll_length : ∀ (vs all : List Value) (k : Nat), (setAll all k vs).length = all.length
  | [], _, _ => rfl
  | v :: vs, all, k => by rw [setAll, setAll_length]; simp
theorem setAll_get : ∀ (vs all : List Value) (k j : Nat), k + vs.length ≤ all.length → (setAll all k vs)[j]? = if k ≤ j ∧ j < k + vs.length then vs[j - k]? else all[j]?
  | [], all, k, j, _ => by rw [setAll, if_neg (by simp only [List.length_nil]; omega)]
  | v :: vs, all, k, j, h => by
    simp only [List.length_cons] at h ⊢
    rw [setAll, setAll_get vs _ (k + 1) j (by simp; omega), List.getElem?_set]
    by_cases hj : j = k
    · subst hj
      rw [if_neg (by omega), if_pos rfl, if_pos (by omega), if_pos (by omega)]
      simp
    · rw [if_neg (show ¬ k = j from fun e => hj e.symm)]
      by_cases h1 : k + 1 ≤ j ∧ j < k + 1 + vs.length
      · rw [if_pos h1, if_pos (by omega), show j - k = (j - (k + 1)) + 1 by omega]
        rfl
      · rw [if_neg h1, if_neg (by omega)]
/-- The cells from k on are these. -/
def splice {α : Type} (all : List α) (k : Nat) (vs : List α) : List α := all.take k ++ vs ++ all.drop (k + vs.length)
theorem splice_get {α : Type} (vs all : List α) (k j : Nat) (h : k + vs.length ≤ all.length) : (splice all k vs)[j]? = if k ≤ j ∧ j < k + vs.length then vs[j - k]? else all[j]? := by
  unfold splice
  have hk : (all.take k).length = k := by simp; omega
  by_cases h1 : k ≤ j ∧ j < k + vs.length
  · rw [if_pos h1, List.append_assoc, List.getElem?_append_right (by omega), hk, List.getElem?_append_left (by omega)]
  · rw [if_neg h1]
    rcases Nat.lt_or_ge j k with h2 | h2
    · rw [List.append_assoc, List.getElem?_append_left (by omega), List.getElem?_take_of_lt h2]
    · rw [List.getElem?_append_right (by simp; omega)]
      simp only [List.length_append, hk, List.getElem?_drop]
      congr 1
      omega
theorem splice_map {α β : Type} (f : α → β) (vs all : List α) (k : Nat) : splice (all.map f) k (vs.map f) = (splice all k vs).map f := by
  unfold splice; simp [List.map_take, List.map_drop]
theorem splice_length {α : Type} (vs all : List α) (k : Nat) (h : k + vs.length ≤ all.length) : (splice all k vs).length = all.length := by
  unfold splice; simp; omega
theorem splice_nil {α : Type} (all : List α) (k : Nat) : splice all k [] = all := by
  unfold splice; simp
theorem setAll_eq (vs all : List Value) (k : Nat) (h : k + vs.length ≤ all.length) : setAll all k vs = splice all k vs := by
  refine List.ext_getElem? fun j => ?_
  rw [setAll_get vs all k j h, splice_get vs all k j h]

theorem storeCells_st {P : Program} {W : World} {r : List Asn} {q o : Nat} {t : TypeId} : ∀ (vs : List Value) (i : Nat) (all : List Value) (w : World), St W (Row q t all :: r) w → o + i + vs.length ≤ all.length → (∀ v ∈ vs, NotAgg v) →
    ∃ w', (storeCells ⟨q, o, none⟩ vs i).run P w = .ok () w' ∧ St W (Row q t (setAll all (o + i) vs) :: r) w'
  | [], i, all, w, hS, _, _ => ⟨w, rfl, hS⟩
  | v :: vs, i, all, w, hS, hl, hn => by
    simp only [List.length_cons] at hl
    obtain ⟨⟨⟨u, hu⟩, hf⟩, hS'⟩ := hS.st (i := o + i) (by omega) v
    have h1 : (store (Addr.add ⟨q, o, none⟩ i) v).run P w = .ok () (w.setCell ⟨q, o + i, none⟩ v) := by
      rw [add_at]
      have hv := hn v List.mem_cons_self
      unfold store
      cases v <;> first | exact hv.elim | simp [Sem.run, hu, hf]
    obtain ⟨w', h2, hS2⟩ := storeCells_st (P := P) (o := o) vs (i + 1) _ _ hS' (by simp; omega) (fun x hx => hn x (List.mem_cons_of_mem _ hx))
    refine ⟨w', ?_, by rw [setAll, Nat.add_assoc]; exact hS2⟩
    simp only [storeCells, Sem.run_bind, h1, Result.andThen_ok, h2]

theorem firstCells_run {P : Program} {w : World} {p : Option Addr} {n c : Nat} {size m : Nat} {cs : List Value} (hr : ∀ j v, cs[j]? = some v → ∃ a, p = some a ∧ w.cell? (a.add j) = some v) (hl : cs.length = m * size) (h0 : p = none → m * size = 0) :
    (Builtin.firstCells size m (.slice p n c)).run P w = .ok cs.toArray w := by
  cases p with
  | none =>
    have : cs = [] := List.eq_nil_of_length_eq_zero (by rw [hl]; exact h0 rfl)
    subst this
    rfl
  | some a =>
    have := run_loadCells_list (P := P) w a cs (fun j v hj => by obtain ⟨a', ha, hc⟩ := hr j v hj; cases ha; exact hc)
    rw [hl] at this
    exact this

/-- copy into a row. -/
theorem copy_i {P : Program} {W w : World} {r : List Asn} {q o : Nat} {t : TypeId} {all cs : List Value} {dT sT ty e : TypeId} {inf : TypeInfo} (hu : P.underlying dT = some (.slice e)) (hi : P.info? e = some inf) (hs : inf.size = 1)
    {dLen dCap sLen sCap : Nat} {sp : Option Addr} {F : Value → World → Prop}
    (hS : St W (Row q t all :: r) w) (hd : o + dLen ≤ all.length) (hr : ∀ j v, cs[j]? = some v → ∃ a, sp = some a ∧ w.cell? (a.add j) = some v) (hl : cs.length = min sLen dLen) (hna : ∀ v ∈ cs, NotAgg v)
    (hF : ∀ w', St W (Row q t (splice all o cs) :: r) w' → F (.int .i64 (min sLen dLen : Nat)) w') :
    Run P (Builtin.copy_ #[dT, sT] ty #[.slice (some ⟨q, o, none⟩) dLen dCap, .slice sp sLen sCap]) w F := by
  have hn0 : sp = none → min sLen dLen * 1 = 0 := fun h => by
    subst h
    rcases cs with _ | ⟨v, cs⟩
    · simp at hl; omega
    · obtain ⟨a, ha, _⟩ := hr 0 v rfl; cases ha
  have h1 := firstCells_run (P := P) (w := w) (p := sp) (n := sLen) (c := sCap) (size := 1) (m := min sLen dLen) hr (by omega) hn0
  obtain ⟨w', h2, hS'⟩ := storeCells_st (P := P) (o := o) cs 0 all w hS (by omega) hna
  rw [Nat.add_zero, setAll_eq _ _ _ (by omega)] at hS'
  refine ⟨_, w', ?_, hF w' hS'⟩
  have h2' : (storeCells ⟨q, o, none⟩ cs).run P w = .ok () w' := h2
  simp only [Builtin.copy_, List.getElem?_toArray, List.getElem?_cons_zero, List.getElem?_cons_succ, Sem.run_bind, run_underlying hu, Result.andThen_ok, Builtin.lenOf, Sem.run_pure, run_sizeOf' hi, hs]
  rw [show Nat.min sLen dLen = min sLen dLen from rfl, h1]
  simp only [Result.andThen_ok, h2', Sem.run_bind, Sem.run_pure]
  rfl
/-- copy of nothing. -/
theorem copy_none {P : Program} {w : World} {dT sT ty e : TypeId} {inf : TypeInfo} (hu : P.underlying dT = some (.slice e)) (hi : P.info? e = some inf) (hs : inf.size = 1)
    {dLen dCap sLen sCap : Nat} {dp sp : Option Addr} {F : Value → World → Prop} (h0 : min sLen dLen = 0) (hF : F (.int .i64 (0 : Nat)) w) :
    Run P (Builtin.copy_ #[dT, sT] ty #[.slice dp dLen dCap, .slice sp sLen sCap]) w F := by
  refine ⟨_, w, ?_, hF⟩
  have h1 : ∀ s, (Builtin.firstCells 1 0 (.slice sp sLen sCap)).run P s = .ok #[] s := fun s => by cases sp <;> rfl
  simp only [Builtin.copy_, List.getElem?_toArray, List.getElem?_cons_zero, List.getElem?_cons_succ, Sem.run_bind, run_underlying hu, Result.andThen_ok, Builtin.lenOf, Sem.run_pure, run_sizeOf' hi, hs]
  rw [show Nat.min sLen dLen = min sLen dLen from rfl, h0]
  cases dp with
  | none => simp only [h1, Result.andThen_ok, Sem.run_pure]; rfl
  | some a => simp only [h1, Result.andThen_ok, Sem.run_pure, storeCells, Sem.run_bind]; rfl

/-! ### Slices that are only read -/
theorem Rd.mem {W : World} {l : List Asn} {p : Option Addr} {cs : List Value} (h : Rd [Base W] p cs) (hm : Base W ∈ l) : Rd l p cs := by
  induction l with
  | nil => cases hm
  | cons A r ih =>
    rcases List.mem_cons.1 hm with rfl | hm
    · intro H hH i v hi
      obtain ⟨g, h1, h2, h3⟩ := hH
      obtain ⟨a, ha, hc⟩ := h g ⟨g, HSub.refl _, h2, trivial⟩ i v hi
      exact ⟨a, ha, cellH_mono h1 hc⟩
    · exact (ih hm).cons A
theorem Rd.piece {F : List Asn} {p : Option Addr} {cs : List Value} (h : Rd F p cs) (k m : Nat) (c : Nat) (hc : c = 0 → cs.drop k = []) : Rd F (if c = 0 then p else p.map (·.add k)) ((cs.drop k).take m) := fun H hH i v hi => by
  have hi' : cs[k + i]? = some v := by
    rw [List.getElem?_take] at hi
    split at hi
    · rwa [List.getElem?_drop] at hi
    · cases hi
  split
  · rename_i e
    rw [hc e] at hi
    simp at hi
  · obtain ⟨a, rfl, hc'⟩ := h H hH _ _ hi'
    exact ⟨_, rfl, by rw [Addr.add_add]; exact hc'⟩
theorem SlP.i {F : List Asn} {p : Option Addr} {cs : List Value} {n c size a b : Nat} {lo hi : Int} {K : Option Addr → Nat → Nat → Prop} (hr : Rd F p cs) (hl : cs.length = n * size) (hn : n ≤ c) (hlo : lo = a) (hhi : hi = b) (hab : a ≤ b) (hb : b ≤ n)
    (hK : ∀ p', Rd F p' ((cs.drop (a * size)).take ((b - a) * size)) → K p' (b - a) (c - a)) : SlP p n c size lo hi K := by
  subst hlo; subst hhi
  refine ⟨⟨by omega, by omega, by omega⟩, ?_⟩
  simp only [Int.toNat_natCast]
  have h := hr.piece (a * size) ((b - a) * size) (c - a) fun h0 => List.drop_eq_nil_of_le (by rw [hl]; exact Nat.mul_le_mul_right _ (by omega))
  have e : (if c - a = 0 then p else p.map (·.add (a * size))) = (if c = a then p else p.map (·.add (a * size))) := by
    by_cases h1 : c = a
    · rw [if_pos (by omega), if_pos h1]
    · rw [if_neg (by omega), if_neg h1]
  rw [e] at h
  exact hK _ h
theorem IxP.i {W w : World} {F : List Asn} {p : Option Addr} {cs : List Value} {n size k : Nat} {i : Int} {v : Value} {K : Addr → Prop} (hr : Rd F p cs) (hS : St W F w) (hi : i = k) (hk : k < n) (hc : cs[k * size]? = some v) (hK : ∀ a, p = some a → K (a.add (k * size))) : IxP p n i size K := by
  subst hi
  obtain ⟨a, ha, _⟩ := hr.of hS hc
  exact ⟨a, ha, ⟨by omega, by omega⟩, by rw [Int.toNat_natCast]; exact hK a ha⟩
section
variable {W w : World} {F : List Asn} {p : Option Addr} {cs : List Value} {a : Addr} {k j : Nat}
theorem Rd.at2 {v : Value} (hr : Rd F p cs) (hS : St W F w) (hp : p = some a) (h : cs[k + j]? = some v) : w.cell? ((a.add k).add j) = some v := by
  obtain ⟨a', ha, hc⟩ := hr.of hS h
  rw [hp] at ha; cases ha
  rw [Addr.add_add]; exact hc
theorem Rd.at1 {v : Value} (hr : Rd F p cs) (hS : St W F w) (hp : p = some a) (h : cs[k]? = some v) : w.cell? (a.add k) = some v := by
  obtain ⟨a', ha, hc⟩ := hr.of hS h
  rw [hp] at ha; cases ha
  exact hc
theorem LdI.at {k : IntKind} {x : Int} {K : Int → Prop} (h : w.cell? a = some (.int k x)) (hF : K x) : LdI k a w K := ⟨x, h, hF⟩
theorem LdB.at {x : Bool} {K : Bool → Prop} (h : w.cell? a = some (.bool x)) (hF : K x) : LdB a w K := ⟨x, h, hF⟩
theorem LdS.at {x : ByteArray} {K : ByteArray → Prop} (h : w.cell? a = some (.string x)) (hF : K x) : LdS a w K := ⟨x, h, hF⟩
theorem LdP.at {x : Option Addr} {K : Option Addr → Prop} (h : w.cell? a = some (.pointer x)) (hF : K x) : LdP a w K := ⟨x, h, hF⟩
theorem LdL.at {p : Option Addr} {n c : Nat} {K : Option Addr → Nat → Nat → Prop} (h : w.cell? a = some (.slice p n c)) (hF : K p n c) : LdL a w K := ⟨p, n, c, h, hF⟩
theorem LdM.at {x : Option Nat} {K : Option Nat → Prop} (h : w.cell? a = some (.map x)) (hF : K x) : LdM a w K := ⟨x, h, hF⟩
end

/-! ### Bytes and texts -/
def byteV (x : UInt8) : Value := .int .u8 x.toNat
def mkS (l : List UInt8) : ByteArray := ⟨l.toArray⟩
theorem mkS_size (l : List UInt8) : (mkS l).size = l.length := by simp [mkS, ByteArray.size]
theorem mkS_data (s : ByteArray) : mkS s.data.toList = s := by simp [mkS]
theorem mkS_append (a b : List UInt8) : mkS a ++ mkS b = mkS (a ++ b) := by
  apply ByteArray.ext
  simp [mkS, ByteArray.data_append]
theorem mkS_toList (l : List UInt8) : (mkS l).toList = l := by
  rw [ByteArray.toList_eq]; rfl
theorem notAgg_byteV {l : List UInt8} : ∀ v ∈ l.map byteV, NotAgg v := fun v hv => by
  obtain ⟨x, _, rfl⟩ := List.mem_map.1 hv
  trivial

/-- string of bytes. -/
theorem str_i {P : Program} {w : World} {sT dT e : TypeId} (hs : P.underlying sT = some (.slice e)) (he : P.underlying e = some (.int .u8)) (hd : P.underlying dT = some .string) {p : Option Addr} {n c : Nat} {bs : List UInt8} {F : Value → World → Prop}
    (hr : ∀ (j : Nat) v, (bs.map byteV)[j]? = some v → ∃ a, p = some a ∧ w.cell? (a.add j) = some v) (hl : bs.length = n) (hF : F (.string (mkS bs)) w) : Run P (convert sT dT (.slice p n c)) w F := by
  refine ⟨_, w, ?_, hF⟩
  subst hl
  cases p with
  | none =>
    have hb : bs = [] := by
      rcases bs with _ | ⟨x, bs⟩
      · rfl
      · obtain ⟨a, ha, _⟩ := hr 0 (byteV x) rfl; cases ha
    subst hb
    rw [run_convert_bytes_nil w sT e hs he _ _ dT hd]
    rfl
  | some a =>
    exact run_convert_bytes_back w sT dT e a c bs hs he hd fun j hj => by
      obtain ⟨a', ha, hc⟩ := hr j (byteV bs[j]) (by simp [List.getElem?_eq_getElem hj])
      cases ha
      exact hc

/-- A row that is made, with a bar behind it. -/
theorem St.allocBar {W w : World} {l : List Asn} (h : St W l w) (c : Array Value) (t : TypeId) (k : Nat) (hk : c.size ≤ k) : St W (Row w.heap.size t c.toList :: l) (w.alloc (.cells c t (k, k + 1))) :=
  (h.alloc _).imp fun h hb => ⟨c, (k, k + 1), hb, rfl, fun i hi => by simp at hi; simp only; omega⟩
theorem St.draws {W w : World} {l : List Asn} (h : St W l w) : St W l w.drew := h.drew

/-- bytes of a string: a new row, with room behind. -/
theorem bytes_i {P : Program} {W w : World} {l : List Asn} {sT dT e : TypeId} (hs : P.underlying sT = some .string) (hd : P.underlying dT = some (.slice e)) (he : P.underlying e = some (.int .u8)) {bs : List UInt8} {F : Value → World → Prop}
    (hS : St W l w) (hF : ∀ b c w', bs.length ≤ c → St W (Row b e (bs.map byteV ++ List.replicate (c - bs.length) (.int .u8 0)) :: l) w' → F (.slice (some ⟨b, 0, none⟩) bs.length c) w') : Run P (convert sT dT (.string (mkS bs))) w F := by
  have h1 := run_bytes_of_string (P := P) w sT dT e (mkS bs) hs hd he
  have hz : (bytesRow (mkS bs) (grownCap w (mkS bs).size 0 e)).toList = bs.map byteV ++ List.replicate (grownCap w (mkS bs).size 0 e - bs.length) (.int .u8 0) := by
    unfold bytesRow
    rw [mkS_size]
    simp [mkS, byteV, Function.comp_def]
  refine ⟨_, _, h1, ?_⟩
  rw [mkS_size] at hz ⊢
  have hS' := St.allocBar hS.draws (bytesRow (mkS bs) (grownCap w bs.length 0 e)) e (bytesRow (mkS bs) (grownCap w bs.length 0 e)).size (Nat.le_refl _)
  rw [hz] at hS'
  refine hF _ _ _ ?_ hS'
  exact grownCap_ge _ _ _ _

/-- bytes of a constant text. -/
theorem constB_i {P : Program} {W w : World} {l : List Asn} {T e : TypeId} {cs : Array Value} {n c : Nat} (ht : P.underlying T = some (.slice e)) (he : P.underlying e = some (.int .u8)) {F : Value → World → Prop}
    (hS : St W l w) (hF : ∀ b w', St W (Row b e cs.toList :: l) w' → F (.slice (some ⟨b, 0, none⟩) n c) w') : NewC cs e w fun b w1 => Run P (convert T T (.slice (some ⟨b, 0, none⟩) n c)) w1 F :=
  ⟨_, _, Lib.run_convert_bytes_const w T e cs n c ht he, hF _ _ (St.allocBar hS cs e cs.size (Nat.le_refl _))⟩
/-- string of bytes that are read. -/
theorem str_rd {P : Program} {W w : World} {l : List Asn} {sT dT e : TypeId} (hs : P.underlying sT = some (.slice e)) (he : P.underlying e = some (.int .u8)) (hd : P.underlying dT = some .string) {p : Option Addr} {n c : Nat} {bs : List UInt8} {F : Value → World → Prop}
    (hS : St W l w) (hr : Rd l p (bs.map byteV)) (hl : bs.length = n) (hF : F (.string (mkS bs)) w) : Run P (convert sT dT (.slice p n c)) w F :=
  str_i hs he hd (fun j v hj => hr.of hS hj) hl hF
theorem Rd.all {F : List Asn} {b : Nat} {t : TypeId} {all : List Value} : Rd (Row b t all :: F) (some ⟨b, 0, none⟩) all := Rd.row 0 fun i v h => by simpa using h

/-! ### Slices that own their row -/
/-- The slice owns a row, of which the first cells are these. -/
def OwnS (t : TypeId) (size : Nat) (p : Option Addr) (n c : Nat) (cs : List Value) : Asn := fun h =>
  cs.length = n * size ∧ n ≤ c ∧ (c = 0 ∨ ∃ q all, p = some ⟨q, 0, none⟩ ∧ all.length = c * size ∧ all.take (n * size) = cs ∧ Row q t all h)
theorem OwnS.nil (t : TypeId) (size : Nat) (p : Option Addr) {W w : World} {l : List Asn} (h : St W l w) : St W (OwnS t size p 0 0 [] :: l) w :=
  ⟨h.1, fun _ => none, fun b o hb => by (cases hb), ⟨by simp, Nat.le_refl _, .inl rfl⟩, h.2⟩
theorem OwnS.of_row {t : TypeId} {size q n c : Nat} {all cs : List Value} (hc : all.length = c * size) (hn : n ≤ c) (ht : all.take (n * size) = cs) {W w : World} {l : List Asn} (h : St W (Row q t all :: l) w) : St W (OwnS t size (some ⟨q, 0, none⟩) n c cs :: l) w :=
  h.imp fun h hr => ⟨by rw [← ht, List.length_take, hc]; exact Nat.min_eq_left (Nat.mul_le_mul_right _ hn), hn, .inr ⟨q, all, rfl, hc, ht, hr⟩⟩
theorem OwnS.rd {t : TypeId} {size : Nat} {p : Option Addr} {n c : Nat} {cs : List Value} (F : List Asn) : Rd (OwnS t size p n c cs :: F) p cs := fun H hH i v hi => by
  obtain ⟨g, h1, ⟨hl, hn, h2⟩, _⟩ := hH
  rcases h2 with rfl | ⟨q, all, rfl, hc, ht, hr⟩
  · have : cs = [] := List.eq_nil_of_length_eq_zero (by rw [hl, Nat.le_zero.1 hn, Nat.zero_mul])
    subst this; simp at hi
  · have hi' : all[i]? = some v := by
      subst ht
      rw [List.getElem?_take] at hi
      split at hi
      · exact hi
      · cases hi
    exact ⟨_, rfl, by rw [add_at, Nat.zero_add]; exact cellH_mono h1 (hr.cell hi')⟩

theorem zeroCells_length (z : Array Value) (n : Nat) : (Builtin.zeroCells z n).size = n * z.size := by simp [Builtin.zeroCells]

theorem zeroCells_notAgg : True := trivial
section
variable {P : Program} {W w : World} {r : List Asn} {sT xT ty e : TypeId} {inf : TypeInfo} {z : Value} {size : Nat} {p : Option Addr} {n c m : Nat} {cs xs : List Value} {x : Value}
def Src (P : Program) (t : TypeId) : Prop := P.underlying t = some .string ∨ ∃ e, P.underlying t = some (.slice e)
theorem append_fits_run (hu : P.underlying sT = some (.slice e)) (hx : Src P xT) (hi : P.info? e = some inf) (hs : inf.size = size) (hfit : n + m ≤ c) {w' : World}
    (hlen : ∀ s, (Builtin.lenOf x).run P s = .ok m s) (hrd : (Builtin.firstCells size m x).run P w = .ok xs.toArray w)
    (hst : (p = none ∧ w' = w) ∨ ∃ a, p = some a ∧ (storeCells (a.add (n * size)) xs).run P w = .ok () w') :
    (Builtin.append_ #[sT, xT] ty #[.slice p n c, x]).run P w = .ok (.slice p (n + m) c) w' := by
  subst hs
  rcases hst with ⟨rfl, rfl⟩ | ⟨a, rfl, hst⟩
  · rcases hx with hd | ⟨e', hd⟩ <;> simp [Builtin.append_, run_underlying hu, run_underlying hd, sizeOf, typeInfo, hi, hlen, hrd, hfit]
  · rcases hx with hd | ⟨e', hd⟩ <;> simp [Builtin.append_, run_underlying hu, run_underlying hd, sizeOf, typeInfo, hi, hlen, hrd, hfit, hst]
theorem append_grows_run (hu : P.underlying sT = some (.slice e)) (hx : Src P xT) (hi : P.info? e = some inf) (hs : inf.size = size) (hz : inf.zero = some z) (hfit : ¬ n + m ≤ c)
    (hlen : ∀ s, (Builtin.lenOf x).run P s = .ok m s) (hrd : (Builtin.firstCells size m x).run P w.drew = .ok xs.toArray w.drew) (hold : (Builtin.firstCells size n (.slice p n c)).run P w.drew = .ok cs.toArray w.drew)
    (h63 : ((n + m : Nat) : Int) ≤ 9223372036854775807) (hb : Builtin.nextslicecap (n + m) c * inf.bytes ≤ 281474976710656) :
    (Builtin.append_ #[sT, xT] ty #[.slice p n c, x]).run P w = .ok (.slice (some ⟨w.heap.size, 0, none⟩) (n + m) (grownCap w (n + m) c e))
      (w.drew.alloc (.cells (cs.toArray ++ xs.toArray ++ Builtin.zeroCells z.cells (grownCap w (n + m) c e - (n + m))) e)) := by
  subst hs
  have h63' : ¬ (9223372036854775807 < ((n : Int) + (m : Int))) := by omega
  have h48' : ¬ (281474976710656 < Builtin.nextslicecap (n + m) c * inf.bytes) := by omega
  rcases hx with hd | ⟨e', hd⟩
  all_goals
    simp [Builtin.append_, run_underlying hu, run_underlying hd, sizeOf, typeInfo, zeroValue, hi, hz, hlen, hfit, h63', h48', Question.forced, hrd, hold, newRow, grownCap]
    congr 2
    apply Array.ext'
    simp [List.append_assoc]

/-- append onto a row of one's own. -/
theorem append_i (hu : P.underlying sT = some (.slice e)) (hx : Src P xT) (hi : P.info? e = some inf) (hs : inf.size = size) (hz : inf.zero = some z) (hzs : z.cells.size = size) {F : Value → World → Prop}
    (hS : St W (OwnS e size p n c cs :: r) w) (hlen : ∀ s, (Builtin.lenOf x).run P s = .ok m s) (hrd : ∀ s : World, s.heap = w.heap → (Builtin.firstCells size m x).run P s = .ok xs.toArray s) (hxl : xs.length = m * size)
    (hna : ∀ v ∈ xs, NotAgg v) (hb : (n + m) * inf.bytes ≤ 140737488355328) (h63 : ((n + m : Nat) : Int) ≤ 9223372036854775807)
    (hF : ∀ p' c' w', St W (OwnS e size p' (n + m) c' (cs ++ xs) :: r) w' → F (.slice p' (n + m) c') w') :
    Run P (Builtin.append_ #[sT, xT] ty #[.slice p n c, x]) w F := by
  have hcl : cs.length = n * size ∧ n ≤ c := by
    obtain ⟨_, g, _, ⟨h1, h2, _⟩, _⟩ := hS; exact ⟨h1, h2⟩
  by_cases hfit : n + m ≤ c
  · -- it fits
    obtain ⟨h0, g, h1, ⟨h2, h3, h4⟩, h5⟩ := hS
    rcases h4 with rfl | ⟨q, all, rfl, hc, ht, hr⟩
    · -- nothing onto nothing
      have hn0 : n = 0 := by omega
      have hm0 : m = 0 := by omega
      subst hn0; subst hm0
      have hx0 : xs = [] := List.eq_nil_of_length_eq_zero (by rw [hxl, Nat.zero_mul])
      subst hx0
      have := append_fits_run (P := P) (w := w) (w' := w) (p := p) (n := 0) (m := 0) (c := 0) (xs := []) (ty := ty) hu hx hi hs (Nat.le_refl _) hlen (hrd w rfl) (by cases p with | none => exact .inl ⟨rfl, rfl⟩ | some a => exact .inr ⟨a, rfl, rfl⟩)
      exact ⟨_, w, this, hF p 0 w ⟨h0, g, h1, ⟨by simpa using h2, Nat.le_refl _, .inl rfl⟩, h5⟩⟩
    · have hrow : St W (Row q e all :: r) w := ⟨h0, g, h1, hr, h5⟩
      have hle : n * size + xs.length ≤ all.length := by rw [hxl, hc, ← Nat.add_mul]; exact Nat.mul_le_mul_right _ hfit
      obtain ⟨w', hst, hS'⟩ := storeCells_st (P := P) (o := n * size) xs 0 all w hrow (by omega) hna
      rw [Nat.add_zero, setAll_eq _ _ _ hle] at hS'
      have := append_fits_run (P := P) (w := w) (w' := w') (p := some ⟨q, 0, none⟩) (n := n) (m := m) (c := c) (ty := ty) hu hx hi hs hfit hlen (hrd w rfl) (.inr ⟨_, rfl, by rw [add_at, Nat.zero_add]; exact hst⟩)
      refine ⟨_, w', this, hF _ c w' (OwnS.of_row ?_ hfit ?_ hS')⟩
      · unfold splice; simp; omega
      · unfold splice
        have e1 : (n + m) * size = n * size + xs.length := by rw [hxl, Nat.add_mul]
        have l1 : (all.take (n * size)).length = n * size := by simp; omega
        rw [e1, ← ht, List.take_append_of_le_length (by simp; omega), List.take_of_length_le (by simp; omega)]
  · -- it grows
    have hold : (Builtin.firstCells size n (.slice p n c)).run P w.drew = .ok cs.toArray w.drew := by
      refine firstCells_run (fun j v hj => ?_) hcl.1 fun hp => ?_
      · exact (OwnS.rd r).of hS.draws hj
      · obtain ⟨_, g, _, ⟨h1, h2, h3⟩, _⟩ := hS
        rcases h3 with rfl | ⟨q, all, hq, _⟩
        · rw [Nat.le_zero.1 h2, Nat.zero_mul]
        · rw [hp] at hq; cases hq
    have := append_grows_run (P := P) (w := w) (x := x) (n := n) (m := m) (c := c) (ty := ty) hu hx hi hs hz hfit hlen (hrd w.drew rfl) hold h63 (growslice_fits (by omega) hb)
    have hge := grownCap_ge w (n + m) c e
    have hS' := St.allocRow (St.draws hS).drop (cs.toArray ++ xs.toArray ++ Builtin.zeroCells z.cells (grownCap w (n + m) c e - (n + m))) e
    refine ⟨_, _, this, hF _ _ _ (OwnS.of_row ?_ hge ?_ hS')⟩
    · have hz' := zeroCells_length z.cells (grownCap w (n + m) c e - (n + m))
      simp only [Array.toList_append, List.length_append, hcl.1, hxl, Array.length_toList, hz', hzs]
      rw [← Nat.add_mul, ← Nat.add_mul]
      congr 1
      omega
    · have e1 : (n + m) * size = (cs ++ xs).length := by rw [List.length_append, hcl.1, hxl, Nat.add_mul]
      rw [e1]
      simp only [Array.toList_append]
      rw [List.take_append_of_le_length (by simp), List.take_of_length_le (by simp)]
theorem append_sl (hu : P.underlying sT = some (.slice e)) (hx : Src P xT) (hi : P.info? e = some inf) (hs : inf.size = size) (hz : inf.zero = some z) (hzs : z.cells.size = size) {sp : Option Addr} {sc : Nat} {F : Value → World → Prop}
    (hS : St W (OwnS e size p n c cs :: r) w) (hr : Rd r sp xs) (hxl : xs.length = m * size)
    (hna : ∀ v ∈ xs, NotAgg v) (hb : (n + m) * inf.bytes ≤ 140737488355328) (h63 : ((n + m : Nat) : Int) ≤ 9223372036854775807)
    (hF : ∀ p' c' w', St W (OwnS e size p' (n + m) c' (cs ++ xs) :: r) w' → F (.slice p' (n + m) c') w') :
    Run P (Builtin.append_ #[sT, xT] ty #[.slice p n c, .slice sp m sc]) w F :=
  append_i hu hx hi hs hz hzs hS (fun s => rfl) (fun s hh => firstCells_run (fun j v hj => by
    obtain ⟨a, ha, hc⟩ := (hr.cons _).of hS hj
    exact ⟨a, ha, by rw [← hc]; unfold World.cell?; rw [hh]⟩) hxl (fun h0 => by
    rcases xs with _ | ⟨v, xs⟩
    · simpa using hxl.symm
    · obtain ⟨a, ha, _⟩ := (hr.cons _).of hS (i := 0) (v := v) rfl
      rw [h0] at ha; cases ha)) hxl hna hb h63 hF
/-- An empty row of one's own. -/
theorem OwnS.empty {t : TypeId} {size q : Nat} {W w : World} {l : List Asn} (h : St W (Row q t [] :: l) w) : St W (OwnS t size (some ⟨q, 0, none⟩) 0 0 [] :: l) w := OwnS.of_row (all := []) (by simp) (Nat.le_refl _) (by simp) h
/-- A row as a whole. -/
theorem OwnS.whole {t : TypeId} {size q n : Nat} {all : List Value} {W w : World} {l : List Asn} (hl : all.length = n * size) (h : St W (Row q t all :: l) w) : St W (OwnS t size (some ⟨q, 0, none⟩) n n all :: l) w := OwnS.of_row hl (Nat.le_refl _) (by rw [← hl, List.take_length]) h
theorem OwnS.le {t : TypeId} {size : Nat} {p : Option Addr} {n c : Nat} {cs : List Value} {W w : World} {l : List Asn} (h : St W (OwnS t size p n c cs :: l) w) : cs.length = n * size ∧ n ≤ c := by
  obtain ⟨_, g, _, ⟨h1, h2, _⟩, _⟩ := h; exact ⟨h1, h2⟩
/-- One cell of a row of one's own is written. -/
theorem OwnS.set {t : TypeId} {size : Nat} {p : Option Addr} {n c k : Nat} {cs : List Value} {W w : World} {l : List Asn} {K : World → Prop} (hS : St W (OwnS t size p n c cs :: l) w) (hk : k < n * size) (v : Value)
    (hK : ∀ w', St W (OwnS t size p n c (cs.set k v) :: l) w' → K w') : ∃ a, p = some a ∧ St1 (a.add k) v w K := by
  obtain ⟨h0, g, h1, ⟨h2, h3, h4⟩, h5⟩ := hS
  rcases h4 with rfl | ⟨q, all, rfl, hc, ht, hr⟩
  · have : n = 0 := by omega
    subst this; omega
  · have hrow : St W (Row q t all :: l) w := ⟨h0, g, h1, hr, h5⟩
    have hle : n * size ≤ c * size := Nat.mul_le_mul_right _ h3
    refine ⟨_, rfl, ?_⟩
    rw [add_at, Nat.zero_add]
    refine St1.i hrow (by omega) fun w' h' => hK w' (OwnS.of_row (by simpa using hc) h3 ?_ h')
    subst ht
    refine List.ext_getElem? fun j => ?_
    rw [List.getElem?_take, List.getElem?_set, List.getElem?_set, List.getElem?_take]
    simp only [List.length_take]
    by_cases hj : j < n * size
    · by_cases e : k = j
      · subst e
        rw [if_pos hj, if_pos rfl, if_pos (by omega), if_pos rfl, if_pos (by omega)]
      · rw [if_pos hj, if_neg e, if_neg e, if_pos hj]
    · rw [if_neg hj, if_neg (by omega), if_neg hj]
/-- A slice of bytes of one's own is written at a place. -/
theorem OwnS.ix {t : TypeId} {p : Option Addr} {n c k : Nat} {cs : List Value} {W w : World} {l : List Asn} {K : World → Prop} (hS : St W (OwnS t 1 p n c cs :: l) w) (hk : k < n) (v : Value)
    (hK : ∀ w', St W (OwnS t 1 p n c (cs.set k v) :: l) w' → K w') : IxP p n (k : Int) 1 fun a => St1 a v w K := by
  obtain ⟨a, ha, h⟩ := OwnS.set hS (k := k) (by omega) v hK
  exact ⟨a, ha, ⟨by omega, by omega⟩, by rw [Int.toNat_natCast, Nat.mul_one]; exact h⟩
end
end Go.Proofs.Ytbfccpbijimjmaa
