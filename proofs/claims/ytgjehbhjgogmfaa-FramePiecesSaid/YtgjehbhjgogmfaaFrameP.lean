/-
  Frames, in plain Lean: the first one of some bytes; all that they begin with.
-/
import Derived.Test.YtgjehbhjgogmfaaSl
set_option linter.unusedVariables false
set_option linter.unusedSimpArgs false
namespace Go.Proofs.Ytgjehbhjgogmfaa
open Go
/-- What the frame that bytes begin with has; how many bytes it is; the error. -/
def firstP : List UInt8 → List UInt8 × Nat × Int
  | [] => ([], 0, 0)
  | a :: r => if a.toNat ≠ 170 then ([], 0, 61) else match r with
    | [] => ([], 0, 0)
    | b :: s => if b.toNat = 0 ∨ b.toNat > 200 then ([], 0, 61) else if s.length < b.toNat then ([], 0, 0) else (s.take b.toNat, 2 + b.toNat, 0)
def Fine (x : List UInt8) : Prop := 0 < x.length ∧ x.length ≤ 200
instance (x : List UInt8) : Decidable (Fine x) := by unfold Fine; infer_instance
def putP (x : List UInt8) : List UInt8 := if Fine x then 170 :: UInt8.ofNat x.length :: x else []
def encs (xs : List (List UInt8)) : List UInt8 := xs.flatMap putP
theorem putP_fine {x : List UInt8} (h : Fine x) : putP x = 170 :: UInt8.ofNat x.length :: x := by unfold putP; rw [if_pos h]
theorem putP_not {x : List UInt8} (h : ¬ Fine x) : putP x = [] := by unfold putP; rw [if_neg h]
theorem putP_len {x : List UInt8} (h : Fine x) : (putP x).length = x.length + 2 := by rw [putP_fine h]; rfl
theorem ofLen {n : Nat} (h : n ≤ 200) : (UInt8.ofNat n).toNat = n := UInt8.toNat_ofNat_of_lt' (by show n < 256; omega)
theorem encs_nil : encs [] = [] := rfl
theorem encs_cons (x : List UInt8) (xs : List (List UInt8)) : encs (x :: xs) = putP x ++ encs xs := rfl
theorem encs_append (xs ys : List (List UInt8)) : encs (xs ++ ys) = encs xs ++ encs ys := by unfold encs; rw [List.flatMap_append]
theorem encs_one (x : List UInt8) : encs [x] = putP x := by rw [encs_cons, encs_nil, List.append_nil]
theorem first_put {x : List UInt8} (h : Fine x) (r : List UInt8) : firstP (putP x ++ r) = (x, x.length + 2, 0) := by
  rw [putP_fine h]
  have hl := ofLen h.2
  have h1 := h.1
  have h2 := h.2
  simp only [List.cons_append, firstP, hl]
  rw [if_neg (by decide), if_neg (by omega), if_neg (by rw [List.length_append]; omega), List.take_left' rfl, Nat.add_comm]
theorem first_some {bs : List UInt8} (h : (firstP bs).2.1 ≠ 0) : ∃ x r, Fine x ∧ bs = putP x ++ r ∧ firstP bs = (x, x.length + 2, 0) := by
  match bs with
  | [] => exact absurd rfl h
  | [a] => simp only [firstP] at h; split at h <;> exact absurd rfl h
  | a :: b :: s =>
    simp only [firstP] at h ⊢
    split at h
    · exact absurd rfl h
    · rename_i ha
      have ha : a.toNat = 170 := Decidable.not_not.1 ha
      split at h
      · exact absurd rfl h
      · rename_i hb
        split at h
        · exact absurd rfl h
        · rename_i hs
          have hf : Fine (s.take b.toNat) := by unfold Fine; rw [List.length_take]; omega
          refine ⟨s.take b.toNat, s.drop b.toNat, hf, ?_, ?_⟩
          · rw [putP_fine hf]
            have e1 : a = 170 := UInt8.toNat_inj.1 ha
            have e2 : UInt8.ofNat (s.take b.toNat).length = b := by
              rw [List.length_take, Nat.min_eq_left (by omega)]
              exact UInt8.ofNat_toNat
            rw [e1, e2, List.cons_append, List.cons_append, List.take_append_drop]
          · rw [if_neg (by omega), if_neg (by omega), if_neg (by omega), List.length_take, Nat.min_eq_left (by omega), Nat.add_comm]
theorem first_none {bs : List UInt8} (h : (firstP bs).2.1 = 0) : (firstP bs).1 = [] := by
  match bs with
  | [] => rfl
  | [a] => simp only [firstP]; split <;> rfl
  | a :: b :: s =>
    simp only [firstP] at h ⊢
    split
    · rfl
    · split
      · rfl
      · split
        · rfl
        · rename_i h1 h2 h3
          rw [if_neg h1, if_neg h2, if_neg h3] at h
          simp at h
theorem first_le (bs : List UInt8) : (firstP bs).1.length ≤ bs.length ∧ (firstP bs).2.1 ≤ bs.length ∧ (firstP bs).1.length ≤ 200 := by
  by_cases h : (firstP bs).2.1 = 0
  · rw [first_none h, h]; simp
  · obtain ⟨x, r, hf, hb, e⟩ := first_some h
    have h2 := hf.2
    rw [e, hb, List.length_append, putP_len hf]
    dsimp only
    omega
theorem first_e (bs : List UInt8) : (firstP bs).2.2 = 0 ∨ (firstP bs).2 = (0, 61) := by
  match bs with
  | [] => exact .inl rfl
  | [a] =>
    simp only [firstP]
    split
    · exact .inr rfl
    · exact .inl rfl
  | a :: b :: s =>
    simp only [firstP]
    split
    · exact .inr rfl
    · split
      · exact .inr rfl
      · split <;> exact .inl rfl
/-- An error stays one, whatever comes behind. -/
theorem first_err {bs : List UInt8} (h : (firstP bs).2.2 ≠ 0) (r : List UInt8) : (firstP (bs ++ r)).2 = (firstP bs).2 := by
  match bs with
  | [] => exact absurd rfl h
  | [a] =>
    simp only [firstP, List.cons_append, List.nil_append] at h ⊢
    split at h
    · rename_i ha; rw [if_pos ha, if_pos ha]
    · exact absurd rfl h
  | a :: b :: s =>
    simp only [firstP, List.cons_append] at h ⊢
    split at h
    · rename_i ha; rw [if_pos ha, if_pos ha]
    · rename_i ha
      rw [if_neg ha, if_neg ha]
      split at h
      · rename_i hb; rw [if_pos hb, if_pos hb]
      · split at h <;> exact absurd rfl h
/-- A beginning of a frame is none yet, and no error. -/
theorem first_part {x : List UInt8} (h : Fine x) {i : Nat} (hi : i < (putP x).length) : firstP ((putP x).take i) = ([], 0, 0) := by
  rw [putP_len h] at hi
  rw [putP_fine h]
  have h1 := h.1
  have h2 := h.2
  match i with
  | 0 => rfl
  | 1 => rfl
  | i + 2 =>
    simp only [List.take_succ_cons, firstP, ofLen h.2]
    rw [if_neg (by decide), if_neg (by omega), if_pos (by rw [List.length_take]; omega)]
/-- What is cut of some bytes: frames, how many bytes, the error. -/
structure CutIs (bs : List UInt8) (xs : List (List UInt8)) (n : Nat) (e : Int) : Prop where
  fine : ∀ x ∈ xs, Fine x
  len : n = (encs xs).length
  rest : ∃ r, bs = encs xs ++ r ∧ (firstP r).2 = (0, e)
theorem CutIs.uniq {bs : List UInt8} {xs ys : List (List UInt8)} {n m : Nat} {e f : Int} (h : CutIs bs xs n e) (k : CutIs bs ys m f) : xs = ys ∧ n = m ∧ e = f := by
  obtain ⟨h1, rfl, r, h2, h3⟩ := h
  obtain ⟨k1, rfl, s, k2, k3⟩ := k
  have key : ∀ (xs ys : List (List UInt8)) (r s : List UInt8), (∀ x ∈ xs, Fine x) → (∀ x ∈ ys, Fine x) → encs xs ++ r = encs ys ++ s → (firstP r).2 = (0, e) → (firstP s).2 = (0, f) → xs = ys ∧ e = f := by
    intro xs
    induction xs with
    | nil =>
      intro ys r s _ hy he hr hs
      cases ys with
      | nil =>
        have : r = s := he
        subst this
        rw [hr] at hs; cases hs; exact ⟨rfl, rfl⟩
      | cons y ys =>
        rw [encs_nil, List.nil_append, encs_cons, List.append_assoc] at he
        rw [he, first_put (hy y List.mem_cons_self)] at hr
        simp at hr
    | cons x xs ih =>
      intro ys r s hx hy he hr hs
      cases ys with
      | nil =>
        rw [encs_nil, List.nil_append, encs_cons, List.append_assoc] at he
        rw [← he, first_put (hx x List.mem_cons_self)] at hs
        simp at hs
      | cons y ys =>
        have f1 := first_put (hx x List.mem_cons_self) (encs xs ++ r)
        have f2 := first_put (hy y List.mem_cons_self) (encs ys ++ s)
        rw [encs_cons, encs_cons, List.append_assoc, List.append_assoc] at he
        rw [he, f2] at f1
        have exy : y = x := congrArg Prod.fst f1
        subst exy
        obtain ⟨i1, i2⟩ := ih ys r s (fun x hx' => hx x (List.mem_cons_of_mem _ hx')) (fun x hx' => hy x (List.mem_cons_of_mem _ hx')) (List.append_cancel_left he) hr hs
        exact ⟨by rw [i1], i2⟩
  obtain ⟨e1, e2⟩ := key xs ys r s h1 k1 (h2.symm.trans k2) h3 k3
  subst e1
  exact ⟨rfl, rfl, e2⟩
theorem CutIs.le {bs : List UInt8} {xs : List (List UInt8)} {n : Nat} {e : Int} (h : CutIs bs xs n e) : n ≤ bs.length ∧ bs.take n = encs xs ∧ (firstP (bs.drop n)).2 = (0, e) := by
  obtain ⟨h1, rfl, r, rfl, h3⟩ := h
  exact ⟨by rw [List.length_append]; omega, List.take_left' rfl, by rw [List.drop_left' rfl]; exact h3⟩
/-- One more frame. -/
theorem cut_more {bs : List UInt8} {xs : List (List UInt8)} {x : List UInt8} {n : Nat} (hb : bs = encs xs ++ bs.drop (encs xs).length) (hf : firstP (bs.drop (encs xs).length) = (x, n, 0)) (hn : n ≠ 0) :
    Fine x ∧ bs = encs (xs ++ [x]) ++ bs.drop (encs (xs ++ [x])).length ∧ (encs (xs ++ [x])).length = (encs xs).length + n := by
  obtain ⟨y, r, hy, hr, e⟩ := first_some (bs := bs.drop (encs xs).length) (by rw [hf]; exact hn)
  rw [hf] at e
  simp only [Prod.mk.injEq, and_true] at e
  obtain ⟨rfl, rfl⟩ := e
  have e1 : (encs (xs ++ [x])).length = (encs xs).length + (x.length + 2) := by rw [encs_append, encs_one, List.length_append, putP_len hy]
  refine ⟨hy, ?_, e1⟩
  have e2 : bs.drop (encs (xs ++ [x])).length = r := by
    rw [e1, ← List.drop_drop, hr, ← putP_len hy, List.drop_left' rfl]
  rw [e2, encs_append, encs_one, List.append_assoc, ← hr]
  exact hb
theorem cut_stop {bs : List UInt8} {xs : List (List UInt8)} {e : Int} (hx : ∀ x ∈ xs, Fine x) (hb : bs = encs xs ++ bs.drop (encs xs).length) (hf : (firstP (bs.drop (encs xs).length)).2 = (0, e)) : CutIs bs xs (encs xs).length e :=
  ⟨hx, rfl, _, hb, hf⟩
theorem encs_len_ge {xs : List (List UInt8)} (hx : ∀ x ∈ xs, Fine x) : xs.length ≤ (encs xs).length := by
  induction xs with
  | nil => simp
  | cons x xs ih =>
    have := ih fun y hy => hx y (List.mem_cons_of_mem _ hy)
    rw [encs_cons, List.length_append, putP_len (hx x List.mem_cons_self), List.length_cons]
    omega
end Go.Proofs.Ytgjehbhjgogmfaa
