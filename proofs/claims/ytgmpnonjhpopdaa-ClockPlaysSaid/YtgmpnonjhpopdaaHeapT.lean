/-
  Heaps, in plain Lean: what rises and what sinks.
-/
import Derived.Test.YtgmpnonjhpopdaaRules
set_option linter.unusedVariables false
set_option linter.unusedSimpArgs false
namespace Go.Proofs.Ytgmpnonjhpopdaa
open Go

section
variable {α : Type} (le : α → α → Prop)
def par (k : Nat) : Nat := (k - 1) / 2
def HeapF (n : Nat) (f : Nat → α) : Prop := ∀ k, 0 < k → k < n → le (f (par k)) (f k)
def UpI (n : Nat) (f : Nat → α) (j : Nat) : Prop := (∀ k, 0 < k → k < n → k ≠ j → le (f (par k)) (f k)) ∧ (∀ k, 0 < k → k < n → par k = j → 0 < j → le (f (par j)) (f k))
def HoleI (n : Nat) (f : Nat → α) (i : Nat) : Prop := (∀ k, 0 < k → k < n → k ≠ i → par k ≠ i → le (f (par k)) (f k)) ∧ (∀ k, 0 < k → k < n → par k = i → 0 < i → le (f (par i)) (f k))
def DnI (n : Nat) (f : Nat → α) (i : Nat) : Prop := (∀ k, 0 < k → k < n → par k ≠ i → le (f (par k)) (f k)) ∧ (∀ k, 0 < k → k < n → par k = i → 0 < i → le (f (par i)) (f k))
def sw (f : Nat → α) (i j : Nat) : Nat → α := fun k => if k = i then f j else if k = j then f i else f k
structure Order : Prop where
  trans : ∀ a b c, le a b → le b c → le a c
  total : ∀ a b, le a b ∨ le b a
theorem par_lt {k : Nat} (h : 0 < k) : par k < k := by unfold par; omega
variable {le} {n i j : Nat} {f : Nat → α}
theorem HeapF.up (h : HeapF le n f) (j : Nat) (ho : Order le) : UpI le n f j := ⟨fun k h0 h1 _ => h k h0 h1, fun k h0 h1 hp hj => by
  have a := h k h0 h1
  rw [hp] at a
  rcases Nat.lt_or_ge j n with hn | hn
  · exact ho.trans _ _ _ (h j hj hn) a
  · have := par_lt h0; omega⟩
theorem UpI.step (ho : Order le) (h : UpI le n f j) (hj : 0 < j) (hn : j < n) (hl : ¬ le (f (par j)) (f j)) : UpI le n (sw f (par j) j) (par j) := by
  have hpj := par_lt hj
  have hle : le (f j) (f (par j)) := (ho.total _ _).resolve_right hl
  refine ⟨fun k h0 h1 hk => ?_, fun k h0 h1 hp hpp => ?_⟩
  · unfold sw
    by_cases e : k = j
    · subst e
      rw [if_pos rfl, if_neg (by omega), if_pos rfl]; exact hle
    · rw [if_neg hk, if_neg e]
      by_cases e2 : par k = par j
      · rw [if_pos e2]
        have := h.1 k h0 h1 e
        rw [e2] at this
        exact ho.trans _ _ _ hle this
      · rw [if_neg e2]
        by_cases e3 : par k = j
        · rw [if_pos e3]
          exact h.2 k h0 h1 e3 hj
        · rw [if_neg e3]; exact h.1 k h0 h1 e
  · have hppj := par_lt hpp
    unfold sw
    have hkp : k ≠ par j := fun e => by rw [← e] at hp; have := par_lt h0; omega
    rw [if_neg (by omega : par (par j) ≠ par j), if_neg (by omega : par (par j) ≠ j), if_neg hkp]
    have hb := h.1 (par j) hpp (by omega) (by omega)
    by_cases e : k = j
    · subst e; rw [if_pos rfl]; exact hb
    · rw [if_neg e]
      have := h.1 k h0 h1 e
      rw [hp] at this
      exact ho.trans _ _ _ hb this
theorem UpI.done0 (h : UpI le n f 0) : HeapF le n f := fun k h0 h1 => h.1 k h0 h1 (by omega)
theorem UpI.done (h : UpI le n f j) (hl : le (f (par j)) (f j)) : HeapF le n f := fun k h0 h1 => by
  by_cases e : k = j
  · subst e; exact hl
  · exact h.1 k h0 h1 e
theorem DnI.hole (h : DnI le n f i) : HoleI le n f i := ⟨fun k h0 h1 _ h2 => h.1 k h0 h1 h2, h.2⟩
theorem HoleI.step (ho : Order le) (h : HoleI le n f i) (hj : par j = i) (h0j : 0 < j) (hn : j < n) (hmin : ∀ k, 0 < k → k < n → par k = i → le (f j) (f k)) (hl : ¬ le (f i) (f j)) : DnI le n (sw f i j) j := by
  have hij : i < j := by have := par_lt h0j; omega
  have hle : le (f j) (f i) := (ho.total _ _).resolve_right hl
  refine ⟨fun k h0 h1 hk => ?_, fun k h0 h1 hp _ => ?_⟩
  · unfold sw
    by_cases e : k = i
    · subst e
      have hpk := par_lt h0
      rw [if_neg (by omega : par k ≠ k), if_neg hk, if_pos rfl]
      exact h.2 j h0j hn hj h0
    · rw [if_neg e]
      by_cases e2 : par k = i
      · rw [if_pos e2]
        by_cases e3 : k = j
        · subst e3; rw [if_pos rfl]; exact hle
        · rw [if_neg e3]; exact hmin k h0 h1 e2
      · rw [if_neg e2, if_neg hk]
        by_cases e3 : k = j
        · subst e3; exact (e2 hj).elim
        · rw [if_neg e3]; exact h.1 k h0 h1 e e2
  · have hpk := par_lt h0
    unfold sw
    rw [hj, if_pos rfl, if_neg (by omega : k ≠ i), if_neg (by omega : k ≠ j)]
    have := h.1 k h0 h1 (by omega) (by omega)
    rw [hp] at this
    exact this
theorem HoleI.up (h : HoleI le n f i) (hc : ∀ k, 0 < k → k < n → par k = i → le (f i) (f k)) : UpI le n f i := ⟨fun k h0 h1 hk => by
  by_cases e : par k = i
  · rw [e]; exact hc k h0 h1 e
  · exact h.1 k h0 h1 hk e, h.2⟩
theorem DnI.done (h : DnI le n f i) (hc : ∀ k, 0 < k → k < n → par k = i → le (f i) (f k)) : HeapF le n f := fun k h0 h1 => by
  by_cases e : par k = i
  · rw [e]; exact hc k h0 h1 e
  · exact h.1 k h0 h1 e
/-- One of a heap is another one now. -/
theorem HeapF.hole (ho : Order le) (h : HeapF le n f) {g : Nat → α} (hi : i < n) (hg : ∀ k, k ≠ i → g k = f k) : HoleI le n g i := ⟨fun k h0 h1 hk hp => by rw [hg _ hp, hg _ hk]; exact h k h0 h1, fun k h0 h1 hp hi0 => by
  have a := h k h0 h1
  have b := h i hi0 hi
  have := par_lt h0
  have := par_lt hi0
  rw [hp] at a
  rw [hg _ (by omega), hg _ (by omega)]
  exact ho.trans _ _ _ b a⟩
theorem HeapF.least (ho : Order le) (h : HeapF le n f) : ∀ k, k < n → le (f 0) (f k) := by
  intro k
  induction k using Nat.strongRecOn with
  | ind k ih =>
    intro hk
    rcases Nat.eq_zero_or_pos k with rfl | h0
    · exact (ho.total _ _).elim id id
    · have := par_lt h0
      exact ho.trans _ _ _ (ih (par k) this (by omega)) (h k h0 hk)
theorem HeapF.less {m : Nat} (h : HeapF le n f) (hm : m ≤ n) : HeapF le m f := fun k h0 h1 => h k h0 (by omega)
theorem HeapF.congr {g : Nat → α} (h : HeapF le n f) (hg : ∀ k, k < n → g k = f k) : HeapF le n g := fun k h0 h1 => by
  have := par_lt h0
  rw [hg _ (by omega), hg _ h1]; exact h k h0 h1
theorem HeapF.push {g : Nat → α} (h : HeapF le n f) (hg : ∀ k, k < n → g k = f k) : UpI le (n + 1) g n := ⟨fun k h0 h1 hk => by
  have := par_lt h0
  rw [hg _ (by omega), hg _ (by omega)]; exact h k h0 (by omega), fun k h0 h1 hp _ => by have := par_lt h0; omega⟩
end
end Go.Proofs.Ytgmpnonjhpopdaa
