/-
  Digits of bytes, and bytes of digits, in plain Lean.
-/
import Derived.Test.YtbfccpbijimjmaaDigP
set_option linter.unusedVariables false
set_option linter.unusedSimpArgs false
namespace Go.Proofs.Ytbfccpbijimjmaa
open Go
/-- A digit's number; 16: it is none. -/
def hexD (c : UInt8) : Nat := if 48 ≤ c.toNat ∧ c.toNat ≤ 57 then c.toNat - 48 else if 97 ≤ c.toNat ∧ c.toNat ≤ 102 then c.toNat - 87 else 16
def byte2 (a b : Nat) : UInt8 := UInt8.ofNat (16 * a + b)
def unhexP : List UInt8 → Option (List UInt8)
  | [] => some []
  | [_] => none
  | a :: b :: r => if hexD a ≤ 15 ∧ hexD b ≤ 15 then (unhexP r).map (byte2 (hexD a) (hexD b) :: ·) else none
theorem hexD_le (c : UInt8) : hexD c ≤ 16 := by
  unfold hexD
  split
  · omega
  · split <;> omega
theorem hexD_hexB : ∀ x : Fin 16, hexD (hexB x.val) = x.val := by decide +kernel
theorem hexB_hexD : ∀ c : Fin 256, hexD (UInt8.ofNat c.val) ≤ 15 → hexB (hexD (UInt8.ofNat c.val)) = UInt8.ofNat c.val := by decide +kernel
theorem hexB_back (c : UInt8) (h : hexD c ≤ 15) : hexB (hexD c) = c := by
  have := hexB_hexD ⟨c.toNat, c.toNat_lt⟩
  simp only [UInt8.ofNat_toNat] at this
  exact this h
theorem hexD_of (x : Nat) (h : x < 16) : hexD (hexB x) = x := hexD_hexB ⟨x, h⟩
theorem hexP_cons (b : UInt8) (r : List UInt8) : hexP (b :: r) = hexB (b.toNat / 16) :: hexB (b.toNat % 16) :: hexP r := rfl
theorem hexP_app (a b : List UInt8) : hexP (a ++ b) = hexP a ++ hexP b := by
  induction a with
  | nil => rfl
  | cons x r ih => simp [hexP_cons, ih]
theorem hexP_len (a : List UInt8) : (hexP a).length = 2 * a.length := by
  induction a with
  | nil => rfl
  | cons x r ih => simp [hexP_cons, ih]; omega
theorem byte2_of (x : UInt8) : byte2 (x.toNat / 16) (x.toNat % 16) = x := by
  unfold byte2
  rw [Nat.div_add_mod]
  exact UInt8.ofNat_toNat
theorem unhex_hex (a : List UInt8) : unhexP (hexP a) = some a := by
  induction a with
  | nil => rfl
  | cons x r ih =>
    have h1 : x.toNat < 256 := x.toNat_lt
    rw [hexP_cons, unhexP, hexD_of _ (by omega), hexD_of _ (by omega), if_pos (by omega), ih, byte2_of]; rfl
theorem hex_unhex : ∀ (s : List UInt8) {a : List UInt8}, unhexP s = some a → hexP a = s
  | [], a, h => by cases h; rfl
  | [_], a, h => by cases h
  | x :: y :: r, a, h => by
    rw [unhexP] at h
    split at h
    · rename_i hd
      obtain ⟨b, hb, rfl⟩ := Option.map_eq_some_iff.1 h
      have h1 : (byte2 (hexD x) (hexD y)).toNat = 16 * hexD x + hexD y := by
        unfold byte2
        rw [UInt8.toNat_ofNat_of_lt' (by show _ < 256; omega)]
      rw [hexP_cons, hex_unhex r hb, h1, show (16 * hexD x + hexD y) / 16 = hexD x by omega, show (16 * hexD x + hexD y) % 16 = hexD y by omega, hexB_back x hd.1, hexB_back y hd.2]
    · cases h
theorem unhex_some : ∀ s : List UInt8, (unhexP s).isSome = true ↔ s.length % 2 = 0 ∧ ∀ c ∈ s, hexD c ≤ 15
  | [] => by simp [unhexP]
  | [x] => by simp [unhexP]
  | x :: y :: r => by
    rw [unhexP]
    split
    · rename_i hd
      rw [Option.isSome_map, unhex_some r]
      simp only [List.length_cons, List.mem_cons]
      constructor
      · rintro ⟨h1, h2⟩
        refine ⟨by omega, fun c hc => ?_⟩
        rcases hc with rfl | rfl | hc
        · exact hd.1
        · exact hd.2
        · exact h2 c hc
      · rintro ⟨h1, h2⟩
        exact ⟨by omega, fun c hc => h2 c (.inr (.inr hc))⟩
    · rename_i hd
      simp only [Option.isSome_none, Bool.false_eq_true, List.length_cons, List.mem_cons, false_iff, not_and]
      intro _ h2
      exact hd ⟨h2 x (.inl rfl), h2 y (.inr (.inl rfl))⟩
theorem unhex_len : ∀ (s : List UInt8) {a : List UInt8}, unhexP s = some a → s.length = 2 * a.length := fun s a h => by rw [← hex_unhex s h, hexP_len]
theorem hexB_ok (x : Nat) (h : x < 16) : hexD (hexB x) ≤ 15 := by rw [hexD_of x h]; omega
theorem hexP_ok (a : List UInt8) : ∀ c ∈ hexP a, hexD c ≤ 15 := ((unhex_some _).1 (by rw [unhex_hex]; rfl)).2
/-- So much of a byte is read. -/
def halfs (l : List UInt8) : Nat := l.foldl (fun n c => 16 * n + hexD c) 0
def hAt (s : List UInt8) (i j : Nat) : UInt8 := UInt8.ofNat (halfs ((s.drop (2 * j)).take (min 2 (i - 2 * j))))
def rowH (s : List UInt8) (i : Nat) : List UInt8 := (List.range (s.length / 2)).map (hAt s i)
theorem rowH_len (s : List UInt8) (i : Nat) : (rowH s i).length = s.length / 2 := by simp [rowH]
theorem rowH_get (s : List UInt8) (i j : Nat) (h : j < s.length / 2) : (rowH s i)[j]? = some (hAt s i j) := by
  unfold rowH
  rw [List.getElem?_map, List.getElem?_range h]; rfl
theorem hAt_other (s : List UInt8) (i j : Nat) (h : j ≠ i / 2) : hAt s (i + 1) j = hAt s i j := by
  unfold hAt
  rw [show min 2 (i + 1 - 2 * j) = min 2 (i - 2 * j) by omega]
theorem hAt_next (s : List UInt8) (i : Nat) {c : UInt8} (hc : s[i]? = some c) : hAt s (i + 1) (i / 2) = UInt8.ofNat (16 * (hAt s i (i / 2)).toNat + hexD c) := by
  unfold hAt
  have e1 : min 2 (i + 1 - 2 * (i / 2)) = (i - 2 * (i / 2)) + 1 := by omega
  have e2 : min 2 (i - 2 * (i / 2)) = i - 2 * (i / 2) := by omega
  rw [e1, e2, List.take_add_one, List.getElem?_drop, show 2 * (i / 2) + (i - 2 * (i / 2)) = i by omega, hc]
  have hb : halfs ((s.drop (2 * (i / 2))).take (i - 2 * (i / 2))) < 256 := by
    rcases (show i - 2 * (i / 2) = 0 ∨ i - 2 * (i / 2) = 1 by omega) with e | e
    · rw [e]; simp [halfs]
    · rw [e]
      unfold halfs
      cases s.drop (2 * (i / 2)) with
      | nil => simp
      | cons x r => simp; have := hexD_le x; omega
  rw [UInt8.toNat_ofNat_of_lt' hb]
  congr 1
  simp [halfs, List.foldl_append]
theorem rowH_next (s : List UInt8) (i : Nat) {c : UInt8} (hc : s[i]? = some c) (hi : i / 2 < s.length / 2) : rowH s (i + 1) = (rowH s i).set (i / 2) (UInt8.ofNat (16 * (hAt s i (i / 2)).toNat + hexD c)) := by
  refine List.ext_getElem? fun j => ?_
  rw [List.getElem?_set]
  rcases Nat.lt_or_ge j (s.length / 2) with h | h
  · rw [rowH_get s _ j h, rowH_get s _ j h]
    by_cases e : i / 2 = j
    · subst e
      rw [if_pos rfl, if_pos (by rw [rowH_len]; exact h), hAt_next s i hc]
    · rw [if_neg e, hAt_other s i j (fun k => e k.symm)]
  · rw [List.getElem?_eq_none (by rw [rowH_len]; exact h), List.getElem?_eq_none (by rw [rowH_len]; exact h), if_neg (by omega)]
theorem rowH_zero (s : List UInt8) : rowH s 0 = List.replicate (s.length / 2) 0 := by
  refine List.ext_getElem? fun j => ?_
  rcases Nat.lt_or_ge j (s.length / 2) with h | h
  · rw [rowH_get s _ j h, List.getElem?_replicate, if_pos h]
    unfold hAt
    rw [Nat.zero_sub, Nat.min_zero, List.take_zero]; rfl
  · rw [List.getElem?_eq_none (by rw [rowH_len]; exact h), List.getElem?_eq_none (by simpa using h)]
/-- All digits are read. -/
theorem rowH_full : ∀ (s : List UInt8), s.length % 2 = 0 → (∀ c ∈ s, hexD c ≤ 15) → unhexP s = some (rowH s s.length)
  | [], _, _ => rfl
  | [_], h, _ => by simp at h
  | x :: y :: r, h, hd => by
    have ih := rowH_full r (by simp only [List.length_cons] at h; omega) fun c hc => hd c (List.mem_cons_of_mem _ (List.mem_cons_of_mem _ hc))
    rw [unhexP, if_pos ⟨hd x (by simp), hd y (by simp)⟩, ih]
    show some _ = some _
    congr 1
    unfold rowH
    have hl : (x :: y :: r).length / 2 = r.length / 2 + 1 := by simp only [List.length_cons]; omega
    rw [hl, List.range_succ_eq_map, List.map_cons, List.map_map]
    refine List.cons_eq_cons.2 ⟨?_, ?_⟩
    · unfold hAt halfs byte2
      simp
    · refine List.map_congr_left fun j hj => ?_
      show hAt r r.length j = hAt (x :: y :: r) (r.length + 1 + 1) (j + 1)
      unfold hAt
      rw [show 2 * (j + 1) = 2 * j + 1 + 1 by omega, List.drop_succ_cons, List.drop_succ_cons, show r.length + 1 + 1 - (2 * j + 1 + 1) = r.length - 2 * j by omega]
theorem unhex_bad (s : List UInt8) {c : UInt8} (hc : c ∈ s) (h : ¬ hexD c ≤ 15) : unhexP s = none := by
  cases he : unhexP s with
  | none => rfl
  | some a => exact absurd (((unhex_some s).1 (by rw [he]; rfl)).2 c hc) h
theorem unhex_odd (s : List UInt8) (h : s.length % 2 = 1) : unhexP s = none := by
  cases he : unhexP s with
  | none => rfl
  | some a => have := unhex_len s he; omega
end Go.Proofs.Ytbfccpbijimjmaa
