/-
  What stands behind the last whole block, in plain Lean.
-/
import Derived.Test.YtbfccpbijimjmaaDigP
set_option linter.unusedVariables false
set_option linter.unusedSimpArgs false
namespace Go.Proofs.Ytbfccpbijimjmaa
open Go
def wholeN (n : Nat) : Nat := 64 * (n / 64)
def lastN (n : Nat) : Nat := if n % 64 + 9 > 64 then 128 else 64
theorem lastN_eq (n : Nat) : n % 64 + zs n + 9 = lastN n := by unfold zs lastN; split <;> omega
def restL (bs : List UInt8) : List UInt8 := bs.drop (wholeN bs.length)
theorem restL_len (bs : List UInt8) : (restL bs).length = bs.length % 64 := by unfold restL wholeN; rw [List.length_drop]; omega
theorem nBlks_split (n : Nat) : nBlks n = n / 64 + lastN n / 64 := by
  have h := lastN_eq n
  have h2 : lastN n = 64 ∨ lastN n = 128 := by unfold lastN; split <;> simp
  unfold nBlks
  rcases h2 with e | e <;> rw [e] at h ⊢ <;> omega
theorem sha_split (bs : List UInt8) : shaH bs = blks (blks H0 (bs.length / 64) bs) (lastN bs.length / 64) (restL bs ++ tailP bs.length) := by
  unfold shaH padP
  rw [nBlks_split, blks_add, blks_app _ _ _ _ (by omega), List.drop_append_of_le_length (by omega)]; rfl
/-- The end's row: what is left, the bit, zeros, so many of the length's bytes, zeros. -/
def endL (bs : List UInt8) (i : Nat) : List UInt8 := restL bs ++ (128 :: (List.replicate (zs bs.length) 0 ++ (List.replicate (8 - i) 0 ++ (len8 bs.length).drop (8 - i)))) ++ List.replicate (128 - lastN bs.length) 0
theorem len8_len (n : Nat) : (len8 n).length = 8 := rfl
theorem lastN_le (n : Nat) : lastN n ≤ 128 := by unfold lastN; split <;> omega
theorem endL_len (bs : List UInt8) (i : Nat) (h : i ≤ 8) : (endL bs i).length = 128 := by
  have h1 := lastN_eq bs.length
  have h2 := restL_len bs
  have h3 := lastN_le bs.length
  unfold endL
  simp only [List.length_append, List.length_cons, List.length_replicate, List.length_drop, len8_len, h2]
  omega
theorem endL_8 (bs : List UInt8) : (endL bs 8).take (lastN bs.length) = restL bs ++ tailP bs.length := by
  have h1 := lastN_eq bs.length
  have h2 := restL_len bs
  have e : endL bs 8 = (restL bs ++ tailP bs.length) ++ List.replicate (128 - lastN bs.length) 0 := by
    unfold endL tailP
    simp
  rw [e, List.take_append_of_le_length (by rw [List.length_append, tail_len, h2]; omega), List.take_of_length_le (by rw [List.length_append, tail_len, h2]; omega)]
theorem endL_next (bs : List UInt8) (i : Nat) (h : i < 8) : endL bs (i + 1) = (endL bs i).set (lastN bs.length - 1 - i) ((len8 bs.length).getD (7 - i) 0) := by
  have h1 := lastN_eq bs.length
  have h2 := restL_len bs
  have e : lastN bs.length - 1 - i = (restL bs).length + (1 + zs bs.length + (7 - i)) := by omega
  unfold endL
  rw [List.set_append_left _ _ (by simp only [List.length_append, List.length_cons, List.length_replicate, List.length_drop, len8_len]; omega)]
  congr 1
  rw [e, List.set_append_right _ _ (by omega), show (restL bs).length + (1 + zs bs.length + (7 - i)) - (restL bs).length = (zs bs.length + (7 - i)) + 1 by omega, List.set_cons_succ]
  congr 2
  rw [List.set_append_right _ _ (by rw [List.length_replicate]; omega), List.length_replicate, show zs bs.length + (7 - i) - zs bs.length = 7 - i by omega]
  congr 1
  rw [show 8 - i = (7 - i) + 1 by omega, List.replicate_succ', List.append_assoc, List.set_append_right _ _ (by simp), List.length_replicate, Nat.sub_self, List.cons_append, List.set_cons_zero, show 8 - (i + 1) = 7 - i by omega]
  congr 1
  rw [List.drop_eq_getElem_cons (by rw [len8_len]; omega), List.getD_eq_getElem?_getD, List.getElem?_eq_getElem (by rw [len8_len]; omega)]; rfl
theorem len8_get (n i : Nat) (h : i < 8) : (len8 n).getD (7 - i) 0 = ofB (BitVec.ofNat 8 (8 * n / 2 ^ (8 * i))) := by
  rcases i with _ | _ | _ | _ | _ | _ | _ | _ | i
  all_goals first | omega | rfl
theorem endL_0 (bs : List UInt8) : endL bs 0 = (restL bs ++ List.replicate (128 - bs.length % 64) 0).set (bs.length % 64) 128 := by
  have h1 := lastN_eq bs.length
  have h2 := restL_len bs
  have h3 := lastN_le bs.length
  unfold endL
  have er : List.replicate (128 - bs.length % 64) (0 : UInt8) = 0 :: List.replicate (127 - bs.length % 64) 0 := by rw [show 128 - bs.length % 64 = (127 - bs.length % 64) + 1 by omega, List.replicate_succ]
  rw [List.set_append_right _ _ (by omega), h2, Nat.sub_self, er, List.set_cons_zero, List.append_assoc, List.cons_append]
  congr 2
  have : (len8 bs.length).drop (8 - 0) = [] := by simp [len8]
  rw [this, List.append_nil, List.append_assoc, List.replicate_append_replicate, List.replicate_append_replicate]
  congr 1
  omega
end Go.Proofs.Ytbfccpbijimjmaa
