/-
  Words of so many bits, as the model's numbers.
-/
import Derived.Test.YtbfccpbijimjmaaSl
set_option linter.unusedVariables false
set_option linter.unusedSimpArgs false
namespace Go.Proofs.Ytbfccpbijimjmaa
open Go
abbrev B32 := BitVec 32
abbrev B8 := BitVec 8
def nI {n : Nat} (a : BitVec n) : Int := (a.toNat : Int)
def uV (a : B32) : Value := .int .u32 (nI a)
theorem ofInt_nI {n : Nat} (a : BitVec n) : BitVec.ofInt n (nI a) = a := by
  unfold nI
  rw [BitVec.ofInt_natCast, BitVec.ofNat_toNat, BitVec.setWidth_eq]
theorem wrap_u32 (m : Nat) : IntKind.wrap .u32 (m : Int) = nI (BitVec.ofNat 32 m) := by
  show (m : Int) % (2 ^ 32 : Int) = _
  unfold nI
  rw [BitVec.toNat_ofNat]
  norm_cast
theorem wrap_u8 (m : Nat) : IntKind.wrap .u8 (m : Int) = nI (BitVec.ofNat 8 m) := by
  show (m : Int) % (2 ^ 8 : Int) = _
  unfold nI
  rw [BitVec.toNat_ofNat]
  norm_cast
theorem wrap_u64 (m : Nat) : IntKind.wrap .u64 (m : Int) = nI (BitVec.ofNat 64 m) := by
  show (m : Int) % (2 ^ 64 : Int) = _
  unfold nI
  rw [BitVec.toNat_ofNat]
  norm_cast
theorem u32_self (a : B32) : IntKind.wrap .u32 (nI a) = nI a := by
  unfold nI; rw [wrap_u32]; unfold nI; simp
theorem u8_self (a : B8) : IntKind.wrap .u8 (nI a) = nI a := by
  unfold nI; rw [wrap_u8]; unfold nI; simp
theorem u32_toNat (a : B32) : IntKind.wrap .u32 ((a.toNat : Nat) : Int) = nI a := u32_self a
theorem u8_toNat (a : B8) : IntKind.wrap .u8 ((a.toNat : Nat) : Int) = nI a := u8_self a
theorem u32_add (a b : B32) : IntKind.wrap .u32 (nI a + nI b) = nI (a + b) := by
  unfold nI
  rw [← Int.natCast_add, wrap_u32]
  unfold nI
  simp [BitVec.toNat_add]
theorem u32_xor (a b : B32) : IntKind.wrap .u32 ↑((BitVec.ofInt (IntKind.bits .u32) (nI a) ^^^ BitVec.ofInt (IntKind.bits .u32) (nI b)).toNat) = nI (a ^^^ b) := by
  show IntKind.wrap .u32 ↑((BitVec.ofInt 32 (nI a) ^^^ BitVec.ofInt 32 (nI b)).toNat) = _
  rw [ofInt_nI, ofInt_nI]; exact u32_self _
theorem u32_and (a b : B32) : IntKind.wrap .u32 ↑((BitVec.ofInt (IntKind.bits .u32) (nI a) &&& BitVec.ofInt (IntKind.bits .u32) (nI b)).toNat) = nI (a &&& b) := by
  show IntKind.wrap .u32 ↑((BitVec.ofInt 32 (nI a) &&& BitVec.ofInt 32 (nI b)).toNat) = _
  rw [ofInt_nI, ofInt_nI]; exact u32_self _
theorem u32_or (a b : B32) : IntKind.wrap .u32 ↑((BitVec.ofInt (IntKind.bits .u32) (nI a) ||| BitVec.ofInt (IntKind.bits .u32) (nI b)).toNat) = nI (a ||| b) := by
  show IntKind.wrap .u32 ↑((BitVec.ofInt 32 (nI a) ||| BitVec.ofInt 32 (nI b)).toNat) = _
  rw [ofInt_nI, ofInt_nI]; exact u32_self _
theorem u8_xor (a b : B8) : IntKind.wrap .u8 ↑((BitVec.ofInt (IntKind.bits .u8) (nI a) ^^^ BitVec.ofInt (IntKind.bits .u8) (nI b)).toNat) = nI (a ^^^ b) := by
  show IntKind.wrap .u8 ↑((BitVec.ofInt 8 (nI a) ^^^ BitVec.ofInt 8 (nI b)).toNat) = _
  rw [ofInt_nI, ofInt_nI]; exact u8_self _
theorem u8_or (a b : B8) : IntKind.wrap .u8 ↑((BitVec.ofInt (IntKind.bits .u8) (nI a) ||| BitVec.ofInt (IntKind.bits .u8) (nI b)).toNat) = nI (a ||| b) := by
  show IntKind.wrap .u8 ↑((BitVec.ofInt 8 (nI a) ||| BitVec.ofInt 8 (nI b)).toNat) = _
  rw [ofInt_nI, ofInt_nI]; exact u8_self _
theorem u8_and (a b : B8) : IntKind.wrap .u8 ↑((BitVec.ofInt (IntKind.bits .u8) (nI a) &&& BitVec.ofInt (IntKind.bits .u8) (nI b)).toNat) = nI (a &&& b) := by
  show IntKind.wrap .u8 ↑((BitVec.ofInt 8 (nI a) &&& BitVec.ofInt 8 (nI b)).toNat) = _
  rw [ofInt_nI, ofInt_nI]; exact u8_self _
theorem u32_not (a : B32) : IntKind.wrap .u32 ↑((BitVec.ofInt (IntKind.bits .u32) (if (IntKind.signed .u32) = true then -1 else IntKind.max .u32) ^^^ BitVec.ofInt (IntKind.bits .u32) (nI a)).toNat) = nI (~~~a) := by
  show IntKind.wrap .u32 ↑((BitVec.ofInt 32 4294967295 ^^^ BitVec.ofInt 32 (nI a)).toNat) = _
  rw [ofInt_nI]
  have : BitVec.ofInt 32 4294967295 = BitVec.allOnes 32 := by decide
  rw [this, BitVec.allOnes_xor]
  exact u32_self _
theorem u32_shl (a : B32) (k : Nat) (h : k ≤ 32) : IntKind.wrap .u32 (nI a * 2 ^ min (Int.toNat (k : Int)) (IntKind.bits .u32)) = nI (a <<< k) := by
  have e : min (Int.toNat (k : Int)) (IntKind.bits .u32) = k := by rw [Int.toNat_natCast]; exact Nat.min_eq_left h
  rw [e]
  unfold nI
  have e2 : (a.toNat : Int) * 2 ^ k = ((a.toNat * 2 ^ k : Nat) : Int) := by norm_cast
  rw [e2, wrap_u32]
  unfold nI
  rw [BitVec.toNat_ofNat, BitVec.toNat_shiftLeft, Nat.shiftLeft_eq]
theorem u32_shr (a : B32) (k : Nat) (h : k ≤ 32) : Int.fdiv (nI a) (2 ^ min (Int.toNat (k : Int)) (IntKind.bits .u32)) = nI (a >>> k) := by
  have e : min (Int.toNat (k : Int)) (IntKind.bits .u32) = k := by rw [Int.toNat_natCast]; exact Nat.min_eq_left h
  rw [e]
  unfold nI
  rw [BitVec.toNat_ushiftRight, Nat.shiftRight_eq_div_pow]
  have e2 : (2 : Int) ^ k = ((2 ^ k : Nat) : Int) := by norm_cast
  rw [e2, Int.fdiv_eq_ediv_of_nonneg _ (Int.natCast_nonneg _)]
  norm_cast
theorem u8_shl (a : B8) (k : Nat) (h : k ≤ 8) : IntKind.wrap .u8 (nI a * 2 ^ min (Int.toNat (k : Int)) (IntKind.bits .u8)) = nI (a <<< k) := by
  have e : min (Int.toNat (k : Int)) (IntKind.bits .u8) = k := by rw [Int.toNat_natCast]; exact Nat.min_eq_left h
  rw [e]
  unfold nI
  have e2 : (a.toNat : Int) * 2 ^ k = ((a.toNat * 2 ^ k : Nat) : Int) := by norm_cast
  rw [e2, wrap_u8]
  unfold nI
  rw [BitVec.toNat_ofNat, BitVec.toNat_shiftLeft, Nat.shiftLeft_eq]
theorem u8_shr (a : B8) (k : Nat) (h : k ≤ 8) : Int.fdiv (nI a) (2 ^ min (Int.toNat (k : Int)) (IntKind.bits .u8)) = nI (a >>> k) := by
  have e : min (Int.toNat (k : Int)) (IntKind.bits .u8) = k := by rw [Int.toNat_natCast]; exact Nat.min_eq_left h
  rw [e]
  unfold nI
  rw [BitVec.toNat_ushiftRight, Nat.shiftRight_eq_div_pow]
  have e2 : (2 : Int) ^ k = ((2 ^ k : Nat) : Int) := by norm_cast
  rw [e2, Int.fdiv_eq_ediv_of_nonneg _ (Int.natCast_nonneg _)]
  norm_cast
/-- A byte as a word. -/
theorem u32_of8 (a : B8) : IntKind.wrap .u32 (nI a) = nI (a.setWidth 32) := by
  unfold nI
  rw [wrap_u32]
  unfold nI
  simp
theorem u8_of32 (a : B32) : IntKind.wrap .u8 (nI a) = nI (a.setWidth 8) := by
  unfold nI
  rw [wrap_u8]
  unfold nI
  simp
def rotr (a : B32) (k : Nat) : B32 := a >>> k ||| a <<< (32 - k)
theorem byteV_nI (x : UInt8) : byteV x = .int .u8 (nI x.toBitVec) := rfl
/-- A byte of bits. -/
def ofB (a : B8) : UInt8 := ⟨a⟩
theorem byteV_of (a : B8) : byteV (ofB a) = .int .u8 (nI a) := rfl
end Go.Proofs.Ytbfccpbijimjmaa
