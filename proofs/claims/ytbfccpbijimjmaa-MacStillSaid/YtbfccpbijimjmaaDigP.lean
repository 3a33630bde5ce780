/-
  Sums of bytes, in plain Lean: words, rounds, blocks, what is put behind.
-/
import Derived.Test.YtbfccpbijimjmaaBits
set_option linter.unusedVariables false
set_option linter.unusedSimpArgs false
namespace Go.Proofs.Ytbfccpbijimjmaa
open Go
def K64 : List B32 := [1116352408, 1899447441, 3049323471, 3921009573, 961987163, 1508970993, 2453635748, 2870763221, 3624381080, 310598401, 607225278, 1426881987, 1925078388, 2162078206, 2614888103, 3248222580, 3835390401, 4022224774, 264347078, 604807628, 770255983, 1249150122, 1555081692, 1996064986, 2554220882, 2821834349, 2952996808, 3210313671, 3336571891, 3584528711, 113926993, 338241895, 666307205, 773529912, 1294757372, 1396182291, 1695183700, 1986661051, 2177026350, 2456956037, 2730485921, 2820302411, 3259730800, 3345764771, 3516065817, 3600352804, 4094571909, 275423344, 430227734, 506948616, 659060556, 883997877, 958139571, 1322822218, 1537002063, 1747873779, 1955562222, 2024104815, 2227730452, 2361852424, 2428436474, 2756734187, 3204031479, 3329325298]
structure S8 where
  a : B32
  b : B32
  c : B32
  d : B32
  e : B32
  f : B32
  g : B32
  h : B32
deriving DecidableEq
def S8.l (s : S8) : List B32 := [s.a, s.b, s.c, s.d, s.e, s.f, s.g, s.h]
def H0 : S8 := ⟨1779033703, 3144134277, 1013904242, 2773480762, 1359893119, 2600822924, 528734635, 1541459225⟩
def sig0 (x : B32) : B32 := rotr x 7 ^^^ rotr x 18 ^^^ x >>> 3
def sig1 (x : B32) : B32 := rotr x 17 ^^^ rotr x 19 ^^^ x >>> 10
def Sig1 (x : B32) : B32 := rotr x 6 ^^^ rotr x 11 ^^^ rotr x 25
def Sig0 (x : B32) : B32 := rotr x 2 ^^^ rotr x 13 ^^^ rotr x 22
def chF (e f g : B32) : B32 := (e &&& f) ^^^ (~~~e &&& g)
def majF (a b c : B32) : B32 := (a &&& b) ^^^ (a &&& c) ^^^ (b &&& c)
theorem ch_eq (e f g : B32) : g ^^^ (e &&& (f ^^^ g)) = chF e f g := by
  unfold chF
  apply BitVec.eq_of_getLsbD_eq
  intro i hi
  simp only [BitVec.getLsbD_xor, BitVec.getLsbD_and, BitVec.getLsbD_not, hi, decide_true, Bool.true_and]
  cases e.getLsbD i <;> cases f.getLsbD i <;> cases g.getLsbD i <;> rfl
theorem maj_eq (a b c : B32) : (a &&& (b ||| c)) ||| (b &&& c) = majF a b c := by
  unfold majF
  apply BitVec.eq_of_getLsbD_eq
  intro i hi
  simp only [BitVec.getLsbD_xor, BitVec.getLsbD_and, BitVec.getLsbD_or]
  cases a.getLsbD i <;> cases b.getLsbD i <;> cases c.getLsbD i <;> rfl
def rndX (s : S8) (k w : B32) : B32 := s.h + Sig1 s.e + chF s.e s.f s.g + k + w
def rndY (s : S8) : B32 := Sig0 s.a + majF s.a s.b s.c
def rnd (s : S8) (k w : B32) : S8 := ⟨rndX s k w + rndY s, s.a, s.b, s.c, s.d + rndX s k w, s.e, s.f, s.g⟩
def rnds (s : S8) : List (B32 × B32) → S8
  | [] => s
  | x :: r => rnds (rnd s x.1 x.2) r
theorem rnds_app (s : S8) (x y : List (B32 × B32)) : rnds s (x ++ y) = rnds (rnds s x) y := by
  induction x generalizing s with
  | nil => rfl
  | cons a r ih => exact ih _
/-- A word of four bytes. -/
def word4 : List UInt8 → B32 → B32
  | [], a => a
  | c :: r, a => word4 r (a <<< 8 ||| c.toBitVec.setWidth 32)
def w16 (bs : List UInt8) : List B32 := (List.range 16).map fun j => word4 ((bs.drop (4 * j)).take 4) 0
def nextW (l : List B32) : B32 := sig1 (l.getD (l.length - 2) 0) + l.getD (l.length - 7) 0 + sig0 (l.getD (l.length - 15) 0) + l.getD (l.length - 16) 0
def schedN (l : List B32) : Nat → List B32
  | 0 => l
  | n + 1 => schedN l n ++ [nextW (schedN l n)]
def sched (bs : List UInt8) : List B32 := schedN (w16 bs) 48
theorem schedN_len (l : List B32) : ∀ n, (schedN l n).length = l.length + n
  | 0 => rfl
  | n + 1 => by simp [schedN, schedN_len l n]; omega
def addS (h s : S8) : S8 := ⟨h.a + s.a, h.b + s.b, h.c + s.c, h.d + s.d, h.e + s.e, h.f + s.f, h.g + s.g, h.h + s.h⟩
def blk (h : S8) (bs : List UInt8) : S8 := addS h (rnds h (K64.zip (sched bs)))
/-- All whole blocks, one behind the other. -/
def blks (h : S8) : Nat → List UInt8 → S8
  | 0, _ => h
  | n + 1, bs => blks (blk h (bs.take 64)) n (bs.drop 64)
theorem blks_succ (h : S8) (n : Nat) (bs : List UInt8) : blks h (n + 1) bs = blks (blk h (bs.take 64)) n (bs.drop 64) := by rw [blks]
theorem blks_zero (h : S8) (bs : List UInt8) : blks h 0 bs = h := by rw [blks]
theorem blks_snoc (h : S8) (n : Nat) (bs : List UInt8) : blks h (n + 1) bs = blk (blks h n bs) ((bs.drop (64 * n)).take 64) := by
  induction n generalizing h bs with
  | zero => rw [blks_succ, blks_zero, blks_zero, Nat.mul_zero, List.drop_zero]
  | succ n ih => rw [blks_succ, ih, List.drop_drop, show 64 + 64 * n = 64 * (n + 1) by omega, ← blks_succ]
/-- Only the whole blocks matter. -/
theorem blks_app (h : S8) (n : Nat) (x y : List UInt8) (hx : 64 * n ≤ x.length) : blks h n (x ++ y) = blks h n x := by
  induction n generalizing h x with
  | zero => rw [blks_zero, blks_zero]
  | succ n ih => rw [blks_succ, blks_succ, List.take_append_of_le_length (by omega), List.drop_append_of_le_length (by omega), ih _ _ (by rw [List.length_drop]; omega)]
theorem blks_add (h : S8) (m n : Nat) (bs : List UInt8) : blks h (m + n) bs = blks (blks h m bs) n (bs.drop (64 * m)) := by
  induction m generalizing h bs with
  | zero => rw [Nat.zero_add, blks_zero, Nat.mul_zero, List.drop_zero]
  | succ m ih => rw [show m + 1 + n = (m + n) + 1 by omega, blks_succ, ih, List.drop_drop, show 64 + 64 * m = 64 * (m + 1) by omega, ← blks_succ]
def len8 (n : Nat) : List UInt8 := [ofB (BitVec.ofNat 8 (8 * n / 2 ^ 56)), ofB (BitVec.ofNat 8 (8 * n / 2 ^ 48)), ofB (BitVec.ofNat 8 (8 * n / 2 ^ 40)), ofB (BitVec.ofNat 8 (8 * n / 2 ^ 32)), ofB (BitVec.ofNat 8 (8 * n / 2 ^ 24)), ofB (BitVec.ofNat 8 (8 * n / 2 ^ 16)), ofB (BitVec.ofNat 8 (8 * n / 2 ^ 8)), ofB (BitVec.ofNat 8 (8 * n / 2 ^ 0))]
/-- How many zeros stand behind the bit. -/
def zs (n : Nat) : Nat := (119 - n % 64) % 64
def tailP (n : Nat) : List UInt8 := 128 :: (List.replicate (zs n) 0 ++ len8 n)
def padP (bs : List UInt8) : List UInt8 := bs ++ tailP bs.length
theorem zs_spec (n : Nat) : (n + 1 + zs n) % 64 = 56 ∧ zs n < 64 := by unfold zs; omega
theorem tail_len (n : Nat) : (tailP n).length = zs n + 9 := by simp [tailP, len8]
theorem pad_len (bs : List UInt8) : (padP bs).length % 64 = 0 := by
  have := zs_spec bs.length
  unfold padP
  rw [List.length_append, tail_len]
  omega
def nBlks (n : Nat) : Nat := (n + zs n + 9) / 64
/-- Which byte of the sum. -/
def outB (s : S8) (i : Nat) : UInt8 := ofB ((s.l.getD (i / 4) 0 >>> (24 - 8 * (i % 4))).setWidth 8)
def outP (s : S8) : List UInt8 := (List.range 32).map (outB s)
def shaH (bs : List UInt8) : S8 := blks H0 (nBlks bs.length) (padP bs)
/-- The sum of bytes. -/
def sha (bs : List UInt8) : List UInt8 := outP (shaH bs)
theorem sha_len (bs : List UInt8) : (sha bs).length = 32 := by simp [sha, outP]
def hexB (x : Nat) : UInt8 := UInt8.ofNat (if x < 10 then 48 + x else 87 + x)
def hexP : List UInt8 → List UInt8
  | [] => []
  | b :: r => hexB (b.toNat / 16) :: hexB (b.toNat % 16) :: hexP r
theorem sha_none : hexP (sha []) = [101, 51, 98, 48, 99, 52, 52, 50, 57, 56, 102, 99, 49, 99, 49, 52, 57, 97, 102, 98, 102, 52, 99, 56, 57, 57, 54, 102, 98, 57, 50, 52, 50, 55, 97, 101, 52, 49, 101, 52, 54, 52, 57, 98, 57, 51, 52, 99, 97, 52, 57, 53, 57, 57, 49, 98, 55, 56, 53, 50, 98, 56, 53, 53] := by decide +kernel
end Go.Proofs.Ytbfccpbijimjmaa
