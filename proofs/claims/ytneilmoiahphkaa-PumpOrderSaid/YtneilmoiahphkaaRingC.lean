/-
  Contracts of the ring's functions: bytes that wait, at most so many.
-/
import Derived.Test.YtneilmoiahphkaaRules
import Derived.Test.YtneilmoiahphkaaFns
set_option linter.unusedVariables false
set_option linter.unusedSimpArgs false
namespace Go.Proofs.Ytneilmoiahphkaa
open Go

theorem uB : Try.prog.underlying 28 = some (.slice 5) := Try.underlying28
theorem uU8 : Try.prog.underlying 5 = some (.int .u8) := Try.underlying5
theorem iU8 : Try.prog.info? 5 = some Try.t5 := by kernel_rfl
theorem sU8 : Try.t5.size = 1 := rfl
theorem zU8 : Try.t5.zero = some (.int .u8 0) := rfl
theorem bU8 : Try.t5.bytes = 1 := rfl

theorem w64 {n : Int} (h0 : -9223372036854775808 ≤ n) (h1 : n ≤ 9223372036854775807) : IntKind.wrap .i64 n = n := IntWalk.i64_in _ ⟨h0, h1⟩

/-- The cells of a ring. -/
def ringRow (q m at_ many : Nat) : List Value := [.slice (some ⟨q, 0, none⟩) m m, .int .i64 at_, .int .i64 many]

theorem parts_spec {W w : World} {F : List Asn} {rb q m A0 B0 : Nat} (a n : Int) (A N : Nat) (ha : a = A) (hn : n = N) (hS : St W (Row rb 68 (ringRow q m A0 B0) :: F) w) (hm : 0 < m) (hm2 : m ≤ 65536) (hA : A ≤ 1000000) (hN : N ≤ m) :
    CallR Try.prog 42 #[.pointer (some ⟨rb, 0, none⟩), .int .i64 a, .int .i64 n] w fun v w' =>
      v = .tuple #[.slice (some ⟨q, A % m, none⟩) (min N (m - A % m)) (m - A % m), .slice (some ⟨q, 0, none⟩) (N - min N (m - A % m)) m] ∧ St W (Row rb 68 (ringRow q m A0 B0) :: F) w' := by
  subst ha; subst hn
  refine F42_of ?_
  have hlt : A % m < m := Nat.mod_lt _ hm
  have hmod : Int.tmod (A : Int) (m : Int) = ((A % m : Nat) : Int) := by
    rw [Int.tmod_eq_emod_of_nonneg (by omega)]; omega
  refine NilP.i (LdL.i hS rfl ?_)
  refine Bif.i (fun h => by simp at h; omega) fun _ => ?_
  refine NilP.i (LdL.i hS rfl ⟨by omega, NilP.i (LdL.i hS rfl ⟨StC W _, StC.start hS, NilP.i (NilP.i ?_)⟩)⟩)
  rw [hmod]
  have e1 : IntKind.wrap .i64 ((m : Int) - ((A % m : Nat) : Int)) = ((m - A % m : Nat) : Int) := by rw [w64 (by omega) (by omega)]; omega
  rw [e1]
  have e2 : (if ((m - A % m : Nat) : Int) < (N : Int) then ((m - A % m : Nat) : Int) else (N : Int)) = ((min N (m - A % m) : Nat) : Int) := by
    split <;> omega
  rw [e2]
  have e3 : IntKind.wrap .i64 (((A % m : Nat) : Int) + ((min N (m - A % m) : Nat) : Int)) = ((A % m + min N (m - A % m) : Nat) : Int) := by rw [w64 (by omega) (by omega)]; omega
  have e4 : IntKind.wrap .i64 ((N : Int) - ((min N (m - A % m) : Nat) : Int)) = ((N - min N (m - A % m) : Nat) : Int) := by rw [w64 (by omega) (by omega)]; omega
  rw [e3, e4]
  refine ⟨_, _, _, fun G w1 h1 => LdL.i h1 rfl ⟨rfl, h1⟩, ⟨by omega, ?_⟩⟩
  refine ⟨_, _, _, fun G w1 h1 => LdL.i h1 rfl ⟨rfl, h1⟩, ⟨by omega, ?_⟩⟩
  intro G w1 h1
  refine ⟨?_, StC.ends h1⟩
  rw [if_neg (by omega), if_neg (by omega)]
  simp only [Option.map_some, add_at, Int.toNat_natCast, Nat.mul_one, Int.toNat_zero, Nat.zero_mul]
  congr 3
  · rw [Nat.zero_add, Nat.add_sub_cancel_left]

/-- What a ring is: so many may wait, these do. -/
def RingA (rb m : Nat) (bs : List UInt8) : Asn := exA fun x : Nat × Nat × List UInt8 => sepA [
  prA (x.2.2.length = m ∧ m ≤ 65536 ∧ bs.length ≤ m ∧ (x.2.1 < m ∨ m = 0 ∧ x.2.1 = 0) ∧ ∀ i, i < bs.length → x.2.2[(x.2.1 + i) % m]? = bs[i]?),
  Row rb 68 (ringRow x.1 m x.2.1 bs.length), Row x.1 5 (x.2.2.map byteV)]
theorem RingA.open_ {W w : World} {F : List Asn} {rb m : Nat} {bs : List UInt8} (h : St W (RingA rb m bs :: F) w) :
    ∃ (q at_ : Nat) (row : List UInt8), row.length = m ∧ m ≤ 65536 ∧ bs.length ≤ m ∧ (at_ < m ∨ m = 0 ∧ at_ = 0) ∧ (∀ i, i < bs.length → row[(at_ + i) % m]? = bs[i]?) ∧ St W (Row rb 68 (ringRow q m at_ bs.length) :: Row q 5 (row.map byteV) :: F) w := by
  obtain ⟨⟨q, at_, row⟩, h⟩ := h.of_ex
  obtain ⟨⟨h1, h2, h3, h4, h5⟩, h⟩ := h.of_sep.of_pr
  exact ⟨q, at_, row, h1, h2, h3, h4, h5, h⟩
theorem RingA.shut {W w : World} {F : List Asn} {rb m q at_ k : Nat} {bs row : List UInt8} (hk : k = bs.length) (h1 : row.length = m) (h2 : m ≤ 65536) (h3 : bs.length ≤ m) (h4 : at_ < m ∨ m = 0 ∧ at_ = 0) (h5 : ∀ i, i < bs.length → row[(at_ + i) % m]? = bs[i]?)
    (h : St W (Row rb 68 (ringRow q m at_ k) :: Row q 5 (row.map byteV) :: F) w) : St W (RingA rb m bs :: F) w := by
  subst hk
  exact St.to_ex (q, at_, row) (St.to_sep (l := [_, _, _]) (St.to_pr ⟨h1, h2, h3, h4, h5⟩ h))

theorem RingA.le {W w : World} {F : List Asn} {rb m : Nat} {bs : List UInt8} (h : St W (RingA rb m bs :: F) w) : bs.length ≤ m ∧ m ≤ 65536 := by
  obtain ⟨_, _, _, _, h2, h3, _⟩ := RingA.open_ h
  exact ⟨h3, h2⟩

theorem Many_spec {W w : World} {F : List Asn} {rb m : Nat} {bs : List UInt8} (hS : St W (RingA rb m bs :: F) w) :
    CallR Try.prog 35 #[.pointer (some ⟨rb, 0, none⟩)] w fun v w' => v = .int .i64 bs.length ∧ St W (RingA rb m bs :: F) w' := by
  obtain ⟨q, at_, row, h1, h2, h3, h4, h5, hS⟩ := RingA.open_ hS
  refine F35_of (NilP.i (LdI.i hS rfl ⟨rfl, RingA.shut rfl h1 h2 h3 h4 h5 hS⟩))

theorem Room_spec {W w : World} {F : List Asn} {rb m : Nat} {bs : List UInt8} (hS : St W (RingA rb m bs :: F) w) :
    CallR Try.prog 36 #[.pointer (some ⟨rb, 0, none⟩)] w fun v w' => v = .int .i64 ((m - bs.length : Nat) : Int) ∧ St W (RingA rb m bs :: F) w' := by
  obtain ⟨q, at_, row, h1, h2, h3, h4, h5, hS⟩ := RingA.open_ hS
  refine F36_of ⟨StC W _, StC.start hS, NilP.i (NilP.i ⟨_, _, _, fun G w1 h1 => LdL.i h1 rfl ⟨rfl, h1⟩, _, fun G w1 h1 => LdI.i h1 rfl ⟨rfl, h1⟩, fun G w1 hw => ⟨?_, RingA.shut rfl h1 h2 h3 h4 h5 (StC.ends hw)⟩⟩)⟩
  rw [w64 (by omega) (by omega)]
  congr 1
  omega

theorem parts_zero {W w : World} {F : List Asn} {rb q A0 B0 : Nat} (a n : Int) (hS : St W (Row rb 68 (ringRow q 0 A0 B0) :: F) w) :
    CallR Try.prog 42 #[.pointer (some ⟨rb, 0, none⟩), .int .i64 a, .int .i64 n] w fun v w' => v = .tuple #[.slice none 0 0, .slice none 0 0] ∧ St W (Row rb 68 (ringRow q 0 A0 B0) :: F) w' := by
  refine F42_of (NilP.i (LdL.i hS rfl (Bif.i (fun _ => ⟨rfl, hS⟩) fun h => by simp at h)))

theorem clamp_eq (most : Int) : (if 65536 < (if 0 > most then 0 else most) then 65536 else (if 0 > most then 0 else most)) = ((min most.toNat 65536 : Nat) : Int) := by
  split <;> split at * <;> omega

theorem New_spec {W w : World} {F : List Asn} (most : Int) (hS : St W F w) :
    CallR Try.prog 30 #[.int .i64 most] w fun v w' => ∃ rb, v = .pointer (some ⟨rb, 0, none⟩) ∧ St W (RingA rb (min most.toNat 65536) [] :: F) w' := by
  refine F30_of ?_
  unfold F30
  rw [clamp_eq]
  refine MkS.i hS (by omega) (Int.le_refl _) (by omega) (by omega) fun b w1 h1 => NewC.i h1 fun b2 w2 h2 => ⟨b2, rfl, ?_⟩
  refine RingA.shut (q := b) (at_ := 0) (k := 0) (row := List.replicate (min most.toNat 65536) 0) rfl (by simp) (by omega) (by simp) (by omega) (by simp) ?_
  simp only [Int.toNat_natCast] at h2
  simpa [ringRow, byteV] using h2

theorem mod2 {x m : Nat} (h : x < 2 * m) : x % m = if x < m then x else x - m := by
  split
  · exact Nat.mod_eq_of_lt ‹_›
  · rw [Nat.mod_eq_sub_mod (by omega), Nat.mod_eq_of_lt (by omega)]

theorem mod2' {x m : Nat} (h : x < 2 * m) : x % m = x ∧ x < m ∨ x % m = x - m ∧ m ≤ x := by
  rw [mod2 h]; split <;> omega
theorem map_get {l : List UInt8} {i : Nat} {v : Value} (h : (l.map byteV)[i]? = some v) : ∃ x, l[i]? = some x ∧ v = byteV x := by
  rw [List.getElem?_map] at h
  cases hx : l[i]? with
  | none => simp [hx] at h
  | some x => simp [hx] at h; exact ⟨x, rfl, h.symm⟩

/-- The first that wait, out of the two pieces. -/
theorem first_bytes {m at_ N : Nat} {bs row : List UInt8} (h1 : row.length = m) (h3 : bs.length ≤ m) (hm : 0 < m) (hat : at_ < m) (h5 : ∀ i, i < bs.length → row[(at_ + i) % m]? = bs[i]?) (hN : N ≤ bs.length) :
    (row.drop (at_ % m)).take (min N (m - at_ % m)) ++ row.take (N - min N (m - at_ % m)) = bs.take N := by
  rw [Nat.mod_eq_of_lt hat]
  refine List.ext_getElem? fun i => ?_
  have l1 : ((row.drop at_).take (min N (m - at_))).length = min N (m - at_) := by simp; omega
  rcases Nat.lt_or_ge i N with hi | hi
  · rw [List.getElem?_take_of_lt hi, ← h5 i (by omega), mod2 (by omega)]
    rcases Nat.lt_or_ge i (min N (m - at_)) with h | h
    · rw [List.getElem?_append_left (by omega), List.getElem?_take_of_lt h, List.getElem?_drop, if_pos (by omega)]
    · rw [List.getElem?_append_right (by omega), l1, List.getElem?_take_of_lt (by omega), if_neg (by omega)]
      congr 1
      omega
  · rw [List.getElem?_eq_none (by simp; omega), List.getElem?_eq_none (by simp; omega)]

theorem one_piece {N : Nat} {z : Value} {X : List Value} (h : X.length = N) : splice (List.replicate N z) 0 X = X := by
  unfold splice
  rw [List.take_zero, List.nil_append, List.drop_eq_nil_of_le (by simp; omega), List.append_nil]
theorem two_pieces {N k : Nat} {z : Value} {X Y : List Value} (hX : X.length = k) (hY : k + Y.length = N) : splice (splice (List.replicate N z) 0 X) k Y = X ++ Y := by
  have e : splice (List.replicate N z) 0 X = X ++ List.replicate (N - k) z := by
    unfold splice
    rw [List.take_zero, List.nil_append, List.drop_replicate, Nat.zero_add, hX]
  rw [e]
  unfold splice
  rw [List.take_append_of_le_length (by omega), List.take_of_length_le (by omega), List.drop_eq_nil_of_le (by simp; omega), List.append_nil]

theorem first_spec {W w : World} {F : List Asn} {rb m : Nat} {bs : List UInt8} (n : Int) (N : Nat) (hn : n = N) (hN : N ≤ bs.length) (hS : St W (RingA rb m bs :: F) w) :
    CallR Try.prog 43 #[.pointer (some ⟨rb, 0, none⟩), .int .i64 n] w fun v w' => ∃ b, v = .slice (some ⟨b, 0, none⟩) N N ∧ St W (Row b 5 ((bs.take N).map byteV) :: RingA rb m bs :: F) w' := by
  subst hn
  obtain ⟨q, at_, row, h1, h2, h3, h4, h5, hS⟩ := RingA.open_ hS
  refine F43_of (NilP.i (LdI.i hS rfl ?_))
  rcases Nat.eq_zero_or_pos m with hm | hm
  · -- none may wait
    subst hm
    have hN0 : N = 0 := by omega
    subst hN0
    refine (parts_zero _ _ hS).of fun v w1 ⟨hv, hS⟩ => ⟨_, _, _, _, _, _, hv, ?_⟩
    refine MkS.i hS (by omega) (Int.le_refl _) (by omega) (by omega) fun b w2 h2' => ?_
    refine copy_none uB iU8 sU8 (by omega) ⟨_, rfl, ?_⟩
    refine ⟨by omega, ?_⟩
    refine copy_none uB iU8 sU8 (by omega) ⟨_, rfl, ?_⟩
    exact ⟨b, rfl, (RingA.shut rfl h1 h2 h3 h4 h5 (St.push [_, _] h2')).p1⟩
  · have hat : at_ < m := by omega
    refine (parts_spec _ _ at_ N rfl rfl hS hm h2 (by omega) (by omega)).of fun v w1 ⟨hv, hS⟩ => ⟨_, _, _, _, _, _, hv, ?_⟩
    refine MkS.i hS (by omega) (Int.le_refl _) (by omega) (by omega) fun b w2 hS => ?_
    simp only [Int.toNat_natCast] at hS ⊢
    have hlt : at_ % m < m := Nat.mod_lt _ hm
    have l1 : ((row.drop (at_ % m)).take (min N (m - at_ % m))).length = min N (m - at_ % m) := by simp; omega
    have l2 : (row.take (N - min N (m - at_ % m))).length = N - min N (m - at_ % m) := by simp; omega
    refine copy_i (cs := ((row.drop (at_ % m)).take (min N (m - at_ % m))).map byteV) uB iU8 sU8 hS (by simp) (fun j v hj => (Rd.row (at_ % m) fun i u hu => ?_).of hS.p2 hj) (by rw [List.length_map, l1]; omega) notAgg_byteV fun w3 hS => ?_
    · obtain ⟨x, hx, rfl⟩ := map_get hu
      rw [List.getElem?_take] at hx
      split at hx
      · rw [List.getElem?_drop] at hx; simp [hx]
      · cases hx
    rw [Nat.min_eq_left (show min N (m - at_ % m) ≤ N by omega)]
    refine ⟨_, rfl, ⟨by omega, ?_⟩⟩
    have hp : (if N = min N (m - at_ % m) then (some ⟨b, 0, none⟩ : Option Addr) else (some ⟨b, 0, none⟩ : Option Addr).map (·.add (min N (m - at_ % m) * 1))) = if N = min N (m - at_ % m) then some ⟨b, 0, none⟩ else some ⟨b, min N (m - at_ % m), none⟩ := by
      simp [add_at]
    simp only [Int.toNat_natCast]
    rw [hp]
    by_cases hf : N = min N (m - at_ % m)
    · -- the second piece is none
      rw [if_pos hf]
      refine copy_none uB iU8 sU8 (by omega) ⟨_, rfl, b, rfl, ?_⟩
      have e : splice (List.replicate N (.int .u8 0)) 0 (((row.drop (at_ % m)).take (min N (m - at_ % m))).map byteV) = (bs.take N).map byteV := by
        rw [one_piece (by simp; omega), ← first_bytes h1 h3 hm hat h5 hN]
        have h0 : N - min N (m - at_ % m) = 0 := by omega
        rw [h0]
        simp
      rw [e] at hS
      exact (RingA.shut rfl h1 h2 h3 h4 h5 (St.push [_, _] hS)).p1
    · rw [if_neg hf]
      refine copy_i (cs := (row.take (N - min N (m - at_ % m))).map byteV) uB iU8 sU8 hS (by simp [splice]; omega) (fun j v hj => (Rd.row 0 fun i u hu => ?_).of hS.p2 hj) (by simp; omega) notAgg_byteV fun w4 hS => ⟨_, rfl, b, rfl, ?_⟩
      · obtain ⟨x, hx, rfl⟩ := map_get hu
        rw [List.getElem?_take] at hx
        split at hx
        · simp [hx]
        · cases hx
      have e : splice (splice (List.replicate N (.int .u8 0)) 0 (((row.drop (at_ % m)).take (min N (m - at_ % m))).map byteV)) (min N (m - at_ % m)) ((row.take (N - min N (m - at_ % m))).map byteV) = (bs.take N).map byteV := by
        rw [two_pieces (by simp; omega) (by simp; omega), ← first_bytes h1 h3 hm hat h5 hN, List.map_append]
      rw [e] at hS
      exact (RingA.shut rfl h1 h2 h3 h4 h5 (St.push [_, _] hS)).p1



theorem Take_spec {W w : World} {F : List Asn} {rb m : Nat} {bs : List UInt8} (n : Int) (hS : St W (RingA rb m bs :: F) w) :
    CallR Try.prog 41 #[.pointer (some ⟨rb, 0, none⟩), .int .i64 n] w fun v w' => ∃ b, v = .slice (some ⟨b, 0, none⟩) (bs.take n.toNat).length (bs.take n.toNat).length ∧ St W (Row b 5 ((bs.take n.toNat).map byteV) :: RingA rb m (bs.drop n.toNat) :: F) w' := by
  obtain ⟨q, at_, row, h1, h2, h3, h4, h5, hS'⟩ := RingA.open_ hS
  refine F41_of (NilP.i (LdI.i hS' rfl ?_))
  have e : (if (bs.length : Int) < (if 0 > n then 0 else n) then (bs.length : Int) else (if 0 > n then 0 else n)) = ((min bs.length n.toNat : Nat) : Int) := by
    split <;> split at * <;> omega
  rw [e]
  have et : bs.take (min bs.length n.toNat) = bs.take n.toNat := by
    rcases Nat.le_total bs.length n.toNat with h | h
    · rw [Nat.min_eq_left h, List.take_length, List.take_of_length_le h]
    · rw [Nat.min_eq_right h]
  have ed : bs.drop (min bs.length n.toNat) = bs.drop n.toNat := by
    rcases Nat.le_total bs.length n.toNat with h | h
    · rw [Nat.min_eq_left h, List.drop_length, List.drop_eq_nil_of_le h]
    · rw [Nat.min_eq_right h]
  have el : (bs.take n.toNat).length = min bs.length n.toNat := by simp; omega
  have k1 : min bs.length n.toNat ≤ bs.length := Nat.min_le_left _ _
  generalize min bs.length n.toNat = k at et ed el k1 ⊢
  rw [el, ← et, ← ed]
  refine (first_spec _ k rfl k1 hS).of fun v w1 ⟨b, hv, hS⟩ => ⟨_, _, _, hv, NilP.i ?_⟩
  obtain ⟨q, at_, row, h1, h2, h3, h4, h5, hS⟩ := RingA.open_ hS.p1
  refine LdI.i hS rfl (NilP.i (St1.i hS (by simp [ringRow]) fun w2 hS => ?_))
  rw [w64 (by omega) (by omega)] at hS
  refine NilP.i (LdI.i hS rfl (NilP.i (St1.i hS (by simp [ringRow]) fun w3 hS => ?_)))
  rw [w64 (by omega) (by omega)] at hS
  refine ⟨StC W _, StC.start hS, NilP.i (NilP.i ⟨_, fun G w4 h4 => LdI.i h4 rfl ⟨rfl, h4⟩, _, _, _, fun G w4 h4 => LdL.i h4 rfl ⟨rfl, h4⟩, fun G w4 hS => ?_⟩)⟩
  have hS := StC.ends hS
  refine Bif.i (fun hge => ?_) fun hlt => ?_
  · have hge : (m : Int) ≤ (at_ : Int) + (k : Int) := by simpa using hge
    refine ⟨StC W _, StC.start hS, NilP.i (NilP.i ⟨_, fun G w4 h4 => LdI.i h4 rfl ⟨rfl, h4⟩, _, _, _, fun G w4 h4 => LdL.i h4 rfl ⟨rfl, h4⟩, NilP.i ⟨Unit, (), fun _ => .tuple #[], fun _ => StC W (Row rb 68 [.slice (some ⟨q, 0, none⟩) m m, .int .i64 (IntKind.wrap .i64 ((at_ : Int) + (k : Int) - (m : Int))), .int .i64 ((bs.length : Int) - (k : Int))] :: Row q 5 (row.map byteV) :: Row b 5 ((bs.take k).map byteV) :: F), fun G w5 hS => St1.i hS (by simp [ringRow]) fun w6 hS => ⟨(), rfl, hS⟩, fun _ => ⟨rfl, trivial, fun G w7 hS => ?_⟩⟩⟩)⟩
    rw [w64 (by omega) (by omega)] at hS
    have hS := StC.ends hS
    refine ⟨b, rfl, (RingA.shut (q := q) (at_ := at_ + k - m) (k := bs.length - k) (by simp) h1 h2 (by simp; omega) (by omega) ?_ (by
      have e1 : ((bs.length - k : Nat) : Int) = (bs.length : Int) - (k : Int) := by omega
      have e2 : ((at_ + k - m : Nat) : Int) = (at_ : Int) + (k : Int) - (m : Int) := by omega
      simpa only [ringRow, List.set_cons_succ, List.set_cons_zero, e1, e2] using hS)).p1⟩
    intro i hi
    simp only [List.length_drop] at hi
    rw [List.getElem?_drop, ← h5 (k + i) (by omega)]
    congr 1
    rw [show at_ + (k + i) = at_ + k - m + i + m by omega, Nat.add_mod_right]
  · have hlt : (at_ : Int) + (k : Int) < (m : Int) := by simpa using hlt
    refine ⟨b, rfl, (RingA.shut (q := q) (at_ := at_ + k) (k := bs.length - k) (by simp) h1 h2 (by simp; omega) (by omega) ?_ (by
      have e1 : ((bs.length - k : Nat) : Int) = (bs.length : Int) - (k : Int) := by omega
      have e2 : ((at_ + k : Nat) : Int) = (at_ : Int) + (k : Int) := by omega
      simpa only [ringRow, List.set_cons_succ, List.set_cons_zero, e1, e2] using hS)).p1⟩
    intro i hi
    simp only [List.length_drop] at hi
    rw [List.getElem?_drop, ← h5 (k + i) (by omega)]
    congr 1
    rw [show at_ + (k + i) = at_ + k + i by omega]

/-- What a row reads as after both pieces are written. -/
theorem add_bytes {m at_ N : Nat} {bs xs row : List UInt8} (h1 : row.length = m) (hm : 0 < m) (hat : at_ < m) (h5 : ∀ i, i < bs.length → row[(at_ + i) % m]? = bs[i]?) (hN : N ≤ m - bs.length) (hx : N ≤ xs.length) (h3 : bs.length ≤ m) :
    ∀ i, i < (bs ++ xs.take N).length → (splice (splice row ((at_ + bs.length) % m) (xs.take (min N (m - (at_ + bs.length) % m)))) 0 ((xs.drop (min N (m - (at_ + bs.length) % m))).take (N - min N (m - (at_ + bs.length) % m))))[(at_ + i) % m]? = (bs ++ xs.take N)[i]? := by
  intro i hi
  have hA : (at_ + bs.length) % m < m := Nat.mod_lt _ hm
  have l1 : (xs.take (min N (m - (at_ + bs.length) % m))).length = min N (m - (at_ + bs.length) % m) := by simp; omega
  have l2 : ((xs.drop (min N (m - (at_ + bs.length) % m))).take (N - min N (m - (at_ + bs.length) % m))).length = N - min N (m - (at_ + bs.length) % m) := by simp; omega
  have hi' : i < bs.length + N := by simp at hi; omega
  rw [splice_get _ _ _ _ (by rw [splice_length _ _ _ (by omega)]; omega), splice_get _ _ _ _ (by omega), l1, l2, Nat.sub_zero]
  have hmi := mod2' (x := at_ + i) (m := m) (by omega)
  have hmb := mod2' (x := at_ + bs.length) (m := m) (by omega)
  have h5' := h5 i
  generalize (at_ + i) % m = X at hmi h5' ⊢
  generalize (at_ + bs.length) % m = A at hmb hA l1 l2 ⊢
  have hmin : min N (m - A) = N ∧ N ≤ m - A ∨ min N (m - A) = m - A ∧ m - A ≤ N := by omega
  generalize min N (m - A) = M at hmin l1 l2 ⊢
  rcases Nat.lt_or_ge i bs.length with hb | hb
  · rw [List.getElem?_append_left hb, if_neg (by omega), if_neg (by omega), h5' hb]
  · rw [List.getElem?_append_right hb, List.getElem?_take_of_lt (show i - bs.length < N by omega)]
    by_cases h : 0 ≤ X ∧ X < 0 + (N - M)
    · rw [if_pos h, List.getElem?_take_of_lt (show X < N - M by omega), List.getElem?_drop]
      congr 1
      omega
    · rw [if_neg h, if_pos (by omega), List.getElem?_take_of_lt (show X - A < M by omega)]
      congr 1
      omega

theorem cut_get {xs : List UInt8} {k j : Nat} {v : Value} (h : ((xs.take k).map byteV)[j]? = some v) : (xs.map byteV)[j]? = some v := by
  rw [List.map_take, List.getElem?_take] at h
  split at h
  · exact h
  · cases h
theorem cut_get2 {xs : List UInt8} {k m j : Nat} {v : Value} (h : ((xs.take k).map byteV)[j]? = some v) (hk : k ≤ m) : ((xs.take m).map byteV)[j]? = some v := by
  rw [List.map_take, List.getElem?_take] at h ⊢
  split at h
  · rw [if_pos (by omega)]; exact h
  · cases h

theorem Room_raw {W w : World} {F : List Asn} {rb q m A B : Nat} (hm : m ≤ 65536) (hB : B ≤ m) (hS : St W (Row rb 68 (ringRow q m A B) :: F) w) :
    CallR Try.prog 36 #[.pointer (some ⟨rb, 0, none⟩)] w fun v w' => v = .int .i64 ((m - B : Nat) : Int) ∧ St W (Row rb 68 (ringRow q m A B) :: F) w' := by
  refine F36_of ⟨StC W _, StC.start hS, NilP.i (NilP.i ⟨_, _, _, fun G w1 h1 => LdL.i h1 rfl ⟨rfl, h1⟩, _, fun G w1 h1 => LdI.i h1 rfl ⟨rfl, h1⟩, fun G w1 hw => ⟨?_, StC.ends hw⟩⟩)⟩
  rw [w64 (by omega) (by omega)]
  congr 1
  omega

theorem Add_spec {W w : World} {F : List Asn} {rb m c : Nat} {bs xs : List UInt8} {p : Option Addr} (hr : Rd F p (xs.map byteV)) (hc : xs.length ≤ c) (hS : St W (RingA rb m bs :: F) w) :
    CallR Try.prog 34 #[.pointer (some ⟨rb, 0, none⟩), .slice p xs.length c] w fun v w' => v = .int .i64 (min xs.length (m - bs.length) : Nat) ∧ St W (RingA rb m (bs ++ xs.take (m - bs.length)) :: F) w' := by
  obtain ⟨q, at_, row, h1, h2, h3, h4, h5, hS'⟩ := RingA.open_ hS
  have et : bs ++ xs.take (m - bs.length) = bs ++ xs.take (min xs.length (m - bs.length)) := by
    rcases Nat.le_total xs.length (m - bs.length) with h | h
    · rw [Nat.min_eq_left h, List.take_length, List.take_of_length_le h]
    · rw [Nat.min_eq_right h]
  rw [et]
  refine F34_of ⟨StC W _, StC.start hS', NilP.i (NilP.i ⟨(at_ : Int), fun G w4 h4 => LdI.i h4 rfl ⟨rfl, h4⟩, (bs.length : Int), fun G w4 h4 => LdI.i h4 rfl ⟨rfl, h4⟩, ((m - bs.length : Nat) : Int), fun G w4 hG => ?_, ?_⟩)⟩
  · exact (Room_raw h2 h3 hG).of fun v w5 ⟨hv, h5⟩ => ⟨_, hv, rfl, h5⟩
  have eN : (if ((m - bs.length : Nat) : Int) < (xs.length : Int) then ((m - bs.length : Nat) : Int) else (xs.length : Int)) = ((min xs.length (m - bs.length) : Nat) : Int) := by split <;> omega
  rw [eN, w64 (by omega) (by omega)]
  have hN : min xs.length (m - bs.length) ≤ m - bs.length := Nat.min_le_right _ _
  have hx : min xs.length (m - bs.length) ≤ xs.length := Nat.min_le_left _ _
  generalize min xs.length (m - bs.length) = N at hN hx
  have eA : ((at_ : Int) + (bs.length : Int)) = ((at_ + bs.length : Nat) : Int) := by omega
  rw [eA]
  rcases Nat.eq_zero_or_pos m with hm | hm
  · -- none may wait
    subst hm
    have hN0 : N = 0 := by omega
    subst hN0
    refine ⟨Unit, (), fun _ => .tuple #[.slice none 0 0, .slice none 0 0], fun _ => StC W (Row rb 68 (ringRow q 0 at_ bs.length) :: Row q 5 (row.map byteV) :: F), fun G w5 hG => ?_, fun _ => ⟨_, _, _, _, _, _, rfl, trivial, fun G w7 hG => ?_⟩⟩
    · refine (parts_zero _ _ hG).of fun v w6 ⟨hv, h6⟩ => ⟨_, _, _, _, _, _, hv, (), rfl, h6⟩
    have hS := StC.ends hG
    refine copy_none uB iU8 sU8 (by omega) ⟨_, rfl, ?_⟩
    refine SlP.i (a := 0) (b := xs.length) hr (by simp) hc rfl rfl (by omega) (by omega) fun p' _ => ?_
    refine copy_none uB iU8 sU8 (by omega) ⟨_, rfl, ?_⟩
    refine NilP.i (LdI.i hS rfl (NilP.i (St1.i hS (by simp [ringRow]) fun w8 hS => ?_)))
    rw [w64 (n := ((0 : Nat) : Int) + ((0 : Nat) : Int)) (by omega) (by omega)] at hS ⊢
    refine ⟨rfl, ?_⟩
    rw [List.take_zero, List.append_nil]
    rw [w64 (by omega) (by omega)] at hS
    refine RingA.shut (q := q) rfl h1 h2 h3 h4 h5 ?_
    simpa [ringRow] using hS
  · have hat : at_ < m := by omega
    have hlt : (at_ + bs.length) % m < m := Nat.mod_lt _ hm
    have hA := add_bytes h1 hm hat h5 hN hx h3
    refine ⟨Unit, (), fun _ => .tuple #[.slice (some ⟨q, (at_ + bs.length) % m, none⟩) (min N (m - (at_ + bs.length) % m)) (m - (at_ + bs.length) % m), .slice (some ⟨q, 0, none⟩) (N - min N (m - (at_ + bs.length) % m)) m], fun _ => StC W (Row rb 68 (ringRow q m at_ bs.length) :: Row q 5 (row.map byteV) :: F), fun G w5 hG => ?_, fun _ => ⟨_, _, _, _, _, _, rfl, trivial, fun G w7 hG => ?_⟩⟩
    · refine (parts_spec _ _ (at_ + bs.length) N rfl rfl hG hm h2 (by omega) (by omega)).of fun v w6 ⟨hv, h6⟩ => ⟨_, _, _, _, _, _, hv, (), rfl, h6⟩
    have hS := (StC.ends hG).p1
    generalize hA' : (at_ + bs.length) % m = A at hlt hA hS ⊢
    have l1 : (xs.take (min N (m - A))).length = min N (m - A) := by simp; omega
    have l2 : ((xs.drop (min N (m - A))).take (N - min N (m - A))).length = N - min N (m - A) := by simp; omega
    refine copy_i (cs := (xs.take (min N (m - A))).map byteV) uB iU8 sU8 hS (by simp; omega) (fun j v hj => ((hr.cons _).cons _).of hS (cut_get hj)) (by rw [List.length_map, l1]; omega) notAgg_byteV fun w8 hS => ⟨_, rfl, ?_⟩
    rw [Nat.min_eq_right (show min N (m - A) ≤ xs.length by omega), splice_map] at *
    refine SlP.i (a := min N (m - A)) (b := xs.length) hr (by simp) hc rfl rfl (by omega) (by omega) fun p' hr' => ?_
    rw [Nat.mul_one, Nat.mul_one, ← List.map_drop, ← List.map_take] at hr'
    refine copy_i (cs := ((xs.drop (min N (m - A))).take (N - min N (m - A))).map byteV) uB iU8 sU8 hS (by simp [splice_length _ _ _ (show A + (xs.take (min N (m - A))).length ≤ row.length by omega)]; omega) (fun j v hj => ((hr'.cons _).cons _).of hS (cut_get2 hj (by omega))) (by rw [List.length_map, l2]; omega) notAgg_byteV fun w9 hS => ⟨_, rfl, ?_⟩
    rw [splice_map] at hS
    have e1 : (((min N (m - A) : Nat) : Int) + ((min (xs.length - min N (m - A)) (N - min N (m - A)) : Nat) : Int)) = (N : Int) := by omega
    refine NilP.i (LdI.i hS.p1 rfl (NilP.i (St1.i hS.p1 (by simp [ringRow]) fun w10 hS => ?_)))
    rw [e1, w64 (n := (N : Int)) (by omega) (by omega)] at hS ⊢
    rw [w64 (by omega) (by omega)] at hS
    refine ⟨rfl, ?_⟩
    refine RingA.shut (q := q) (at_ := at_) (k := bs.length + N) (by simp; omega) ?_ h2 (by simp; omega) h4 hA ?_
    · rw [splice_length _ _ _ (by rw [splice_length _ _ _ (by omega)]; omega), splice_length _ _ _ (by omega)]; exact h1
    · have e2 : ((bs.length + N : Nat) : Int) = (bs.length : Int) + (N : Int) := by omega
      simpa only [ringRow, List.set_cons_succ, List.set_cons_zero, e2] using hS
end Go.Proofs.Ytneilmoiahphkaa
