/-
  Contracts of the document's ring.
-/
import Derived.Test.YtneilmoiahphkaaRingC
set_option linter.unusedVariables false
set_option linter.unusedSimpArgs false
namespace Go.Proofs.Ytneilmoiahphkaa
open Go

/-- The document's ring: a row that only it holds. -/
def RefA (rb m : Nat) (bs : List UInt8) : Asn := exA fun x : Option Addr × Nat => sepA [
  prA (m ≤ 65536 ∧ bs.length ≤ m), Row rb 66 [.slice x.1 bs.length x.2, .int .i64 m], OwnS 5 1 x.1 bs.length x.2 (bs.map byteV)]
theorem RefA.open_ {W w : World} {F : List Asn} {rb m : Nat} {bs : List UInt8} (h : St W (RefA rb m bs :: F) w) :
    ∃ (p : Option Addr) (c : Nat), m ≤ 65536 ∧ bs.length ≤ m ∧ St W (Row rb 66 [.slice p bs.length c, .int .i64 m] :: OwnS 5 1 p bs.length c (bs.map byteV) :: F) w := by
  obtain ⟨⟨p, c⟩, h⟩ := h.of_ex
  obtain ⟨⟨h1, h2⟩, h⟩ := h.of_sep.of_pr
  exact ⟨p, c, h1, h2, h⟩
theorem RefA.shut {W w : World} {F : List Asn} {rb m n c : Nat} {p : Option Addr} {bs : List UInt8} (hn : n = bs.length) (h1 : m ≤ 65536) (h2 : bs.length ≤ m)
    (h : St W (Row rb 66 [.slice p n c, .int .i64 m] :: OwnS 5 1 p n c (bs.map byteV) :: F) w) : St W (RefA rb m bs :: F) w := by
  subst hn
  exact St.to_ex (p, c) (St.to_sep (l := [_, _, _]) (St.to_pr ⟨h1, h2⟩ h))

theorem RNew_spec {W w : World} {F : List Asn} (most : Int) (hS : St W F w) :
    CallR Try.prog 37 #[.int .i64 most] w fun v w' => ∃ rb, v = .pointer (some ⟨rb, 0, none⟩) ∧ St W (RefA rb (min most.toNat 65536) [] :: F) w' := by
  refine F37_of ?_
  unfold F37
  rw [clamp_eq]
  refine NewC.i hS fun b w1 h1 => ⟨b, rfl, RefA.shut (p := none) (c := 0) (n := 0) rfl (by omega) (by simp) (OwnS.nil _ _ _ h1).p1⟩

theorem RTake_spec {W w : World} {F : List Asn} {rb m : Nat} {bs : List UInt8} (n : Int) (hS : St W (RefA rb m bs :: F) w) :
    CallR Try.prog 39 #[.pointer (some ⟨rb, 0, none⟩), .int .i64 n] w fun v w' => ∃ p c, v = .slice p (bs.take n.toNat).length c ∧ St W (OwnS 5 1 p (bs.take n.toNat).length c ((bs.take n.toNat).map byteV) :: RefA rb m (bs.drop n.toNat) :: F) w' := by
  obtain ⟨p, c, h1, h2, hS⟩ := RefA.open_ hS
  have hle := (OwnS.le hS.p1).2
  refine F39_of (NilP.i (LdL.i hS rfl ?_))
  have e : (if (bs.length : Int) < (if 0 > n then 0 else n) then (bs.length : Int) else (if 0 > n then 0 else n)) = ((min bs.length n.toNat : Nat) : Int) := by
    split <;> split at * <;> omega
  rw [e]
  have et : bs.take (min bs.length n.toNat) = bs.take n.toNat := by
    rcases Nat.le_total bs.length n.toNat with h | h
    · rw [Nat.min_eq_left h, List.take_length, List.take_of_length_le h]
    · rw [Nat.min_eq_right h]
  have ed : bs.drop (min bs.length n.toNat) = bs.drop n.toNat := by
    rcases Nat.le_total bs.length n.toNat with h | h
    · rw [Nat.min_eq_left h, List.drop_length, List.drop_eq_nil_of_le h]
    · rw [Nat.min_eq_right h]
  have el : (bs.take n.toNat).length = min bs.length n.toNat := by simp; omega
  have k1 : min bs.length n.toNat ≤ bs.length := Nat.min_le_left _ _
  generalize min bs.length n.toNat = k at et ed el k1 ⊢
  rw [el, ← et, ← ed]
  have hrd : ∀ G : List Asn, Rd (G ++ Row rb 66 [.slice p bs.length c, .int .i64 m] :: OwnS 5 1 p bs.length c (bs.map byteV) :: F) p (bs.map byteV) := fun G => by
    induction G with
    | nil => exact (OwnS.rd F).cons _
    | cons A G ih => exact ih.cons A
  refine NewC.i hS fun b w1 hS => NilP.i (LdL.i hS.p1 rfl (SlP.i (a := 0) (b := k) (hrd []) (by simp) hle rfl rfl (by omega) k1 fun p1 hr1 => ?_))
  have el1 : ((bs.take k).map byteV).length = k := by simp; omega
  have el2 : ((bs.drop k).map byteV).length = bs.length - k := by simp
  rw [Nat.zero_mul, Nat.mul_one, List.drop_zero, Nat.sub_zero, ← List.map_take] at hr1
  refine append_sl uB (.inr ⟨_, uB⟩) iU8 sU8 zU8 rfl (OwnS.empty hS) hr1 (by rw [el1]; omega) notAgg_byteV (by rw [bU8]; omega) (by omega) fun pa ca w2 hS => ⟨_, _, _, rfl, ?_⟩
  refine NewC.i hS fun b2 w3 hS => NilP.i (LdL.i hS.p2 rfl (SlP.i (a := k) (b := bs.length) (hrd [OwnS 5 1 pa (0 + (k - 0)) ca ([] ++ (bs.take k).map byteV)]) (by simp) hle rfl rfl k1 (by omega) fun p2 hr2 => ?_))
  rw [Nat.mul_one, Nat.mul_one, ← List.map_drop, ← List.map_take, show (bs.drop k).take (bs.length - k) = bs.drop k from List.take_of_length_le (by simp)] at hr2
  refine append_sl uB (.inr ⟨_, uB⟩) iU8 sU8 zU8 rfl (OwnS.empty hS) hr2 (by rw [el2]; omega) notAgg_byteV (by rw [bU8]; omega) (by omega) fun pb cb w4 hS => ⟨_, _, _, rfl, ?_⟩
  refine NilP.i (St1.i hS.p2 (by simp) fun w5 hS => ?_)
  rw [Nat.zero_add, Nat.sub_zero] at hS ⊢
  rw [Nat.zero_add] at hS
  rw [List.nil_append] at hS
  refine ⟨pa, ca, rfl, ?_⟩
  refine (RefA.shut (p := pb) (c := cb) (n := bs.length - k) (by simp) h1 (by simp; omega) ?_).p1
  exact (St.pull [_, _, _] hS).drop

theorem RAdd_spec {W w : World} {F : List Asn} {rb m c : Nat} {bs xs : List UInt8} {p : Option Addr} (hr : Rd F p (xs.map byteV)) (hc : xs.length ≤ c) (hS : St W (RefA rb m bs :: F) w) :
    CallR Try.prog 40 #[.pointer (some ⟨rb, 0, none⟩), .slice p xs.length c] w fun v w' => v = .int .i64 (min xs.length (m - bs.length) : Nat) ∧ St W (RefA rb m (bs ++ xs.take (m - bs.length)) :: F) w' := by
  obtain ⟨q, cq, h1, h2, hS⟩ := RefA.open_ hS
  have hle := (OwnS.le hS.p1).2
  have et : bs ++ xs.take (m - bs.length) = bs ++ xs.take (min xs.length (m - bs.length)) := by
    rcases Nat.le_total xs.length (m - bs.length) with h | h
    · rw [Nat.min_eq_left h, List.take_length, List.take_of_length_le h]
    · rw [Nat.min_eq_right h]
  rw [et]
  refine F40_of ⟨StC W _, StC.start hS, NilP.i (NilP.i ⟨(m : Int), fun G w4 h4 => LdI.i h4 rfl ⟨rfl, h4⟩, q, bs.length, cq, fun G w4 h4 => LdL.i h4 rfl ⟨rfl, h4⟩, fun G w5 hG => ?_⟩)⟩
  rw [w64 (by omega) (by omega)]
  have eN : (if (m : Int) - (bs.length : Int) < (xs.length : Int) then (m : Int) - (bs.length : Int) else (xs.length : Int)) = ((min xs.length (m - bs.length) : Nat) : Int) := by split <;> omega
  rw [eN]
  have hN : min xs.length (m - bs.length) ≤ m - bs.length := Nat.min_le_right _ _
  have hx : min xs.length (m - bs.length) ≤ xs.length := Nat.min_le_left _ _
  generalize min xs.length (m - bs.length) = N at hN hx
  have hS := StC.ends hG
  refine ⟨StC W _, StC.start hS, NilP.i (SlP.i (a := 0) (b := N) hr (by simp) hc rfl rfl (by omega) hx fun p1 hr1 => ?_)⟩
  rw [Nat.zero_mul, Nat.mul_one, List.drop_zero, Nat.sub_zero, ← List.map_take] at hr1
  refine ⟨q, bs.length, cq, fun G w4 h4 => LdL.i h4 rfl ⟨rfl, h4⟩, fun b => ?_⟩
  refine ⟨fun v => Cls.some fun x : Option Addr × Nat => Cls.only (v = .slice x.1 bs.length x.2) (StC W (OwnS 5 1 x.1 bs.length x.2 (bs.map byteV) :: Row rb 66 [.slice q bs.length cq, .int .i64 m] :: OwnS 5 1 q bs.length cq (bs.map byteV) :: F)), fun G w6 hG => ?_, fun pa na ca => ⟨trivial, ?_⟩⟩
  · have hG' := OwnS.empty (size := 1) (St.imp (StC.pushed hG) Pt.row)
    refine append_sl uB (.inr ⟨_, uB⟩) iU8 sU8 zU8 rfl hG' (((OwnS.rd _).cons _).app (pts G)) (by simp) notAgg_byteV (by rw [bU8]; omega) (by omega) fun pa ca w7 hS => ⟨_, _, _, rfl, ⟨_, _, _, rfl⟩, (pa, ca), by rw [Nat.zero_add], ?_⟩
    rw [Nat.zero_add, List.nil_append] at hS
    exact hS
  refine ⟨fun v => Cls.some fun x : Option Addr × Nat => Cls.only (v = .slice x.1 (bs.length + N) x.2) (StC W (OwnS 5 1 x.1 (bs.length + N) x.2 ((bs ++ xs.take N).map byteV) :: Row rb 66 [.slice q bs.length cq, .int .i64 m] :: OwnS 5 1 q bs.length cq (bs.map byteV) :: F)), fun G w6 hG => ?_, fun pb nb cb => ⟨trivial, NilP.i ?_⟩⟩
  · obtain ⟨⟨pa', ca'⟩, he, hG⟩ := hG
    cases he
    refine append_sl (xs := (xs.take N).map byteV) uB (.inr ⟨_, uB⟩) iU8 sU8 zU8 rfl hG (((hr1.cons _).cons _).app (pts G)) (by simp; omega) notAgg_byteV (by rw [bU8]; omega) (by omega) fun pb cb w7 hS => ⟨_, _, _, rfl, ⟨_, _, _, rfl⟩, (pb, cb), rfl, ?_⟩
    rw [← List.map_append] at hS
    exact hS
  refine ⟨fun v => Cls.only (nb = bs.length + N) (StC W (Row rb 66 [.slice pb nb cb, .int .i64 m] :: OwnS 5 1 pb nb cb ((bs ++ xs.take N).map byteV) :: OwnS 5 1 q bs.length cq (bs.map byteV) :: F)), fun G w6 hG => ?_, trivial, fun G w7 ⟨hn, hG⟩ => ⟨rfl, ?_⟩⟩
  · obtain ⟨⟨pb', cb'⟩, he, hG⟩ := hG
    cases he
    exact St1.i (St.p1 hG) (by simp) fun w8 hS => ⟨isR0, rfl, hS⟩
  · subst hn
    exact RefA.shut (by simp; omega) h1 (by simp; omega) (St.pull [_, _] (StC.ends hG)).drop
end Go.Proofs.Ytneilmoiahphkaa
