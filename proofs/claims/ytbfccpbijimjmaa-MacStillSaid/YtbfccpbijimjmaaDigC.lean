/-
  Contracts of sums: words, rounds, blocks.
-/
import Derived.Test.YtbfccpbijimjmaaDigP
import Derived.Test.YtbfccpbijimjmaaArr
import Derived.Test.YtbfccpbijimjmaaFns
set_option linter.unusedVariables false
set_option linter.unusedSimpArgs false
namespace Go.Proofs.Ytbfccpbijimjmaa
open Go
theorem uB : Try.prog.underlying 22 = some (.slice 5) := Try.underlying22
theorem uU8 : Try.prog.underlying 5 = some (.int .u8) := Try.underlying5
theorem iU8 : Try.prog.info? 5 = some Try.t5 := by kernel_rfl
theorem sU8 : Try.t5.size = 1 := rfl
theorem zU8 : Try.t5.zero = some (.int .u8 0) := rfl
theorem bU8 : Try.t5.bytes = 1 := rfl
theorem iU32 : Try.prog.info? 45 = some Try.t45 := by kernel_rfl
theorem sU32 : Try.t45.size = 1 := rfl
theorem w64 {n : Int} (h0 : -9223372036854775808 ≤ n) (h1 : n ≤ 9223372036854775807) : IntKind.wrap .i64 n = n := IntWalk.i64_in _ ⟨h0, h1⟩
theorem up {k n : Nat} (h : k < n) (hn : n ≤ 9223372036854775807) : IntKind.wrap .i64 ((k : Int) + 1) = ((k + 1 : Nat) : Int) := by rw [w64 (by omega) (by omega)]; omega
def leftN (n : Nat) : List Value → World → Nat := fun vs _ => match vs.getLast? with
  | some (.int _ i) => n - i.toNat
  | _ => 0
theorem uV_notAgg (ws : List B32) : ∀ v ∈ ws.map uV, NotAgg v := fun v hv => by
  obtain ⟨x, _, rfl⟩ := List.mem_map.1 hv
  trivial
def arrU (ws : List B32) : Array Value := (ws.map uV).toArray
theorem arrU_size (ws : List B32) : (arrU ws).size = ws.length := by simp [arrU]

theorem rot_k : ∀ k : Fin 32, 0 < k.val → IntKind.wrap .u64 ↑((BitVec.ofInt (IntKind.bits .u64) (IntKind.wrap .u64 (IntKind.wrap .i64 (0 - (k.val : Int)))) &&& BitVec.ofInt (IntKind.bits .u64) 31).toNat) = ((32 - k.val : Nat) : Int) ∧ IntKind.wrap .u64 (32 - ((32 - k.val : Nat) : Int)) = (k.val : Int) := by decide +kernel
theorem Rot_spec {W w : World} {F : List Asn} (x : B32) (k : Nat) (h0 : 0 < k) (h1 : k < 32) (hS : St W F w) : CallR Try.prog 37 #[uV x, .int .i64 (IntKind.wrap .i64 (0 - (k : Int)))] w fun v w' => v = uV (rotr x k) ∧ St W F w' := by
  obtain ⟨e1, e2⟩ := rot_k ⟨k, h1⟩ h0
  dsimp only at e1 e2
  refine F37_of ?_
  unfold F37
  rw [e1, e2]
  refine ⟨by omega, by omega, ?_, hS⟩
  rw [u32_shl x _ (by omega), u32_shr x _ (by omega), u32_or]
  unfold rotr uV
  rw [BitVec.or_comm]

theorem mixed_spec {W w : World} {F : List Asn} (x : B32) (a b c : Nat) (fall : Bool) (ha : 0 < a ∧ a < 32) (hb : 0 < b ∧ b < 32) (hc : 0 < c ∧ c < 32) (hS : St W F w) :
    CallR Try.prog 36 #[uV x, .agg #[.int .i64 a, .int .i64 b, .int .i64 c], .bool fall] w fun v w' => v = uV (rotr x a ^^^ rotr x b ^^^ (if fall = true then x >>> c else rotr x c)) ∧ St W F w' := by
  refine F36_of (NewC.i hS fun b5 w hS => ?_)
  have hS : St W (Row b5 60 [.int .i64 a, .int .i64 b, .int .i64 c] :: F) w := hS
  refine IxP.row (k := 2) rfl (by decide) (LdI.n 0 hS rfl rfl ((Rot_spec x c hc.1 hc.2 hS).of fun v w ⟨hv, hS⟩ => ⟨_, hv, ?_⟩))
  refine ⟨fun vs w => vs = [uV (if fall = true then x >>> c else rotr x c)] ∧ St W (Row b5 60 [.int .i64 a, .int .i64 b, .int .i64 c] :: F) w, Bif.i (fun h => ?_) fun h => ⟨by rw [if_neg (by simp [h])]; rfl, hS⟩, fun last w hJ => ?_⟩
  · refine IxP.row (k := 2) rfl (by decide) (LdI.n 0 hS rfl rfl ⟨by omega, ?_, hS⟩)
    rw [u32_shr x c (by omega), if_pos h]; rfl
  obtain ⟨he, hS⟩ := hJ
  generalize (if fall = true then x >>> c else rotr x c) = z at he ⊢
  cases he
  have hC := Is.refl W (Row b5 60 [.int .i64 a, .int .i64 b, .int .i64 c] :: F)
  refine ⟨StC W _, StC.start hS, IxP.row (k := 0) rfl (by decide) (IxP.row (k := 1) rfl (by decide) ⟨_, QtI.n 0 hC rfl rfl, _, QtI.n 0 hC rfl rfl, ?_⟩)⟩
  refine Ef.n0 (α := Unit) (V := fun _ => uV (rotr x a)) (B := fun _ => Row b5 60 [.int .i64 a, .int .i64 b, .int .i64 c] :: F) () hC (fun G w h => (Rot_spec x a ha.1 ha.2 h).of fun v w' ⟨hv, h⟩ => ⟨_, hv, (), rfl, h⟩) fun _ => ⟨_, rfl, QtI.n 0 hC rfl rfl, ?_⟩
  refine Ef.n0 (α := Unit) (V := fun _ => uV (rotr x b)) (B := fun _ => Row b5 60 [.int .i64 a, .int .i64 b, .int .i64 c] :: F) () hC (fun G w h => (Rot_spec x b hb.1 hb.2 h).of fun v w' ⟨hv, h⟩ => ⟨_, hv, (), rfl, h⟩) fun _ => ⟨_, rfl, trivial, fun G w h => ⟨?_, (StC.ends h).drop⟩⟩
  rw [u32_xor, u32_xor]; rfl

theorem roots_spec {W w : World} {F : List Asn} (hS : St W F w) : CallR Try.prog 35 #[] w fun v w' => v = .agg (arrU K64) ∧ St W F w' := by
  refine F35_of (NewC.i hS fun b w hS => ⟨rfl, StA.r 0 hS rfl rfl (fun v hv => ?_) fun w hS => LdA.r 0 hS rfl rfl ⟨?_, hS.drop⟩⟩)
  · exact uV_notAgg K64 v hv
  · kernel_rfl
theorem begin_spec {W w : World} {F : List Asn} (hS : St W F w) : CallR Try.prog 30 #[] w fun v w' => v = .agg (arrU H0.l) ∧ St W F w' := by
  refine F30_of (NewC.i hS fun b w hS => ⟨rfl, StA.r 0 hS rfl rfl (fun v hv => ?_) fun w hS => LdA.r 0 hS rfl rfl ⟨?_, hS.drop⟩⟩)
  · exact uV_notAgg H0.l v hv
  · kernel_rfl

/-! ### The words of a block -/
theorem word4_snoc (l : List UInt8) (c : UInt8) (a : B32) : word4 (l ++ [c]) a = word4 l a <<< 8 ||| c.toBitVec.setWidth 32 := by
  induction l generalizing a with
  | nil => rfl
  | cons x r ih => exact ih _
def wAt (bs : List UInt8) (i j : Nat) : B32 := word4 ((bs.drop (4 * j)).take (min 4 (i - 4 * j))) 0
def rowW (bs : List UInt8) (i : Nat) : List B32 := (List.range 64).map (wAt bs i)
theorem rowW_len (bs : List UInt8) (i : Nat) : (rowW bs i).length = 64 := by simp [rowW]
theorem rowW_get (bs : List UInt8) (i j : Nat) (h : j < 64) : (rowW bs i)[j]? = some (wAt bs i j) := by
  unfold rowW
  rw [List.getElem?_map, List.getElem?_range h]; rfl
theorem wAt_next (bs : List UInt8) (i : Nat) {c : UInt8} (hc : bs[i]? = some c) : wAt bs (i + 1) (i / 4) = wAt bs i (i / 4) <<< 8 ||| c.toBitVec.setWidth 32 := by
  unfold wAt
  have e1 : min 4 (i + 1 - 4 * (i / 4)) = (i - 4 * (i / 4)) + 1 := by omega
  have e2 : min 4 (i - 4 * (i / 4)) = i - 4 * (i / 4) := by omega
  rw [e1, e2, List.take_add_one, List.getElem?_drop, show 4 * (i / 4) + (i - 4 * (i / 4)) = i by omega, hc]
  exact word4_snoc _ _ _
theorem wAt_other (bs : List UInt8) (i j : Nat) (h : j ≠ i / 4) : wAt bs (i + 1) j = wAt bs i j := by
  unfold wAt
  rw [show min 4 (i + 1 - 4 * j) = min 4 (i - 4 * j) by omega]
theorem rowW_next (bs : List UInt8) (i : Nat) {c : UInt8} (hc : bs[i]? = some c) (hi : i < 64) : rowW bs (i + 1) = (rowW bs i).set (i / 4) (wAt bs i (i / 4) <<< 8 ||| c.toBitVec.setWidth 32) := by
  refine List.ext_getElem? fun j => ?_
  rw [List.getElem?_set]
  rcases Nat.lt_or_ge j 64 with h | h
  · rw [rowW_get bs _ j h, rowW_get bs _ j h]
    by_cases e : i / 4 = j
    · subst e
      rw [if_pos rfl, if_pos (by rw [rowW_len]; exact h), wAt_next bs i hc]
    · rw [if_neg e, wAt_other bs i j (fun k => e k.symm)]
  · rw [List.getElem?_eq_none (by rw [rowW_len]; exact h), List.getElem?_eq_none (by rw [rowW_len]; exact h), if_neg (by omega)]
theorem rowW_zero (bs : List UInt8) : rowW bs 0 = List.replicate 64 0 := by
  refine List.ext_getElem? fun j => ?_
  rcases Nat.lt_or_ge j 64 with h | h
  · rw [rowW_get bs _ j h, List.getElem?_replicate, if_pos h]
    unfold wAt
    rw [Nat.zero_sub, Nat.min_zero, List.take_zero]; rfl
  · rw [List.getElem?_eq_none (by rw [rowW_len]; exact h), List.getElem?_eq_none (by simpa using h)]
theorem rowW_full (bs : List UInt8) : rowW bs 64 = w16 bs ++ List.replicate 48 0 := by
  have hl : (w16 bs).length = 16 := by simp [w16]
  refine List.ext_getElem? fun j => ?_
  rcases Nat.lt_or_ge j 64 with h | h
  · rw [rowW_get bs _ j h]
    rcases Nat.lt_or_ge j 16 with h2 | h2
    · rw [List.getElem?_append_left (by omega)]
      unfold w16
      rw [List.getElem?_map, List.getElem?_range h2]
      unfold wAt
      rw [show min 4 (64 - 4 * j) = 4 by omega]; rfl
    · rw [List.getElem?_append_right (by omega), List.getElem?_replicate, if_pos (by omega)]
      unfold wAt
      rw [show min 4 (64 - 4 * j) = 0 by omega, List.take_zero]; rfl
  · rw [List.getElem?_eq_none (by rw [rowW_len]; exact h), List.getElem?_eq_none (by simp [hl]; omega)]
def rowS (bs : List UInt8) (m : Nat) : List B32 := schedN (w16 bs) m ++ List.replicate (48 - m) 0
theorem w16_len (bs : List UInt8) : (w16 bs).length = 16 := by simp [w16]
theorem rowS_len (bs : List UInt8) (m : Nat) (h : m ≤ 48) : (rowS bs m).length = 64 := by
  unfold rowS; rw [List.length_append, schedN_len, w16_len, List.length_replicate]; omega
theorem rowS_next (bs : List UInt8) (m : Nat) (h : m < 48) : rowS bs (m + 1) = (rowS bs m).set (m + 16) (nextW (schedN (w16 bs) m)) := by
  have hl : (schedN (w16 bs) m).length = m + 16 := by rw [schedN_len, w16_len]; omega
  unfold rowS
  rw [List.set_append_right _ _ (by omega), hl, Nat.sub_self, show 48 - m = (48 - (m + 1)) + 1 by omega, List.replicate_succ, List.set_cons_zero]
  simp [schedN]
theorem rowS_get (bs : List UInt8) (m j : Nat) (h : j < m + 16) : (rowS bs m)[j]? = some ((schedN (w16 bs) m).getD j 0) := by
  have hl : (schedN (w16 bs) m).length = m + 16 := by rw [schedN_len, w16_len]; omega
  unfold rowS
  rw [List.getElem?_append_left (by omega), List.getD_eq_getElem?_getD, List.getElem?_eq_getElem (by omega)]; rfl
theorem nextW_eq (bs : List UInt8) (m : Nat) : nextW (schedN (w16 bs) m) = sig1 ((schedN (w16 bs) m).getD (m + 14) 0) + (schedN (w16 bs) m).getD (m + 9) 0 + sig0 ((schedN (w16 bs) m).getD (m + 1) 0) + (schedN (w16 bs) m).getD m 0 := by
  unfold nextW
  have hl : (schedN (w16 bs) m).length = m + 16 := by rw [schedN_len, w16_len]; omega
  rw [hl]; rfl
theorem uV_get {ws : List B32} {j : Nat} {x : B32} (h : ws[j]? = some x) : (ws.map uV)[j]? = some (.int .u32 (nI x)) := by rw [List.getElem?_map, h]; rfl
theorem uV_set (ws : List B32) (j : Nat) (x : B32) : (ws.map uV).set j (uV x) = (ws.set j x).map uV := by rw [List.map_set]
/-- A byte is looked at. -/
theorem IxP.by_ {W w : World} {l : List Asn} {p : Option Addr} {bs : List UInt8} {n k : Nat} {i : Int} {x : UInt8} {K : Addr → Prop} (hr : Rd l p (bs.map byteV)) (hS : St W l w) (hi : i = (k : Int)) (hn : k < n) (hx : bs[k]? = some x)
    (hK : ∀ a, w.cell? a = some (byteV x) → K a) : IxP p n i 1 K := by
  have hc : (bs.map byteV)[k * 1]? = some (byteV x) := by rw [Nat.mul_one, List.getElem?_map, hx]; rfl
  refine IxP.i hr hS hi hn hc fun a ha => hK _ ?_
  exact hr.at1 hS ha hc

theorem words_spec {W w : World} {F : List Asn} {p : Option Addr} {c : Nat} {bs : List UInt8} (hr : Rd F p (bs.map byteV)) (hc : bs.length ≤ c) (h64 : 64 ≤ bs.length) (hS : St W F w) :
    CallR Try.prog 32 #[.slice p bs.length c] w fun v w' => v = .agg (arrU (sched (bs.take 64))) ∧ St W F w' := by
  refine F32_of (NewC.i hS fun b3 w1 hS => NewC.i hS fun b5 w2 hS => SlP.i (a := 0) (b := 64) hr (by simp) hc rfl rfl (by omega) h64 fun p' hr' => ?_)
  rw [Nat.zero_mul, Nat.mul_one, List.drop_zero, Nat.sub_zero, ← List.map_take] at hr'
  have hS : St W (Row b5 49 ((rowW (bs.take 64) 0).map uV) :: Row b3 49 ((List.replicate 64 (0 : B32)).map uV) :: F) w2 := by rw [rowW_zero]; exact hS
  generalize hq : bs.take 64 = q at hr' hS ⊢
  have hql : q.length = 64 := by rw [← hq]; simp; omega
  refine ⟨fun vs w => ∃ i : Nat, vs = [.int .i64 i] ∧ i ≤ 64 ∧ St W (Row b5 49 ((rowW q i).map uV) :: Row b3 49 ((List.replicate 64 (0 : B32)).map uV) :: F) w, leftN 64, ⟨0, rfl, by omega, hS⟩, fun x w hI => ?_⟩
  obtain ⟨i, he, hi, hS⟩ := hI
  cases he
  refine Bif.i (fun hlt => ?_) fun hge => ?_
  · have hlt : i < 64 := by have := of_decide_eq_true hlt; omega
    have hx : q[i]? = some (q[i]'(by omega)) := List.getElem?_eq_getElem _
    have ed : IntKind.wrap .i64 (Int.tdiv (i : Int) 4) = ((i / 4 : Nat) : Int) := by
      rw [Int.tdiv_eq_ediv_of_nonneg (by omega), w64 (by omega) (by omega)]; omega
    rw [ed]
    refine IxP.by_ ((hr'.cons _).cons _) hS rfl (by omega) hx fun a ha => LdI.at ha ⟨by decide, by decide, ?_⟩
    refine IxP.row rfl (by omega) (LdI.n 0 hS rfl (uV_get (rowW_get q i (i / 4) (by omega))) ⟨by decide, IxP.row rfl (by omega) (St1.n 0 hS rfl (by rw [List.length_map, rowW_len]; omega) fun w3 hS => ?_)⟩)
    have e1 := u32_shl (wAt q i (i / 4)) 8 (by omega)
    rw [show (Int.toNat ((8 : Nat) : Int)) = Int.toNat 8 from rfl] at e1
    have e2 : IntKind.wrap .u32 ((q[i]'(by omega)).toNat : Int) = nI ((q[i]'(by omega)).toBitVec.setWidth 32) := u32_of8 _
    rw [e1, e2, u32_or] at hS
    have hS : St W (Row b5 49 ((rowW q (i + 1)).map uV) :: Row b3 49 ((List.replicate 64 (0 : B32)).map uV) :: F) w3 := by
      rw [rowW_next q i hx hlt, ← uV_set]; exact hS
    rw [up hlt (by omega)]
    exact ⟨⟨i + 1, rfl, by omega, hS⟩, by show 64 - (i + 1) < 64 - i; omega⟩
  · have hi2 : i = 64 := by have := of_decide_eq_false hge; omega
    subst hi2
    have hS : St W (Row b5 49 ((rowS q 0).map uV) :: Row b3 49 ((List.replicate 64 (0 : B32)).map uV) :: F) w := by rw [rowW_full] at hS; exact hS
    refine ⟨fun vs w => ∃ m : Nat, vs = [.int .i64 ((m + 16 : Nat) : Int)] ∧ m ≤ 48 ∧ St W (Row b5 49 ((rowS q m).map uV) :: Row b3 49 ((List.replicate 64 (0 : B32)).map uV) :: F) w, leftN 64, ⟨0, rfl, by omega, hS⟩, fun x w hI => ?_⟩
    obtain ⟨m, he, hm, hS⟩ := hI
    cases he
    refine Bif.i (fun hlt => ?_) fun hge => ?_
    · have hlt : m < 48 := by have := of_decide_eq_true hlt; omega
      have hC := Is.refl W (Row b5 49 ((rowS q m).map uV) :: Row b3 49 ((List.replicate 64 (0 : B32)).map uV) :: F)
      have g : ∀ j, j < m + 16 → ((rowS q m).map uV)[j]? = some (.int .u32 (nI ((schedN (w16 q) m).getD j 0))) := fun j hj => uV_get (rowS_get q m j hj)
      refine ⟨StC W _, StC.start hS, ?_⟩
      refine IxP.row (k := m + 14) (by rw [w64 (by omega) (by omega)]; omega) (by omega) (IxP.row (k := m + 9) (by rw [w64 (by omega) (by omega)]; omega) (by omega) (IxP.row (k := m + 1) (by rw [w64 (by omega) (by omega)]; omega) (by omega) (IxP.row (k := m) (by rw [w64 (by omega) (by omega)]; omega) (by omega) ?_)))
      refine ⟨_, QtI.n 0 hC rfl (g _ (by omega)), _, QtI.n 0 hC rfl (g _ (by omega)), _, QtI.n 0 hC rfl (g _ (by omega)), _, QtI.n 0 hC rfl (g _ (by omega)), ?_⟩
      refine Ef.n0 (α := Unit) (V := fun _ => uV (sig1 ((schedN (w16 q) m).getD (m + 14) 0))) (B := fun _ => Row b5 49 ((rowS q m).map uV) :: Row b3 49 ((List.replicate 64 (0 : B32)).map uV) :: F) () hC (fun G w h => (mixed_spec _ 17 19 10 true (by decide) (by decide) (by decide) h).of fun v w' ⟨hv, h⟩ => ⟨_, hv, (), rfl, h⟩) fun _ => ⟨_, rfl, ⟨QtI.n 0 hC rfl (g _ (by omega)), QtI.n 0 hC rfl (g _ (by omega)), QtI.n 0 hC rfl (g _ (by omega))⟩, ?_⟩
      refine Ef.n0 (α := Unit) (V := fun _ => uV (sig0 ((schedN (w16 q) m).getD (m + 1) 0))) (B := fun _ => Row b5 49 ((rowS q m).map uV) :: Row b3 49 ((List.replicate 64 (0 : B32)).map uV) :: F) () hC (fun G w h => (mixed_spec _ 7 18 3 true (by decide) (by decide) (by decide) h).of fun v w' ⟨hv, h⟩ => ⟨_, hv, (), rfl, h⟩) fun _ => ⟨_, rfl, ⟨QtI.n 0 hC rfl (g _ (by omega)), QtI.n 0 hC rfl (g _ (by omega))⟩, ?_⟩
      refine IxP.row rfl (by omega) (Ef.st 0 hC rfl (by rw [List.length_map, rowS_len q m hm]; omega) ⟨rfl, trivial, fun G w h => ?_⟩)
      have hS := StC.ends h
      rw [u32_add, u32_add, u32_add, ← nextW_eq] at hS
      have hS : St W (Row b5 49 ((rowS q (m + 1)).map uV) :: Row b3 49 ((List.replicate 64 (0 : B32)).map uV) :: F) w := by
        rw [rowS_next q m hlt, ← uV_set]; exact hS
      rw [w64 (by omega) (by omega)]
      exact ⟨⟨m + 1, by rw [show ((m + 16 : Nat) : Int) + 1 = ((m + 1 + 16 : Nat) : Int) by omega], by omega, hS⟩, by show 64 - (((m + 16 : Nat) : Int) + 1).toNat < 64 - (m + 16); omega⟩
    · have hm2 : m = 48 := by have := of_decide_eq_false hge; omega
      subst hm2
      have e : rowS q 48 = sched q := by unfold rowS sched; simp
      rw [e] at hS
      have hl : (sched q).length = 64 := by rw [← e]; exact rowS_len q 48 (by omega)
      generalize sched q = ws at hS hl ⊢
      refine LdA.r 0 hS rfl (by rw [List.length_map, hl]) ⟨by simp [hl], StA.r 1 hS rfl (by simp [hl]) (fun v hv => uV_notAgg ws v (by simpa using hv)) fun w4 hS => LdA.r 1 hS rfl (by simp [hl]) ⟨rfl, ?_⟩⟩
      exact St.drop (St.drop hS)
end Go.Proofs.Ytbfccpbijimjmaa
