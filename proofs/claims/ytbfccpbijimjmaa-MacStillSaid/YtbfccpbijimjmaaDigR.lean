/-
  The document's sums and digits.
-/
import Derived.Test.YtbfccpbijimjmaaDigF
set_option linter.unusedVariables false
set_option linter.unusedSimpArgs false
namespace Go.Proofs.Ytbfccpbijimjmaa
open Go
theorem turn_spec {W w : World} {F : List Asn} (x : B32) (k : Nat) (hk : 0 < k ∧ k < 32) (hS : St W F w) : CallR Try.prog 34 #[uV x, .int .i64 k] w fun v w' => v = uV (rotr x k) ∧ St W F w' := by
  have e : IntKind.wrap .i64 (32 - (k : Int)) = ((32 - k : Nat) : Int) := by rw [w64 (by omega) (by omega)]; omega
  refine F34_of ?_
  unfold F34
  rw [e]
  refine ⟨StC W F, StC.start hS, by omega, by omega, fun G w h => ⟨?_, StC.ends h⟩⟩
  rw [u32_shl x _ (by omega), u32_shr x _ (by omega), u32_or]; rfl
theorem small_spec {W w : World} {F : List Asn} (x : B32) (a b c : Nat) (ha : 0 < a ∧ a < 32) (hb : 0 < b ∧ b < 32) (hc : c < 32) (hS : St W F w) :
    CallR Try.prog 33 #[uV x, .int .i64 a, .int .i64 b, .int .i64 c] w fun v w' => v = uV (rotr x a ^^^ rotr x b ^^^ x >>> c) ∧ St W F w' := by
  have hC := Is.refl W F
  refine F33_of ⟨StC W F, StC.start hS, by omega, ?_⟩
  refine Ef.n0 (α := Unit) (V := fun _ => uV (rotr x a)) (B := fun _ => F) () hC (fun G w h => (turn_spec x a ha h).of fun v w' ⟨hv, h⟩ => ⟨_, hv, (), rfl, h⟩) fun _ => ⟨_, rfl, trivial, ?_⟩
  refine Ef.n0 (α := Unit) (V := fun _ => uV (rotr x b)) (B := fun _ => F) () hC (fun G w h => (turn_spec x b hb h).of fun v w' ⟨hv, h⟩ => ⟨_, hv, (), rfl, h⟩) fun _ => ⟨_, rfl, trivial, fun G w h => ⟨?_, StC.ends h⟩⟩
  rw [u32_shr x c (by omega), u32_xor, u32_xor]; rfl
theorem great_spec {W w : World} {F : List Asn} (x : B32) (a b c : Nat) (ha : 0 < a ∧ a < 32) (hb : 0 < b ∧ b < 32) (hc : 0 < c ∧ c < 32) (hS : St W F w) :
    CallR Try.prog 29 #[uV x, .int .i64 a, .int .i64 b, .int .i64 c] w fun v w' => v = uV (rotr x a ^^^ rotr x b ^^^ rotr x c) ∧ St W F w' := by
  refine F29_of ((turn_spec x a ha hS).of fun v w ⟨hv, hS⟩ => ⟨_, hv, (turn_spec x b hb hS).of fun v w ⟨hv, hS⟩ => ⟨_, hv, (turn_spec x c hc hS).of fun v w ⟨hv, hS⟩ => ⟨_, hv, ?_, hS⟩⟩⟩)
  rw [u32_xor, u32_xor]; rfl
theorem rroots_spec {W w : World} {F : List Asn} (hS : St W F w) : CallR Try.prog 27 #[] w fun v w' => v = .agg (arrU K64) ∧ St W F w' := by
  refine F27_of (NewC.i hS fun b w hS => ⟨rfl, StA.r 0 hS rfl rfl (fun v hv => ?_) fun w hS => LdA.r 0 hS rfl rfl ⟨?_, hS.drop⟩⟩)
  · exact uV_notAgg K64 v hv
  · kernel_rfl

/-! ### The schedule, word by word -/
theorem schedN_get (l : List B32) (n : Nat) : ∀ m j, j < l.length + n → (schedN l (n + m))[j]? = (schedN l n)[j]?
  | 0, j, h => rfl
  | m + 1, j, h => by
    rw [← Nat.add_assoc, schedN, List.getElem?_append_left (by rw [schedN_len]; omega)]
    exact schedN_get l n m j h
theorem sched_lo (q : List UInt8) (j : Nat) (h : j < 16) : (sched q)[j]? = some (word4 ((q.drop (4 * j)).take 4) 0) := by
  have := schedN_get (w16 q) 0 48 j (by rw [w16_len]; omega)
  unfold sched
  rw [show (48 : Nat) = 0 + 48 from rfl, this]
  show (w16 q)[j]? = _
  unfold w16
  rw [List.getElem?_map, List.getElem?_range h]; rfl
theorem schedN_getD (q : List UInt8) (n j : Nat) (hn : n ≤ 48) (h : j < 16 + n) : (schedN (w16 q) n).getD j 0 = (sched q).getD j 0 := by
  have := schedN_get (w16 q) n (48 - n) j (by rw [w16_len]; omega)
  unfold sched
  rw [List.getD_eq_getElem?_getD, List.getD_eq_getElem?_getD, ← this, show n + (48 - n) = 48 by omega]
theorem sched_hi (q : List UInt8) (t : Nat) (h0 : 16 ≤ t) (h1 : t < 64) : (sched q)[t]? = some (sig1 ((sched q).getD (t - 2) 0) + (sched q).getD (t - 7) 0 + sig0 ((sched q).getD (t - 15) 0) + (sched q).getD (t - 16) 0) := by
  obtain ⟨n, rfl⟩ : ∃ n, t = n + 16 := ⟨t - 16, by omega⟩
  have h2 := schedN_get (w16 q) (n + 1) (47 - n) (n + 16) (by rw [w16_len]; omega)
  have h3 := nextW_eq q n
  unfold sched at *
  rw [show n + 1 + (47 - n) = 48 by omega] at h2
  rw [h2, schedN, List.getElem?_append_right (by rw [schedN_len, w16_len]; omega), schedN_len, w16_len, show n + 16 - (16 + n) = 0 by omega]
  show some _ = some _
  rw [h3, schedN_getD q n _ (by omega) (by omega), schedN_getD q n _ (by omega) (by omega), schedN_getD q n _ (by omega) (by omega), schedN_getD q n _ (by omega) (by omega)]
  unfold sched
  rw [show n + 14 = n + 16 - 2 by omega, show n + 9 = n + 16 - 7 by omega, show n + 1 = n + 16 - 15 by omega, show n + 16 - 16 = n by omega]
theorem word4_four (a b c d : UInt8) : word4 [a, b, c, d] 0 = a.toBitVec.setWidth 32 <<< 24 ||| b.toBitVec.setWidth 32 <<< 16 ||| c.toBitVec.setWidth 32 <<< 8 ||| d.toBitVec.setWidth 32 := by
  simp only [word4]
  apply BitVec.eq_of_getLsbD_eq
  intro i hi
  simp only [BitVec.getLsbD_or, BitVec.getLsbD_shiftLeft, BitVec.getLsbD_zero, hi, decide_true, Bool.true_and, Bool.and_true, Bool.false_or, Bool.and_false]
  have e1 : ∀ (x : BitVec 32) n, ¬ i < n → x.getLsbD (i - n) = x.getLsbD (i - n) := fun _ _ _ => rfl
  by_cases h1 : i < 8
  · simp [h1, show i < 16 by omega, show i < 24 by omega]
  · by_cases h2 : i < 16
    · simp [h1, h2, show i < 24 by omega, show i - 8 < 8 by omega, show i - 8 < 32 by omega]
    · by_cases h3 : i < 24
      · simp [h1, h2, h3, show ¬ i - 8 < 8 by omega, show i - 8 - 8 < 8 by omega, show i - 8 - 8 = i - 16 by omega, show i - 8 < 32 by omega, show i - 16 < 32 by omega, show i - 16 < 8 by omega]
      · simp [h1, h2, h3, show ¬ i - 8 < 8 by omega, show ¬ i - 16 < 8 by omega, show ¬ i - 8 - 8 < 8 by omega, show i - 8 - 8 - 8 = i - 24 by omega, show i - 8 - 8 = i - 16 by omega, show i - 8 < 32 by omega, show i - 16 < 32 by omega, show i - 24 < 32 by omega, show i - 16 - 8 = i - 24 by omega]
/-- A byte is looked at in each world of a class. -/
theorem IxP.byC {W w : World} {C : Cls} {l : List Asn} {p : Option Addr} {bs : List UInt8} {n k : Nat} {i : Int} {x : UInt8} {K : Addr → Prop} (hC : Is W C l) (hr : Rd l p (bs.map byteV)) (hS : St W l w) (hi : i = (k : Int)) (hn : k < n) (hx : bs[k]? = some x)
    (hK : ∀ a, (∀ G w, C.p G w → w.cell? a = some (byteV x)) → K a) : IxP p n i 1 K := by
  have hc : (bs.map byteV)[k * 1]? = some (byteV x) := by rw [Nat.mul_one, List.getElem?_map, hx]; rfl
  refine IxP.i hr hS hi hn hc fun a ha => hK _ fun G w hw => ?_
  exact (hr.app (pts G)).at1 ((hC G w).1 hw) ha hc
theorem QtI.at {C : Cls} {a : Addr} {k : IntKind} {x : Int} (h : ∀ G w, C.p G w → w.cell? a = some (.int k x)) : Qt C (.int k x) fun w K => LdI k a w fun x => K (.int k x) w := fun G w hw => LdI.at (h G w hw) ⟨rfl, hw⟩
theorem zU_len (n : Nat) : (List.replicate n (0 : B32)).length = n := by simp
theorem sched_spec {W w : World} {F : List Asn} {p : Option Addr} {c : Nat} {q : List UInt8} (hr : Rd F p (q.map byteV)) (hq : q.length = 64) (hS : St W F w) :
    CallR Try.prog 28 #[.slice p q.length c] w fun v w' => v = .agg (arrU (sched q)) ∧ St W F w' := by
  rw [hq]
  refine F28_of (NewC.i hS fun b3 w1 hS => NewC.i hS fun b5 w2 hS => ?_)
  have hlen := sched_len q
  have g0 := sched_lo q
  have g1 := sched_hi q
  generalize hA : sched q = A at hlen g0 g1
  have hS : St W (Row b5 49 ((A.take 0 ++ (List.replicate 64 (0 : B32)).drop 0).map uV) :: Row b3 49 ((List.replicate 64 (0 : B32)).map uV) :: F) w2 := hS
  refine ⟨fun vs w => ∃ i : Nat, vs = [.int .i64 i] ∧ i ≤ 64 ∧ St W (Row b5 49 ((A.take i ++ (List.replicate 64 (0 : B32)).drop i).map uV) :: Row b3 49 ((List.replicate 64 (0 : B32)).map uV) :: F) w, leftN 64, ⟨0, rfl, by omega, hS⟩, fun x w hI => ?_⟩
  obtain ⟨i, he, hi, hS⟩ := hI
  cases he
  have next : ∀ (G : List (Nat × Obj)) (w' : World) (x : B32), A[i]? = some x → i < 64 → (StC W (put (Row b5 49 ((A.take i ++ (List.replicate 64 (0 : B32)).drop i).map uV) :: Row b3 49 ((List.replicate 64 (0 : B32)).map uV) :: F) 0 [Row b5 49 (((A.take i ++ (List.replicate 64 (0 : B32)).drop i).map uV).set i (uV x))])).p G w' →
      (∃ j : Nat, [Value.int .i64 (IntKind.wrap .i64 ((i : Int) + 1))] = [.int .i64 j] ∧ j ≤ 64 ∧ St W (Row b5 49 ((A.take j ++ (List.replicate 64 (0 : B32)).drop j).map uV) :: Row b3 49 ((List.replicate 64 (0 : B32)).map uV) :: F) w') ∧ leftN 64 [Value.int .i64 (IntKind.wrap .i64 ((i : Int) + 1))] w' < leftN 64 [Value.int .i64 i] w := fun G w' x hx hlt h => by
    have hS := StC.ends h
    have hil := (List.getElem?_eq_some_iff.1 hx).1
    have hS : St W (Row b5 49 ((A.take (i + 1) ++ (List.replicate 64 (0 : B32)).drop (i + 1)).map uV) :: Row b3 49 ((List.replicate 64 (0 : B32)).map uV) :: F) w' := by
      rw [← mix_set A _ i hil (by simpa using hlt), ← uV_set, (List.getElem?_eq_some_iff.1 hx).2]; exact hS
    rw [up hlt (by omega)]
    exact ⟨⟨i + 1, rfl, by omega, hS⟩, by show 64 - (i + 1) < 64 - i; omega⟩
  have hC := Is.refl W (Row b5 49 ((A.take i ++ (List.replicate 64 (0 : B32)).drop i).map uV) :: Row b3 49 ((List.replicate 64 (0 : B32)).map uV) :: F)
  refine Bif.i (fun hlt => ?_) fun hge => ?_
  · have hlt : i < 64 := by have := of_decide_eq_true hlt; omega
    refine Bif.i (fun h16 => ?_) fun h16 => ?_
    · have h16 : i < 16 := by have := of_decide_eq_true h16; omega
      have hx : ∀ j, j < 4 → q[4 * i + j]? = some (q.getD (4 * i + j) 0) := fun j hj => by rw [List.getD_eq_getElem?_getD, List.getElem?_eq_getElem (by omega)]; rfl
      have hw := g0 i h16
      have e4 : (q.drop (4 * i)).take 4 = [q.getD (4 * i) 0, q.getD (4 * i + 1) 0, q.getD (4 * i + 2) 0, q.getD (4 * i + 3) 0] := by
        refine List.ext_getElem? fun j => ?_
        rw [List.getElem?_take]
        rcases j with _ | _ | _ | _ | j
        · simpa [List.getElem?_drop] using hx 0 (by omega)
        · simpa [List.getElem?_drop] using hx 1 (by omega)
        · simpa [List.getElem?_drop] using hx 2 (by omega)
        · simpa [List.getElem?_drop] using hx 3 (by omega)
        · rw [if_neg (by omega)]; simp
      rw [e4, word4_four] at hw
      refine ⟨StC W _, StC.start hS, ?_⟩
      refine IxP.byC hC ((hr.cons _).cons _) hS (k := 4 * i) (by rw [w64 (by omega) (by omega)]; omega) (by omega) (hx 0 (by omega)) fun a12 c12 => ?_
      refine IxP.byC hC ((hr.cons _).cons _) hS (k := 4 * i + 1) (by rw [w64 (n := 4 * (i : Int)) (by omega) (by omega), w64 (by omega) (by omega)]; omega) (by omega) (hx 1 (by omega)) fun a13 c13 => ?_
      refine IxP.byC hC ((hr.cons _).cons _) hS (k := 4 * i + 2) (by rw [w64 (n := 4 * (i : Int)) (by omega) (by omega), w64 (by omega) (by omega)]; omega) (by omega) (hx 2 (by omega)) fun a14 c14 => ?_
      refine IxP.byC hC ((hr.cons _).cons _) hS (k := 4 * i + 3) (by rw [w64 (n := 4 * (i : Int)) (by omega) (by omega), w64 (by omega) (by omega)]; omega) (by omega) (hx 3 (by omega)) fun a15 c15 => ?_
      refine ⟨_, QtI.at c12, by decide, _, QtI.at c13, by decide, _, QtI.at c14, by decide, _, QtI.at c15, IxP.row (k := i) rfl hlt ?_⟩
      refine Ef.st 0 hC rfl (by rw [List.length_map, mix_len _ _ _ (by simp [hlen])]; simpa using hlt) ⟨rfl, trivial, fun G w h => ?_⟩
      refine next G w _ hw hlt ?_
      have e1 : ∀ x : UInt8, IntKind.wrap .u32 ((x.toNat : Nat) : Int) = nI (x.toBitVec.setWidth 32) := fun x => u32_of8 _
      have s24 := fun a : B32 => u32_shl a 24 (by omega)
      have s16 := fun a : B32 => u32_shl a 16 (by omega)
      have s8 := fun a : B32 => u32_shl a 8 (by omega)
      rw [show (Int.toNat ((24 : Nat) : Int)) = Int.toNat 24 from rfl] at s24
      rw [show (Int.toNat ((16 : Nat) : Int)) = Int.toNat 16 from rfl] at s16
      rw [show (Int.toNat ((8 : Nat) : Int)) = Int.toNat 8 from rfl] at s8
      simp only [e1, s24, s16, s8, u32_or] at h
      exact h
    · have h16 : 16 ≤ i := by have := of_decide_eq_false h16; omega
      have g : ∀ j, j < i → ((A.take i ++ (List.replicate 64 (0 : B32)).drop i).map uV)[j]? = some (.int .u32 (nI (A.getD j 0))) := fun j hj => by
        refine uV_get ?_
        rw [List.getElem?_append_left (by rw [List.length_take]; omega), List.getElem?_take_of_lt hj, List.getD_eq_getElem?_getD, List.getElem?_eq_getElem (by omega)]; rfl
      refine ⟨StC W _, StC.start hS, ?_⟩
      refine IxP.row (k := i - 2) (by rw [w64 (by omega) (by omega)]; omega) (by omega) (IxP.row (k := i - 7) (by rw [w64 (by omega) (by omega)]; omega) (by omega) (IxP.row (k := i - 15) (by rw [w64 (by omega) (by omega)]; omega) (by omega) (IxP.row (k := i - 16) (by rw [w64 (by omega) (by omega)]; omega) (by omega) ?_)))
      refine ⟨_, QtI.n 0 hC rfl (g _ (by omega)), _, QtI.n 0 hC rfl (g _ (by omega)), _, QtI.n 0 hC rfl (g _ (by omega)), _, QtI.n 0 hC rfl (g _ (by omega)), ?_⟩
      refine Ef.n0 (α := Unit) (V := fun _ => uV (sig1 (A.getD (i - 2) 0))) (B := fun _ => Row b5 49 ((A.take i ++ (List.replicate 64 (0 : B32)).drop i).map uV) :: Row b3 49 ((List.replicate 64 (0 : B32)).map uV) :: F) () hC (fun G w h => (small_spec _ 17 19 10 (by decide) (by decide) (by decide) h).of fun v w' ⟨hv, h⟩ => ⟨_, hv, (), rfl, h⟩) fun _ => ⟨_, rfl, ⟨QtI.n 0 hC rfl (g _ (by omega)), QtI.n 0 hC rfl (g _ (by omega)), QtI.n 0 hC rfl (g _ (by omega))⟩, ?_⟩
      refine Ef.n0 (α := Unit) (V := fun _ => uV (sig0 (A.getD (i - 15) 0))) (B := fun _ => Row b5 49 ((A.take i ++ (List.replicate 64 (0 : B32)).drop i).map uV) :: Row b3 49 ((List.replicate 64 (0 : B32)).map uV) :: F) () hC (fun G w h => (small_spec _ 7 18 3 (by decide) (by decide) (by decide) h).of fun v w' ⟨hv, h⟩ => ⟨_, hv, (), rfl, h⟩) fun _ => ⟨_, rfl, ⟨QtI.n 0 hC rfl (g _ (by omega)), QtI.n 0 hC rfl (g _ (by omega))⟩, IxP.row (k := i) rfl hlt ?_⟩
      refine Ef.st 0 hC rfl (by rw [List.length_map, mix_len _ _ _ (by simp [hlen])]; simpa using hlt) ⟨rfl, trivial, fun G w h => ?_⟩
      refine next G w _ (g1 i h16 hlt) hlt ?_
      rw [u32_add, u32_add, u32_add] at h
      exact h
  · have hi2 : i = 64 := by have := of_decide_eq_false hge; omega
    subst hi2
    rw [mix_all A _ 64 (by omega) (by simp)] at hS
    clear g0 g1 next hC
    refine LdA.r 0 hS rfl (by rw [List.length_map, hlen]) ⟨by simp [hlen], StA.r 1 hS rfl (by simp [hlen]) (fun v hv => uV_notAgg A v (by simpa using hv)) fun w4 hS => LdA.r 1 hS rfl (by simp [hlen]) ⟨rfl, ?_⟩⟩
    exact St.drop (St.drop hS)

theorem chF_fold (e f g : B32) : (e &&& f) ^^^ (~~~e &&& g) = chF e f g := rfl
theorem majF_fold (a b c : B32) : (a &&& b) ^^^ (a &&& c) ^^^ (b &&& c) = majF a b c := rfl
theorem block_spec {W w : World} {F : List Asn} {p : Option Addr} {c : Nat} (h : S8) {q : List UInt8} (hr : Rd F p (q.map byteV)) (hq : q.length = 64) (hS : St W F w) :
    CallR Try.prog 25 #[.agg (arrU h.l), .slice p q.length c] w fun v w' => v = .agg (arrU (blk h q).l) ∧ St W F w' := by
  refine F25_of (NewC.i hS fun b4 w hS => NewC.i hS fun b6 w hS => (rroots_spec hS).of fun v w ⟨hv, hS⟩ => ⟨arrU K64, rfl, hv, NewC.i hS fun b11 w hS => ⟨rfl, ?_⟩⟩)
  have hK : K64.length = 64 := rfl
  rw [blk_eq]
  have hw := sched_len q
  clear hv
  generalize K64 = K at hK ⊢
  refine StA.r 0 hS rfl (by rw [arrU_size, hK]; rfl) (fun v hv => uV_notAgg K v (by simpa [arrU] using hv)) fun w hS => ?_
  refine (sched_spec (((hr.cons _).cons _).cons _) hq hS).of fun v w ⟨hv, hS⟩ => ⟨arrU (sched q), by rw [arrU_size, hw], hv, ?_⟩
  clear hv
  generalize sched q = ws at hw ⊢
  refine NewC.i hS fun b17 w hS => ⟨by rw [arrU_size, hw], StA.r 0 hS rfl (by rw [arrU_size, hw]; rfl) (fun v hv => uV_notAgg ws v (by simpa [arrU] using hv)) fun w hS => ?_⟩
  refine LdA.r (t := 46) (b := b4) (cs := h.l.map uV) 3 hS rfl rfl (NewC.i hS fun b21 w hS => ⟨rfl, StA.r 0 hS rfl rfl (fun v hv => uV_notAgg h.l v (by simpa using hv)) fun w hS => ?_⟩)
  have hS : St W (Row b21 46 ((rndK h K ws 0).l.map uV) :: Row b17 49 (ws.map uV) :: Row b11 49 (K.map uV) :: Row b6 46 ((List.replicate 8 (0 : B32)).map uV) :: Row b4 46 (h.l.map uV) :: F) w := hS
  refine ⟨fun vs w => ∃ i : Nat, vs = [.int .i64 i] ∧ i ≤ 64 ∧ St W (Row b21 46 ((rndK h K ws i).l.map uV) :: Row b17 49 (ws.map uV) :: Row b11 49 (K.map uV) :: Row b6 46 ((List.replicate 8 (0 : B32)).map uV) :: Row b4 46 (h.l.map uV) :: F) w, leftN 64, ⟨0, rfl, by omega, hS⟩, fun x w hI => ?_⟩
  obtain ⟨i, he, hi, hS⟩ := hI
  cases he
  refine Bif.i (fun hlt => ?_) fun hge => ?_
  · have hlt : i < 64 := by have := of_decide_eq_true hlt; omega
    have hk : K[i]? = some (K[i]'(by omega)) := List.getElem?_eq_getElem _
    have hx : ws[i]? = some (ws[i]'(by omega)) := List.getElem?_eq_getElem _
    have hn := rndK_next h K ws i hk hx
    generalize rndK h K ws i = s at hS hn
    generalize K[i]'(by omega) = k at hk hn
    generalize ws[i]'(by omega) = x at hx hn
    have hk := uV_get hk
    have hx := uV_get hx
    generalize hRl : (Row b21 46 (s.l.map uV) :: Row b17 49 (ws.map uV) :: Row b11 49 (K.map uV) :: Row b6 46 ((List.replicate 8 (0 : B32)).map uV) :: Row b4 46 (h.l.map uV) :: F) = L at hS
    have hC := Is.refl W L
    have n0 : nth L 0 = some (Row b21 46 (s.l.map uV)) := by rw [← hRl]; rfl
    have n1 : nth L 1 = some (Row b17 49 (ws.map uV)) := by rw [← hRl]; rfl
    have n2 : nth L 2 = some (Row b11 49 (K.map uV)) := by rw [← hRl]; rfl
    refine ⟨StC W L, StC.start hS, IxP.row (k := 7) rfl (by decide) (IxP.row (k := 4) rfl (by decide) (IxP.row (k := 4) rfl (by decide) (IxP.row (k := 5) rfl (by decide) (IxP.row (k := 4) rfl (by decide) (IxP.row (k := 6) rfl (by decide) (IxP.row (k := i) rfl hlt (IxP.row (k := i) rfl hlt ?_)))))))⟩
    refine ⟨nI s.h, QtI.n 0 hC n0 rfl, nI s.e, QtI.n 0 hC n0 rfl, nI s.e, QtI.n 0 hC n0 rfl, nI s.f, QtI.n 0 hC n0 rfl, nI s.e, QtI.n 0 hC n0 rfl, nI s.g, QtI.n 0 hC n0 rfl, nI k, QtI.n 2 hC n2 hk, nI x, QtI.n 1 hC n1 hx, ?_⟩
    refine Ef.n0 (α := Unit) (V := fun _ => uV (Sig1 s.e)) (B := fun _ => L) () hC (fun G w h => (great_spec s.e 6 11 25 (by decide) (by decide) (by decide) h).of fun v w' ⟨hv, h⟩ => ⟨_, hv, (), rfl, h⟩) fun _ => ⟨nI (Sig1 s.e), rfl, ⟨QtI.n 1 hC n1 hx, QtI.n 2 hC n2 hk, QtI.n 0 hC n0 rfl, QtI.n 0 hC n0 rfl, QtI.n 0 hC n0 rfl, QtI.n 0 hC n0 rfl, QtI.n 0 hC n0 rfl⟩, fun G w hw => ?_⟩
    have hS := StC.ends hw
    refine ⟨StC W L, StC.start hS, IxP.row (k := 0) rfl (by decide) (IxP.row (k := 0) rfl (by decide) (IxP.row (k := 1) rfl (by decide) (IxP.row (k := 0) rfl (by decide) (IxP.row (k := 2) rfl (by decide) (IxP.row (k := 1) rfl (by decide) (IxP.row (k := 2) rfl (by decide) ?_))))))⟩
    refine ⟨nI s.a, QtI.n 0 hC n0 rfl, nI s.a, QtI.n 0 hC n0 rfl, nI s.b, QtI.n 0 hC n0 rfl, nI s.a, QtI.n 0 hC n0 rfl, nI s.c, QtI.n 0 hC n0 rfl, nI s.b, QtI.n 0 hC n0 rfl, nI s.c, QtI.n 0 hC n0 rfl, ?_⟩
    refine Ef.n0 (α := Unit) (V := fun _ => uV (Sig0 s.a)) (B := fun _ => L) () hC (fun G w h => (great_spec s.a 2 13 22 (by decide) (by decide) (by decide) h).of fun v w' ⟨hv, h⟩ => ⟨_, hv, (), rfl, h⟩) fun _ => ⟨nI (Sig0 s.a), rfl, ⟨QtI.n 0 hC n0 rfl, QtI.n 0 hC n0 rfl, QtI.n 0 hC n0 rfl, QtI.n 0 hC n0 rfl, QtI.n 0 hC n0 rfl, QtI.n 0 hC n0 rfl⟩, fun G w hw => ?_⟩
    have hS := StC.ends hw
    refine IxP.row (k := 0) rfl (by decide) (LdI.n (x := nI s.a) 0 hS n0 rfl (IxP.row (k := 1) rfl (by decide) (LdI.n (x := nI s.b) 0 hS n0 rfl (IxP.row (k := 2) rfl (by decide) (LdI.n (x := nI s.c) 0 hS n0 rfl (IxP.row (k := 3) rfl (by decide) (LdI.n (x := nI s.d) 0 hS n0 rfl (IxP.row (k := 4) rfl (by decide) (LdI.n (x := nI s.e) 0 hS n0 rfl (IxP.row (k := 5) rfl (by decide) (LdI.n (x := nI s.f) 0 hS n0 rfl (IxP.row (k := 6) rfl (by decide) (LdI.n (x := nI s.g) 0 hS n0 rfl ?_)))))))))))))
    refine ⟨rfl, StA.r 0 hS n0 rfl (fun v hv => ?_) fun w hS => ?_⟩
    · simp only [List.mem_cons, List.not_mem_nil, or_false] at hv
      rcases hv with rfl | rfl | rfl | rfl | rfl | rfl | rfl | rfl <;> trivial
    simp only [u32_add, u32_xor, u32_and, u32_or, u32_not, chF_fold, majF_fold] at hS
    rw [← hRl] at hS
    have hS : St W (Row b21 46 ((rndK h K ws (i + 1)).l.map uV) :: Row b17 49 (ws.map uV) :: Row b11 49 (K.map uV) :: Row b6 46 ((List.replicate 8 (0 : B32)).map uV) :: Row b4 46 (h.l.map uV) :: F) w := by
      rw [hn]; exact hS
    rw [up hlt (by omega)]
    exact ⟨⟨i + 1, rfl, by omega, hS⟩, by show 64 - (i + 1) < 64 - i; omega⟩
  have hi2 : i = 64 := by have := of_decide_eq_false hge; omega
  subst hi2
  have e : rndK h K ws 64 = rnds h (K.zip ws) := by unfold rndK; rw [List.take_of_length_le (by simp [hK, hw])]
  rw [e] at hS
  generalize rnds h (K.zip ws) = s at hS ⊢
  have hS : St W (Row b21 46 (s.l.map uV) :: Row b17 49 (ws.map uV) :: Row b11 49 (K.map uV) :: Row b6 46 ((List.replicate 8 (0 : B32)).map uV) :: Row b4 46 (((addS h s).l.take 0 ++ h.l.drop 0).map uV) :: F) w := hS
  refine ⟨fun vs w => ∃ i : Nat, vs = [.int .i64 i] ∧ i ≤ 8 ∧ St W (Row b21 46 (s.l.map uV) :: Row b17 49 (ws.map uV) :: Row b11 49 (K.map uV) :: Row b6 46 ((List.replicate 8 (0 : B32)).map uV) :: Row b4 46 (((addS h s).l.take i ++ h.l.drop i).map uV) :: F) w, leftN 8, ⟨0, rfl, by omega, hS⟩, fun x w hI => ?_⟩
  obtain ⟨i, he, hi, hS⟩ := hI
  cases he
  refine Bif.i (fun hlt => ?_) fun hge => ?_
  · have hlt : i < 8 := by have := of_decide_eq_true hlt; omega
    obtain ⟨a, b, c, h1, h2, h3, h4⟩ := addS_get h s i hlt
    have l1 : (addS h s).l.length = 8 := rfl
    have l2 : h.l.length = 8 := rfl
    have g1 : (((addS h s).l.take i ++ h.l.drop i).map uV)[i]? = some (.int .u32 (nI a)) := uV_get (by rw [mix_get _ _ _ (by omega), h1])
    have g2 := uV_get h2
    have em : ((addS h s).l.take i ++ h.l.drop i).set i c = (addS h s).l.take (i + 1) ++ h.l.drop (i + 1) := by
      rw [← mix_set _ _ i (by omega) (by omega)]
      congr 1
      rw [List.getElem?_eq_getElem (by omega)] at h3
      exact (Option.some.inj h3).symm
    have ll := mix_len (addS h s).l h.l i (l1.trans l2.symm)
    generalize (addS h s).l.take i ++ h.l.drop i = A at hS g1 em ll
    generalize hA2 : (addS h s).l.take (i + 1) ++ h.l.drop (i + 1) = A2 at em
    have hC := Is.refl W (Row b21 46 (s.l.map uV) :: Row b17 49 (ws.map uV) :: Row b11 49 (K.map uV) :: Row b6 46 ((List.replicate 8 (0 : B32)).map uV) :: Row b4 46 (A.map uV) :: F)
    refine ⟨StC W _, StC.start hS, IxP.row (k := i) rfl hlt (IxP.row (k := i) rfl hlt ⟨nI a, QtI.n 4 hC rfl g1, nI b, QtI.n 0 hC rfl g2, IxP.row (k := i) rfl hlt ?_⟩)⟩
    refine Ef.st 4 hC rfl (by rw [List.length_map, ll]; exact hlt) ⟨rfl, trivial, fun G w h => ?_⟩
    have hS := StC.ends h
    rw [u32_add, BitVec.add_comm, ← h4] at hS
    have hS : St W (Row b21 46 (s.l.map uV) :: Row b17 49 (ws.map uV) :: Row b11 49 (K.map uV) :: Row b6 46 ((List.replicate 8 (0 : B32)).map uV) :: Row b4 46 (A2.map uV) :: F) w := by
      rw [← em, ← uV_set]; exact hS
    subst hA2
    rw [up hlt (by omega)]
    exact ⟨⟨i + 1, rfl, by omega, hS⟩, by show 8 - (i + 1) < 8 - i; omega⟩
  · have hi2 : i = 8 := by have := of_decide_eq_false hge; omega
    subst hi2
    rw [mix_all (addS h s).l h.l 8 (Nat.le_refl 8) (Nat.le_refl 8)] at hS
    have hl : (addS h s).l.length = 8 := rfl
    generalize (addS h s).l = A at hS hl ⊢
    refine LdA.r 4 hS rfl (by rw [List.length_map, hl]) ⟨by simp [hl], StA.r 3 hS rfl (by simp [hl]) (fun v hv => uV_notAgg A v (by simpa using hv)) fun w4 hS => LdA.r 3 hS rfl (by simp [hl]) ⟨rfl, ?_⟩⟩
    exact St.dropL [_, _, _, _, _] hS
end Go.Proofs.Ytbfccpbijimjmaa
