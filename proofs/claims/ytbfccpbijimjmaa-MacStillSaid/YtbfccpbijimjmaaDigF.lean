/-
  Contracts of sums: the sum of bytes, digits.
-/
import Derived.Test.YtbfccpbijimjmaaDigD
import Derived.Test.YtbfccpbijimjmaaDigE
import Derived.Test.YtbfccpbijimjmaaDigQ
import Derived.Test.YtbfccpbijimjmaaAEq
set_option linter.unusedVariables false
set_option linter.unusedSimpArgs false
namespace Go.Proofs.Ytbfccpbijimjmaa
open Go
theorem uS : Try.prog.underlying 9 = some .string := Try.underlying9
theorem sched_len (q : List UInt8) : (sched q).length = 64 := by unfold sched; rw [schedN_len, w16_len]
theorem blk_eq (s : S8) (q : List UInt8) : blk s q = addS s (rnds s (K64.zip (sched q))) := rfl
/-- One block more. -/
theorem step_blk {W : World} {L : List Asn} {C : Cls} {b i c : Nat} {p : Option Addr} {q : List UInt8} {s : S8} {R : World → Prop} (hC : Is W C L) (hn : nth L i = some (Row b 53 (s.l.map uV))) (hr : Rd L p (q.map byteV)) (hc : q.length ≤ c) (h64 : 64 ≤ q.length)
    (hR : ∀ w, St W (put L i [Row b 53 ((blk s (q.take 64)).l.map uV)]) w → R w) :
    ∃ (x17 : Array Value), x17.size = 8 ∧ Qt C (Value.agg x17) (fun w18 K19 => LdA Try.prog 8 ⟨b, 0, none⟩ w18 fun x20 => K19 (Value.agg x20) w18) ∧
    Ef C (fun w24 K23 => CallR Try.prog 32 #[(Value.slice p q.length c)] w24 fun v26 w27 => ∃ (x28 : Array Value), x28.size = 64 ∧ v26 = (Value.agg x28) ∧ K23 (Value.agg x28) w27) fun v25 D22 =>
    ∃ (x29 : Array Value), x29.size = 64 ∧ v25 = (Value.agg x29) ∧
    (Qt D22 (Value.agg x17) (fun w30 K31 => LdA Try.prog 8 ⟨b, 0, none⟩ w30 fun x32 => K31 (Value.agg x32) w30)) ∧
    Ef D22 (fun w36 K35 => CallR Try.prog 31 #[(Value.agg x17), (Value.agg x29)] w36 fun v38 w39 => ∃ (x40 : Array Value), x40.size = 8 ∧ v38 = (Value.agg x40) ∧ K35 (Value.agg x40) w39) fun v37 D34 =>
    ∃ (x41 : Array Value), x41.size = 8 ∧ v37 = (Value.agg x41) ∧ (True) ∧
    Ef D34 (fun w44 K43 => Array.size x41 = 8 ∧ StA Try.prog ⟨b, 0, none⟩ x41 w44 fun w46 => K43 (Value.tuple #[]) w46) fun v45 D42 =>
    v45 = (Value.tuple #[]) ∧ (True) ∧ ∀ G47 w48, Cls.p D42 G47 w48 → R w48 := by
  obtain ⟨T, hT⟩ : ∃ T, T = blk s (q.take 64) := ⟨_, rfl⟩
  obtain ⟨ws, hws⟩ : ∃ ws, ws = sched (q.take 64) := ⟨_, rfl⟩
  rw [← hT] at hR
  have hl : ws.length = 64 := by rw [hws, sched_len]
  have hw : ∀ {F : List Asn} {w : World}, Rd F p (q.map byteV) → St W F w → CallR Try.prog 32 #[.slice p q.length c] w fun v w' => v = .agg (arrU ws) ∧ St W F w' := fun hr h => by rw [hws]; exact words_spec hr hc h64 h
  have hb : ∀ {F : List Asn} {w : World}, St W F w → CallR Try.prog 31 #[.agg (arrU s.l), .agg (arrU ws)] w fun v w' => v = .agg (arrU T.l) ∧ St W F w' := fun h => by rw [hT, blk_eq, ← hws]; exact behind_spec s ws hl h
  clear hT hws
  refine ⟨arrU s.l, rfl, QtA.r i hC hn rfl, ?_⟩
  refine Ef.n0 (α := Unit) (V := fun _ => .agg (arrU ws)) (B := fun _ => L) () hC (fun G w h => (hw (hr.app (pts G)) h).of fun v w' ⟨hv, h⟩ => ⟨arrU ws, by rw [arrU_size, hl], hv, (), rfl, h⟩) fun _ => ⟨arrU ws, by rw [arrU_size, hl], rfl, QtA.r i (Is.refl W L) hn rfl, ?_⟩
  refine Ef.n0 (α := Unit) (V := fun _ => .agg (arrU T.l)) (B := fun _ => L) () (Is.refl W L) (fun G w h => (hb h).of fun v w' ⟨hv, h⟩ => ⟨arrU T.l, rfl, hv, (), rfl, h⟩) fun _ => ⟨arrU T.l, rfl, rfl, trivial, ?_⟩
  refine Ef.stA i (Is.refl W L) hn rfl rfl (fun v hv => uV_notAgg T.l v hv) ⟨rfl, trivial, fun G w h => hR w (StC.ends h)⟩
theorem outB_val (s : S8) (i : Nat) : IntKind.wrap .u8 (Int.fdiv (nI (s.l.getD (i / 4) 0)) (2 ^ min (Int.toNat ((24 - 8 * (i % 4) : Nat) : Int)) (IntKind.bits .u32))) = nI ((s.l.getD (i / 4) 0 >>> (24 - 8 * (i % 4))).setWidth 8) := by
  rw [u32_shr _ _ (by omega), u8_of32]
theorem outP_get (s : S8) (i : Nat) (h : i < 32) : (outP s)[i]? = some (outB s i) := by
  unfold outP
  rw [List.getElem?_map, List.getElem?_range h]; rfl
theorem outP_len (s : S8) : (outP s).length = 32 := by simp [outP]
def zB (n : Nat) : List UInt8 := List.replicate n 0
theorem mixB_set (A B : List UInt8) (i : Nat) {x : UInt8} (hA : A[i]? = some x) (hB : i < B.length) : (((A.take i ++ B.drop i).map byteV).set i (byteV x)) = (A.take (i + 1) ++ B.drop (i + 1)).map byteV := by
  have hi := (List.getElem?_eq_some_iff.1 hA).1
  rw [← List.map_set, ← mix_set A B i hi hB]
  congr 2
  exact ((List.getElem?_eq_some_iff.1 hA).2).symm
theorem byteV_of32 (x : B32) : byteV (ofB (x.setWidth 8)) = .int .u8 (nI (x.setWidth 8)) := rfl
theorem lenB_val (n i : Nat) (hn : n ≤ 1000000) (h : i < 8) : IntKind.wrap .u8 (Int.fdiv (8 * n : Nat) (2 ^ (8 * i))) = nI ((BitVec.ofNat 8 (8 * n / 2 ^ (8 * i)))) := by
  have e2 : (2 : Int) ^ (8 * i) = ((2 ^ (8 * i) : Nat) : Int) := by norm_cast
  rw [e2, Int.fdiv_eq_ediv_of_nonneg _ (Int.natCast_nonneg _), show ((8 * n : Nat) : Int) / ((2 ^ (8 * i) : Nat) : Int) = ((8 * n / 2 ^ (8 * i) : Nat) : Int) by norm_cast, wrap_u8]

theorem Sum_spec {W w : World} {F : List Asn} {p : Option Addr} {c : Nat} {bs : List UInt8} (hr : Rd F p (bs.map byteV)) (hc : bs.length ≤ c) (hn : bs.length ≤ 1000000) (hS : St W F w) :
    CallR Try.prog 26 #[.slice p bs.length c] w fun v w' => v = .agg (arrB (sha bs)) ∧ St W F w' := by
  have hwh : IntKind.wrap .i64 ((IntKind.wrap .i64 (Int.tdiv (bs.length : Int) 64)) * 64) = ((wholeN bs.length : Nat) : Int) := by
    rw [Int.tdiv_eq_ediv_of_nonneg (by omega), w64 (n := (bs.length : Int) / 64) (by omega) (by omega), w64 (by omega) (by omega)]; unfold wholeN; omega
  refine F26_of (NewC.i hS fun b3 w hS => (begin_spec hS).of fun v w ⟨hv, hS⟩ => ⟨arrU H0.l, rfl, hv, NewC.i hS fun b8 w hS => ⟨rfl, StA.r 0 hS rfl rfl (fun v hv => uV_notAgg H0.l v hv) fun w hS => ⟨by decide, ?_⟩⟩⟩)
  rw [hwh]
  have hS : St W (Row b8 53 ((blks H0 0 bs).l.map uV) :: Row b3 26 ((zB 32).map byteV) :: F) w := hS
  refine ⟨fun vs w => ∃ k : Nat, vs = [.int .i64 ((64 * k : Nat) : Int)] ∧ k ≤ bs.length / 64 ∧ St W (Row b8 53 ((blks H0 k bs).l.map uV) :: Row b3 26 ((zB 32).map byteV) :: F) w, leftN (bs.length + 64), ⟨0, rfl, by omega, hS⟩, fun x w hI => ?_⟩
  obtain ⟨k, he, hk, hS⟩ := hI
  cases he
  refine Bif.i (fun hlt => ?_) fun hge => ?_
  · have hlt : 64 * k < wholeN bs.length := by have := of_decide_eq_true hlt; omega
    have hk2 : 64 * k + 64 ≤ bs.length := by unfold wholeN at hlt; omega
    refine ⟨StC W _, StC.start hS, SlP.i (a := 64 * k) (b := bs.length) hr (by simp) hc rfl rfl (by omega) (Nat.le_refl _) fun p' hr' => ?_⟩
    rw [Nat.mul_one, Nat.mul_one, ← List.map_drop, ← List.map_take, List.take_of_length_le (by simp)] at hr'
    have e : bs.length - 64 * k = (bs.drop (64 * k)).length := List.length_drop.symm
    rw [e]
    refine step_blk (Is.refl W _) (i := 0) rfl ((hr'.cons _).cons _) (by rw [← e]; omega) (by rw [← e]; omega) fun w hS => ?_
    rw [← blks_snoc] at hS
    rw [w64 (by omega) (by omega)]
    exact ⟨⟨k + 1, by rw [show ((64 * k : Nat) : Int) + 64 = ((64 * (k + 1) : Nat) : Int) by omega], by unfold wholeN at hlt; omega, hS⟩, by show bs.length + 64 - (((64 * k : Nat) : Int) + 64).toNat < bs.length + 64 - (64 * k); omega⟩
  have hk2 : k = bs.length / 64 := by have := of_decide_eq_false hge; unfold wholeN at this; omega
  subst hk2
  generalize hH : blks H0 (bs.length / 64) bs = H at hS
  refine NewC.i hS fun b49 w hS => ?_
  have hS : St W (Row b49 56 ((zB 128).map byteV) :: Row b8 53 (H.l.map uV) :: Row b3 26 ((zB 32).map byteV) :: F) w := hS
  refine ⟨StC W _, StC.start hS, ⟨⟨by decide, by decide, by decide⟩, SlP.i (a := wholeN bs.length) (b := bs.length) hr (by simp) hc rfl rfl (by unfold wholeN; omega) (Nat.le_refl _) fun p' hr' => ?_⟩⟩
  rw [Nat.mul_one, Nat.mul_one, ← List.map_drop, ← List.map_take, List.take_of_length_le (by simp)] at hr'
  have hr' : Rd F p' ((restL bs).map byteV) := hr'
  have hrl := restL_len bs
  have hm : min (bs.length - wholeN bs.length) 128 = bs.length % 64 := by unfold wholeN; omega
  have hC := Is.refl W (Row b49 56 ((zB 128).map byteV) :: Row b8 53 (H.l.map uV) :: Row b3 26 ((zB 32).map byteV) :: F)
  refine Ef.n (α := Unit) (V := fun _ => .int .i64 ((bs.length % 64 : Nat) : Int)) (B := fun _ => [Row b49 56 ((restL bs ++ zB (128 - bs.length % 64)).map byteV)]) () 0 hC rfl (fun G w h => ?_) fun _ => ⟨_, rfl, trivial, fun G w h => ?_⟩
  · refine copy_i (q := b49) (o := 0) (cs := (restL bs).map byteV) uB iU8 sU8 h (by simp [zB]) (fun j v hj => ((((hr'.cons _).cons _).app (pts G)).cons _).of h hj) (by rw [List.length_map, hrl]; exact hm.symm) notAgg_byteV fun w' h' => ⟨_, rfl, (), by rw [← hm]; rfl, ?_⟩
    have e : splice ((zB 128).map byteV) 0 ((restL bs).map byteV) = (restL bs ++ zB (128 - bs.length % 64)).map byteV := by
      rw [splice_map]
      unfold splice zB
      rw [List.take_zero, List.nil_append, Nat.zero_add, List.drop_replicate, hrl]
    rw [e] at h'
    exact Is.back 0 rfl (B := [_]) h'
  have hS := StC.ends h
  have hS : St W (Row b49 56 ((restL bs ++ zB (128 - bs.length % 64)).map byteV) :: Row b8 53 (H.l.map uV) :: Row b3 26 ((zB 32).map byteV) :: F) w := hS
  refine IxP.row (k := bs.length % 64) rfl (by omega) (St1.n 0 hS rfl (by simp [hrl, zB]; omega) fun w hS => ?_)
  have hS : St W (Row b49 56 ((endL bs 0).map byteV) :: Row b8 53 (H.l.map uV) :: Row b3 26 ((zB 32).map byteV) :: F) w := by
    rw [endL_0, List.map_set]; exact hS
  refine ⟨fun vs w => vs = [.int .i64 ((lastN bs.length : Nat) : Int)] ∧ St W (Row b49 56 ((endL bs 0).map byteV) :: Row b8 53 (H.l.map uV) :: Row b3 26 ((zB 32).map byteV) :: F) w, Bif.i (fun h => ?_) fun h => ?_, fun last w hJ => ?_⟩
  · have h := of_decide_eq_true h
    rw [w64 (n := ((bs.length % 64 : Nat) : Int) + 1) (by omega) (by omega), w64 (by omega) (by omega)] at h
    exact ⟨by unfold lastN; rw [if_pos (by omega)]; rfl, hS⟩
  · have h := of_decide_eq_false h
    rw [w64 (n := ((bs.length % 64 : Nat) : Int) + 1) (by omega) (by omega), w64 (by omega) (by omega)] at h
    exact ⟨by unfold lastN; rw [if_neg (by omega)]; rfl, hS⟩
  obtain ⟨he, hS⟩ := hJ
  cases he
  have hlast : lastN bs.length = 64 ∨ lastN bs.length = 128 := by unfold lastN; split <;> simp
  refine ⟨fun vs w => ∃ i : Nat, vs = [.int .i64 i] ∧ i ≤ 8 ∧ St W (Row b49 56 ((endL bs i).map byteV) :: Row b8 53 (H.l.map uV) :: Row b3 26 ((zB 32).map byteV) :: F) w, leftN 8, ⟨0, rfl, by omega, hS⟩, fun x w hI => ?_⟩
  obtain ⟨i, he, hi, hS⟩ := hI
  cases he
  refine Bif.i (fun hlt => ?_) fun hge => ?_
  · have hlt : i < 8 := by have := of_decide_eq_true hlt; omega
    have e8 : IntKind.wrap .i64 (8 * (i : Int)) = ((8 * i : Nat) : Int) := by rw [w64 (by omega) (by omega)]; omega
    rw [e8]
    refine ⟨by omega, IxP.row (k := lastN bs.length - 1 - i) (by rw [w64 (n := ((lastN bs.length : Nat) : Int) - 1) (by omega) (by omega), w64 (by omega) (by omega)]; omega) (by omega) (St1.n 0 hS rfl (by rw [List.length_map, endL_len bs i hi]; omega) fun w hS => ?_)⟩
    have ev : Value.int .u8 (IntKind.wrap .u8 (Int.fdiv (IntKind.wrap .u64 ((IntKind.wrap .u64 (bs.length : Int)) * 8)) (2 ^ min (Int.toNat ((8 * i : Nat) : Int)) (IntKind.bits .u64)))) = byteV ((len8 bs.length).getD (7 - i) 0) := by
      have e1 : IntKind.wrap .u64 (bs.length : Int) = (bs.length : Int) := by
        show (bs.length : Int) % (2 ^ 64 : Int) = _
        omega
      have e2 : IntKind.wrap .u64 ((bs.length : Int) * 8) = ((8 * bs.length : Nat) : Int) := by
        show ((bs.length : Int) * 8) % (2 ^ 64 : Int) = _
        omega
      have e3 : min (Int.toNat ((8 * i : Nat) : Int)) (IntKind.bits .u64) = 8 * i := by
        rw [Int.toNat_natCast]; exact Nat.min_eq_left (by show 8 * i ≤ 64; omega)
      rw [e1, e2, e3, lenB_val _ _ hn hlt, len8_get _ _ hlt]; rfl
    have hS : St W (Row b49 56 ((endL bs (i + 1)).map byteV) :: Row b8 53 (H.l.map uV) :: Row b3 26 ((zB 32).map byteV) :: F) w := by
      rw [endL_next bs i hlt, List.map_set, ← ev]; exact hS
    rw [up hlt (by omega)]
    exact ⟨⟨i + 1, rfl, by omega, hS⟩, by show 8 - (i + 1) < 8 - i; omega⟩
  have hi2 : i = 8 := by have := of_decide_eq_false hge; omega
  subst hi2
  have hEl := endL_len bs 8 (by omega)
  have hE8 := endL_8 bs
  generalize hE : endL bs 8 = E at hS hEl hE8
  refine ⟨fun vs w => ∃ k : Nat, vs = [.int .i64 ((64 * k : Nat) : Int)] ∧ 64 * k ≤ lastN bs.length ∧ St W (Row b49 56 (E.map byteV) :: Row b8 53 ((blks H k E).l.map uV) :: Row b3 26 ((zB 32).map byteV) :: F) w, leftN 256, ⟨0, rfl, by omega, hS⟩, fun x w hI => ?_⟩
  obtain ⟨k, he, hk, hS⟩ := hI
  cases he
  refine Bif.i (fun hlt => ?_) fun hge => ?_
  · have hlt : 64 * k < lastN bs.length := by have := of_decide_eq_true hlt; omega
    have hk2 : 64 * k + 64 ≤ 128 := by omega
    refine ⟨StC W _, StC.start hS, SlP.i (n := 128) (c := 128) (a := 64 * k) (b := 128) (Rd.all (b := b49) (t := 56) (all := E.map byteV) (F := Row b8 53 ((blks H k E).l.map uV) :: Row b3 26 ((zB 32).map byteV) :: F)) (by simp [hEl]) (Nat.le_refl _) rfl rfl (by omega) (Nat.le_refl _) fun p' hr' => ?_⟩
    rw [Nat.mul_one, Nat.mul_one, ← List.map_drop, ← List.map_take, List.take_of_length_le (by simp [hEl])] at hr'
    have e : 128 - 64 * k = (E.drop (64 * k)).length := by rw [List.length_drop, hEl]
    rw [e]
    refine step_blk (Is.refl W _) (i := 1) rfl hr' (Nat.le_refl _) (by rw [← e]; omega) fun w hS => ?_
    rw [← blks_snoc] at hS
    rw [w64 (by omega) (by omega)]
    exact ⟨⟨k + 1, by rw [show ((64 * k : Nat) : Int) + 64 = ((64 * (k + 1) : Nat) : Int) by omega], by omega, hS⟩, by show 256 - (((64 * k : Nat) : Int) + 64).toNat < 256 - (64 * k); omega⟩
  have hk2 : k = lastN bs.length / 64 := by have := of_decide_eq_false hge; omega
  subst hk2
  have hfin : blks H (lastN bs.length / 64) E = shaH bs := by
    rw [sha_split, hH, ← hE8]
    have e1 : E = E.take (lastN bs.length) ++ E.drop (lastN bs.length) := (List.take_append_drop _ _).symm
    rw [e1, blks_app _ _ _ _ (by rw [List.length_take, hEl]; omega), ← e1]
  rw [hfin] at hS
  generalize hs : shaH bs = s at hS
  refine NewC.i hS fun b w hS => ?_
  have hS : St W (Row b 26 (((outP s).take 0 ++ (zB 32).drop 0).map byteV) :: Row b49 56 (E.map byteV) :: Row b8 53 (s.l.map uV) :: Row b3 26 ((zB 32).map byteV) :: F) w := hS
  refine ⟨fun vs w => ∃ i : Nat, vs = [.int .i64 i] ∧ i ≤ 32 ∧ St W (Row b 26 (((outP s).take i ++ (zB 32).drop i).map byteV) :: Row b49 56 (E.map byteV) :: Row b8 53 (s.l.map uV) :: Row b3 26 ((zB 32).map byteV) :: F) w, leftN 32, ⟨0, rfl, by omega, hS⟩, fun x w hI => ?_⟩
  obtain ⟨i, he, hi, hS⟩ := hI
  cases he
  refine Bif.i (fun hlt => ?_) fun hge => ?_
  · have hlt : i < 32 := by have := of_decide_eq_true hlt; omega
    have ed : IntKind.wrap .i64 (Int.tdiv (i : Int) 4) = ((i / 4 : Nat) : Int) := by
      rw [Int.tdiv_eq_ediv_of_nonneg (by omega), w64 (by omega) (by omega)]; omega
    have em : IntKind.wrap .i64 (24 - (IntKind.wrap .i64 ((Int.tmod (i : Int) 4) * 8))) = ((24 - 8 * (i % 4) : Nat) : Int) := by
      rw [Int.tmod_eq_emod_of_nonneg (by omega), w64 (n := (i : Int) % 4 * 8) (by omega) (by omega), w64 (by omega) (by omega)]; omega
    have hg : (s.l.map uV)[i / 4]? = some (.int .u32 (nI (s.l.getD (i / 4) 0))) := by
      refine uV_get ?_
      rw [List.getD_eq_getElem?_getD, List.getElem?_eq_getElem (by show i / 4 < 8; omega)]; rfl
    rw [ed, em]
    refine ⟨by decide, IxP.row rfl (by omega) (LdI.n 2 hS rfl hg ⟨by decide, by omega, IxP.row (k := i) rfl hlt (St1.n 0 hS rfl (by simp [outP_len, zB]; omega) fun w hS => ?_)⟩)⟩
    rw [outB_val] at hS
    have hS : St W (Row b 26 (((outP s).take (i + 1) ++ (zB 32).drop (i + 1)).map byteV) :: Row b49 56 (E.map byteV) :: Row b8 53 (s.l.map uV) :: Row b3 26 ((zB 32).map byteV) :: F) w := by
      rw [← mixB_set (outP s) (zB 32) i (outP_get s i hlt) (by simpa [zB] using hlt)]; exact hS
    rw [up hlt (by omega)]
    exact ⟨⟨i + 1, rfl, by omega, hS⟩, by show 32 - (i + 1) < 32 - i; omega⟩
  have hi2 : i = 32 := by have := of_decide_eq_false hge; omega
  subst hi2
  rw [mix_all (outP s) (zB 32) 32 (by rw [outP_len]; omega) (by simp [zB])] at hS
  have hl := outP_len s
  have hsha : sha bs = outP s := by unfold sha; rw [hs]
  rw [hsha]
  refine LdA.r 0 hS rfl (by rw [List.length_map, hl]) ⟨by simp [hl], StA.r 3 hS rfl (by simp [hl, zB]) (fun v hv => notAgg_byteV v (by simpa using hv)) fun w4 hS => LdA.r 3 hS rfl (by simp [hl]) ⟨rfl, ?_⟩⟩
  exact St.dropL [_, _, _, _] hS
end Go.Proofs.Ytbfccpbijimjmaa
