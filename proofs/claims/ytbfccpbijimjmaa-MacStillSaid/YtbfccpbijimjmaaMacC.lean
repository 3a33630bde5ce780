/-
  Contracts of sums under keys, the program's and the document's.
-/
import Derived.Test.YtbfccpbijimjmaaAid
set_option linter.unusedVariables false
set_option linter.unusedSimpArgs false
namespace Go.Proofs.Ytbfccpbijimjmaa
open Go
def xorL (c : UInt8) (l : List UInt8) : List UInt8 := l.map fun x => x ^^^ c
theorem xorL_len (c : UInt8) (l : List UInt8) : (xorL c l).length = l.length := by simp [xorL]
def keyK (k : List UInt8) : List UInt8 := if k.length > 64 then sha k else k
def padK (k : List UInt8) : List UInt8 := keyK k ++ zB (64 - (keyK k).length)
def macP (k b : List UInt8) : List UInt8 := sha (xorL 92 (padK k) ++ sha (xorL 54 (padK k) ++ b))
theorem keyK_len (k : List UInt8) : (keyK k).length ≤ 64 := by
  unfold keyK
  split
  · rw [sha_len]; omega
  · omega
theorem padK_len (k : List UInt8) : (padK k).length = 64 := by
  have := keyK_len k
  unfold padK zB
  rw [List.length_append, List.length_replicate]; omega
theorem macP_len (k b : List UInt8) : (macP k b).length = 32 := sha_len _
theorem xorV (x c : UInt8) : IntKind.wrap .u8 ↑((BitVec.ofInt (IntKind.bits .u8) (x.toNat : Int) ^^^ BitVec.ofInt (IntKind.bits .u8) (c.toNat : Int)).toNat) = ((x ^^^ c).toNat : Int) := u8_xor x.toBitVec c.toBitVec
theorem orV (x c : UInt8) : IntKind.wrap .u8 ↑((BitVec.ofInt (IntKind.bits .u8) (x.toNat : Int) ||| BitVec.ofInt (IntKind.bits .u8) (c.toNat : Int)).toNat) = ((x ||| c).toNat : Int) := u8_or x.toBitVec c.toBitVec
theorem xorL_get {P : List UInt8} {i : Nat} {x c : UInt8} (h : P[i]? = some x) : (xorL c P)[i]? = some (x ^^^ c) := by
  unfold xorL; rw [List.getElem?_map, h]; rfl
theorem zV64 : (zB 64).map byteV = List.replicate 64 (Value.int .u8 0) := by simp [zB, byteV]
/-- The sum of a pad's bytes, each xor one, and bytes behind them. -/
theorem padsum_spec {W w : World} {F : List Asn} {p : Option Addr} {d : Nat} {P b : List UInt8} (c : UInt8) (hP : P.length = 64) (hr : Rd F p (b.map byteV)) (hd : b.length ≤ d) (hb : b.length ≤ 500000) (hS : St W F w) :
    CallR Try.prog 19 #[.agg (arrB P), .int .u8 (c.toNat : Int), .slice p b.length d] w fun v w' => v = .agg (arrB (sha (xorL c P ++ b))) ∧ St W F w' := by
  have hl := sha_len (xorL c P ++ b)
  obtain ⟨s, hs⟩ : ∃ s, sha (xorL c P ++ b) = s := ⟨_, rfl⟩
  rw [hs] at hl ⊢
  have z : (arrB s).size = 32 := by rw [arrB_size, hl]
  have hX := xorL_len c P
  refine F19_of (NewC.i hS fun b5 w hS => NewC.i hS fun b7 w hS => ?_)
  have hS : St W (Row b7 26 ((zB 32).map byteV) :: Row b5 41 (((xorL c P).take 0 ++ P.drop 0).map byteV) :: F) w := hS
  refine ⟨fun vs w => ∃ i : Nat, vs = [.int .i64 i] ∧ i ≤ 64 ∧ St W (Row b7 26 ((zB 32).map byteV) :: Row b5 41 (((xorL c P).take i ++ P.drop i).map byteV) :: F) w, leftN 64, ⟨0, rfl, by omega, hS⟩, fun x w hI => ?_⟩
  obtain ⟨i, he, hi, hS⟩ := hI
  cases he
  refine Bif.i (fun hlt => ?_) fun hge => ?_
  · have hlt : i < 64 := by have := of_decide_eq_true hlt; omega
    have hx : P[i]? = some (P[i]'(by omega)) := List.getElem?_eq_getElem _
    generalize P[i]'(by omega) = x at hx
    have hg : (((xorL c P).take i ++ P.drop i).map byteV)[i]? = some (byteV x) := by rw [List.getElem?_map, mix_get _ _ _ (by omega), hx]; rfl
    refine IxP.row (k := i) rfl hlt (LdI.n 1 hS rfl hg (IxP.row (k := i) rfl hlt (St1.n 1 hS rfl (by rw [List.length_map, mix_len _ _ _ hX]; omega) fun w hS => ?_)))
    rw [xorV] at hS
    have hS : St W (Row b7 26 ((zB 32).map byteV) :: Row b5 41 (((xorL c P).take (i + 1) ++ P.drop (i + 1)).map byteV) :: F) w := by
      rw [← mixB_set (xorL c P) P i (xorL_get hx) (by omega)]; exact hS
    rw [up hlt (by omega)]
    exact ⟨⟨i + 1, rfl, by omega, hS⟩, by show 64 - (i + 1) < 64 - i; omega⟩
  have hi2 : i = 64 := by have := of_decide_eq_false hge; omega
  subst hi2
  rw [mix_all (xorL c P) P 64 (by omega) (by omega)] at hS
  refine SlP.allS 1 hS rfl (fun F => Rd.all) (by omega) (Nat.le_refl _) rfl fun p' hr' => ?_
  have fin : ∀ {L : List Asn} {q : Option Addr} {e : Nat} {w : World}, Rd (L ++ Row b7 26 ((zB 32).map byteV) :: Row b5 41 ((xorL c P).map byteV) :: F) q ((xorL c P ++ b).map byteV) → (xorL c P ++ b).length ≤ e → St W (L ++ Row b7 26 ((zB 32).map byteV) :: Row b5 41 ((xorL c P).map byteV) :: F) w →
      CallR Try.prog 26 #[.slice q (xorL c P ++ b).length e] w fun v21 w22 => ∃ (x23 : Array Value), x23.size = 32 ∧ v21 = (Value.agg x23) ∧ Array.size x23 = 32 ∧ StA Try.prog ⟨b7, 0, none⟩ x23 w22 fun w24 => LdA Try.prog 32 ⟨b7, 0, none⟩ w24 fun res25 => (fun v w' => v = Value.agg (arrB s) ∧ St W F w') (Value.agg res25) w24 := fun {L q e w} hq he hS => by
    refine (sum_at hs hq rfl he (by rw [List.length_append]; omega) hS).of fun v w ⟨hv, hS⟩ => ⟨_, z, hv, z, ?_⟩
    have hS : St W (Row b7 26 ((zB 32).map byteV) :: Row b5 41 ((xorL c P).map byteV) :: F) w := St.dropL L hS
    exact StA.r 0 hS rfl (by rw [z]; rfl) (arrB_notAgg _) fun w hS => LdA.r 0 hS rfl (by rw [Array.length_toList, z]) ⟨rfl, (St.drop (St.drop hS))⟩
  have el : (xorL c P).length + b.length = (xorL c P ++ b).length := by rw [List.length_append]
  by_cases hb0 : b = []
  · subst hb0
    refine append_none uB (.inr ⟨_, uB⟩) iU8 (by omega) ⟨_, _, _, rfl, ?_⟩
    have := fin (L := []) (q := p') (e := 64) (by rw [List.append_nil]; exact hr') (by rw [List.append_nil]; omega) hS
    rw [List.append_nil] at this
    rw [List.append_nil] at fin
    exact this
  · have hfit : ¬ (xorL c P).length + b.length ≤ 64 := by
      have : b.length ≠ 0 := fun h => hb0 (List.eq_nil_of_length_eq_zero h)
      omega
    refine append_new uB (.inr ⟨_, uB⟩) iU8 sU8 zU8 rfl hS (cs := (xorL c P).map byteV) (xs := b.map byteV) hr' (by simp) ((hr.cons _).cons _) (by simp) hfit (by rw [bU8]; omega) (by omega) fun q e w hS => ⟨_, _, _, rfl, ?_⟩
    rw [← List.map_append, el] at hS
    rw [el]
    exact fin (L := [_]) (OwnS.rd _) (OwnS.le hS).2 hS

theorem fill64 (k : List UInt8) (hk : k.length ≤ 64) : splice ((zB 64).map byteV) 0 (k.map byteV) = (k ++ zB (64 - k.length)).map byteV := by
  rw [splice_map]
  unfold splice zB
  rw [List.take_zero, List.nil_append, Nat.zero_add, List.drop_replicate]
/-- The pad of a key. -/
theorem of_spec {W w : World} {F : List Asn} {p : Option Addr} {d : Nat} {k : List UInt8} (hr : Rd F p (k.map byteV)) (hd : k.length ≤ d) (hb : k.length ≤ 500000) (hS : St W F w) :
    CallR Try.prog 20 #[.slice p k.length d] w fun v w' => v = .agg (arrB (padK k)) ∧ St W F w' := by
  refine F20_of (NewC.i hS fun b3 w hS => NewC.i hS fun b5 w hS => ?_)
  have hS : St W (Row b5 41 ((zB 64).map byteV) :: Row b3 41 ((zB 64).map byteV) :: F) w := hS
  have hpl := padK_len k
  have fin : ∀ {L : List Asn} {w : World}, St W (Row b5 41 ((padK k).map byteV) :: (L ++ Row b3 41 ((zB 64).map byteV) :: F)) w →
      LdA Try.prog 64 ⟨b5, 0, none⟩ w fun x18 => Array.size x18 = 64 ∧ StA Try.prog ⟨b3, 0, none⟩ x18 w fun w19 => LdA Try.prog 64 ⟨b3, 0, none⟩ w19 fun res20 => (fun v w' => v = Value.agg (arrB (padK k)) ∧ St W F w') (Value.agg res20) w19 := fun {L w} hS => by
    have zp : (arrB (padK k)).size = 64 := by rw [arrB_size, hpl]
    refine LdA.r 0 hS rfl (by rw [List.length_map, hpl]) ⟨zp, ?_⟩
    have hS := St.dropL L hS.drop
    exact StA.r 0 hS rfl (zp.trans (by simp [zB])) (arrB_notAgg _) fun w hS => LdA.r 0 hS rfl (by simp [hpl]) ⟨rfl, hS.drop⟩
  refine Bif.i (fun h => ?_) fun h => ?_
  · have h := of_decide_eq_true h
    have hl := sha_len k
    have hk : padK k = sha k ++ zB (64 - (sha k).length) := by unfold padK keyK; rw [if_pos (by omega)]
    obtain ⟨s, hs⟩ : ∃ s, sha k = s := ⟨_, rfl⟩
    rw [hs] at hl hk
    have z : (arrB s).size = 32 := by rw [arrB_size, hl]
    refine (sum_at hs ((hr.cons _).cons _) rfl hd (by omega) hS).of fun v w ⟨hv, hS⟩ => ⟨_, z, hv, NewC.i hS fun b10 w hS => ⟨z, StA.r 0 hS rfl (by rw [z]; rfl) (arrB_notAgg _) fun w hS => ?_⟩⟩
    have hS : St W (Row b10 26 (s.map byteV) :: Row b5 41 ((zB 64).map byteV) :: Row b3 41 ((zB 64).map byteV) :: F) w := hS
    refine SlP.allS 0 hS rfl (fun F => Rd.all) hl (Nat.le_refl _) rfl fun p' hr' => ⟨⟨by decide, by decide, by decide⟩, ?_⟩
    have hr1 : Rd (Row b5 41 ((zB 64).map byteV) :: Row b10 26 (s.map byteV) :: Row b3 41 ((zB 64).map byteV) :: F) p' (s.map byteV) := hr'.perm (List.Perm.swap _ _ _)
    refine copy_i (q := b5) (o := 0) (cs := s.map byteV) uB iU8 sU8 hS.p1 (by simp [zB]) (fun j v hj => hr1.of hS.p1 hj) (by rw [List.length_map, hl]; rfl) notAgg_byteV fun w' hS => ⟨_, rfl, ?_⟩
    rw [fill64 s (by omega), ← hk] at hS
    exact fin (L := [_]) hS
  · have h := of_decide_eq_false h
    have hk : padK k = k ++ zB (64 - k.length) := by unfold padK keyK; rw [if_neg (by omega)]
    refine ⟨⟨by decide, by decide, by decide⟩, ?_⟩
    refine copy_i (q := b5) (o := 0) (cs := k.map byteV) uB iU8 sU8 hS (by simp [zB]) (fun j v hj => ((hr.cons _).cons _).of hS hj) (by rw [List.length_map]; show k.length = min k.length 64; omega) notAgg_byteV fun w' hS => ⟨_, rfl, ?_⟩
    rw [fill64 k (by omega), ← hk] at hS
    exact fin (L := []) hS
/-- The sum under a key. -/
theorem Mac_spec {W w : World} {F : List Asn} {p q : Option Addr} {d e : Nat} {k b : List UInt8} (hr : Rd F p (k.map byteV)) (hd : k.length ≤ d) (hk : k.length ≤ 500000) (hrb : Rd F q (b.map byteV)) (he : b.length ≤ e) (hb : b.length ≤ 500000) (hS : St W F w) :
    CallR Try.prog 11 #[.slice p k.length d, .slice q b.length e] w fun v w' => v = .agg (arrB (macP k b)) ∧ St W F w' := by
  have hpl := padK_len k
  have hl1 := sha_len (xorL 54 (padK k) ++ b)
  obtain ⟨s1, hs1⟩ : ∃ s, sha (xorL 54 (padK k) ++ b) = s := ⟨_, rfl⟩
  rw [hs1] at hl1
  have hm : macP k b = sha (xorL 92 (padK k) ++ s1) := by unfold macP; rw [hs1]
  have hl2 := macP_len k b
  have z1 : (arrB s1).size = 32 := by rw [arrB_size, hl1]
  have z2 : (arrB (macP k b)).size = 32 := by rw [arrB_size, hl2]
  have zp : (arrB (padK k)).size = 64 := by rw [arrB_size, hpl]
  have hin : ∀ {F : List Asn} {w : World}, Rd F q (b.map byteV) → St W F w → CallR Try.prog 19 #[.agg (arrB (padK k)), .int .u8 54, .slice q b.length e] w fun v w' => v = .agg (arrB s1) ∧ St W F w' := fun hr h => by rw [← hs1]; exact padsum_spec 54 hpl hr he hb h
  have hout : ∀ {F : List Asn} {w : World} {q : Option Addr} {e : Nat}, Rd F q (s1.map byteV) → s1.length ≤ e → St W F w → CallR Try.prog 19 #[.agg (arrB (padK k)), .int .u8 92, .slice q s1.length e] w fun v w' => v = .agg (arrB (macP k b)) ∧ St W F w' := fun hr he h => by rw [hm]; exact padsum_spec 92 hpl hr he (by omega) h
  generalize macP k b = m at hl2 z2 hout ⊢
  clear hm hs1
  refine F11_of (NewC.i hS fun b4 w hS => (of_spec (hr.cons _) hd hk hS).of fun v w ⟨hv, hS⟩ => ⟨_, zp, hv, NewC.i hS fun b9 w hS => ⟨zp, StA.r 0 hS rfl (by rw [zp]; rfl) (arrB_notAgg _) fun w hS => ?_⟩⟩)
  generalize padK k = P at *
  have hS : St W (Row b9 41 (P.map byteV) :: Row b4 26 ((zB 32).map byteV) :: F) w := hS
  refine LdA.r 0 hS rfl (by rw [List.length_map, hpl]) ?_
  refine (hin ((hrb.cons _).cons _) hS).of fun v w ⟨hv, hS⟩ => ⟨_, z1, hv, NewC.i hS fun b16 w hS => ⟨z1, StA.r 0 hS rfl (by rw [z1]; rfl) (arrB_notAgg _) fun w hS => ?_⟩⟩
  have hS : St W (Row b16 26 (s1.map byteV) :: Row b9 41 (P.map byteV) :: Row b4 26 ((zB 32).map byteV) :: F) w := hS
  have hC := Is.refl W (Row b16 26 (s1.map byteV) :: Row b9 41 (P.map byteV) :: Row b4 26 ((zB 32).map byteV) :: F)
  refine ⟨StC W _, StC.start hS, SlP.allS 0 hS rfl (fun F => Rd.all) hl1 (Nat.le_refl _) rfl fun p' hr' => ⟨arrB P, zp, QtA.r 1 hC rfl (by rw [List.length_map, hpl]), ?_⟩⟩
  refine Ef.n0 (α := Unit) (V := fun _ => .agg (arrB m)) (B := fun _ => Row b16 26 (s1.map byteV) :: Row b9 41 (P.map byteV) :: Row b4 26 ((zB 32).map byteV) :: F) () hC (fun G w h => (hout (hr'.app (pts G)) (by omega) h).of fun v w' ⟨hv, h⟩ => ⟨_, z2, hv, (), rfl, h⟩) fun _ => ⟨_, z2, rfl, trivial, ?_⟩
  refine Ef.stA 2 hC rfl z2 (by rw [z2]; rfl) (arrB_notAgg _) ⟨rfl, trivial, fun G w h => ?_⟩
  have hS := StC.ends h
  have hS : St W (Row b16 26 (s1.map byteV) :: Row b9 41 (P.map byteV) :: Row b4 26 (m.map byteV) :: F) w := hS
  exact LdA.r 2 hS rfl (by rw [List.length_map, hl2]) ⟨rfl, St.dropL [_, _, _] hS⟩
end Go.Proofs.Ytbfccpbijimjmaa
