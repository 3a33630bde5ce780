/-
  The walks of the laws of sums under keys.
-/
import Derived.Test.YtbfccpbijimjmaaMacE
set_option linter.unusedVariables false
set_option linter.unusedSimpArgs false
namespace Go.Proofs.Ytbfccpbijimjmaa
open Go
def fox : List UInt8 := [84, 104, 101, 32, 113, 117, 105, 99, 107, 32, 98, 114, 111, 119, 110, 32, 102, 111, 120, 32, 106, 117, 109, 112, 115, 32, 111, 118, 101, 114, 32, 116, 104, 101, 32, 108, 97, 122, 121, 32, 100, 111, 103]
theorem mac_fox : hexP (macP [107, 101, 121] fox) = [102, 55, 98, 99, 56, 51, 102, 52, 51, 48, 53, 51, 56, 52, 50, 52, 98, 49, 51, 50, 57, 56, 101, 54, 97, 97, 54, 102, 98, 49, 52, 51, 101, 102, 52, 100, 53, 57, 97, 49, 52, 57, 52, 54, 49, 55, 53, 57, 57, 55, 52, 55, 57, 100, 98, 99, 50, 100, 49, 97, 51, 99, 100, 56] := by decide +kernel
theorem mac_at {W w : World} {F : List Asn} {p q : Option Addr} {d e n m : Nat} {k b s : List UInt8} (hs : macP k b = s) (hr : Rd F p (k.map byteV)) (hl : k.length = n) (hd : n ≤ d) (hk : n ≤ 500000) (hrb : Rd F q (b.map byteV)) (hlb : b.length = m) (he : m ≤ e) (hb : m ≤ 500000) (hS : St W F w) :
    CallR Try.prog 11 #[.slice p n d, .slice q m e] w fun v w' => v = .agg (arrB s) ∧ St W F w' := by
  rw [← hs, ← hl, ← hlb]; exact Mac_spec hr (by omega) (by omega) hrb (by omega) (by omega) hS
theorem head_spec {W w : World} {F : List Asn} (hS : St W F w) : CallR Try.prog 9 #[] w fun v w' => v = .bool true ∧ St W F w' := by
  have h0 := mac_fox
  have l0 := macP_len [107, 101, 121] fox
  obtain ⟨s0, hs0⟩ : ∃ s, macP [107, 101, 121] fox = s := ⟨_, rfl⟩
  rw [hs0] at h0 l0
  have hp : proofP [107, 101, 121] [[97], [98, 99]] = hexP (macP [107, 101, 121] [1, 97, 2, 98, 99]) := by
    have e1 : shorts [[97], [98, 99]] = true := by decide
    have e2 : textsP [[97], [98, 99]] = [1, 97, 2, 98, 99] := by decide
    unfold proofP
    rw [if_pos e1, e2]
  have l1 := macP_len [107, 101, 121] [1, 97, 2, 98, 99]
  obtain ⟨s1, hs1⟩ : ∃ s, macP [107, 101, 121] [1, 97, 2, 98, 99] = s := ⟨_, rfl⟩
  rw [hs1] at hp l1
  have z0 : (arrB s0).size = 32 := by rw [arrB_size, l0]
  have z1 : (arrB s1).size = 32 := by rw [arrB_size, l1]
  refine F9_of (constB_i uB uU8 hS fun b2 w hS => ⟨_, _, _, rfl, constB_i uB uU8 hS fun b7 w hS => ⟨_, _, _, rfl, ?_⟩⟩)
  have hS : St W (Row b7 5 (fox.map byteV) :: Row b2 5 (List.map byteV [107, 101, 121]) :: F) w := hS
  refine (mac_at hs0 (Rd.n 1 rfl fun F => Rd.all) rfl (by decide) (by decide) (Rd.n 0 rfl fun F => Rd.all) rfl (by decide) (by decide) hS).of fun v w ⟨hv, hS⟩ => ⟨_, z0, hv, NewC.i hS fun b15 w hS => ⟨z0, StA.r 0 hS rfl (by rw [z0]; rfl) (arrB_notAgg _) fun w hS => ?_⟩⟩
  have hS : St W (Row b15 26 (s0.map byteV) :: F) w := ((show St W (Row b15 26 (s0.map byteV) :: Row b7 5 (fox.map byteV) :: Row b2 5 (List.map byteV [107, 101, 121]) :: F) w from hS).p1.drop).p1.drop
  refine constB_i uB uU8 hS fun b18 w hS => ⟨_, _, _, rfl, NewC.i hS fun b23 w hS => ?_⟩
  have hS : St W (Row b23 9 (List.map strV [[97], [98, 99]]) :: Row b18 5 (List.map byteV [107, 101, 121]) :: Row b15 26 (s0.map byteV) :: F) w := hS
  refine (Proof_spec (k := [107, 101, 121]) (ws := [[97], [98, 99]]) (Rd.n 1 rfl fun F => Rd.all) (by decide) (by decide) (Rd.n 0 rfl fun F => Rd.all) (by decide) (by decide) hS).of fun v w ⟨hv, hS⟩ => ⟨_, hv, ?_⟩
  rw [hp]
  have hS : St W (Row b15 26 (s0.map byteV) :: F) w := hS.drop.drop
  refine constB_i uB uU8 hS fun b28 w hS => ⟨_, _, _, rfl, constB_i uB uU8 hS fun b33 w hS => ⟨_, _, _, rfl, ?_⟩⟩
  have hS : St W (Row b33 5 (List.map byteV [1, 97, 2, 98, 99]) :: Row b28 5 (List.map byteV [107, 101, 121]) :: Row b15 26 (s0.map byteV) :: F) w := hS
  refine (mac_at hs1 (Rd.n 1 rfl fun F => Rd.all) rfl (by decide) (by decide) (Rd.n 0 rfl fun F => Rd.all) rfl (by decide) (by decide) hS).of fun v w ⟨hv, hS⟩ => ⟨_, z1, hv, NewC.i hS fun b41 w hS => ⟨z1, StA.r 0 hS rfl (by rw [z1]; rfl) (arrB_notAgg _) fun w hS => ?_⟩⟩
  have hS : St W (Row b41 26 (s1.map byteV) :: Row b15 26 (s0.map byteV) :: F) w := ((show St W (Row b41 26 (s1.map byteV) :: Row b33 5 (List.map byteV [1, 97, 2, 98, 99]) :: Row b28 5 (List.map byteV [107, 101, 121]) :: Row b15 26 (s0.map byteV) :: F) w from hS).p1.drop).p1.drop
  refine SlP.allS 1 hS rfl (fun F => Rd.all) l0 (Nat.le_refl _) rfl fun p' hr' => ?_
  refine (RHex_spec hr' (by omega) hS).of fun v w ⟨hv, hS⟩ => ⟨_, hv, ?_⟩
  rw [h0]
  refine Bif.yes (beq_same rfl) ?_
  refine SlP.allS 0 hS rfl (fun F => Rd.all) l1 (Nat.le_refl _) rfl fun p' hr' => ?_
  refine (RHex_spec hr' (by omega) hS).of fun v w ⟨hv, hS⟩ => ⟨_, hv, Bif.yes (beq_same rfl) (Bif.yes ?_ ?_)⟩
  · rw [mkS_size, hexP_len, l1]; rfl
  have hS : St W F w := hS.drop.drop
  refine constB_i uB uU8 hS fun b52 w hS => ⟨_, _, _, rfl, constB_i uB uU8 hS fun b57 w hS => ⟨_, _, _, rfl, ?_⟩⟩
  have hS : St W (Row b57 5 (List.map byteV [97, 98]) :: Row b52 5 (List.map byteV [97, 98]) :: F) w := hS
  refine (Same_spec (a := [97, 98]) (b := [97, 98]) (Rd.n 1 rfl fun F => Rd.all) (Rd.n 0 rfl fun F => Rd.all) (by decide) hS).of fun v w ⟨hv, hS⟩ => ⟨_, hv, Bif.yes (by decide) ?_⟩
  refine constB_i uB uU8 hS.drop.drop fun b65 w hS => ⟨_, _, _, rfl, constB_i uB uU8 hS fun b70 w hS => ⟨_, _, _, rfl, ?_⟩⟩
  have hS : St W (Row b70 5 (List.map byteV [97]) :: Row b65 5 (List.map byteV [97, 98]) :: F) w := hS
  exact (Same_spec (a := [97, 98]) (b := [97]) (Rd.n 1 rfl fun F => Rd.all) (Rd.n 0 rfl fun F => Rd.all) (by decide) hS).of fun v w ⟨hv, hS⟩ => ⟨_, hv, rfl, hS.drop.drop⟩

theorem Tells_walk {W : World} {p q r : Option Addr} {k b : List UInt8} {ws : List (List UInt8)} {c d e : Nat} (hr : Rd [Base W] p (k.map byteV)) (hc : k.length ≤ c) (hcm : c ≤ 9223372036854775807) (hr2 : Rd [Base W] q (b.map byteV)) (hd : b.length ≤ d) (hdm : d ≤ 9223372036854775807)
    (hr3 : Rd [Base W] r (ws.map strV)) (he : ws.length ≤ e) (hem : e ≤ 9223372036854775807) (hok : ∀ o ∈ ws, o.length ≤ 9223372036854775807) :
    CallR Try.prog 3 #[.slice p k.length c, .slice q b.length d, .slice r ws.length e] W fun v w' => v = .bool true ∧ ∃ r, St W (Base W :: r) w' := by
  refine F3_of ((head_spec (St.base W)).of fun v w ⟨hv, hS⟩ => ⟨_, hv, ?_⟩)
  refine Bif.i (fun h => ⟨rfl, _, hS⟩) fun h => Bif.i (fun h2 => ⟨rfl, _, hS⟩) fun h2 => ?_
  have h := of_decide_eq_false h
  have h2 := of_decide_eq_false h2
  refine (greatW_spec hr3 (by omega) hS).of fun v w ⟨g, hv, hg, hS⟩ => ⟨_, hv, Bif.i (fun _ => ⟨rfl, _, hS⟩) fun hgf => Bif.yes rfl ?_⟩
  obtain ⟨hg1, hg2⟩ := hg hgf
  have hl := macP_len k b
  have hM := Mac_spec (W := W) hr hc (by omega) hr2 hd (by omega) hS
  obtain ⟨m, hm⟩ : ∃ m, macP k b = m := ⟨_, rfl⟩
  rw [hm] at hl hM
  have z : (arrB m).size = 32 := by rw [arrB_size, hl]
  refine hM.of fun v w ⟨hv, hS⟩ => ⟨_, z, hv, ?_⟩
  have hR := RMac_spec (W := W) (d := c) (e := d) hr (by omega) hr2 (by omega) hS
  rw [hm] at hR
  refine hR.of fun v w ⟨hv, hS⟩ => ⟨_, z, hv, _, fun w => eqSum m m hl hl w, _, rfl, Bif.yes (by simp) ?_⟩
  refine (Same_spec hr hr2 (by omega) hS).of fun v w ⟨hv, hS⟩ => ⟨_, hv, ?_⟩
  refine (RSame_spec hr hr2 hS).of fun v w ⟨hv, hS⟩ => ⟨_, hv, Bif.yes (beq_self_eq_true _) ?_⟩
  refine (Proof_spec hr hc (by omega) hr3 (by omega) (by omega) hS).of fun v w ⟨hv, hS⟩ => ⟨_, hv, ?_⟩
  refine (RProof_spec hr (by omega) hr3 (by omega) (by omega) hS).of fun v w ⟨hv, hS⟩ => ⟨_, hv, ?_, _, hS⟩
  rw [beq_self_eq_true]
theorem padK_sha (k : List UInt8) (h : k.length > 64) : padK (sha k) = padK k := by
  have hl := sha_len k
  unfold padK
  have : keyK (sha k) = keyK k := by
    unfold keyK
    rw [if_pos h, if_neg (by omega)]
  rw [this]
theorem macP_sha (k b : List UInt8) (h : k.length > 64) : macP (sha k) b = macP k b := by unfold macP; rw [padK_sha k h]
theorem padK_zeros (k : List UInt8) (n : Nat) (h : k.length + n ≤ 64) : padK (k ++ zB n) = padK k := by
  have h1 : keyK (k ++ zB n) = k ++ zB n := by unfold keyK; rw [if_neg (by simp [zB]; omega)]
  have h2 : keyK k = k := by unfold keyK; rw [if_neg (by omega)]
  unfold padK
  rw [h1, h2, List.append_assoc]
  congr 1
  unfold zB
  rw [List.replicate_append_replicate]
  congr 1
  simp; omega
theorem Keys_walk {W : World} {p q : Option Addr} {k b : List UInt8} {c d : Nat} (hr : Rd [Base W] p (k.map byteV)) (hc : k.length ≤ c) (hcm : c ≤ 9223372036854775807) (zz : Int) (wz : (Lit.int .u8 zz).wf = true) (hr2 : Rd [Base W] q (b.map byteV)) (hd : b.length ≤ d) (hdm : d ≤ 9223372036854775807) :
    CallR Try.prog 4 #[.slice p k.length c, .int .u8 zz, .slice q b.length d] W fun v w' => v = .bool true ∧ ∃ r, St W (Base W :: r) w' := by
  obtain ⟨zx, rfl⟩ := u8_of zz wz
  have hzx : zx.toNat < 256 := zx.toNat_lt
  refine F4_of ((head_spec (St.base W)).of fun v w ⟨hv, hS⟩ => ⟨_, hv, ?_⟩)
  refine Bif.i (fun h => ⟨rfl, _, hS⟩) fun h => Bif.i (fun h2 => ⟨rfl, _, hS⟩) fun h2 => ?_
  have h := of_decide_eq_false h
  have h2 := of_decide_eq_false h2
  have hl := macP_len k b
  obtain ⟨m, hm⟩ : ∃ m, macP k b = m := ⟨_, rfl⟩
  rw [hm] at hl
  have z : (arrB m).size = 32 := by rw [arrB_size, hl]
  refine Bif.i (fun h64 => ?_) fun h64 => ?_
  · have h64 := of_decide_eq_true h64
    have hsl := sha_len k
    have hms := macP_sha k b (by omega)
    rw [hm] at hms
    obtain ⟨s, hs⟩ : ∃ s, sha k = s := ⟨_, rfl⟩
    rw [hs] at hsl hms
    have zs : (arrB s).size = 32 := by rw [arrB_size, hsl]
    refine (rsum_at hs hr rfl (by omega) hS).of fun v w ⟨hv, hS⟩ => ⟨_, zs, hv, NewC.i hS fun b11 w hS => ⟨zs, StA.r 0 hS rfl (by rw [zs]; rfl) (arrB_notAgg _) fun w hS => ?_⟩⟩
    have hS : St W [Row b11 26 (s.map byteV), Base W] w := hS
    have hC := Is.refl W [Row b11 26 (s.map byteV), Base W]
    refine ⟨StC W _, StC.start hS, Bif.yes rfl (SlP.allS 0 hS rfl (fun F => Rd.all) hsl (Nat.le_refl _) rfl fun p' hr' => ?_)⟩
    refine Ef.n0 (α := Unit) (V := fun _ => .agg (arrB m)) (B := fun _ => [Row b11 26 (s.map byteV), Base W]) () hC (fun G w h => (mac_at hm ((hr.cons _).app (pts G)) rfl hc (by omega) ((hr2.cons _).app (pts G)) rfl hd (by omega) h).of fun v w' ⟨hv, h⟩ => ⟨_, z, hv, (), rfl, h⟩) fun _ => ⟨_, z, rfl, trivial, ?_⟩
    refine Ef.n0 (α := Unit) (V := fun _ => .agg (arrB m)) (B := fun _ => [Row b11 26 (s.map byteV), Base W]) () hC (fun G w h => (mac_at hms (hr'.app (pts G)) rfl (by omega) (by omega) ((hr2.cons _).app (pts G)) rfl hd (by omega) h).of fun v w' ⟨hv, h⟩ => ⟨_, z, hv, (), rfl, h⟩) fun _ => ⟨_, z, rfl, trivial, ?_⟩
    exact ⟨_, fun w => eqSum m m hl hl w, _, rfl, fun G w h => ⟨by simp, _, (StC.ends h).p1⟩⟩
  · have h64 := of_decide_eq_false h64
    refine Bif.yes rfl (NewC.i hS fun b40 w hS => ?_)
    refine append_sl uB (.inr ⟨_, uB⟩) iU8 sU8 zU8 rfl (OwnS.empty hS) (xs := k.map byteV) hr (by simp) notAgg_byteV (by rw [bU8]; simp; omega) (by omega) fun p1 c1 w hS => ⟨_, _, _, rfl, ?_⟩
    have hS : St W (OwnS 5 1 p1 (0 + k.length) c1 (k.map byteV) :: [Base W]) w := hS
    rw [Nat.zero_add] at hS ⊢
    obtain ⟨n, hn, hn64⟩ : ∃ n : Nat, (if (IntKind.wrap .i64 (64 - (k.length : Int))) < (IntKind.wrap .i64 (zx.toNat : Int)) then (IntKind.wrap .i64 (64 - (k.length : Int))) else (IntKind.wrap .i64 (zx.toNat : Int))) = (n : Int) ∧ k.length + n ≤ 64 := by
      rw [w64 (n := 64 - (k.length : Int)) (by omega) (by omega), w64 (n := (zx.toNat : Int)) (by omega) (by omega)]
      split
      · exact ⟨64 - k.length, by omega, by omega⟩
      · exact ⟨zx.toNat, rfl, by omega⟩
    rw [hn]
    refine append_zeros 9 uB Try.underlying3 uS iU8 sU8 bU8 zU8 (by omega) (by omega) hS fun p2 c2 w hS => ⟨_, _, _, rfl, ?_⟩
    have hmz : macP (k ++ zB n) b = m := by rw [← hm]; unfold macP; rw [padK_zeros k n hn64]
    have el : (k ++ zB n).length = k.length + n := by simp [zB]
    have hS : St W (OwnS 5 1 p2 (k.length + n) c2 ((k ++ zB n).map byteV) :: [Base W]) w := by rw [List.map_append]; exact hS
    refine (mac_at hmz (OwnS.rd _) el (OwnS.le hS).2 (by omega) (hr2.cons _) rfl hd (by omega) hS).of fun v w ⟨hv, hS⟩ => ⟨_, z, hv, ?_⟩
    refine (mac_at hm (hr.cons _) rfl hc (by omega) (hr2.cons _) rfl hd (by omega) hS).of fun v w ⟨hv, hS⟩ => ⟨_, z, hv, _, fun w => eqSum m m hl hl w, _, rfl, by simp, _, hS.p1⟩
end Go.Proofs.Ytbfccpbijimjmaa
