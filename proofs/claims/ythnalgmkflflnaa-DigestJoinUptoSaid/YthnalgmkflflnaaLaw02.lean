/-
  The walks of the laws of sums.
-/
import Derived.Test.YthnalgmkflflnaaDigT
import Derived.Test.YthnalgmkflflnaaArgs
set_option linter.unusedVariables false
set_option linter.unusedSimpArgs false
namespace Go.Proofs.Ythnalgmkflflnaa
open Go
theorem cU8 : Try.prog.cellsOf 5 = 1 := by kernel_rfl
theorem uA32 : Try.prog.underlying 26 = some (.array 32 5) := Try.underlying26
theorem gA32 : Try.prog.eqGuardType Try.prog.depth 26 = false := by kernel_rfl
theorem eqSum {o1 o2 : Operand} (xs ys : List UInt8) (hx : xs.length = 32) (hy : ys.length = 32) (w : World) :
    Sem.run Try.prog (do eqGuard .eql 26 o1 o2 (Value.agg (arrB xs)) (Value.agg (arrB ys)); binOp .eql 26 (Value.agg (arrB xs)) (Value.agg (arrB ys))) w = .ok (.bool (decide (xs = ys))) w :=
  eqB_run uA32 uU8 iU8 cU8 gA32 hx hy _ _ w
theorem sha_abc : hexP (sha [97, 98, 99]) = [98, 97, 55, 56, 49, 54, 98, 102, 56, 102, 48, 49, 99, 102, 101, 97, 52, 49, 52, 49, 52, 48, 100, 101, 53, 100, 97, 101, 50, 50, 50, 51, 98, 48, 48, 51, 54, 49, 97, 51, 57, 54, 49, 55, 55, 97, 57, 99, 98, 52, 49, 48, 102, 102, 54, 49, 102, 50, 48, 48, 49, 53, 97, 100] := by decide +kernel
theorem beq_same {a b : ByteArray} (h : a = b) : (a.toList == b.toList) = true := by rw [h]; exact beq_self_eq_true _
theorem Bif.yes {b : Bool} {A B : Prop} (h : b = true) (hA : A) : Bif b A B := Bif.i (fun _ => hA) fun h' => by rw [h] at h'; cases h'
theorem Bif.no {b : Bool} {A B : Prop} (h : b = false) (hB : B) : Bif b A B := Bif.i (fun h' => by rw [h] at h'; cases h') fun _ => hB
/-- All of a slice. -/
theorem SlP.all {F : List Asn} {p : Option Addr} {bs : List UInt8} {n c : Nat} {hi : Int} {K : Option Addr → Nat → Nat → Prop} (hr : Rd F p (bs.map byteV)) (hl : bs.length = n) (hn : n ≤ c) (hhi : hi = (n : Int)) (hK : ∀ p' c', Rd F p' (bs.map byteV) → K p' bs.length c') : SlP p n c 1 0 hi K := by
  refine SlP.i (a := 0) (b := n) hr (by simp [hl]) hn rfl hhi (Nat.zero_le _) (Nat.le_refl _) fun p' hr' => ?_
  rw [Nat.zero_mul, List.drop_zero, Nat.sub_zero, Nat.mul_one, List.take_of_length_le (by simp [hl])] at hr'
  rw [Nat.sub_zero, ← hl]
  exact hK _ _ hr'
theorem SlP.allS {W w : World} {l : List Asn} {A : Asn} {p : Option Addr} {bs : List UInt8} {n c : Nat} {hi : Int} {K : Option Addr → Nat → Nat → Prop} (k : Nat) (hS : St W l w) (hk : nth l k = some A) (h : ∀ F, Rd (A :: F) p (bs.map byteV)) (hl : bs.length = n) (hn : n ≤ c) (hhi : hi = (n : Int)) (hK : ∀ p' c', Rd l p' (bs.map byteV) → K p' bs.length c') : SlP p n c 1 0 hi K :=
  SlP.all (Rd.n k hk h) hl hn hhi hK
theorem sum_at {W w : World} {F : List Asn} {p : Option Addr} {c : Nat} {bs s : List UInt8} (hs : sha bs = s) (hr : Rd F p (bs.map byteV)) (hc : bs.length ≤ c) (hn : bs.length ≤ 1000000) (hS : St W F w) :
    CallR Try.prog 12 #[.slice p bs.length c] w fun v w' => v = .agg (arrB s) ∧ St W F w' := by rw [← hs]; exact Sum_spec hr hc hn hS
theorem head_spec {W w : World} {F : List Asn} (hS : St W F w) : CallR Try.prog 9 #[] w fun v w' => v = .bool true ∧ St W F w' := by
  obtain ⟨s0, hs0⟩ : ∃ s0, sha [] = s0 := ⟨_, rfl⟩
  obtain ⟨s1, hs1⟩ : ∃ s1, sha [97, 98, 99] = s1 := ⟨_, rfl⟩
  have h0 := sha_none
  have h1 := sha_abc
  have l0 := sha_len []
  have l1 := sha_len [97, 98, 99]
  rw [hs0] at h0 l0
  rw [hs1] at h1 l1
  have z0 : (arrB s0).size = 32 := by rw [arrB_size, l0]
  have z1 : (arrB s1).size = 32 := by rw [arrB_size, l1]
  refine F9_of ((sum_at (bs := []) (p := none) (c := 0) hs0 (Rd.nil _ _) (by simp) (by simp) hS).of fun v w ⟨hv, hS⟩ => ⟨_, z0, hv, NewC.i hS fun b5 w hS => ⟨z0, StA.r 0 hS rfl (by rw [z0]; rfl) (arrB_notAgg _) fun w hS => ?_⟩⟩)
  refine constB_i uB uU8 hS fun b8 w hS => ⟨_, _, _, rfl, ?_⟩
  have hS : St W (Row b8 5 (List.map byteV [97, 98, 99]) :: Row b5 26 (s0.map byteV) :: F) w := hS
  refine (sum_at (bs := [97, 98, 99]) hs1 Rd.all (by decide) (by decide) hS).of fun v w ⟨hv, hS⟩ => ⟨_, z1, hv, NewC.i hS fun b16 w hS => ⟨z1, StA.r 0 hS rfl (by rw [z1]; rfl) (arrB_notAgg _) fun w hS => ?_⟩⟩
  have hS : St W (Row b16 26 (s1.map byteV) :: Row b8 5 (List.map byteV [97, 98, 99]) :: Row b5 26 (s0.map byteV) :: F) w := hS
  have u1 : unhexP [48, 48, 102, 102] = some [0, 255] := by decide
  have u2 : unhexP [48, 71] = none := by decide
  have hu1 := Unhex_spec (W := W) [48, 48, 102, 102] (by decide) hS
  simp only [unh, u1] at hu1
  refine hu1.of fun v w ⟨p1, c1, hv, hS⟩ => ⟨_, _, _, _, hv, ?_⟩
  have hu2 := Unhex_spec (W := W) [48, 71] (by decide) hS
  simp only [unh, u2] at hu2
  refine hu2.of fun v w ⟨p2, c2, hv, hS⟩ => ⟨_, _, _, _, hv, ?_⟩
  refine SlP.allS 4 hS rfl (fun F => Rd.all) l0 (Nat.le_refl _) rfl fun p' c' hr' => ?_
  refine (Hex_spec hr' (by omega) hS).of fun v w ⟨hv, hS⟩ => ⟨_, hv, ?_⟩
  rw [h0]
  refine Bif.yes (beq_same rfl) ?_
  refine SlP.allS 2 hS rfl (fun F => Rd.all) l1 (Nat.le_refl _) rfl fun p' c' hr' => ?_
  refine (Hex_spec hr' (by omega) hS).of fun v w ⟨hv, hS⟩ => ⟨_, hv, ?_⟩
  rw [h1]
  refine Bif.yes (beq_same rfl) (Bif.yes rfl (Bif.yes (by decide) ?_))
  refine IxP.by_ (bs := [0, 255]) (Rd.n 1 rfl fun F => OwnS.rd F) hS (k := 1) rfl (by decide) (x := 255) rfl fun a ha => LdI.at ha (Bif.yes (by decide) ⟨rfl, ?_⟩)
  exact St.dropL [_, _, _, _, _] hS

theorem Tells_walk {W : World} {p : Option Addr} {xs : List UInt8} {c : Nat} (hr : Rd [Base W] p (xs.map byteV)) (hc : xs.length ≤ c) (hcm : c ≤ 9223372036854775807) (s : ByteArray) (gs : s.size ≤ 9223372036854775807) :
    CallR Try.prog 3 #[.slice p xs.length c, .string s] W fun v w' => v = .bool true ∧ ∃ r, St W (Base W :: r) w' := by
  obtain ⟨l, rfl⟩ : ∃ l, s = mkS l := ⟨_, (mkS_data s).symm⟩
  refine F3_of ((head_spec (St.base W)).of fun v w ⟨hv, hS⟩ => ⟨_, hv, ?_⟩)
  refine Bif.i (fun h => ⟨rfl, _, hS⟩) fun h => Bif.i (fun h2 => ⟨rfl, _, hS⟩) fun h2 => ?_
  have h := of_decide_eq_false h
  have h2 := of_decide_eq_false h2
  rw [mkS_size] at h2
  refine (Unhex_spec l (by omega) hS).of fun v w ⟨p1, c1, hv, hS⟩ => ⟨_, _, _, _, hv, ?_⟩
  refine (RUnhex_spec l (by omega) hS).of fun v w ⟨p2, c2, hv, hS⟩ => ⟨_, _, _, _, hv, Bif.yes rfl ?_⟩
  have hr' := hr.mem (l := [OwnS 5 1 p2 (unh l).length c2 ((unh l).map byteV), OwnS 5 1 p1 (unh l).length c1 ((unh l).map byteV), Base W]) (by simp)
  have hl := sha_len xs
  obtain ⟨sx, hsx⟩ : ∃ sx, sha xs = sx := ⟨_, rfl⟩
  rw [hsx] at hl
  have z : (arrB sx).size = 32 := by rw [arrB_size, hl]
  refine (sum_at hsx hr' hc (by omega) hS).of fun v w ⟨hv, hS⟩ => ⟨_, z, hv, ?_⟩
  have hR := RSum_spec (W := W) (c := c) hr' (by omega) hS
  rw [hsx] at hR
  refine hR.of fun v w ⟨hv, hS⟩ => ⟨_, z, hv, _, fun w => eqSum sx sx hl hl w, _, rfl, Bif.yes (by simp) ?_⟩
  refine (Hex_spec hr' (by omega) hS).of fun v w ⟨hv, hS⟩ => ⟨_, hv, ?_⟩
  refine (RHex_spec hr' (by omega) hS).of fun v w ⟨hv, hS⟩ => ⟨_, hv, Bif.yes (beq_same rfl) ?_⟩
  refine str_rd uB uU8 uS hS (Rd.n 1 rfl fun F => OwnS.rd F) rfl ⟨_, rfl, ?_⟩
  refine str_rd uB uU8 uS hS (Rd.n 0 rfl fun F => OwnS.rd F) rfl ⟨_, rfl, Bif.yes (beq_same rfl) ⟨?_, _, hS.p2⟩⟩
  rw [beq_self_eq_true]
theorem u8_of (a : Int) (wa : (Lit.int .u8 a).wf = true) : ∃ x : UInt8, a = (x.toNat : Int) := by
  have hx : 0 ≤ a ∧ a ≤ 255 := by simpa [Lit.wf, IntKind.min, IntKind.max, IntKind.signed, IntKind.bits] using wa
  exact ⟨UInt8.ofNat a.toNat, by rw [UInt8.toNat_ofNat_of_lt' (by show a.toNat < 256; omega)]; omega⟩
theorem Lengths_walk {W : World} (a : Int) (wa : (Lit.int .u8 a).wf = true) (n : Int) (wn : (Lit.int .u8 n).wf = true) :
    CallR Try.prog 4 #[.int .u8 a, .int .u8 n] W fun v w' => v = .bool true ∧ ∃ r, St W (Base W :: r) w' := by
  obtain ⟨x, rfl⟩ := u8_of a wa
  obtain ⟨m, rfl⟩ := u8_of n wn
  have hm : m.toNat < 256 := m.toNat_lt
  have rl : ∀ i, (List.replicate i x).length = i := fun i => by simp
  refine F4_of ((head_spec (St.base W)).of fun v w ⟨hv, hS⟩ => ⟨_, hv, ?_⟩)
  rw [w64 (by omega) (by omega)]
  refine ⟨fun vs w => ∃ p i c, vs = [.slice p (List.replicate i x).length c, .int .i64 ((i : Nat) : Int)] ∧ i ≤ m.toNat ∧ St W (OwnS 5 1 p (List.replicate i x).length c ((List.replicate i x).map byteV) :: [Base W]) w, leftN m.toNat, ⟨none, 0, 0, rfl, by omega, OwnS.nil _ _ _ hS⟩, fun p' n' c' i w hI => ?_⟩
  obtain ⟨p, i, c, he, hi, hS⟩ := hI
  cases he
  refine Bif.i (fun hlt => ?_) fun hge => ?_
  · have hlt : i < m.toNat := by have := of_decide_eq_true hlt; omega
    refine put1 (x := x) rfl (by rw [rl]; omega) hS fun p2 c2 w hS => ⟨_, _, _, rfl, ?_⟩
    have e : List.replicate i x ++ [x] = List.replicate (i + 1) x := by rw [List.replicate_succ']
    have el : (List.replicate i x).length + 1 = (List.replicate (i + 1) x).length := by simp
    rw [e, el] at hS
    rw [up hlt (by omega)]
    exact ⟨⟨p2, i + 1, c2, by rw [el], by omega, hS⟩, by show m.toNat - (i + 1) < m.toNat - i; omega⟩
  have hl2 := rl i
  have hcl := (OwnS.le hS).2
  generalize List.replicate i x = xs at hS hl2 hcl
  have hr' := OwnS.rd (t := 5) (size := 1) (p := p') (n := xs.length) (c := c') (cs := xs.map byteV) [Base W]
  have hl := sha_len xs
  obtain ⟨sx, hsx⟩ : ∃ sx, sha xs = sx := ⟨_, rfl⟩
  rw [hsx] at hl
  have z : (arrB sx).size = 32 := by rw [arrB_size, hl]
  refine Bif.yes rfl ((sum_at hsx hr' hcl (by omega) hS).of fun v w ⟨hv, hS⟩ => ⟨_, z, hv, ?_⟩)
  have hR := RSum_spec (W := W) (c := c') hr' (by omega) hS
  rw [hsx] at hR
  refine hR.of fun v w ⟨hv, hS⟩ => ⟨_, z, hv, _, fun w => eqSum sx sx hl hl w, _, rfl, ?_, _, hS.drop⟩
  simp
theorem Join_walk {W : World} {p q : Option Addr} {xs ys : List UInt8} {c d : Nat} (hr : Rd [Base W] p (xs.map byteV)) (hc : xs.length ≤ c) (hcm : c ≤ 9223372036854775807) (hr2 : Rd [Base W] q (ys.map byteV)) (hd : ys.length ≤ d) (hdm : d ≤ 9223372036854775807) (hsm : xs.length + ys.length ≤ 9223372036854775807) :
    CallR Try.prog 7 #[.slice p xs.length c, .slice q ys.length d] W fun v w' => v = .bool true ∧ ∃ r, St W (Base W :: r) w' := by
  refine F7_of ((head_spec (St.base W)).of fun v w ⟨hv, hS⟩ => ⟨_, hv, ?_⟩)
  refine Bif.i (fun h => ⟨rfl, _, hS⟩) fun h => ?_
  have h := of_decide_eq_false h
  rw [w64 (by omega) (by omega)] at h
  refine (Hex_spec hr (by omega) hS).of fun v w ⟨hv, hS⟩ => ⟨_, hv, ?_⟩
  refine (Hex_spec hr2 (by omega) hS).of fun v w ⟨hv, hS⟩ => ⟨_, hv, ⟨by rw [mkS_size, mkS_size, hexP_len, hexP_len]; omega, ?_⟩⟩
  rw [mkS_append, ← hexP_app]
  have hu := Unhex_spec (W := W) (hexP (xs ++ ys)) (by rw [hexP_len, List.length_append]; omega) hS
  simp only [unh, unhex_hex] at hu
  refine hu.of fun v w ⟨p1, c1, hv, hS⟩ => ⟨_, _, _, _, hv, Bif.yes rfl (NewC.i hS fun b17 w hS => ?_)⟩
  have hS : St W (Row b17 5 [] :: OwnS 5 1 p1 (xs ++ ys).length c1 ((xs ++ ys).map byteV) :: [Base W]) w := hS
  refine append_sl uB (.inr ⟨_, uB⟩) iU8 sU8 zU8 rfl (OwnS.empty hS) (xs := xs.map byteV) (hr.cons _) (by simp) notAgg_byteV (by rw [bU8]; simp; omega) (by omega) fun p2 c2 w hS => ⟨_, _, _, rfl, ?_⟩
  refine append_sl uB (.inr ⟨_, uB⟩) iU8 sU8 zU8 rfl hS (xs := ys.map byteV) (hr2.cons _) (by simp) notAgg_byteV (by rw [bU8]; simp; omega) (by omega) fun p3 c3 w hS => ⟨_, _, _, rfl, ?_⟩
  have e : 0 + xs.length + ys.length = (xs ++ ys).length := by simp
  have hS : St W (OwnS 5 1 p3 (xs ++ ys).length c3 ((xs ++ ys).map byteV) :: OwnS 5 1 p1 (xs ++ ys).length c1 ((xs ++ ys).map byteV) :: [Base W]) w := by
    have h2 := hS
    rw [e, List.nil_append, ← List.map_append] at h2
    exact h2
  rw [e]
  refine (Hex_spec (Rd.n 0 rfl fun F => OwnS.rd F) (by simp; omega) hS).of fun v w ⟨hv, hS⟩ => ⟨_, hv, ⟨by rw [mkS_size, mkS_size, hexP_len, hexP_len]; omega, Bif.yes (beq_same ?_) (Bif.yes rfl ?_)⟩⟩
  · rfl
  refine str_rd uB uU8 uS hS (Rd.n 1 rfl fun F => OwnS.rd F) rfl ⟨_, rfl, ?_⟩
  refine str_rd uB uU8 uS hS ((hr.cons _).cons _) rfl ⟨_, rfl, ?_⟩
  refine str_rd uB uU8 uS hS ((hr2.cons _).cons _) rfl ⟨_, rfl, ⟨by rw [mkS_size, mkS_size]; omega, ?_, _, hS.p2⟩⟩
  rw [mkS_append, beq_self_eq_true]
end Go.Proofs.Ythnalgmkflflnaa
