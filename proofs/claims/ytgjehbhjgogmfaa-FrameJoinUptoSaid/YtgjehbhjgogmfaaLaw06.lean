/-
  The walks of the laws of frames.
-/
import Derived.Test.YtgjehbhjgogmfaaFrameS
import Derived.Test.YtgjehbhjgogmfaaArgs
set_option linter.unusedVariables false
set_option linter.unusedSimpArgs false
namespace Go.Proofs.Ytgjehbhjgogmfaa
open Go
theorem cU8 : Try.prog.cellsOf 5 = 1 := by kernel_rfl
theorem cB : Try.prog.cellsOf 22 = 1 := by kernel_rfl
theorem head_cut : CutIs [170, 1, 7, 170, 1, 8, 9] [[7], [8]] 6 61 := ⟨by decide, by decide, [9], by decide, by decide⟩
section
variable {W w : World} {F : List Asn}
theorem head_spec (hS : St W F w) : CallR Try.prog 9 #[] w fun v w' => v = .bool true ∧ St W F w' := by
  refine F9_of (NewC.i hS fun b2 w hS => ?_)
  have hS : St W (Row b2 5 (([7] : List UInt8).map byteV) :: F) w := hS
  refine (Put_spec (bs := [7]) Rd.all rfl hS).of fun v w ⟨p1, c1, hv, hS⟩ => ⟨_, _, _, hv, NewC.i hS fun b7 w hS => ?_⟩
  have hS : St W (Row b7 5 (([170, 1, 7, 170] : List UInt8).map byteV) :: OwnB p1 c1 (putP [7]) :: Row b2 5 (([7] : List UInt8).map byteV) :: F) w := hS
  refine (First_spec (bs := [170, 1, 7, 170]) (c := 4) Rd.all rfl (by decide) (by decide) hS).of fun v w ⟨p2, c2, hv, hS⟩ => ⟨_, _, _, _, _, hv, NewC.i hS fun b14 w hS => ?_⟩
  have hS : St W (Row b14 5 (([170, 2, 7] : List UInt8).map byteV) :: OwnB p2 c2 [7] :: Row b7 5 (([170, 1, 7, 170] : List UInt8).map byteV) :: OwnB p1 c1 (putP [7]) :: Row b2 5 (([7] : List UInt8).map byteV) :: F) w := hS
  refine (First_spec (bs := [170, 2, 7]) (c := 3) Rd.all rfl (by decide) (by decide) hS).of fun v w ⟨p3, c3, hv, hS⟩ => ⟨_, _, _, _, _, hv, ?_⟩
  have hS := hS.drop.drop
  refine NewC.i hS fun b21 w hS => ?_
  have hS : St W (Row b21 5 (([170, 0] : List UInt8).map byteV) :: OwnB p2 c2 [7] :: Row b7 5 (([170, 1, 7, 170] : List UInt8).map byteV) :: OwnB p1 c1 (putP [7]) :: Row b2 5 (([7] : List UInt8).map byteV) :: F) w := hS
  refine (First_spec (bs := [170, 0]) (c := 2) Rd.all rfl (by decide) (by decide) hS).of fun v w ⟨p4, c4, hv, hS⟩ => ⟨_, _, _, _, _, hv, ?_⟩
  have hS := hS.drop.drop
  refine NewC.i hS fun b28 w hS => ?_
  have hS : St W (Row b28 5 (([170, 1, 7, 170, 1, 8, 9] : List UInt8).map byteV) :: OwnB p2 c2 [7] :: Row b7 5 (([170, 1, 7, 170] : List UInt8).map byteV) :: OwnB p1 c1 (putP [7]) :: Row b2 5 (([7] : List UInt8).map byteV) :: F) w := hS
  refine (Cut_spec (bs := [170, 1, 7, 170, 1, 8, 9]) (c := 7) Rd.all rfl (by decide) (by decide) hS).of fun v w ⟨p5, c5, L, m, e, hv, hcut, hS⟩ => ⟨_, _, _, _, _, hv, ?_⟩
  obtain ⟨e1, e2, e3⟩ := hcut.uniq head_cut
  have hLl : L.length = 2 := by
    have := congrArg List.length e1
    rw [List.length_map] at this
    exact this
  subst e2; subst e3
  have hS := hS.drop.drop.drop
  have hr1 : Rd (OwnB p2 c2 [7] :: Row b7 5 (([170, 1, 7, 170] : List UInt8).map byteV) :: OwnB p1 c1 (putP [7]) :: Row b2 5 (([7] : List UInt8).map byteV) :: F) p1 ((putP [7]).map byteV) := Rd.n 2 rfl fun F => OwnS.rd F
  have hr2 : Rd (OwnB p2 c2 [7] :: Row b7 5 (([170, 1, 7, 170] : List UInt8).map byteV) :: OwnB p1 c1 (putP [7]) :: Row b2 5 (([7] : List UInt8).map byteV) :: F) p2 (([7] : List UInt8).map byteV) := Rd.n 0 rfl fun F => OwnS.rd F
  have ep : putP [7] = [170, 1, 7] := by decide
  refine Bif.yes (by rw [ep]; rfl) (IxP.one hr1 hS (k := 0) rfl (by rw [ep]; decide) (byte_get (x := 170) (by rw [ep]; rfl)) fun a ha => LdI.at ha (Bif.yes rfl ?_))
  refine IxP.one hr1 hS (k := 1) rfl (by rw [ep]; decide) (byte_get (x := 1) (by rw [ep]; rfl)) fun a ha => LdI.at ha (Bif.yes rfl ?_)
  refine IxP.one hr1 hS (k := 2) rfl (by rw [ep]; decide) (byte_get (x := 7) (by rw [ep]; rfl)) fun a ha => LdI.at ha (Bif.yes rfl (Bif.yes rfl ?_))
  refine IxP.one hr2 hS (k := 0) rfl (by decide) (byte_get (x := 7) rfl) fun a ha => LdI.at ha (Bif.yes rfl (Bif.yes rfl (Bif.yes rfl (Bif.yes rfl (Bif.yes rfl (Bif.yes rfl (Bif.yes ?_ (Bif.yes rfl ⟨rfl, ?_⟩))))))))
  · rw [hLl]; rfl
  · exact hS.drop.drop.drop.drop
end
section
variable {W : World} {p : Option Addr} {xs : List UInt8} {c : Nat}
theorem Tells_walk (hr : Rd [Base W] p (xs.map byteV)) (hc : xs.length ≤ c) (hcm : c ≤ 9223372036854775807) :
    CallR Try.prog 3 #[.slice p xs.length c] W fun v w' => v = .bool true ∧ ∃ r, St W (Base W :: r) w' := by
  refine F3_of ((head_spec (St.base W)).of fun v w ⟨hv, hS⟩ => ⟨_, hv, Bif.i (fun h => ⟨rfl, [], hS⟩) fun h => ?_⟩)
  have h := of_decide_eq_false h
  refine (First_spec hr rfl hc (by omega) hS).of fun v w ⟨p1, c1, hv, hS⟩ => ⟨_, _, _, _, _, hv, ?_⟩
  refine (RFirst_spec (hr.cons _) rfl hc (by omega) hS).of fun v w ⟨p2, c2, hv, hS⟩ => ⟨_, _, _, _, _, hv, ?_⟩
  refine (Cut_spec ((hr.cons _).cons _) rfl hc (by omega) hS).of fun v w ⟨p3, c3, L, m, e, hv, hcut, hS⟩ => ⟨_, _, _, _, _, hv, ?_⟩
  refine (RCut_spec ((((hr.cons _).cons _).cons _).cons _) rfl hc (by omega) hS).of fun v w ⟨p4, c4, M, m', e', hv, hcut', hS⟩ => ⟨_, _, _, _, _, hv, ?_⟩
  obtain ⟨e1, e2, e3⟩ := hcut.uniq hcut'
  subst e2; subst e3
  have hLl : L.length ≤ 1000000 := by
    have h1 := encs_len_ge hcut.fine
    have h2 := hcut.le.1
    have h3 := hcut.len
    rw [List.length_map] at h1
    omega
  have hC := Is.refl W [SlA 22 1 slV p4 c4 M, ctsA M, SlA 22 1 slV p3 c3 L, ctsA L, OwnB p2 c2 (firstP xs).1, OwnB p1 c1 (firstP xs).1, Base W]
  have hr6 : Rd [SlA 22 1 slV p4 c4 M, ctsA M, SlA 22 1 slV p3 c3 L, ctsA L, OwnB p2 c2 (firstP xs).1, OwnB p1 c1 (firstP xs).1, Base W] p (xs.map byteV) := (((((hr.cons _).cons _).cons _).cons _).cons _).cons _
  refine ⟨StC W _, StC.start hS, Bif.yes rfl ?_⟩
  refine Ef.n0 (α := Option Addr × Nat) (V := fun y => .slice y.1 (putP xs).length y.2) (B := fun y => [OwnB y.1 y.2 (putP xs), SlA 22 1 slV p4 c4 M, ctsA M, SlA 22 1 slV p3 c3 L, ctsA L, OwnB p2 c2 (firstP xs).1, OwnB p1 c1 (firstP xs).1, Base W]) (none, 0) hC
    (fun G w h => (Put_spec (hr6.app (pts G)) rfl h).of fun v w' ⟨q, d, hv, h⟩ => ⟨_, _, _, hv, (q, d), rfl, h⟩) fun y => ⟨_, _, _, rfl, trivial, ?_⟩
  refine ⟨_, QtStr (Is.refl W _) (Rd.n 0 rfl fun F => OwnS.rd F) rfl, ?_⟩
  refine Ef.n0 (α := Option Addr × Nat) (V := fun z => .slice z.1 (putP xs).length z.2) (B := fun z => [OwnB z.1 z.2 (putP xs), OwnB y.1 y.2 (putP xs), SlA 22 1 slV p4 c4 M, ctsA M, SlA 22 1 slV p3 c3 L, ctsA L, OwnB p2 c2 (firstP xs).1, OwnB p1 c1 (firstP xs).1, Base W]) (none, 0) (Is.refl W _)
    (fun G w h => (RPut_spec ((hr6.cons _).app (pts G)) rfl h).of fun v w' ⟨q, d, hv, h⟩ => ⟨_, _, _, hv, (q, d), rfl, h⟩) fun z => ⟨_, _, _, rfl, ?_⟩
  have hC2 := Is.refl W [OwnB z.1 z.2 (putP xs), OwnB y.1 y.2 (putP xs), SlA 22 1 slV p4 c4 M, ctsA M, SlA 22 1 slV p3 c3 L, ctsA L, OwnB p2 c2 (firstP xs).1, OwnB p1 c1 (firstP xs).1, Base W]
  refine ⟨QtStr hC2 (Rd.n 1 rfl fun F => OwnS.rd F) rfl, _, QtStr hC2 (Rd.n 0 rfl fun F => OwnS.rd F) rfl, Bif.yes (by rw [str_beq]; exact decide_eq_true rfl) ?_⟩
  refine ⟨_, QtStr hC2 (Rd.n 7 rfl fun F => OwnS.rd F) rfl, _, QtStr hC2 (Rd.n 6 rfl fun F => OwnS.rd F) rfl, Bif.yes (by rw [str_beq]; exact decide_eq_true rfl) (Bif.yes (by simp) (Bif.yes (by simp) ?_))⟩
  refine Ef.n0 (α := Unit) (V := fun _ => .bool true) (B := fun _ => [OwnB z.1 z.2 (putP xs), OwnB y.1 y.2 (putP xs), SlA 22 1 slV p4 c4 M, ctsA M, SlA 22 1 slV p3 c3 L, ctsA L, OwnB p2 c2 (firstP xs).1, OwnB p1 c1 (firstP xs).1, Base W]) () hC2
    (fun G w h => (Same_spec (A := L) (B := M) (Rd.n 4 rfl fun F => SlA.rd F) (Rd.n 2 rfl fun F => SlA.rd F) (fun d hd => Rd.n 5 rfl fun F => ctsA.rd hd F) (fun d hd => Rd.n 3 rfl fun F => ctsA.rd hd F) hLl h).of fun v w' ⟨hv, h⟩ => ⟨_, hv, (), by rw [decide_eq_true e1], h⟩) fun _ => ⟨_, rfl, trivial, Bif.yes rfl (Bif.yes (by simp) fun G w h => ⟨by simp, _, (StC.ends h).at 8 rfl⟩)⟩
theorem Cuts_walk (hr : Rd [Base W] p (xs.map byteV)) (hc : xs.length ≤ c) (hcm : c ≤ 9223372036854775807) :
    CallR Try.prog 8 #[.slice p xs.length c] W fun v w' => v = .bool true ∧ ∃ r, St W (Base W :: r) w' := by
  refine F8_of ((head_spec (St.base W)).of fun v w ⟨hv, hS⟩ => ⟨_, hv, (Put_spec hr rfl hS).of fun v w ⟨q, d, hv, hS⟩ => ⟨_, _, _, hv, ?_⟩⟩)
  have hd := (OwnS.le hS).2
  have hpl : (putP xs).length ≤ 202 := by
    by_cases hf : Fine xs
    · rw [putP_len hf]; have := hf.2; omega
    · rw [putP_not hf]; simp
  refine ⟨fun vs w => ∃ i : Nat, vs = [.int .i64 i] ∧ i ≤ (putP xs).length ∧ St W [OwnB q d (putP xs), Base W] w, leftN (putP xs).length, ⟨0, rfl, by omega, hS⟩, fun x w hI => ?_⟩
  clear hS
  obtain ⟨i, he, hi, hS⟩ := hI
  cases he
  have hrq : Rd [OwnB q d (putP xs), Base W] q ((putP xs).map byteV) := Rd.n 0 rfl fun F => OwnS.rd F
  refine Bif.i (fun hlt => ?_) fun hge => ?_
  · have hlt : i < (putP xs).length := by have := of_decide_eq_true hlt; omega
    have hf : Fine xs := by
      apply Decidable.byContradiction
      intro hf
      rw [putP_not hf] at hlt
      simp at hlt
    refine SlP.i (a := 0) (b := i) hrq (by simp) hd rfl rfl (by omega) (by omega) fun p' hr' => ?_
    rw [Nat.zero_mul, List.drop_zero, Nat.sub_zero, Nat.mul_one, ← List.map_take] at hr'
    refine (First_spec hr' (by rw [List.length_take]; omega) (by omega) (by omega) hS).of fun v w ⟨p1, c1, hv, hS⟩ => ⟨_, _, _, _, _, hv, ?_⟩
    rw [first_part hf hlt] at hS ⊢
    refine Bif.no rfl (Bif.no rfl (Bif.no rfl ?_))
    rw [up hlt (by omega)]
    exact ⟨⟨i + 1, rfl, by omega, hS.drop⟩, by show (putP xs).length - (i + 1) < (putP xs).length - i; omega⟩
  · refine (First_spec hrq rfl hd (by omega) hS).of fun v w ⟨p1, c1, hv, hS⟩ => ⟨_, _, _, _, _, hv, ?_⟩
    by_cases hf : Fine xs
    · have h1 := first_put hf []
      rw [List.append_nil] at h1
      rw [h1] at hS ⊢
      have hl := putP_len hf
      refine Bif.yes rfl (Bif.yes rfl (Bif.yes (by rw [hl]; simp) (Bif.no (by rw [hl]; simp; omega) ?_)))
      refine str_rd uB uU8 uS hS (Rd.n 0 rfl fun F => OwnS.rd F) rfl ⟨_, rfl, ?_⟩
      refine str_rd uB uU8 uS hS ((hr.cons _).cons _) rfl ⟨_, rfl, ?_, _, hS.p2⟩
      rw [str_beq, decide_eq_true rfl]
    · rw [putP_not hf] at hS ⊢
      exact Bif.yes rfl (Bif.yes rfl (Bif.yes rfl (Bif.yes rfl ⟨rfl, _, hS.p2⟩)))
theorem Prefix_walk (hr : Rd [Base W] p (xs.map byteV)) (hc : xs.length ≤ c) (hcm : c ≤ 9223372036854775807) :
    CallR Try.prog 6 #[.slice p xs.length c] W fun v w' => v = .bool true ∧ ∃ r, St W (Base W :: r) w' := by
  refine F6_of ((head_spec (St.base W)).of fun v w ⟨hv, hS⟩ => ⟨_, hv, Bif.i (fun h => ⟨rfl, [], hS⟩) fun h => ?_⟩)
  have h := of_decide_eq_false h
  refine (Cut_spec hr rfl hc (by omega) hS).of fun v w ⟨p3, c3, L, m, e, hv, hcut, hS⟩ => ⟨_, _, _, _, _, hv, ?_⟩
  obtain ⟨hm, ht, hd⟩ := hcut.le
  have hLl : L.length ≤ 1000000 := by
    have h1 := encs_len_ge hcut.fine
    have h3 := hcut.len
    rw [List.length_map] at h1
    omega
  refine Bif.no (decide_eq_false (by omega)) (Bif.no (decide_eq_false (by omega)) ?_)
  have hel : ∀ k, (encs ((L.take k).map (·.bs))).length ≤ m := fun k => by
    have e1 : encs (L.map (·.bs)) = encs ((L.take k).map (·.bs)) ++ encs ((L.drop k).map (·.bs)) := by rw [← encs_append, ← List.map_append, List.take_append_drop]
    rw [hcut.len, e1, List.length_append]; omega
  refine ⟨fun vs w => ∃ (k : Nat) (q : Option Addr) (d : Nat), vs = [.slice q (encs ((L.take k).map (·.bs))).length d, .int .i64 k] ∧ k ≤ L.length ∧ St W [OwnB q d (encs ((L.take k).map (·.bs))), SlA 22 1 slV p3 c3 L, ctsA L, Base W] w, leftN L.length, ⟨0, none, 0, rfl, by omega, OwnS.nil _ _ _ hS⟩, fun ap an ac x w hI => ?_⟩
  clear hS
  obtain ⟨k, q, d, he, hk, hS⟩ := hI
  cases he
  refine Bif.i (fun hlt => ?_) fun hge => ?_
  · have hlt : k < L.length := by have := of_decide_eq_true hlt; omega
    have hx : L[k]? = some (L[k]'hlt) := List.getElem?_eq_getElem _
    generalize L[k]'hlt = y at hx
    have hy := List.mem_of_getElem? hx
    have hel1 := hel (k + 1)
    have hel0 := hel k
    have etk : encs ((L.take (k + 1)).map (·.bs)) = encs ((L.take k).map (·.bs)) ++ putP y.bs := by rw [take_one hx, List.map_append, encs_append]; show _ ++ encs [y.bs] = _; rw [encs_one]
    refine IxP.one (Rd.n 1 rfl fun F => SlA.rd F) hS rfl hlt (sl_at hx) fun a ha => LdL.at ha ?_
    refine (Put_spec (Rd.n 2 rfl fun F => ctsA.rd hy F) rfl hS).of fun v w ⟨p4, c4, hv, hS⟩ => ⟨_, _, _, hv, ?_⟩
    refine append_b hS.p1 (Rd.n 0 rfl fun F => OwnS.rd F) rfl (by rw [etk, List.length_append] at hel1; omega) fun p5 c5 w hS => ⟨_, _, _, rfl, ?_⟩
    rw [← etk] at hS ⊢
    rw [up hlt (by omega)]
    exact ⟨⟨k + 1, p5, c5, rfl, by omega, St.del 1 hS rfl⟩, by show L.length - (k + 1) < L.length - k; omega⟩
  · have hk2 : k = L.length := by have := of_decide_eq_false hge; omega
    subst hk2
    rw [List.take_length] at hS ⊢
    rw [← ht] at hS ⊢
    have hr3 : Rd [OwnB ap ac (xs.take m), SlA 22 1 slV p3 c3 L, ctsA L, Base W] p (xs.map byteV) := ((hr.cons _).cons _).cons _
    refine SlP.from hr3 rfl hc rfl rfl hm fun p6 hr6 => ?_
    refine (First_spec hr6 (by rw [List.length_drop]) (by omega) (by omega) hS).of fun v w ⟨p7, c7, hv, hS⟩ => ⟨_, _, _, _, _, hv, ?_⟩
    have h1 : (firstP (xs.drop m)).1 = [] := first_none (by rw [hd])
    rw [h1] at hS
    rw [h1, hd]
    have hC := Is.refl W [OwnB p7 c7 [], OwnB ap ac (xs.take m), SlA 22 1 slV p3 c3 L, ctsA L, Base W]
    refine ⟨StC W _, StC.start hS, Bif.yes rfl ?_⟩
    refine SlP.i (a := 0) (b := m) (hr3.cons (OwnB p7 c7 [])) (by simp) hc rfl rfl (by omega) hm fun p8 hr8 => ?_
    rw [Nat.zero_mul, List.drop_zero, Nat.sub_zero, Nat.mul_one, ← List.map_take] at hr8
    refine ⟨_, QtStr hC (Rd.n 1 rfl fun F => OwnS.rd F) rfl, _, QtStr hC hr8 (by rw [List.length_take]; omega), Bif.yes (by rw [str_beq]; exact decide_eq_true rfl) (Bif.yes rfl (Bif.yes rfl fun G w h => ⟨by simp, _, (StC.ends h).at 4 rfl⟩))⟩
end
end Go.Proofs.Ytgjehbhjgogmfaa
