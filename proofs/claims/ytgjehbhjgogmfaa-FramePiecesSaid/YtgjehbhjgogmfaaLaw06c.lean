/-
  The walks of the laws of frames: pieces; two rows of bytes.
-/
import Derived.Test.YtgjehbhjgogmfaaLaw06b
set_option linter.unusedVariables false
set_option linter.unusedSimpArgs false
namespace Go.Proofs.Ytgjehbhjgogmfaa
open Go
theorem take_more {α : Type} (l : List α) (a k : Nat) : l.take (a + k) = l.take a ++ (l.drop a).take k := List.take_add
section
variable {W : World}
theorem Pieces_walk {p q : Option Addr} {xs cuts : List UInt8} {c d : Nat} (hr : Rd [Base W] p (xs.map byteV)) (hc : xs.length ≤ c) (hcm : c ≤ 9223372036854775807) (hr2 : Rd [Base W] q (cuts.map byteV)) (hd : cuts.length ≤ d) (hdm : d ≤ 9223372036854775807) :
    CallR Try.prog 5 #[.slice p xs.length c, .slice q cuts.length d] W fun v w' => v = .bool true ∧ ∃ r, St W (Base W :: r) w' := by
  refine F5_of ((head_spec (St.base W)).of fun v w ⟨hv, hS⟩ => ⟨_, hv, Bif.i (fun h => ⟨rfl, [], hS⟩) fun h => Bif.i (fun h2 => ⟨rfl, [], hS⟩) fun h2 => ?_⟩)
  have h := of_decide_eq_false h
  have h2 := of_decide_eq_false h2
  refine ⟨fun vs w => ∃ (gp : Option Addr) (gc : Nat) (L : List SD) (bad : Int) (n : Nat), vs = [.slice gp L.length gc, .int .i64 bad] ∧ CutIs xs (L.map (·.bs)) n bad ∧ St W [SlA 22 1 slV gp gc L, ctsA L, Base W] w, ?_, fun gp gn gc bad w hJ => ?_⟩
  · refine ⟨fun vs w => ∃ (i at_ : Nat) (lp : Option Addr) (lc : Nat) (left : List UInt8) (gp : Option Addr) (gc : Nat) (L : List SD) (bad : Int), vs = [.slice lp left.length lc, .slice gp L.length gc, .int .i64 at_, .int .i64 bad, .int .i64 i] ∧ i ≤ cuts.length + 1 ∧ at_ ≤ xs.length ∧ (i = cuts.length + 1 → at_ = xs.length) ∧
        (∀ x ∈ L.map (·.bs), Fine x) ∧ xs.take at_ = encs (L.map (·.bs)) ++ left ∧ (firstP left).2 = (0, bad) ∧ St W [OwnB lp lc left, SlA 22 1 slV gp gc L, ctsA L, Base W] w, leftN (cuts.length + 2),
      ⟨0, 0, none, 0, [], none, 0, [], 0, rfl, by omega, by omega, by omega, by simp, rfl, rfl, OwnS.nil _ _ _ (SlA.nil (ctsA.nil hS))⟩, fun lp ln lc gp gn gc at0 bad i0 w hI => ?_⟩
    clear hS
    obtain ⟨i, at_, lp', lc', left, gp', gc', L, bad', he, hi, hat, hend, hfine, hxs, hbad, hS⟩ := hI
    cases he
    have hlen : (encs (L.map (·.bs))).length + left.length = at_ := by
      have := congrArg List.length hxs
      rw [List.length_append, List.length_take] at this
      omega
    have hLl : L.length ≤ xs.length := by
      have := encs_len_ge hfine
      rw [List.length_map] at this
      omega
    have hcut0 : CutIs (xs.take at_) (L.map (·.bs)) (encs (L.map (·.bs))).length bad := ⟨hfine, rfl, left, hxs, hbad⟩
    refine Bif.i (fun hle => Bif.i (fun hb0 => ?_) fun hb0 => ?_) fun hgt => ?_
    · have hle : i ≤ cuts.length := by have := of_decide_eq_true hle; omega
      have hb0 : bad = 0 := by simpa using hb0
      refine ⟨fun vs w => ∃ k : Nat, vs = [.int .i64 k] ∧ at_ + k ≤ xs.length ∧ (i = cuts.length → at_ + k = xs.length) ∧ St W [OwnB lp lc left, SlA 22 1 slV gp gc L, ctsA L, Base W] w, Bif.i (fun hlt => ?_) fun hge => ?_, fun n w hJ => ?_⟩
      · have hlt : i < cuts.length := by have := of_decide_eq_true hlt; omega
        have hx : cuts[i]? = some (cuts[i]'hlt) := List.getElem?_eq_getElem _
        generalize cuts[i]'hlt = x at hx
        have hx0 : x.toNat < 256 := x.toNat_lt
        refine IxP.one (((hr2.cons _).cons _).cons _) hS rfl hlt (byte_get hx) fun a ha => LdI.at ha ?_
        rw [w64 (n := (x.toNat : Int)) (by omega) (by omega), w64 (n := (xs.length : Int) - (at_ : Int)) (by omega) (by omega)]
        by_cases hm : (xs.length : Int) - (at_ : Int) < (x.toNat : Int)
        · rw [if_pos hm]
          exact ⟨xs.length - at_, by congr 2; omega, by omega, fun _ => by omega, hS⟩
        · rw [if_neg hm]
          exact ⟨x.toNat, rfl, by omega, fun _ => by omega, hS⟩
      · rw [w64 (n := (xs.length : Int) - (at_ : Int)) (by omega) (by omega)]
        exact ⟨xs.length - at_, by congr 2; omega, by omega, fun _ => by omega, hS⟩
      clear hS
      obtain ⟨k, he, hk, hkend, hS⟩ := hJ
      cases he
      rw [w64 (n := (at_ : Int) + (k : Int)) (by omega) (by omega)]
      have hr3 : Rd [SlA 22 1 slV gp gc L, ctsA L, Base W] p (xs.map byteV) := (hr.cons _).cons _
      refine SlP.i (a := at_) (b := at_ + k) hr3 (by simp) hc rfl (by omega) (by omega) (by omega) fun p' hr' => ?_
      rw [Nat.mul_one, Nat.mul_one, Nat.add_sub_cancel_left, ← List.map_drop, ← List.map_take] at hr'
      rw [Nat.add_sub_cancel_left]
      refine append_b hS hr' (by rw [List.length_take, List.length_drop]; omega) (by rw [List.length_take, List.length_drop]; omega) fun p1 c1 w hS => ⟨_, _, _, rfl, ?_⟩
      have hxs2 : xs.take (at_ + k) = encs (L.map (·.bs)) ++ (left ++ (xs.drop at_).take k) := by rw [take_more, hxs, List.append_assoc]
      have hl2 : (left ++ (xs.drop at_).take k).length ≤ 9000 := by
        have := congrArg List.length hxs2
        rw [List.length_append, List.length_take] at this
        omega
      generalize left ++ (xs.drop at_).take k = left2 at hS hxs2 hl2 ⊢
      have hle2 := (OwnS.le hS).2
      refine (Cut_spec (Rd.n 0 rfl fun F => OwnS.rd F) rfl hle2 (by omega) hS).of fun v w ⟨p3, c3, M, m, e, hv, hcut, hS⟩ => ⟨_, _, _, _, _, hv, ?_⟩
      obtain ⟨hm1, hm2, hm3⟩ := hcut.le
      have hMl : M.length ≤ 9000 := by
        have h1 := encs_len_ge hcut.fine
        have h3 := hcut.len
        rw [List.length_map] at h1
        omega
      refine Bif.no (decide_eq_false (by omega)) (Bif.no (decide_eq_false (by omega)) ?_)
      refine append_el (os := L) (xs := M) slV1 uBs (.inr ⟨_, uBs⟩) iB sB zB rfl 3 hS rfl (Rd.n 0 rfl fun F => SlA.rd F) rfl slVn (by rw [bB]; omega) (by omega) fun p4 c4 w hS => ⟨_, _, _, rfl, NewC.i hS fun b33 w hS => ?_⟩
      have hS : St W [OwnB (some ⟨b33, 0, none⟩) 0 [], SlA 22 1 slV p3 c3 M, ctsA M, OwnB p1 c1 left2, SlA 22 1 slV p4 c4 (L ++ M), ctsA L, Base W] w := OwnB.of_new (bs := []) hS
      have hrl : Rd [SlA 22 1 slV p3 c3 M, ctsA M, OwnB p1 c1 left2, SlA 22 1 slV p4 c4 (L ++ M), ctsA L, Base W] p1 (left2.map byteV) := Rd.n 2 rfl fun F => OwnS.rd F
      refine SlP.from hrl rfl hle2 rfl rfl hm1 fun p5 hr5 => ?_
      refine append_b (xs := []) hS hr5 (by rw [List.length_drop]) (by rw [List.length_drop]; simp only [List.length_nil]; omega) fun p6 c6 w hS => ⟨_, _, _, rfl, ?_⟩
      rw [List.nil_append] at hS ⊢
      have hS := ctsA.app (L := L) (M := M) (St.mv 2 1 (St.mv 3 0 (St.del 2 (St.del 1 hS rfl) rfl) rfl) rfl)
      have hS := St.mv 0 2 hS rfl
      have eat : ((at_ : Int) + (k : Int)) = ((at_ + k : Nat) : Int) := by push_cast; rfl
      rw [eat, show IntKind.wrap .i64 ((i : Int) + 1) = ((i + 1 : Nat) : Int) by rw [w64 (by omega) (by omega)]; omega]
      refine ⟨⟨i + 1, at_ + k, p6, c6, left2.drop m, p4, c4, L ++ M, e, rfl, by omega, by omega, fun h => hkend (by omega), fun y hy => ?_, ?_, hm3, hS⟩, by show cuts.length + 2 - (i + 1) < cuts.length + 2 - i; omega⟩
      · rw [List.map_append] at hy
        exact (List.mem_append.1 hy).elim (hfine y) (hcut.fine y)
      · rw [hxs2, List.map_append, encs_append, List.append_assoc, ← hm2, List.take_append_drop]
    · have hb0 : bad ≠ 0 := by simpa using hb0
      have := cut_err (b := xs.drop at_) hcut0 hb0
      rw [List.take_append_drop] at this
      exact ⟨gp, gc, L, bad, _, rfl, this, hS.drop⟩
    · have hi2 : i = cuts.length + 1 := by have := of_decide_eq_false hgt; omega
      rw [hend hi2, List.take_length] at hcut0
      exact ⟨gp, gc, L, bad, _, rfl, hcut0, hS.drop⟩
  clear hS
  obtain ⟨gp', gc', L, bad', n, he, hcut, hS⟩ := hJ
  cases he
  have hLl : L.length ≤ 1000000 := by
    have h1 := encs_len_ge hcut.fine
    have h2 := hcut.le.1
    have h3 := hcut.len
    rw [List.length_map] at h1
    omega
  refine (Cut_spec (((hr.cons _).cons _)) rfl hc (by omega) hS).of fun v w ⟨p3, c3, M, m, e, hv, hcut2, hS⟩ => ⟨_, _, _, _, _, hv, Bif.yes rfl ?_⟩
  obtain ⟨e1, e2, e3⟩ := hcut.uniq hcut2
  refine (Same_spec (Rd.n 2 rfl fun F => SlA.rd F) (Rd.n 0 rfl fun F => SlA.rd F) (fun d hd => Rd.n 3 rfl fun F => ctsA.rd hd F) (fun d hd => Rd.n 1 rfl fun F => ctsA.rd hd F) hLl hS).of fun v w ⟨hv, hS⟩ => ⟨_, hv, Bif.yes (decide_eq_true e1) ⟨by rw [e3]; simp, _, hS.p4⟩⟩
theorem Join_walk {p q : Option Addr} {xs ys : List UInt8} {c d : Nat} (hr : Rd [Base W] p (xs.map byteV)) (hc : xs.length ≤ c) (hcm : c ≤ 9223372036854775807) (hr2 : Rd [Base W] q (ys.map byteV)) (hd : ys.length ≤ d) (hdm : d ≤ 9223372036854775807) (hsm : xs.length + ys.length ≤ 9223372036854775807) :
    CallR Try.prog 7 #[.slice p xs.length c, .slice q ys.length d] W fun v w' => v = .bool true ∧ ∃ r, St W (Base W :: r) w' := by
  refine F7_of ((head_spec (St.base W)).of fun v w ⟨hv, hS⟩ => ⟨_, hv, ?_⟩)
  rw [w64 (n := (xs.length : Int) + (ys.length : Int)) (by omega) (by omega)]
  refine Bif.i (fun h => ⟨rfl, [], hS⟩) fun h => ?_
  have h := of_decide_eq_false h
  refine (Cut_spec hr rfl hc (by omega) hS).of fun v w ⟨p1, c1, L, n, e, hv, hcut, hS⟩ => ⟨_, _, _, _, _, hv, Bif.i (fun _ => ⟨rfl, _, hS.p2⟩) fun he => Bif.i (fun _ => ⟨rfl, _, hS.p2⟩) fun hn => ?_⟩
  have he : e = 0 := by simpa using he
  have hn : n = xs.length := by have : (n : Int) = (xs.length : Int) := by simpa using hn
                                omega
  subst he
  have hxs : xs = encs (L.map (·.bs)) := by
    have := hcut.le.2.1
    rw [hn, List.take_length] at this
    exact this
  refine (Cut_spec ((hr2.cons _).cons _) rfl hd (by omega) hS).of fun v w ⟨p2, c2, M, k, f, hv, hcut2, hS⟩ => ⟨_, _, _, _, _, hv, NewC.i hS fun b17 w hS => ?_⟩
  have hS : St W [OwnB (some ⟨b17, 0, none⟩) 0 [], SlA 22 1 slV p2 c2 M, ctsA M, SlA 22 1 slV p1 c1 L, ctsA L, Base W] w := OwnB.of_new (bs := []) hS
  refine append_b (xs := []) hS ((((hr.cons _).cons _).cons _).cons _) rfl (by simp only [List.length_nil]; omega) fun p3 c3 w hS => ⟨_, _, _, rfl, ?_⟩
  rw [List.nil_append] at hS ⊢
  refine append_b hS ((((hr2.cons _).cons _).cons _).cons _) rfl (by omega) fun p4 c4 w hS => ⟨_, _, _, rfl, ?_⟩
  have hle := (OwnS.le hS).2
  refine (Cut_spec (Rd.n 0 rfl fun F => OwnS.rd F) rfl hle (by rw [List.length_append]; omega) hS).of fun v w ⟨p5, c5, N, m, g, hv, hcut3, hS⟩ => ⟨_, _, _, _, _, hv, Bif.yes rfl (NewC.i hS fun b30 w hS => ?_)⟩
  have hall := cut_join (n := 0) hxs hcut.fine hcut2
  obtain ⟨e1, e2, e3⟩ := hcut3.uniq hall
  have hLl : L.length ≤ 20000 := by
    have h1 := encs_len_ge hcut.fine
    have h3 := hcut.len
    rw [List.length_map] at h1
    omega
  have hMl : M.length ≤ 20000 := by
    have h1 := encs_len_ge hcut2.fine
    have h2 := hcut2.le.1
    have h3 := hcut2.len
    rw [List.length_map] at h1
    omega
  have hNl : N.length ≤ 1000000 := by
    have := congrArg List.length e1
    rw [List.length_append, List.length_map, List.length_map, List.length_map] at this
    omega
  have hS : St W [SlA 22 1 slV (some ⟨b30, 0, none⟩) 0 ([] : List SD), SlA 22 1 slV p5 c5 N, ctsA N, OwnB p4 c4 (xs ++ ys), SlA 22 1 slV p2 c2 M, ctsA M, SlA 22 1 slV p1 c1 L, ctsA L, Base W] w := SlA.of_row (os := []) slV1 hS
  refine append_el (os := ([] : List SD)) (xs := L) slV1 uBs (.inr ⟨_, uBs⟩) iB sB zB rfl 0 hS rfl (Rd.n 5 rfl fun F => SlA.rd F) rfl slVn (by rw [bB, List.length_nil]; omega) (by rw [List.length_nil]; omega) fun p6 c6 w hS => ⟨_, _, _, rfl, ?_⟩
  rw [List.nil_append] at hS ⊢
  refine append_el (os := L) (xs := M) slV1 uBs (.inr ⟨_, uBs⟩) iB sB zB rfl 0 hS rfl (Rd.n 3 rfl fun F => SlA.rd F) rfl slVn (by rw [bB]; omega) (by omega) fun p7 c7 w hS => ⟨_, _, _, rfl, ?_⟩
  have hS : St W [SlA 22 1 slV p7 c7 (L ++ M), SlA 22 1 slV p5 c5 N, ctsA N, OwnB p4 c4 (xs ++ ys), SlA 22 1 slV p2 c2 M, ctsA M, SlA 22 1 slV p1 c1 L, ctsA L, Base W] w := hS
  refine (Same_spec (A := N) (B := L ++ M) (Rd.n 1 rfl fun F => SlA.rd F) (Rd.n 0 rfl fun F => SlA.rd F) (fun d hd => Rd.n 2 rfl fun F => ctsA.rd hd F) (fun d hd => ?_) hNl hS).of fun v w ⟨hv, hS⟩ => ⟨_, hv, Bif.yes (decide_eq_true (by rw [e1, List.map_append])) (Bif.yes ?_ ⟨?_, _, hS.at 8 rfl⟩)⟩
  · rcases List.mem_append.1 hd with hd | hd
    · exact Rd.n 7 rfl fun F => ctsA.rd hd F
    · exact Rd.n 5 rfl fun F => ctsA.rd hd F
  · have hk := hcut2.le.1
    rw [w64 (by omega) (by omega), e2, hn]
    simp
  · rw [e3]; simp
end
end Go.Proofs.Ytgjehbhjgogmfaa
