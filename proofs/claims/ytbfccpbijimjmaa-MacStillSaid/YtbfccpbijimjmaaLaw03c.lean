/-
  The walk of the law of words.
-/
import Derived.Test.YtbfccpbijimjmaaLaw03b
set_option linter.unusedVariables false
set_option linter.unusedSimpArgs false
namespace Go.Proofs.Ytbfccpbijimjmaa
open Go
theorem len_any (l : List UInt8) : Value.int .u8 (IntKind.wrap .u8 (l.length : Int)) = byteV (UInt8.ofNat l.length) := by
  unfold byteV
  rw [UInt8.toNat_ofNat']
  congr 1
theorem shorts_snoc (ws : List (List UInt8)) (i : Nat) {s : List UInt8} (h : ws[i]? = some s) : shorts (ws.take (i + 1)) = (shorts (ws.take i) && decide (s.length ≤ 255)) := by
  unfold shorts
  rw [List.take_add_one, h, List.all_append]
  simp
theorem Words_walk {W : World} {p r : Option Addr} {k : List UInt8} {ws : List (List UInt8)} {c e : Nat} (hr : Rd [Base W] p (k.map byteV)) (hc : k.length ≤ c) (hcm : c ≤ 9223372036854775807)
    (hr3 : Rd [Base W] r (ws.map strV)) (he : ws.length ≤ e) (hem : e ≤ 9223372036854775807) (hok : ∀ o ∈ ws, o.length ≤ 9223372036854775807) :
    CallR Try.prog 5 #[.slice p k.length c, .slice r ws.length e] W fun v w' => v = .bool true ∧ ∃ r, St W (Base W :: r) w' := by
  refine F5_of ((head_spec (St.base W)).of fun v w ⟨hv, hS⟩ => ⟨_, hv, ?_⟩)
  refine Bif.i (fun h => ⟨rfl, _, hS⟩) fun h => ?_
  have h := of_decide_eq_false h
  refine (greatW_spec hr3 (by omega) hS).of fun v w ⟨g, hv, hg, hS⟩ => ⟨_, hv, Bif.i (fun _ => ⟨rfl, _, hS⟩) fun hgf => ?_⟩
  obtain ⟨hg1, hg2⟩ := hg hgf
  refine ⟨fun vs w => ∃ p i c, vs = [.slice p (textsP (ws.take i)).length c, .bool (!shorts (ws.take i)), .int .i64 ((i : Nat) : Int)] ∧ i ≤ ws.length ∧ St W [OwnS 5 1 p (textsP (ws.take i)).length c ((textsP (ws.take i)).map byteV), Base W] w, leftN ws.length, ⟨none, 0, 0, rfl, by omega, OwnS.nil _ _ _ hS⟩, fun p1 n1 c1 lg x w hI => ?_⟩
  obtain ⟨p2, i, c2, he, hi, hS⟩ := hI
  cases he
  have hbl := textsP_len (ws.take i)
  have hbt := bulkW_take ws i
  refine Bif.i (fun hlt => ?_) fun hge => ?_
  · have hlt : i < ws.length := by have := of_decide_eq_true hlt; omega
    have hx : ws[i]? = some (ws[i]'hlt) := List.getElem?_eq_getElem _
    generalize ws[i]'hlt = s at hx
    have hsh := shorts_snoc ws i hx
    refine ⟨fun vs w => vs = [.bool (!shorts (ws.take (i + 1)))] ∧ St W [OwnS 5 1 p1 (textsP (ws.take i)).length c1 ((textsP (ws.take i)).map byteV), Base W] w, Bif.i (fun hlg => ?_) fun hlg => ?_, fun lg2 w hJ => ?_⟩
    · have : shorts (ws.take i) = false := by simpa using hlg
      refine ⟨?_, hS⟩
      rw [hsh, this]; rfl
    · have : shorts (ws.take i) = true := by simpa using hlg
      refine IxP.one (hr3.cons _) hS rfl hlt (strV_get hx) fun a ha => LdS.at ha ⟨?_, hS⟩
      rw [hsh, this, mkS_size, Bool.true_and]
      by_cases h5 : s.length ≤ 255
      · rw [decide_eq_true h5, decide_eq_false (by omega)]; rfl
      · rw [decide_eq_false h5, decide_eq_true (by omega)]; rfl
    obtain ⟨he, hS⟩ := hJ
    cases he
    have hC := Is.refl W [OwnS 5 1 p1 (textsP (ws.take i)).length c1 ((textsP (ws.take i)).map byteV), Base W]
    have hsn := textsP_snoc ws i hx
    have hbl2 := textsP_len (ws.take (i + 1))
    have hbt2 := bulkW_take ws (i + 1)
    have htl : (textP s).length = 1 + s.length := by simp [textP]; omega
    have hle : (textsP (ws.take (i + 1))).length = (textsP (ws.take i)).length + 1 + s.length := by rw [hsn, List.length_append, htl]; omega
    refine ⟨StC W _, StC.start hS, IxP.base hr3 rfl hlt (strV_get hx) fun a22 h22 => IxP.base hr3 rfl hlt (strV_get hx) fun a23 h23 => ⟨mkS s, fun G w hw => LdS.at (h22 (by simp) ((hC G w).1 hw)) ⟨rfl, hw⟩, mkS s, fun G w hw => LdS.at (h23 (by simp) ((hC G w).1 hw)) ⟨rfl, hw⟩, fun b32 => ?_⟩⟩
    rw [mkS_size, len_any]
    refine Ef.n0 (α := Option Addr × Nat) (V := fun y => .slice y.1 ((textsP (ws.take i)).length + 1) y.2) (B := fun y => [OwnS 5 1 y.1 ((textsP (ws.take i)).length + 1) y.2 ((textsP (ws.take i) ++ [UInt8.ofNat s.length]).map byteV), Base W]) (none, 0) (hC.push b32 _) (fun G w h => ?_) fun y => ⟨_, _, _, rfl, fun G w hw => ?_, ?_⟩
    · have h : St W (Pt b32 (.cells #[byteV (UInt8.ofNat s.length)] 5) :: OwnS 5 1 p1 (textsP (ws.take i)).length c1 ((textsP (ws.take i)).map byteV) :: (Base W :: pts G)) w := h
      refine append_sl uB (.inr ⟨_, uB⟩) iU8 sU8 zU8 rfl (h.imp Pt.row).p1 (xs := [UInt8.ofNat s.length].map byteV) (m := 1) Rd.all rfl notAgg_byteV (by rw [bU8]; omega) (by omega) fun p3 c3 w' h => ⟨_, _, _, rfl, (p3, c3), rfl, ?_⟩
      rw [List.map_append]; exact h.p1.drop
    · exact LdS.at (h23 (by simp) hw) ⟨rfl, hw⟩
    refine Ef.n0 (α := Option Addr × Nat) (V := fun y => .slice y.1 (textsP (ws.take (i + 1))).length y.2) (B := fun y => [OwnS 5 1 y.1 (textsP (ws.take (i + 1))).length y.2 ((textsP (ws.take (i + 1))).map byteV), Base W]) (none, 0) (Is.refl W _) (fun G w h => ?_) fun y => ⟨_, _, _, rfl, trivial, fun G w h => ?_⟩
    · refine append_str uB uS iU8 sU8 zU8 rfl h (by rw [bU8]; omega) (by omega) fun p4 c4 w h => ⟨_, _, _, rfl, (p4, c4), ?_, ?_⟩
      · rw [hle]
      · have e : (textsP (ws.take i) ++ [UInt8.ofNat s.length]).map byteV ++ s.map byteV = (textsP (ws.take (i + 1))).map byteV := by
          rw [hsn, ← List.map_append, List.append_assoc]; rfl
        rw [e] at h
        rw [hle]; exact h
    · rw [up hlt (by omega)]
      exact ⟨⟨y.1, i + 1, y.2, rfl, by omega, StC.ends h⟩, by show ws.length - (i + 1) < ws.length - i; omega⟩
  have hi2 : i = ws.length := by have := of_decide_eq_false hge; omega
  subst hi2
  rw [List.take_length] at hS hbl hbt ⊢
  refine (Proof_spec (hr.cons _) hc (by omega) (hr3.cons _) (by omega) (by omega) hS).of fun v w ⟨hv, hS⟩ => ⟨_, hv, Bif.i (fun hlg => Bif.yes rfl ?_) fun hlg => ?_⟩
  · have : shorts ws = false := by simpa using hlg
    unfold proofP
    rw [this]
    refine ⟨?_, _, hS.p1⟩
    rw [if_neg (by simp), beq_same (a := mkS []) (b := ⟨#[]⟩) rfl]
  · have : shorts ws = true := by simpa using hlg
    have hl := macP_len k (textsP ws)
    unfold proofP
    rw [if_pos this]
    obtain ⟨m, hm⟩ : ∃ m, macP k (textsP ws) = m := ⟨_, rfl⟩
    rw [hm] at hl ⊢
    have z : (arrB m).size = 32 := by rw [arrB_size, hl]
    refine (mac_at hm (hr.cons _) rfl hc (by omega) (OwnS.rd _) rfl (OwnS.le hS).2 (by omega) hS).of fun v w ⟨hv, hS⟩ => ⟨_, z, hv, NewC.i hS fun b62 w hS => ⟨z, StA.r 0 hS rfl (by rw [z]; rfl) (arrB_notAgg _) fun w hS => Bif.yes rfl ?_⟩⟩
    have hS : St W [Row b62 26 (m.map byteV), OwnS 5 1 p1 (textsP ws).length c1 ((textsP ws).map byteV), Base W] w := hS
    refine SlP.allS 0 hS rfl (fun F => Rd.all) hl (Nat.le_refl _) rfl fun p' hr' => ?_
    refine (RHex_spec hr' (by omega) hS).of fun v w ⟨hv, hS⟩ => ⟨_, hv, ?_, _, hS.p2⟩
    rw [beq_same rfl]
end Go.Proofs.Ytbfccpbijimjmaa
