/-
  Contracts of proofs of words; lists of words.
-/
import Derived.Test.YtlkbjkmpanohfaaMacH
import Derived.Test.YtlkbjkmpanohfaaArgs
set_option linter.unusedVariables false
set_option linter.unusedSimpArgs false
namespace Go.Proofs.Ytlkbjkmpanohfaa
open Go
def strV (s : List UInt8) : Value := .string (mkS s)
def textP (s : List UInt8) : List UInt8 := UInt8.ofNat s.length :: s
def textsP (ws : List (List UInt8)) : List UInt8 := ws.flatMap textP
def shorts (ws : List (List UInt8)) : Bool := ws.all fun s => decide (s.length ≤ 255)
def proofP (k : List UInt8) (ws : List (List UInt8)) : List UInt8 := if shorts ws = true then hexP (macP k (textsP ws)) else []
def bulkW (ws : List (List UInt8)) : Nat := (ws.map fun s => s.length + 1).sum
theorem textsP_len (ws : List (List UInt8)) : (textsP ws).length = bulkW ws := by
  induction ws with
  | nil => rfl
  | cons s r ih =>
    unfold textsP bulkW at *
    rw [List.flatMap_cons, List.length_append, ih]
    simp [textP]
theorem bulkW_take (ws : List (List UInt8)) (i : Nat) : bulkW (ws.take i) ≤ bulkW ws := by
  have h : bulkW ws = bulkW (ws.take i) + bulkW (ws.drop i) := by
    have : bulkW (ws.take i ++ ws.drop i) = bulkW (ws.take i) + bulkW (ws.drop i) := by unfold bulkW; rw [List.map_append, List.sum_append]
    rwa [List.take_append_drop] at this
  omega
theorem bulkW_mem {ws : List (List UInt8)} {s : List UInt8} (h : s ∈ ws) : s.length + 1 ≤ bulkW ws := by
  induction ws with
  | nil => cases h
  | cons x r ih =>
    unfold bulkW at *
    simp only [List.map_cons, List.sum_cons]
    rcases List.mem_cons.1 h with rfl | h
    · omega
    · have := ih h; omega
theorem textsP_snoc (ws : List (List UInt8)) (i : Nat) {s : List UInt8} (h : ws[i]? = some s) : textsP (ws.take (i + 1)) = textsP (ws.take i) ++ textP s := by
  unfold textsP
  rw [List.take_add_one, h, List.flatMap_append]
  simp
theorem len_val (l : List UInt8) (h : l.length ≤ 255) : Value.int .u8 (IntKind.wrap .u8 (l.length : Int)) = byteV (UInt8.ofNat l.length) := by
  unfold byteV
  rw [UInt8.toNat_ofNat_of_lt' (by show l.length < 256; omega)]
  congr 1
  show (l.length : Int) % (2 ^ 8 : Int) = _
  omega
theorem Text_spec {W w : World} {F : List Asn} (l : List UInt8) (h : l.length ≤ 255) (hS : St W F w) :
    CallR Try.prog 37 #[.string (mkS l)] w fun v w' => ∃ p c, v = .slice p (textP l).length c ∧ St W (OwnS 5 1 p (textP l).length c ((textP l).map byteV) :: F) w' := by
  refine F37_of ?_
  unfold F37
  rw [mkS_size, len_val l h]
  refine Bif.no (decide_eq_false (by omega)) (NewC.i hS fun b3 w hS => ?_)
  have hS : St W (OwnS 5 1 (some ⟨b3, 0, none⟩) 1 1 [byteV (UInt8.ofNat l.length)] :: F) w := OwnS.whole rfl hS
  refine append_str uB uS iU8 sU8 zU8 rfl hS (by rw [bU8]; omega) (by omega) fun p c w hS => ⟨_, _, _, rfl, p, c, ?_, ?_⟩
  · rw [show (textP l).length = 1 + l.length by simp [textP]; omega]
  · rw [show (textP l).length = 1 + l.length by simp [textP]; omega]; exact hS
theorem RText_spec {W w : World} {F : List Asn} (l : List UInt8) (h : l.length ≤ 255) (hS : St W F w) :
    CallR Try.prog 20 #[.string (mkS l)] w fun v w' => ∃ p c, v = .slice p (textP l).length c ∧ St W (OwnS 5 1 p (textP l).length c ((textP l).map byteV) :: F) w' := by
  refine F20_of ?_
  unfold F20
  rw [mkS_size, len_val l h]
  refine Bif.no (decide_eq_false (by omega)) (NewC.i hS fun b3 w hS => ?_)
  have hS : St W (OwnS 5 1 (some ⟨b3, 0, none⟩) 1 1 [byteV (UInt8.ofNat l.length)] :: F) w := OwnS.whole rfl hS
  refine append_str uB uS iU8 sU8 zU8 rfl hS (by rw [bU8]; omega) (by omega) fun p c w hS => ⟨_, _, _, rfl, p, c, ?_, ?_⟩
  · rw [show (textP l).length = 1 + l.length by simp [textP]; omega]
  · rw [show (textP l).length = 1 + l.length by simp [textP]; omega]; exact hS
theorem shorts_take {ws : List (List UInt8)} {i : Nat} {s : List UInt8} (h : ws[i]? = some s) (hs : ¬ s.length ≤ 255) : shorts ws = false := by
  unfold shorts
  rw [List.all_eq_false]
  exact ⟨s, List.mem_of_getElem? h, by simpa using hs⟩
theorem shorts_all {ws : List (List UInt8)} (h : ∀ s ∈ ws, s.length ≤ 255) : shorts ws = true := by
  unfold shorts
  rw [List.all_eq_true]
  intro s hs; simpa using h s hs
theorem take_all {ws : List (List UInt8)} {i : Nat} {s : List UInt8} (h : ws[i]? = some s) (ha : ∀ s ∈ ws.take i, s.length ≤ 255) (hs : s.length ≤ 255) : ∀ s ∈ ws.take (i + 1), s.length ≤ 255 := fun x hx => by
  rw [List.take_add_one, h] at hx
  rcases List.mem_append.1 hx with hx | hx
  · exact ha x hx
  · simp at hx; subst hx; exact hs
theorem strV_get {ws : List (List UInt8)} {i : Nat} {s : List UInt8} (h : ws[i]? = some s) : (ws.map strV)[i]? = some (.string (mkS s)) := by rw [List.getElem?_map, h]; rfl
theorem bulk_short : ∀ {ws : List (List UInt8)}, (∀ s ∈ ws, s.length ≤ 255) → bulkW ws ≤ 256 * ws.length
  | [], _ => by simp [bulkW]
  | s :: r, h => by
    have ih := bulk_short (ws := r) fun x hx => h x (List.mem_cons_of_mem _ hx)
    have h1 := h s List.mem_cons_self
    unfold bulkW at ih ⊢
    simp only [List.map_cons, List.sum_cons, List.length_cons]
    omega
theorem Proof_spec {W w : World} {F : List Asn} {p q : Option Addr} {d e : Nat} {k : List UInt8} {ws : List (List UInt8)} (hr : Rd F p (k.map byteV)) (hd : k.length ≤ d) (hk : k.length ≤ 9223372036854775807) (hrw : Rd F q (ws.map strV)) (hwl : ws.length ≤ 1000) (hS : St W F w) :
    CallR Try.prog 31 #[.slice p k.length d, .slice q ws.length e] w fun v w' => v = .string (mkS (proofP k ws)) ∧ St W F w' := by
  refine F31_of ⟨fun vs w => ∃ p i c, vs = [.slice p (textsP (ws.take i)).length c, .int .i64 ((i : Nat) : Int)] ∧ i ≤ ws.length ∧ (∀ s ∈ ws.take i, s.length ≤ 255) ∧ St W (OwnS 5 1 p (textsP (ws.take i)).length c ((textsP (ws.take i)).map byteV) :: F) w, leftN ws.length, ⟨none, 0, 0, rfl, by omega, by simp, OwnS.nil _ _ _ hS⟩, fun p1 n1 c1 x w hI => ?_⟩
  obtain ⟨p2, i, c2, he, hi, ha, hS⟩ := hI
  cases he
  have hbl := textsP_len (ws.take i)
  have hbt := bulk_short ha
  rw [List.length_take] at hbt
  refine Bif.i (fun hlt => ?_) fun hge => ?_
  · have hlt : i < ws.length := by have := of_decide_eq_true hlt; omega
    have hx : ws[i]? = some (ws[i]'hlt) := List.getElem?_eq_getElem _
    generalize ws[i]'hlt = s at hx
    refine IxP.one (hrw.cons _) hS rfl hlt (strV_get hx) fun a ha' => LdS.at ha' ?_
    rw [mkS_size]
    refine Bif.i (fun h => ?_) fun h => ?_
    · have h := of_decide_eq_true h
      unfold proofP
      rw [shorts_take hx (by omega)]
      exact ⟨rfl, hS.drop⟩
    have h := of_decide_eq_false h
    refine (Text_spec s (by omega) hS).of fun v w ⟨p3, c3, hv, hS⟩ => ⟨_, _, _, hv, ?_⟩
    have hsn := textsP_snoc ws i hx
    have hbl2 := textsP_len (ws.take (i + 1))
    have hbt2 := bulk_short (take_all hx ha (by omega))
    rw [List.length_take] at hbt2
    have hle : (textsP (ws.take (i + 1))).length = (textsP (ws.take i)).length + (textP s).length := by rw [hsn, List.length_append]
    refine append_sl uB (.inr ⟨_, uB⟩) iU8 sU8 zU8 rfl hS.p1 (xs := (textP s).map byteV) (OwnS.rd F) (by simp) notAgg_byteV (by rw [bU8]; omega) (by omega) fun p4 c4 w hS => ⟨_, _, _, rfl, ?_⟩
    rw [← List.map_append, ← hsn, ← hle] at hS
    rw [up hlt (by omega), ← hle]
    exact ⟨⟨p4, i + 1, c4, rfl, by omega, take_all hx ha (by omega), hS.p1.drop⟩, by show ws.length - (i + 1) < ws.length - i; omega⟩
  have hi2 : i = ws.length := by have := of_decide_eq_false hge; omega
  subst hi2
  rw [List.take_length] at hS ha hbl hbt ⊢
  have hl := macP_len k (textsP ws)
  refine (Mac_spec (hr.cons _) hd (by omega) (OwnS.rd F) (OwnS.le hS).2 (by omega) hS).of fun v w ⟨hv, hS⟩ => ?_
  unfold proofP
  rw [if_pos (shorts_all ha)]
  generalize macP k (textsP ws) = m at hl hv ⊢
  have z : (arrB m).size = 32 := by rw [arrB_size, hl]
  refine ⟨_, z, hv, NewC.i hS fun b w hS => ⟨z, StA.r 0 hS rfl (by rw [z]; rfl) (arrB_notAgg _) fun w hS => ?_⟩⟩
  have hS : St W (Row b 57 (m.map byteV) :: OwnS 5 1 p1 (textsP ws).length c1 ((textsP ws).map byteV) :: F) w := hS
  refine SlP.allS 0 hS rfl (fun F => Rd.all) hl (Nat.le_refl _) rfl fun p' hr' => ?_
  exact (Hex_spec hr' (by omega) hS).of fun v w ⟨hv, hS⟩ => ⟨_, hv, rfl, St.dropL [_, _] hS⟩
theorem RProof_spec {W w : World} {F : List Asn} {p q : Option Addr} {d e : Nat} {k : List UInt8} {ws : List (List UInt8)} (hr : Rd F p (k.map byteV)) (hk : k.length ≤ 400000) (hrw : Rd F q (ws.map strV)) (hw : bulkW ws ≤ 400000) (hwl : ws.length ≤ 400000) (hS : St W F w) :
    CallR Try.prog 11 #[.slice p k.length d, .slice q ws.length e] w fun v w' => v = .string (mkS (proofP k ws)) ∧ St W F w' := by
  refine F11_of ⟨fun vs w => ∃ p i c, vs = [.slice p (textsP (ws.take i)).length c, .int .i64 ((i : Nat) : Int)] ∧ i ≤ ws.length ∧ (∀ s ∈ ws.take i, s.length ≤ 255) ∧ St W (OwnS 5 1 p (textsP (ws.take i)).length c ((textsP (ws.take i)).map byteV) :: F) w, leftN ws.length, ⟨none, 0, 0, rfl, by omega, by simp, OwnS.nil _ _ _ hS⟩, fun p1 n1 c1 x w hI => ?_⟩
  obtain ⟨p2, i, c2, he, hi, ha, hS⟩ := hI
  cases he
  have hbl := textsP_len (ws.take i)
  have hbt := bulkW_take ws i
  refine Bif.i (fun hlt => ?_) fun hge => ?_
  · have hlt : i < ws.length := by have := of_decide_eq_true hlt; omega
    have hx : ws[i]? = some (ws[i]'hlt) := List.getElem?_eq_getElem _
    generalize ws[i]'hlt = s at hx
    refine IxP.one (hrw.cons _) hS rfl hlt (strV_get hx) fun a ha' => LdS.at ha' ?_
    rw [mkS_size]
    refine Bif.i (fun h => ?_) fun h => ?_
    · have h := of_decide_eq_true h
      unfold proofP
      rw [shorts_take hx (by omega)]
      exact ⟨rfl, hS.drop⟩
    have h := of_decide_eq_false h
    refine IxP.one (hrw.cons _) hS rfl hlt (strV_get hx) fun a ha' => LdS.at ha' ?_
    refine (RText_spec s (by omega) hS).of fun v w ⟨p3, c3, hv, hS⟩ => ⟨_, _, _, hv, ?_⟩
    have hsn := textsP_snoc ws i hx
    have hbl2 := textsP_len (ws.take (i + 1))
    have hbt2 := bulkW_take ws (i + 1)
    have hle : (textsP (ws.take (i + 1))).length = (textsP (ws.take i)).length + (textP s).length := by rw [hsn, List.length_append]
    refine append_sl uB (.inr ⟨_, uB⟩) iU8 sU8 zU8 rfl hS.p1 (xs := (textP s).map byteV) (OwnS.rd F) (by simp) notAgg_byteV (by rw [bU8]; omega) (by omega) fun p4 c4 w hS => ⟨_, _, _, rfl, ?_⟩
    rw [← List.map_append, ← hsn, ← hle] at hS
    rw [up hlt (by omega), ← hle]
    exact ⟨⟨p4, i + 1, c4, rfl, by omega, take_all hx ha (by omega), hS.p1.drop⟩, by show ws.length - (i + 1) < ws.length - i; omega⟩
  have hi2 : i = ws.length := by have := of_decide_eq_false hge; omega
  subst hi2
  rw [List.take_length] at hS ha hbl hbt ⊢
  have hl := macP_len k (textsP ws)
  refine (RMac_spec (hr.cons _) (by omega) (OwnS.rd F) (by omega) hS).of fun v w ⟨hv, hS⟩ => ?_
  unfold proofP
  rw [if_pos (shorts_all ha)]
  generalize macP k (textsP ws) = m at hl hv ⊢
  have z : (arrB m).size = 32 := by rw [arrB_size, hl]
  refine ⟨_, z, hv, NewC.i hS fun b w hS => ⟨z, StA.r 0 hS rfl (by rw [z]; rfl) (arrB_notAgg _) fun w hS => ?_⟩⟩
  have hS : St W (Row b 57 (m.map byteV) :: OwnS 5 1 p1 (textsP ws).length c1 ((textsP ws).map byteV) :: F) w := hS
  refine SlP.allS 0 hS rfl (fun F => Rd.all) hl (Nat.le_refl _) rfl fun p' hr' => ?_
  exact (RHex_spec hr' (by omega) hS).of fun v w ⟨hv, hS⟩ => ⟨_, hv, rfl, St.dropL [_, _] hS⟩

end Go.Proofs.Ytlkbjkmpanohfaa
