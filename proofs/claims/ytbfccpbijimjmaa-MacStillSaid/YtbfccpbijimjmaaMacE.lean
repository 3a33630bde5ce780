/-
  Contracts of proofs of words; lists of words.
-/
import Derived.Test.YtbfccpbijimjmaaMacD
import Derived.Test.YtbfccpbijimjmaaArgs
set_option linter.unusedVariables false
set_option linter.unusedSimpArgs false
namespace Go.Proofs.Ytbfccpbijimjmaa
open Go
def strV (s : List UInt8) : Value := .string (mkS s)
def textP (s : List UInt8) : List UInt8 := UInt8.ofNat s.length :: s
def textsP (ws : List (List UInt8)) : List UInt8 := ws.flatMap textP
def shorts (ws : List (List UInt8)) : Bool := ws.all fun s => decide (s.length ≤ 255)
def proofP (k : List UInt8) (ws : List (List UInt8)) : List UInt8 := if shorts ws = true then hexP (macP k (textsP ws)) else []
def bulkW (ws : List (List UInt8)) : Nat := (ws.map fun s => s.length + 1).sum
theorem textsP_len (ws : List (List UInt8)) : (textsP ws).length = bulkW ws := by
  induction ws with
  | nil => rfl
  | cons s r ih =>
    unfold textsP bulkW at *
    rw [List.flatMap_cons, List.length_append, ih]
    simp [textP]
theorem bulkW_take (ws : List (List UInt8)) (i : Nat) : bulkW (ws.take i) ≤ bulkW ws := by
  have h : bulkW ws = bulkW (ws.take i) + bulkW (ws.drop i) := by
    have : bulkW (ws.take i ++ ws.drop i) = bulkW (ws.take i) + bulkW (ws.drop i) := by unfold bulkW; rw [List.map_append, List.sum_append]
    rwa [List.take_append_drop] at this
  omega
theorem bulkW_mem {ws : List (List UInt8)} {s : List UInt8} (h : s ∈ ws) : s.length + 1 ≤ bulkW ws := by
  induction ws with
  | nil => cases h
  | cons x r ih =>
    unfold bulkW at *
    simp only [List.map_cons, List.sum_cons]
    rcases List.mem_cons.1 h with rfl | h
    · omega
    · have := ih h; omega
theorem textsP_snoc (ws : List (List UInt8)) (i : Nat) {s : List UInt8} (h : ws[i]? = some s) : textsP (ws.take (i + 1)) = textsP (ws.take i) ++ textP s := by
  unfold textsP
  rw [List.take_add_one, h, List.flatMap_append]
  simp
theorem len_val (l : List UInt8) (h : l.length ≤ 255) : Value.int .u8 (IntKind.wrap .u8 (l.length : Int)) = byteV (UInt8.ofNat l.length) := by
  unfold byteV
  rw [UInt8.toNat_ofNat_of_lt' (by show l.length < 256; omega)]
  congr 1
  show (l.length : Int) % (2 ^ 8 : Int) = _
  omega
theorem Text_spec {W w : World} {F : List Asn} (l : List UInt8) (h : l.length ≤ 255) (hS : St W F w) :
    CallR Try.prog 22 #[.string (mkS l)] w fun v w' => ∃ p c, v = .slice p (textP l).length c ∧ St W (OwnS 5 1 p (textP l).length c ((textP l).map byteV) :: F) w' := by
  refine F22_of ?_
  unfold F22
  rw [mkS_size, len_val l h]
  refine Bif.no (decide_eq_false (by omega)) (NewC.i hS fun b3 w hS => ?_)
  have hS : St W (OwnS 5 1 (some ⟨b3, 0, none⟩) 1 1 [byteV (UInt8.ofNat l.length)] :: F) w := OwnS.whole rfl hS
  refine append_str uB uS iU8 sU8 zU8 rfl hS (by rw [bU8]; omega) (by omega) fun p c w hS => ⟨_, _, _, rfl, p, c, ?_, ?_⟩
  · rw [show (textP l).length = 1 + l.length by simp [textP]; omega]
  · rw [show (textP l).length = 1 + l.length by simp [textP]; omega]; exact hS
theorem RText_spec {W w : World} {F : List Asn} (l : List UInt8) (h : l.length ≤ 255) (hS : St W F w) :
    CallR Try.prog 24 #[.string (mkS l)] w fun v w' => ∃ p c, v = .slice p (textP l).length c ∧ St W (OwnS 5 1 p (textP l).length c ((textP l).map byteV) :: F) w' := by
  refine F24_of ?_
  unfold F24
  rw [mkS_size, len_val l h]
  refine Bif.no (decide_eq_false (by omega)) (NewC.i hS fun b3 w hS => ?_)
  have hS : St W (OwnS 5 1 (some ⟨b3, 0, none⟩) 1 1 [byteV (UInt8.ofNat l.length)] :: F) w := OwnS.whole rfl hS
  refine append_str uB uS iU8 sU8 zU8 rfl hS (by rw [bU8]; omega) (by omega) fun p c w hS => ⟨_, _, _, rfl, p, c, ?_, ?_⟩
  · rw [show (textP l).length = 1 + l.length by simp [textP]; omega]
  · rw [show (textP l).length = 1 + l.length by simp [textP]; omega]; exact hS
theorem shorts_take {ws : List (List UInt8)} {i : Nat} {s : List UInt8} (h : ws[i]? = some s) (hs : ¬ s.length ≤ 255) : shorts ws = false := by
  unfold shorts
  rw [List.all_eq_false]
  exact ⟨s, List.mem_of_getElem? h, by simpa using hs⟩
theorem shorts_all {ws : List (List UInt8)} (h : ∀ s ∈ ws, s.length ≤ 255) : shorts ws = true := by
  unfold shorts
  rw [List.all_eq_true]
  intro s hs; simpa using h s hs
theorem take_all {ws : List (List UInt8)} {i : Nat} {s : List UInt8} (h : ws[i]? = some s) (ha : ∀ s ∈ ws.take i, s.length ≤ 255) (hs : s.length ≤ 255) : ∀ s ∈ ws.take (i + 1), s.length ≤ 255 := fun x hx => by
  rw [List.take_add_one, h] at hx
  rcases List.mem_append.1 hx with hx | hx
  · exact ha x hx
  · simp at hx; subst hx; exact hs
theorem strV_get {ws : List (List UInt8)} {i : Nat} {s : List UInt8} (h : ws[i]? = some s) : (ws.map strV)[i]? = some (.string (mkS s)) := by rw [List.getElem?_map, h]; rfl
theorem Proof_spec {W w : World} {F : List Asn} {p q : Option Addr} {d e : Nat} {k : List UInt8} {ws : List (List UInt8)} (hr : Rd F p (k.map byteV)) (hd : k.length ≤ d) (hk : k.length ≤ 400000) (hrw : Rd F q (ws.map strV)) (hw : bulkW ws ≤ 400000) (hwl : ws.length ≤ 400000) (hS : St W F w) :
    CallR Try.prog 15 #[.slice p k.length d, .slice q ws.length e] w fun v w' => v = .string (mkS (proofP k ws)) ∧ St W F w' := by
  refine F15_of ⟨fun vs w => ∃ p i c, vs = [.slice p (textsP (ws.take i)).length c, .int .i64 ((i : Nat) : Int)] ∧ i ≤ ws.length ∧ (∀ s ∈ ws.take i, s.length ≤ 255) ∧ St W (OwnS 5 1 p (textsP (ws.take i)).length c ((textsP (ws.take i)).map byteV) :: F) w, leftN ws.length, ⟨none, 0, 0, rfl, by omega, by simp, OwnS.nil _ _ _ hS⟩, fun p1 n1 c1 x w hI => ?_⟩
  obtain ⟨p2, i, c2, he, hi, ha, hS⟩ := hI
  cases he
  have hbl := textsP_len (ws.take i)
  have hbt := bulkW_take ws i
  refine Bif.i (fun hlt => ?_) fun hge => ?_
  · have hlt : i < ws.length := by have := of_decide_eq_true hlt; omega
    have hx : ws[i]? = some (ws[i]'hlt) := List.getElem?_eq_getElem _
    generalize ws[i]'hlt = s at hx
    refine IxP.one (hrw.cons _) hS rfl hlt (strV_get hx) fun a ha' => LdS.at ha' ?_
    rw [mkS_size]
    refine Bif.i (fun h => ?_) fun h => ?_
    · have h := of_decide_eq_true h
      unfold proofP
      rw [shorts_take hx (by omega)]
      exact ⟨rfl, hS.drop⟩
    have h := of_decide_eq_false h
    refine (Text_spec s (by omega) hS).of fun v w ⟨p3, c3, hv, hS⟩ => ⟨_, _, _, hv, ?_⟩
    have hsn := textsP_snoc ws i hx
    have hbl2 := textsP_len (ws.take (i + 1))
    have hbt2 := bulkW_take ws (i + 1)
    have hle : (textsP (ws.take (i + 1))).length = (textsP (ws.take i)).length + (textP s).length := by rw [hsn, List.length_append]
    refine append_sl uB (.inr ⟨_, uB⟩) iU8 sU8 zU8 rfl hS.p1 (xs := (textP s).map byteV) (OwnS.rd F) (by simp) notAgg_byteV (by rw [bU8]; omega) (by omega) fun p4 c4 w hS => ⟨_, _, _, rfl, ?_⟩
    rw [← List.map_append, ← hsn, ← hle] at hS
    rw [up hlt (by omega), ← hle]
    exact ⟨⟨p4, i + 1, c4, rfl, by omega, take_all hx ha (by omega), hS.p1.drop⟩, by show ws.length - (i + 1) < ws.length - i; omega⟩
  have hi2 : i = ws.length := by have := of_decide_eq_false hge; omega
  subst hi2
  rw [List.take_length] at hS ha hbl hbt ⊢
  have hl := macP_len k (textsP ws)
  refine (Mac_spec (hr.cons _) hd (by omega) (OwnS.rd F) (OwnS.le hS).2 (by omega) hS).of fun v w ⟨hv, hS⟩ => ?_
  unfold proofP
  rw [if_pos (shorts_all ha)]
  generalize macP k (textsP ws) = m at hl hv ⊢
  have z : (arrB m).size = 32 := by rw [arrB_size, hl]
  refine ⟨_, z, hv, NewC.i hS fun b w hS => ⟨z, StA.r 0 hS rfl (by rw [z]; rfl) (arrB_notAgg _) fun w hS => ?_⟩⟩
  have hS : St W (Row b 26 (m.map byteV) :: OwnS 5 1 p1 (textsP ws).length c1 ((textsP ws).map byteV) :: F) w := hS
  refine SlP.allS 0 hS rfl (fun F => Rd.all) hl (Nat.le_refl _) rfl fun p' hr' => ?_
  exact (Hex_spec hr' (by omega) hS).of fun v w ⟨hv, hS⟩ => ⟨_, hv, rfl, St.dropL [_, _] hS⟩
theorem RProof_spec {W w : World} {F : List Asn} {p q : Option Addr} {d e : Nat} {k : List UInt8} {ws : List (List UInt8)} (hr : Rd F p (k.map byteV)) (hk : k.length ≤ 400000) (hrw : Rd F q (ws.map strV)) (hw : bulkW ws ≤ 400000) (hwl : ws.length ≤ 400000) (hS : St W F w) :
    CallR Try.prog 16 #[.slice p k.length d, .slice q ws.length e] w fun v w' => v = .string (mkS (proofP k ws)) ∧ St W F w' := by
  refine F16_of ⟨fun vs w => ∃ p i c, vs = [.slice p (textsP (ws.take i)).length c, .int .i64 ((i : Nat) : Int)] ∧ i ≤ ws.length ∧ (∀ s ∈ ws.take i, s.length ≤ 255) ∧ St W (OwnS 5 1 p (textsP (ws.take i)).length c ((textsP (ws.take i)).map byteV) :: F) w, leftN ws.length, ⟨none, 0, 0, rfl, by omega, by simp, OwnS.nil _ _ _ hS⟩, fun p1 n1 c1 x w hI => ?_⟩
  obtain ⟨p2, i, c2, he, hi, ha, hS⟩ := hI
  cases he
  have hbl := textsP_len (ws.take i)
  have hbt := bulkW_take ws i
  refine Bif.i (fun hlt => ?_) fun hge => ?_
  · have hlt : i < ws.length := by have := of_decide_eq_true hlt; omega
    have hx : ws[i]? = some (ws[i]'hlt) := List.getElem?_eq_getElem _
    generalize ws[i]'hlt = s at hx
    refine IxP.one (hrw.cons _) hS rfl hlt (strV_get hx) fun a ha' => LdS.at ha' ?_
    rw [mkS_size]
    refine Bif.i (fun h => ?_) fun h => ?_
    · have h := of_decide_eq_true h
      unfold proofP
      rw [shorts_take hx (by omega)]
      exact ⟨rfl, hS.drop⟩
    have h := of_decide_eq_false h
    refine IxP.one (hrw.cons _) hS rfl hlt (strV_get hx) fun a ha' => LdS.at ha' ?_
    refine (RText_spec s (by omega) hS).of fun v w ⟨p3, c3, hv, hS⟩ => ⟨_, _, _, hv, ?_⟩
    have hsn := textsP_snoc ws i hx
    have hbl2 := textsP_len (ws.take (i + 1))
    have hbt2 := bulkW_take ws (i + 1)
    have hle : (textsP (ws.take (i + 1))).length = (textsP (ws.take i)).length + (textP s).length := by rw [hsn, List.length_append]
    refine append_sl uB (.inr ⟨_, uB⟩) iU8 sU8 zU8 rfl hS.p1 (xs := (textP s).map byteV) (OwnS.rd F) (by simp) notAgg_byteV (by rw [bU8]; omega) (by omega) fun p4 c4 w hS => ⟨_, _, _, rfl, ?_⟩
    rw [← List.map_append, ← hsn, ← hle] at hS
    rw [up hlt (by omega), ← hle]
    exact ⟨⟨p4, i + 1, c4, rfl, by omega, take_all hx ha (by omega), hS.p1.drop⟩, by show ws.length - (i + 1) < ws.length - i; omega⟩
  have hi2 : i = ws.length := by have := of_decide_eq_false hge; omega
  subst hi2
  rw [List.take_length] at hS ha hbl hbt ⊢
  have hl := macP_len k (textsP ws)
  refine (RMac_spec (hr.cons _) (by omega) (OwnS.rd F) (by omega) hS).of fun v w ⟨hv, hS⟩ => ?_
  unfold proofP
  rw [if_pos (shorts_all ha)]
  generalize macP k (textsP ws) = m at hl hv ⊢
  have z : (arrB m).size = 32 := by rw [arrB_size, hl]
  refine ⟨_, z, hv, NewC.i hS fun b w hS => ⟨z, StA.r 0 hS rfl (by rw [z]; rfl) (arrB_notAgg _) fun w hS => ?_⟩⟩
  have hS : St W (Row b 26 (m.map byteV) :: OwnS 5 1 p1 (textsP ws).length c1 ((textsP ws).map byteV) :: F) w := hS
  refine SlP.allS 0 hS rfl (fun F => Rd.all) hl (Nat.le_refl _) rfl fun p' hr' => ?_
  exact (RHex_spec hr' (by omega) hS).of fun v w ⟨hv, hS⟩ => ⟨_, hv, rfl, St.dropL [_, _] hS⟩

/-! ### Lists of words that are handed in -/
theorem cS : Try.prog.cellsOf 9 = 1 := by kernel_rfl
theorem strs_open {H : Type} {enc : TypeId × Value → H} {W : World} {base b0 : Nat} {spare : Nat → Bool} {held : Bool} {r : _root_.Go.Reach} {v : Value} {d : DataW H} {ps : List MemPlace} (hval : Value.okWide Try.prog W r b0 23 v) (h : DataW.Trod enc Try.prog W base spare held 23 v d ps) :
    ∃ (p : Option Addr) (os : List (List UInt8)) (c : Nat), v = .slice p os.length c ∧ os.length ≤ c ∧ c ≤ 9223372036854775807 ∧ Rd [Base W] p (os.map strV) ∧ ∀ o ∈ os, o.length ≤ 9223372036854775807 := by
  obtain ⟨a, len, cap, rfl⟩ := WideShapes.okWide_slice Try.underlying23 hval
  obtain ⟨fuel, hf⟩ := h
  obtain ⟨p, xs, c, h1, h2, h3, h4, h5⟩ := sl_arg (fun x => [strV x]) (fun x => x.length ≤ 9223372036854775807) Try.underlying23 cS (by decide) (fun _ => rfl) (fun n cs' y hl ht => by
    obtain ⟨s, rfl, hs⟩ := str_arg uS ht
    refine ⟨s.data.toList, by unfold strV; rw [mkS_data], ?_⟩
    have : (mkS s.data.toList).size = s.size := by rw [mkS_data]
    rw [mkS_size] at this
    omega) hf
  simp [Value.cells] at h1
  obtain ⟨rfl, rfl, rfl⟩ := h1
  exact ⟨_, xs, _, rfl, h2, h3, by rwa [flat_one] at h4, h5⟩
def minW (ws : List (List UInt8)) : Nat := (ws.map fun s => min s.length 9000).sum
theorem minW_snoc (ws : List (List UInt8)) (i : Nat) {s : List UInt8} (h : ws[i]? = some s) : minW (ws.take (i + 1)) = minW (ws.take i) + min s.length 9000 := by
  unfold minW
  rw [List.take_add_one, h, List.map_append, List.sum_append]
  simp
theorem minW_bulk : ∀ ws : List (List UInt8), ws.length + minW ws < 9000 → bulkW ws < 9000
  | [], _ => by decide
  | s :: r, h => by
    unfold minW bulkW at *
    simp only [List.map_cons, List.sum_cons, List.length_cons] at h ⊢
    have ih := minW_bulk r (by unfold minW; omega)
    unfold bulkW at ih
    by_cases h9 : s.length < 9000
    · rw [Nat.min_eq_left (by omega)] at h
      have e : (r.map fun s => s.length + 1).sum = (r.map fun s => min s.length 9000).sum + r.length := by
        clear ih
        have hall : ∀ x ∈ r, x.length < 9000 := fun x hx => by
          rcases Nat.lt_or_ge x.length 9000 with h' | h'
          · exact h'
          · obtain ⟨l1, l2, rfl⟩ := List.append_of_mem hx
            simp only [List.map_append, List.map_cons, List.sum_append, List.sum_cons] at h
            rw [Nat.min_eq_right h'] at h
            omega
        clear h h9
        induction r with
        | nil => rfl
        | cons x r ih =>
          simp only [List.map_cons, List.sum_cons, List.length_cons]
          have h1 := hall x List.mem_cons_self
          have := ih fun y hy => hall y (List.mem_cons_of_mem _ hy)
          rw [Nat.min_eq_left (by omega)]
          omega
      rw [e]; omega
    · rw [Nat.min_eq_right (by omega)] at h
      omega
set_option maxRecDepth 20000 in
theorem greatW_spec {W w : World} {l : List Asn} {p : Option Addr} {ws : List (List UInt8)} {c : Nat} (hr : Rd l p (ws.map strV)) (hlen : ws.length ≤ 9223372036854775807) (hS : St W l w) :
    CallR Try.prog 10 #[.slice p ws.length c] w fun v w' => ∃ b, v = .bool b ∧ (b = false → bulkW ws < 9000 ∧ ws.length < 9000) ∧ St W l w' := by
  refine F10_of ⟨fun vs w => ∃ i n : Nat, vs = [.int .i64 n, .int .i64 i] ∧ i ≤ ws.length ∧ n = ws.length + minW (ws.take i) ∧ (n < 18000 ∨ i = 0) ∧ St W l w, leftN ws.length, ⟨0, _, rfl, by omega, by simp [minW], .inr rfl, hS⟩, fun n i w hI => ?_⟩
  obtain ⟨i, n, he, hi, hn, hb, hS⟩ := hI
  cases he
  have fin : ∀ (n : Nat), ∃ b, Value.bool (decide ((n : Int) ≥ 9000)) = .bool b ∧ (b = false → n < 9000) := fun n => ⟨decide ((n : Int) ≥ 9000), rfl, fun h => by have := of_decide_eq_false h; omega⟩
  obtain ⟨bb, hbb, hbf⟩ := fin n
  refine Bif.i (fun hlt => ?_) fun hge => ?_
  · have hlt : i < ws.length := by have := of_decide_eq_true hlt; omega
    generalize hd : decide ((n : Int) < 9000) = bd
    refine Bif.i (fun hlt2 => ?_) fun hge => ?_
    · rw [hlt2] at hd
      have hlt2 : n < 9000 := by have := of_decide_eq_true hd; omega
      have hx : ws[i]? = some (ws[i]'hlt) := List.getElem?_eq_getElem _
      generalize ws[i]'hlt = s at hx
      refine IxP.one hr hS rfl hlt (strV_get hx) fun a ha => LdS.at ha ?_
      rw [mkS_size]
      have e : (if (9000 : Int) < (s.length : Int) then (9000 : Int) else (s.length : Int)) = ((min s.length 9000 : Nat) : Int) := by
        split <;> omega
      have hs := minW_snoc ws i hx
      rw [e, up hlt hlen, w64 (by omega) (by omega)]
      exact ⟨⟨i + 1, n + min s.length 9000, by rw [show (n : Int) + ((min s.length 9000 : Nat) : Int) = ((n + min s.length 9000 : Nat) : Int) by omega], by omega, by omega, .inl (by omega), hS⟩, by show ws.length - (i + 1) < ws.length - i; omega⟩
    · rw [hge] at hd
      have h1 := of_decide_eq_false hd
      refine ⟨bb, hbb, fun h => ?_, hS⟩
      have := hbf h
      omega
  · have h1 := of_decide_eq_false hge
    refine ⟨bb, hbb, fun h => ?_, hS⟩
    have h2 := hbf h
    have : i = ws.length := by omega
    subst this
    rw [List.take_length] at hn
    exact ⟨minW_bulk ws (by omega), by omega⟩
end Go.Proofs.Ytbfccpbijimjmaa
