/-
  Contracts: the first frame, the frame of bytes, and the document's.
-/
import Derived.Test.YtgjehbhjgogmfaaFrameP
import Derived.Test.YtgjehbhjgogmfaaFrameA
import Derived.Test.YtgjehbhjgogmfaaFns
set_option linter.unusedVariables false
set_option linter.unusedSimpArgs false
namespace Go.Proofs.Ytgjehbhjgogmfaa
open Go
theorem uB : Try.prog.underlying 22 = some (.slice 5) := Try.underlying22
theorem uU8 : Try.prog.underlying 5 = some (.int .u8) := Try.underlying5
theorem uS : Try.prog.underlying 9 = some .string := Try.underlying9
theorem iU8 : Try.prog.info? 5 = some Try.t5 := by kernel_rfl
theorem sU8 : Try.t5.size = 1 := rfl
theorem zU8 : Try.t5.zero = some (.int .u8 0) := rfl
theorem bU8 : Try.t5.bytes = 1 := rfl
/-- A slice of bytes of one's own. -/
abbrev OwnB (p : Option Addr) (c : Nat) (bs : List UInt8) : Asn := OwnS 5 1 p bs.length c (bs.map byteV)
section
variable {W w : World} {F : List Asn} {p : Option Addr} {n c : Nat} {bs : List UInt8}
/-- Bytes are put behind those of one's own. -/
theorem append_b {q sp : Option Addr} {d m sc : Nat} {xs ys : List UInt8} {R : Value → World → Prop} (hS : St W (OwnB q d xs :: F) w) (hr : Rd F sp (ys.map byteV)) (hl : ys.length = m) (hb : xs.length + ys.length ≤ 1000000)
    (hK : ∀ p' c' w', St W (OwnB p' c' (xs ++ ys) :: F) w' → R (.slice p' (xs ++ ys).length c') w') :
    Run Try.prog (Builtin.append_ #[22, 22] 22 #[.slice q xs.length d, .slice sp m sc]) w R := by
  refine append_sl uB (.inr ⟨_, uB⟩) iU8 sU8 zU8 rfl hS hr (by rw [List.length_map, hl, Nat.mul_one]) notAgg_byteV (by rw [bU8]; omega) (by omega) fun p' c' w' h => ?_
  have e : xs.length + m = (xs ++ ys).length := by rw [List.length_append, hl]
  rw [e, ← List.map_append] at h
  rw [e]
  exact hK p' c' w' h
theorem OwnB.of_new {b : Nat} (h : St W (Row b 5 (bs.map byteV) :: F) w) : St W (OwnB (some ⟨b, 0, none⟩) bs.length bs :: F) w :=
  OwnS.whole (by simp) h
theorem Clone_spec (hr : Rd F p (bs.map byteV)) (hl : bs.length = n) (hn : n ≤ 1000000) (hS : St W F w) :
    CallR Try.prog 18 #[.slice p n c] w fun v w' => ∃ p' c', v = .slice p' bs.length c' ∧ St W (OwnB p' c' bs :: F) w' := by
  subst hl
  refine F18_of (Bif.i (fun h => ?_) fun h => NewC.i hS fun b w hS => ?_)
  · cases p with
    | some a => cases h
    | none =>
      have hb := hr.nonePtr hS
      subst hb
      exact ⟨none, 0, rfl, OwnS.nil _ _ _ hS⟩
  · have hS : St W (OwnB (some ⟨b, 0, none⟩) 0 [] :: F) w := OwnB.of_new (bs := []) hS
    exact append_b (xs := []) hS hr rfl (by simp only [List.length_nil]; omega) fun p' c' w' h => ⟨_, _, _, rfl, p', c', rfl, h⟩
theorem First_spec (hr : Rd F p (bs.map byteV)) (hl : bs.length = n) (hc : n ≤ c) (hn : n ≤ 1000000) (hS : St W F w) :
    CallR Try.prog 10 #[.slice p n c] w fun v w' => ∃ p' c', v = .tuple #[.slice p' (firstP bs).1.length c', .int .i64 (firstP bs).2.1, .int .i64 (firstP bs).2.2] ∧ St W (OwnB p' c' (firstP bs).1 :: F) w' := by
  subst hl
  have none_ : ∀ (e : Int) (w : World), firstP bs = ([], 0, e) → St W F w → ∃ p' c', Value.tuple #[.slice none 0 0, .int .i64 0, .int .i64 e] = .tuple #[.slice p' (firstP bs).1.length c', .int .i64 (firstP bs).2.1, .int .i64 (firstP bs).2.2] ∧ St W (OwnB p' c' (firstP bs).1 :: F) w := fun e w h hS => by
    rw [h]; exact ⟨none, 0, rfl, OwnS.nil _ _ _ hS⟩
  refine F10_of (Bif.i (fun h => ?_) fun h => ?_)
  · have h : bs.length = 0 := by have : (bs.length : Int) = 0 := by simpa using h
                                 omega
    have hb := List.eq_nil_of_length_eq_zero h
    subst hb
    exact none_ 0 w rfl hS
  cases bs with
  | nil => simp at h
  | cons a r =>
    refine IxP.one hr hS (k := 0) rfl (by simp) (byte_get (i := 0) rfl) fun a3 h3 => LdI.at h3 (Bif.i (fun ha => ?_) fun ha => ?_)
    · have ha : a.toNat ≠ 170 := by have : (a.toNat : Int) ≠ 170 := by simpa using ha
                                    omega
      exact none_ 61 w (by simp only [firstP]; rw [if_pos ha]) hS
    have ha : ¬ a.toNat ≠ 170 := by have : (a.toNat : Int) = 170 := by simpa using ha
                                    omega
    refine Bif.i (fun h2 => ?_) fun h2 => ?_
    · have h2 := of_decide_eq_true h2
      rw [List.length_cons] at h2
      have hb := List.eq_nil_of_length_eq_zero (l := r) (by omega)
      subst hb
      exact none_ 0 w (by simp only [firstP]; rw [if_neg ha]) hS
    have h2 := of_decide_eq_false h2
    rw [List.length_cons] at h2 hc hn
    cases r with
    | nil => simp at h2
    | cons b s =>
      rw [List.length_cons] at h2 hc hn
      have hb0 : b.toNat < 256 := b.toNat_lt
      refine IxP.one hr hS (k := 1) rfl (by simp) (byte_get (i := 1) rfl) fun a5 h5 => LdI.at h5 ?_
      rw [w64 (n := (b.toNat : Int)) (by omega) (by omega), w64 (n := 2 + (b.toNat : Int)) (by omega) (by omega)]
      refine ⟨fun vs w => vs = [.bool (decide (b.toNat = 0 ∨ b.toNat > 200))] ∧ St W F w, Bif.i (fun h6 => ⟨?_, hS⟩) fun h6 => ⟨?_, hS⟩, fun x8 w hJ => ?_⟩
      · have h7 : (b.toNat : Int) = 0 := by simpa using h6
        rw [h6, decide_eq_true (.inl (by omega))]
      · have h7 : ¬ (b.toNat : Int) = 0 := by simpa using h6
        congr 2
        rw [decide_eq_decide]; omega
      obtain ⟨he, hS⟩ := hJ
      cases he
      refine Bif.i (fun h6 => ?_) fun h6 => ?_
      · have h6 := of_decide_eq_true h6
        exact none_ 61 w (by simp only [firstP]; rw [if_neg ha, if_pos h6]) hS
      have h6 := of_decide_eq_false h6
      refine Bif.i (fun h7 => ?_) fun h7 => ?_
      · have h7 := of_decide_eq_true h7
        exact none_ 0 w (by simp only [firstP]; rw [if_neg ha, if_neg h6, if_pos (by simp only [List.length_cons] at h7; omega)]) hS
      have h7 := of_decide_eq_false h7
      simp only [List.length_cons] at h7
      have hf : firstP (a :: b :: s) = (s.take b.toNat, 2 + b.toNat, 0) := by
        simp only [firstP]; rw [if_neg ha, if_neg h6, if_neg (by omega)]
      rw [hf]
      refine SlP.i (a := 2) (b := 2 + b.toNat) hr (by simp) (by simp only [List.length_cons]; omega) rfl (by omega) (by omega) (by simp only [List.length_cons]; omega) fun p' hr' => ?_
      have e1 : List.take ((2 + b.toNat - 2) * 1) (List.drop (2 * 1) ((a :: b :: s).map byteV)) = (s.take b.toNat).map byteV := by
        rw [Nat.mul_one, Nat.mul_one, Nat.add_sub_cancel_left, List.map_take]; rfl
      rw [e1] at hr'
      refine (Clone_spec hr' (by rw [List.length_take]; omega) (by omega) hS).of fun v w ⟨q, d, hv, hS⟩ => ⟨_, _, _, hv, q, d, ?_, hS⟩
      congr 3
theorem RFirst_spec (hr : Rd F p (bs.map byteV)) (hl : bs.length = n) (hc : n ≤ c) (hn : n ≤ 1000000) (hS : St W F w) :
    CallR Try.prog 11 #[.slice p n c] w fun v w' => ∃ p' c', v = .tuple #[.slice p' (firstP bs).1.length c', .int .i64 (firstP bs).2.1, .int .i64 (firstP bs).2.2] ∧ St W (OwnB p' c' (firstP bs).1 :: F) w' := by
  subst hl
  have none_ : ∀ (e : Int) (w : World), firstP bs = ([], 0, e) → St W F w → ∃ p' c', Value.tuple #[.slice none 0 0, .int .i64 0, .int .i64 e] = .tuple #[.slice p' (firstP bs).1.length c', .int .i64 (firstP bs).2.1, .int .i64 (firstP bs).2.2] ∧ St W (OwnB p' c' (firstP bs).1 :: F) w := fun e w h hS => by
    rw [h]; exact ⟨none, 0, rfl, OwnS.nil _ _ _ hS⟩
  cases bs with
  | nil =>
    refine F11_of ⟨fun vs w => vs = [] ∧ St W F w, Bif.no rfl (Bif.no rfl ⟨rfl, hS⟩), fun w hJ => Bif.yes rfl (none_ 0 w rfl hJ.2)⟩
  | cons a r =>
    refine F11_of ⟨fun vs w => vs = [] ∧ St W F w ∧ a.toNat = 170 ∧ ∀ b s, r = b :: s → ¬ (b.toNat = 0 ∨ b.toNat > 200), Bif.yes (by simp) ?_, fun w hJ => ?_⟩
    · refine IxP.one hr hS (k := 0) rfl (by simp) (byte_get (i := 0) rfl) fun a3 h3 => LdI.at h3 (Bif.i (fun ha => ?_) fun ha => ?_)
      · have ha : a.toNat ≠ 170 := by have : (a.toNat : Int) ≠ 170 := by simpa using ha
                                      omega
        exact none_ 61 w (by simp only [firstP]; rw [if_pos ha]) hS
      have ha : ¬ a.toNat ≠ 170 := by have : (a.toNat : Int) = 170 := by simpa using ha
                                      omega
      cases r with
      | nil => exact Bif.no (by simp) ⟨rfl, hS, by omega, fun b s h => by cases h⟩
      | cons b s =>
        refine Bif.yes (by simp only [List.length_cons]; exact decide_eq_true (by omega)) ?_
        refine IxP.one hr hS (k := 1) rfl (by simp) (byte_get (i := 1) rfl) fun a5 h5 => LdI.at h5 (Bif.i (fun h6 => ?_) fun h6 => ?_)
        · have h6 : (b.toNat : Int) = 0 := by simpa using h6
          exact none_ 61 w (by simp only [firstP]; rw [if_neg ha, if_pos (by omega)]) hS
        have h6 : ¬ (b.toNat : Int) = 0 := by simpa using h6
        refine IxP.one hr hS (k := 1) rfl (by simp) (byte_get (i := 1) rfl) fun a5 h5 => LdI.at h5 (Bif.i (fun h7 => ?_) fun h7 => ?_)
        · have h7 := of_decide_eq_true h7
          exact none_ 61 w (by simp only [firstP]; rw [if_neg ha, if_pos (by omega)]) hS
        have h7 := of_decide_eq_false h7
        exact ⟨rfl, hS, by omega, fun b' s' h => by cases h; omega⟩
    obtain ⟨_, hS, ha, hbs⟩ := hJ
    have ha : ¬ a.toNat ≠ 170 := by omega
    cases r with
    | nil => exact Bif.yes (by simp) (none_ 0 w (by simp only [firstP]; rw [if_neg ha]) hS)
    | cons b s =>
      have h6 := hbs b s rfl
      simp only [List.length_cons] at hc hn
      refine Bif.no (by simp only [List.length_cons]; exact decide_eq_false (by omega)) ?_
      have hb0 : b.toNat < 256 := b.toNat_lt
      refine IxP.one hr hS (k := 1) rfl (by simp) (byte_get (i := 1) rfl) fun a5 h5 => LdI.at h5 ?_
      rw [w64 (n := (b.toNat : Int)) (by omega) (by omega), w64 (n := 2 + (b.toNat : Int)) (by omega) (by omega)]
      refine Bif.i (fun h7 => ?_) fun h7 => ?_
      · have h7 := of_decide_eq_true h7
        exact none_ 0 w (by simp only [firstP]; rw [if_neg ha, if_neg h6, if_pos (by simp only [List.length_cons] at h7; omega)]) hS
      have h7 := of_decide_eq_false h7
      simp only [List.length_cons] at h7
      have hf : firstP (a :: b :: s) = (s.take b.toNat, 2 + b.toNat, 0) := by
        simp only [firstP]; rw [if_neg ha, if_neg h6, if_neg (by omega)]
      rw [hf]
      refine IxP.one hr hS (k := 1) rfl (by simp) (byte_get (i := 1) rfl) fun a5 h5 => LdI.at h5 (NewC.i hS fun b19 w hS => ?_)
      rw [w64 (n := (b.toNat : Int)) (by omega) (by omega), w64 (n := 2 + (b.toNat : Int)) (by omega) (by omega)]
      refine SlP.i (a := 2) (b := 2 + b.toNat) hr (by simp) (by simp only [List.length_cons]; omega) rfl (by omega) (by omega) (by simp only [List.length_cons]; omega) fun p' hr' => ?_
      have e1 : List.take ((2 + b.toNat - 2) * 1) (List.drop (2 * 1) ((a :: b :: s).map byteV)) = (s.take b.toNat).map byteV := by
        rw [Nat.mul_one, Nat.mul_one, Nat.add_sub_cancel_left, List.map_take]; rfl
      rw [e1] at hr'
      have hS : St W (OwnB (some ⟨b19, 0, none⟩) 0 [] :: F) w := OwnB.of_new (bs := []) hS
      refine append_b (xs := []) (ys := s.take b.toNat) hS hr' (by rw [List.length_take]; omega) (by rw [List.length_take]; simp only [List.length_nil]; omega) fun p' c' w' h => ⟨_, _, _, rfl, p', c', ?_, h⟩
      congr 3
theorem Put_spec (hr : Rd F p (bs.map byteV)) (hl : bs.length = n) (hS : St W F w) :
    CallR Try.prog 14 #[.slice p n c] w fun v w' => ∃ p' c', v = .slice p' (putP bs).length c' ∧ St W (OwnB p' c' (putP bs) :: F) w' := by
  subst hl
  refine F14_of (Bif.i (fun h => ?_) fun h => Bif.i (fun h2 => ?_) fun h2 => NewC.i hS fun b w hS => ?_)
  · have h : (bs.length : Int) = 0 := by simpa using h
    rw [putP_not (fun hf => by have := hf.1; omega)]
    exact ⟨none, 0, rfl, OwnS.nil _ _ _ hS⟩
  · have h2 := of_decide_eq_true h2
    rw [putP_not (fun hf => by have := hf.2; omega)]
    exact ⟨none, 0, rfl, OwnS.nil _ _ _ hS⟩
  · have h : ¬ (bs.length : Int) = 0 := by simpa using h
    have h2 := of_decide_eq_false h2
    have hf : Fine bs := ⟨by omega, by omega⟩
    rw [putP_fine hf]
    have e1 : IntKind.wrap .u8 (bs.length : Int) = ((UInt8.ofNat bs.length).toNat : Int) := by
      rw [ofLen hf.2]
      exact IntWalk.u8_in _ ⟨by omega, by omega⟩
    have hS : St W (OwnB (some ⟨b, 0, none⟩) 2 [170, UInt8.ofNat bs.length] :: F) w := by
      refine OwnB.of_new (bs := [170, UInt8.ofNat bs.length]) ?_
      have e2 : [170, UInt8.ofNat bs.length].map byteV = [Value.int .u8 170, Value.int .u8 (IntKind.wrap .u8 (bs.length : Int))] := by
        rw [e1]; rfl
      rw [e2]; exact hS
    exact append_b (xs := [170, UInt8.ofNat bs.length]) hS hr rfl (by simp only [List.length_cons, List.length_nil]; omega) fun p' c' w' h => ⟨_, _, _, rfl, p', c', rfl, h⟩
theorem RPut_spec (hr : Rd F p (bs.map byteV)) (hl : bs.length = n) (hS : St W F w) :
    CallR Try.prog 15 #[.slice p n c] w fun v w' => ∃ p' c', v = .slice p' (putP bs).length c' ∧ St W (OwnB p' c' (putP bs) :: F) w' := by
  subst hl
  refine F15_of (Bif.i (fun h => ?_) fun h => Bif.i (fun h2 => ?_) fun h2 => NewC.i hS fun b w hS => ?_)
  · have h : (bs.length : Int) = 0 := by simpa using h
    rw [putP_not (fun hf => by have := hf.1; omega)]
    exact ⟨none, 0, rfl, OwnS.nil _ _ _ hS⟩
  · have h2 := of_decide_eq_true h2
    rw [putP_not (fun hf => by have := hf.2; omega)]
    exact ⟨none, 0, rfl, OwnS.nil _ _ _ hS⟩
  · have h : ¬ (bs.length : Int) = 0 := by simpa using h
    have h2 := of_decide_eq_false h2
    have hf : Fine bs := ⟨by omega, by omega⟩
    rw [putP_fine hf]
    have e1 : IntKind.wrap .u8 (bs.length : Int) = ((UInt8.ofNat bs.length).toNat : Int) := by
      rw [ofLen hf.2]
      exact IntWalk.u8_in _ ⟨by omega, by omega⟩
    have hS : St W (OwnB (some ⟨b, 0, none⟩) 2 [170, UInt8.ofNat bs.length] :: F) w := by
      refine OwnB.of_new (bs := [170, UInt8.ofNat bs.length]) ?_
      have e2 : [170, UInt8.ofNat bs.length].map byteV = [Value.int .u8 170, Value.int .u8 (IntKind.wrap .u8 (bs.length : Int))] := by
        rw [e1]; rfl
      rw [e2]; exact hS
    exact append_b (xs := [170, UInt8.ofNat bs.length]) hS hr rfl (by simp only [List.length_cons, List.length_nil]; omega) fun p' c' w' h => ⟨_, _, _, rfl, p', c', rfl, h⟩
end
end Go.Proofs.Ytgjehbhjgogmfaa
