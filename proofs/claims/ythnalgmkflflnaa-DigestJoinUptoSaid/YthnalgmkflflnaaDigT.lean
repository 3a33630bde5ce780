/-
  Digits of bytes, and bytes of digits: the program's and the document's.
-/
import Derived.Test.YthnalgmkflflnaaDigS
set_option linter.unusedVariables false
set_option linter.unusedSimpArgs false
namespace Go.Proofs.Ythnalgmkflflnaa
open Go
def digs : ByteArray := ⟨#[48, 49, 50, 51, 52, 53, 54, 55, 56, 57, 97, 98, 99, 100, 101, 102]⟩
theorem digs_at : ∀ k : Fin 16, digs.get! k.val = hexB k.val := by decide +kernel
theorem IxS.hex {i : Int} {k : Nat} {K : UInt8 → Prop} (hi : i = (k : Int)) (hk : k < 16) (hK : K (hexB k)) : IxS digs i K := by
  subst hi
  refine ⟨⟨by omega, by show (k : Int) < 16; omega⟩, ?_⟩
  rw [Int.toNat_natCast, digs_at ⟨k, hk⟩]; exact hK
theorem IxS.at {l : List UInt8} {i : Int} {k : Nat} {x : UInt8} {K : UInt8 → Prop} (hi : i = (k : Int)) (hx : l[k]? = some x) (hK : K x) : IxS (mkS l) i K := by
  subst hi
  obtain ⟨h1, h2⟩ := List.getElem?_eq_some_iff.1 hx
  refine ⟨⟨by omega, by rw [mkS_size]; omega⟩, ?_⟩
  have : (mkS l).get! (Int.toNat (k : Int)) = x := by
    rw [Int.toNat_natCast]
    unfold mkS ByteArray.get!
    simp [h1, h2]
  rw [this]; exact hK
theorem and15 : ∀ x : Fin 256, IntKind.wrap .u8 ↑((BitVec.ofInt (IntKind.bits .u8) (x.val : Int) &&& BitVec.ofInt (IntKind.bits .u8) 15).toNat) = ((x.val % 16 : Nat) : Int) := by decide +kernel
theorem shr4 : ∀ x : Fin 256, Int.fdiv (x.val : Int) (2 ^ min (Int.toNat 4) (IntKind.bits .u8)) = ((x.val / 16 : Nat) : Int) := by decide +kernel
theorem div16 : ∀ x : Fin 256, IntKind.wrap .u8 (Int.tdiv (x.val : Int) 16) = ((x.val / 16 : Nat) : Int) := by decide +kernel
theorem mod16 : ∀ x : Fin 256, Int.tmod (x.val : Int) 16 = ((x.val % 16 : Nat) : Int) := by decide +kernel
theorem set2 (A : List UInt8) (m : Nat) (x y : UInt8) : ((((A ++ zB (m + 2)).map byteV).set A.length (byteV x)).set (A.length + 1) (byteV y)) = (A ++ [x, y] ++ zB m).map byteV := by
  rw [← List.map_set, ← List.map_set]
  congr 1
  unfold zB
  rw [List.set_append_right _ _ (Nat.le_refl _), Nat.sub_self, List.set_append_right _ _ (by omega), show A.length + 1 - A.length = 1 by omega]
  simp [List.replicate_succ]
theorem hexP_snoc (bs : List UInt8) (i : Nat) {x : UInt8} (hx : bs[i]? = some x) : hexP (bs.take (i + 1)) = hexP (bs.take i) ++ [hexB (x.toNat / 16), hexB (x.toNat % 16)] := by
  rw [List.take_add_one, hx, hexP_app]; rfl
theorem Hex_spec {W w : World} {F : List Asn} {p : Option Addr} {c : Nat} {bs : List UInt8} (hr : Rd F p (bs.map byteV)) (hn : bs.length ≤ 1000000) (hS : St W F w) :
    CallR Try.prog 14 #[.slice p bs.length c] w fun v w' => v = .string (mkS (hexP bs)) ∧ St W F w' := by
  have e2 : IntKind.wrap .i64 (2 * (bs.length : Int)) = ((2 * bs.length : Nat) : Int) := by rw [w64 (by omega) (by omega)]; omega
  refine F14_of ?_
  unfold F14
  rw [e2]
  refine MkS.i hS (by omega) (Int.le_refl _) (by omega) (by omega) fun b w hS => ?_
  rw [Int.toNat_natCast] at hS ⊢
  have hS : St W (Row b 5 ((hexP (bs.take 0) ++ zB (2 * (bs.length - 0))).map byteV) :: F) w := by
    rw [List.take_zero, show (hexP [] ++ zB (2 * (bs.length - 0))).map byteV = List.replicate (2 * bs.length) (.int .u8 0) by unfold zB hexP; simp [byteV]]; exact hS
  refine ⟨fun vs w => ∃ i : Nat, vs = [.int .i64 i] ∧ i ≤ bs.length ∧ St W (Row b 5 ((hexP (bs.take i) ++ zB (2 * (bs.length - i))).map byteV) :: F) w, leftN bs.length, ⟨0, rfl, by omega, hS⟩, fun x w hI => ?_⟩
  obtain ⟨i, he, hi, hS⟩ := hI
  cases he
  have hl : (hexP (bs.take i)).length = 2 * i := by rw [hexP_len, List.length_take]; omega
  refine Bif.i (fun hlt => ?_) fun hge => ?_
  · have hlt : i < bs.length := by have := of_decide_eq_true hlt; omega
    have hx : bs[i]? = some (bs[i]'hlt) := List.getElem?_eq_getElem _
    generalize bs[i]'hlt = x at hx
    have hs := hexP_snoc bs i hx
    have hxl : x.toNat < 256 := x.toNat_lt
    have eZ : 2 * (bs.length - i) = 2 * (bs.length - (i + 1)) + 2 := by omega
    rw [eZ] at hS
    generalize hA : hexP (bs.take i) = A at hS hl hs
    refine IxP.by_ (hr.cons _) hS rfl hlt hx fun a ha => LdI.at ha ?_
    have hC := Is.refl W (Row b 5 ((A ++ zB (2 * (bs.length - (i + 1)) + 2)).map byteV) :: F)
    refine ⟨StC W _, StC.start hS, by decide, IxS.hex (shr4 ⟨x.toNat, hxl⟩) (by dsimp only; omega) (IxS.hex (and15 ⟨x.toNat, hxl⟩) (by dsimp only; omega) (IxP.row (k := 2 * i) (by rw [w64 (by omega) (by omega)]; omega) (by omega) ?_))⟩
    refine Ef.st 0 hC rfl (by rw [List.length_map, List.length_append, hl]; unfold zB; rw [List.length_replicate]; omega) ⟨rfl, trivial, IxP.row (k := 2 * i + 1) (by rw [w64 (n := 2 * (i : Int)) (by omega) (by omega), w64 (by omega) (by omega)]; omega) (by omega) ?_⟩
    refine Ef.st 0 (Is.refl W _) rfl (by rw [List.length_set, List.length_map, List.length_append, hl]; unfold zB; rw [List.length_replicate]; omega) ⟨rfl, trivial, fun G w h => ?_⟩
    have hS := StC.ends h
    have hS : St W (Row b 5 ((hexP (bs.take (i + 1)) ++ zB (2 * (bs.length - (i + 1)))).map byteV) :: F) w := by
      rw [hs, ← set2, hl]; exact hS
    rw [up hlt (by omega)]
    exact ⟨⟨i + 1, rfl, by omega, hS⟩, by show bs.length - (i + 1) < bs.length - i; omega⟩
  have hi2 : i = bs.length := by have := of_decide_eq_false hge; omega
  subst hi2
  rw [Nat.sub_self, List.take_length] at hS
  have hS : St W (Row b 5 ((hexP bs).map byteV) :: F) w := by simpa [zB] using hS
  exact str_rd uB uU8 uS hS Rd.all (hexP_len bs) ⟨_, rfl, rfl, hS.drop⟩
theorem RHex_spec {W w : World} {F : List Asn} {p : Option Addr} {c : Nat} {bs : List UInt8} (hr : Rd F p (bs.map byteV)) (hn : bs.length ≤ 1000000) (hS : St W F w) :
    CallR Try.prog 15 #[.slice p bs.length c] w fun v w' => v = .string (mkS (hexP bs)) ∧ St W F w' := by
  have hl : ∀ i, i ≤ bs.length → (hexP (bs.take i)).length = 2 * i := fun i hi => by rw [hexP_len, List.length_take]; omega
  refine F15_of ⟨fun vs w => ∃ p i c, vs = [.slice p (2 * i) c, .int .i64 ((i : Nat) : Int)] ∧ i ≤ bs.length ∧ St W (OwnS 5 1 p (2 * i) c ((hexP (bs.take i)).map byteV) :: F) w, leftN bs.length, ⟨none, 0, 0, rfl, by omega, OwnS.nil _ _ _ hS⟩, fun p' n' c' i w hI => ?_⟩
  obtain ⟨p', i, c', he, hi, hS⟩ := hI
  cases he
  refine Bif.i (fun hlt => ?_) fun hge => ?_
  · have hlt : i < bs.length := by have := of_decide_eq_true hlt; omega
    have hx : bs[i]? = some (bs[i]'hlt) := List.getElem?_eq_getElem _
    generalize bs[i]'hlt = x at hx
    have hs := hexP_snoc bs i hx
    have hxl : x.toNat < 256 := x.toNat_lt
    have hli := hl i hi
    have hC := Is.refl W (OwnS 5 1 p' (2 * i) c' ((hexP (bs.take i)).map byteV) :: F)
    refine ⟨StC W _, StC.start hS, IxP.byC hC (hr.cons _) hS rfl hlt hx fun a9 h9 => IxP.byC hC (hr.cons _) hS rfl hlt hx fun a10 h10 => ?_⟩
    refine ⟨_, QtI.at h9, by decide, IxS.hex (div16 ⟨x.toNat, hxl⟩) (by dsimp only; omega) ⟨_, QtI.at h10, by decide, IxS.hex (mod16 ⟨x.toNat, hxl⟩) (by dsimp only; omega) fun b21 => ?_⟩⟩
    refine Ef.n0 (α := Option Addr × Nat) (V := fun y => .slice y.1 (2 * (i + 1)) y.2) (B := fun y => OwnS 5 1 y.1 (2 * (i + 1)) y.2 ((hexP (bs.take (i + 1))).map byteV) :: F) (none, 0) (hC.push b21 _) (fun G w h => ?_) fun y => ⟨_, _, _, rfl, trivial, fun G w h => ?_⟩
    · have h : St W (Pt b21 (.cells #[(Value.int .u8 ((hexB (x.toNat / 16)).toNat : Int)), (Value.int .u8 ((hexB (x.toNat % 16)).toNat : Int))] 5) :: OwnS 5 1 p' (2 * i) c' ((hexP (bs.take i)).map byteV) :: (F ++ pts G)) w := h
      refine append_sl uB (.inr ⟨_, uB⟩) iU8 sU8 zU8 rfl (h.imp Pt.row).p1 (xs := [hexB (x.toNat / 16), hexB (x.toNat % 16)].map byteV) (m := 2) Rd.all rfl notAgg_byteV (by rw [bU8]; omega) (by omega) fun p'' c'' w' h => ⟨_, _, _, rfl, (p'', c''), ?_, ?_⟩
      · rfl
      · have h2 := h.p1.drop
        rw [hs, List.map_append]; exact h2
    · rw [up hlt (by omega)]
      exact ⟨⟨y.1, i + 1, y.2, rfl, by omega, StC.ends h⟩, by show bs.length - (i + 1) < bs.length - i; omega⟩
  have hi2 : i = bs.length := by have := of_decide_eq_false hge; omega
  subst hi2
  rw [List.take_length] at hS
  exact str_rd uB uU8 uS hS (OwnS.rd F) (hexP_len bs) ⟨_, rfl, rfl, hS.drop⟩

def unh (l : List UInt8) : List UInt8 := (unhexP l).getD []
theorem ixHex : ∀ x : Fin 256, Lib.indexByte digs.data.toList ((x.val : Int)).toNat.toUInt8 = if hexD (UInt8.ofNat x.val) ≤ 15 then (hexD (UInt8.ofNat x.val) : Int) else -1 := by decide +kernel
theorem Ix_spec {W w : World} {F : List Asn} (c : UInt8) (hS : St W F w) : CallR Try.prog 16 #[.string digs, .int .u8 (c.toNat : Int)] w fun v w' => v = .int .i64 (if hexD c ≤ 15 then (hexD c : Int) else -1) ∧ St W F w' := by
  refine F16_of ((Ib_spec digs (c.toNat : Int) w).of fun v w' ⟨hv, hw⟩ => ⟨_, hv, ?_, by rw [hw]; exact hS⟩)
  have := ixHex ⟨c.toNat, c.toNat_lt⟩
  simp only [UInt8.ofNat_toNat] at this
  rw [this]
theorem shl4 : ∀ v : Fin 256, ∀ d : Fin 16, IntKind.wrap .u8 ↑((BitVec.ofInt (IntKind.bits .u8) (IntKind.wrap .u8 ((v.val : Int) * 2 ^ min (Int.toNat 4) (IntKind.bits .u8))) ||| BitVec.ofInt (IntKind.bits .u8) (IntKind.wrap .u8 (d.val : Int))).toNat) = ((UInt8.ofNat (16 * v.val + d.val)).toNat : Int) := by decide +kernel
theorem Unhex_spec {W w : World} {F : List Asn} (l : List UInt8) (hn : l.length ≤ 1000000) (hS : St W F w) :
    CallR Try.prog 10 #[.string (mkS l)] w fun v w' => ∃ p c, v = .tuple #[.slice p (unh l).length c, .bool (unhexP l).isSome] ∧ St W (OwnS 5 1 p (unh l).length c ((unh l).map byteV) :: F) w' := by
  have hno : ∀ w, unhexP l = none → St W F w → ∃ p c, Value.tuple #[.slice none 0 0, .bool false] = .tuple #[.slice p (unh l).length c, .bool (unhexP l).isSome] ∧ St W (OwnS 5 1 p (unh l).length c ((unh l).map byteV) :: F) w := fun w hu hS => by
    unfold unh; rw [hu]; exact ⟨none, 0, rfl, OwnS.nil _ _ _ hS⟩
  have e2 : IntKind.wrap .i64 (Int.tdiv (l.length : Int) 2) = ((l.length / 2 : Nat) : Int) := by
    rw [Int.tdiv_eq_ediv_of_nonneg (by omega), w64 (by omega) (by omega)]; omega
  refine F10_of ?_
  unfold F10
  rw [mkS_size, e2]
  refine ⟨by decide, Bif.i (fun h => ?_) fun h => ?_⟩
  · have h := of_decide_eq_true h
    rw [Int.tmod_eq_emod_of_nonneg (by omega)] at h
    exact hno w (unhex_odd l (by omega)) hS
  have hev : l.length % 2 = 0 := by
    have h := of_decide_eq_false h
    rw [Int.tmod_eq_emod_of_nonneg (by omega)] at h
    omega
  refine ⟨by decide, MkS.i hS (by omega) (Int.le_refl _) (by omega) (by omega) fun b w hS => ?_⟩
  rw [Int.toNat_natCast] at hS ⊢
  have hS : St W (Row b 5 ((rowH l 0).map byteV) :: F) w := by
    rw [rowH_zero, List.map_replicate]; exact hS
  refine ⟨fun vs w => ∃ i : Nat, vs = [.int .i64 i] ∧ i ≤ l.length ∧ (∀ c ∈ l.take i, hexD c ≤ 15) ∧ St W (Row b 5 ((rowH l i).map byteV) :: F) w, leftN l.length, ⟨0, rfl, by omega, by simp, hS⟩, fun x w hI => ?_⟩
  obtain ⟨i, he, hi, hd, hS⟩ := hI
  cases he
  refine Bif.i (fun hlt => ?_) fun hge => ?_
  · have hlt : i < l.length := by have := of_decide_eq_true hlt; omega
    have hx : l[i]? = some (l[i]'hlt) := List.getElem?_eq_getElem _
    generalize l[i]'hlt = x at hx
    refine IxS.at rfl hx ((Ix_spec x hS).of fun v w ⟨hv, hS⟩ => ⟨_, hv, ?_⟩)
    by_cases hxd : hexD x ≤ 15
    · rw [if_pos hxd]
      refine Bif.i (fun h => ?_) fun h => ?_
      · have h := of_decide_eq_true h; omega
      have ed : IntKind.wrap .i64 (Int.tdiv (i : Int) 2) = ((i / 2 : Nat) : Int) := by
        rw [Int.tdiv_eq_ediv_of_nonneg (by omega), w64 (by omega) (by omega)]; omega
      rw [ed]
      have hg : ((rowH l i).map byteV)[i / 2]? = some (byteV (hAt l i (i / 2))) := by rw [List.getElem?_map, rowH_get l i _ (by omega)]; rfl
      refine ⟨by decide, by decide, IxP.row rfl (by omega) (LdI.n 0 hS rfl hg ⟨by decide, IxP.row rfl (by omega) (St1.n 0 hS rfl (by rw [List.length_map, rowH_len]; omega) fun w hS => ?_)⟩)⟩
      have hS : St W (Row b 5 ((rowH l (i + 1)).map byteV) :: F) w := by
        have hv := shl4 ⟨(hAt l i (i / 2)).toNat, (hAt l i (i / 2)).toNat_lt⟩ ⟨hexD x, by omega⟩
        dsimp only at hv
        rw [hv] at hS
        rw [rowH_next l i hx (by omega), List.map_set]; exact hS
      rw [up hlt (by omega)]
      refine ⟨⟨i + 1, rfl, by omega, fun c hc => ?_, hS⟩, by show l.length - (i + 1) < l.length - i; omega⟩
      rw [List.take_add_one, hx] at hc
      rcases List.mem_append.1 hc with hc | hc
      · exact hd c hc
      · simp at hc; subst hc; exact hxd
    · rw [if_neg hxd]
      refine Bif.i (fun h => ?_) fun h => ?_
      · exact hno w (unhex_bad l (List.mem_of_getElem? hx) hxd) hS.drop
      · have h := of_decide_eq_false h; omega
  have hi2 : i = l.length := by have := of_decide_eq_false hge; omega
  subst hi2
  have hfull := rowH_full l hev (by rwa [List.take_length] at hd)
  have hl2 := rowH_len l l.length
  unfold unh
  rw [hfull]
  refine ⟨some ⟨b, 0, none⟩, l.length / 2, by simp [hl2], ?_⟩
  show St W (OwnS 5 1 (some ⟨b, 0, none⟩) (rowH l l.length).length (l.length / 2) ((rowH l l.length).map byteV) :: F) w
  rw [hl2]
  exact OwnS.whole (by simp [hl2]) hS
theorem digit_spec (c : UInt8) (w : World) : CallR Try.prog 17 #[.int .u8 (c.toNat : Int)] w fun v w' => v = .int .u8 (hexD c : Int) ∧ w' = w := by
  have hc : c.toNat < 256 := c.toNat_lt
  refine F17_of ⟨fun vs w' => (¬ (48 ≤ c.toNat ∧ c.toNat ≤ 57)) ∧ w' = w, Bif.i (fun h1 => Bif.i (fun h2 => ?_) fun h2 => ?_) fun h1 => ?_, fun w' hJ => ?_⟩
  · have h1 := of_decide_eq_true h1
    have h2 := of_decide_eq_true h2
    unfold hexD
    rw [if_pos (by omega)]
    refine ⟨?_, rfl⟩
    congr 1
    show ((c.toNat : Int) - 48) % (2 ^ 8 : Int) = _
    omega
  · have h2 := of_decide_eq_false h2; exact ⟨by omega, rfl⟩
  · have h1 := of_decide_eq_false h1; exact ⟨by omega, rfl⟩
  obtain ⟨hn, rfl⟩ := hJ
  unfold hexD
  rw [if_neg hn]
  refine Bif.i (fun h1 => Bif.i (fun h2 => ?_) fun h2 => ?_) fun h1 => ?_
  · have h1 := of_decide_eq_true h1
    have h2 := of_decide_eq_true h2
    rw [if_pos (by omega)]
    refine ⟨?_, rfl⟩
    congr 1
    show ((((c.toNat : Int) - 97) % (2 ^ 8 : Int)) + 10) % (2 ^ 8 : Int) = _
    omega
  · have h2 := of_decide_eq_false h2
    rw [if_neg (by omega)]; exact ⟨rfl, rfl⟩
  · have h1 := of_decide_eq_false h1
    rw [if_neg (by omega)]; exact ⟨rfl, rfl⟩
theorem unhex_snoc : ∀ (x : List UInt8) {o : List UInt8} (a b : UInt8), unhexP x = some o → hexD a ≤ 15 → hexD b ≤ 15 → unhexP (x ++ [a, b]) = some (o ++ [byte2 (hexD a) (hexD b)])
  | [], o, a, b, h, ha, hb => by cases h; simp [unhexP, ha, hb]
  | [_], o, a, b, h, ha, hb => by cases h
  | u :: v :: r, o, a, b, h, ha, hb => by
    rw [unhexP] at h
    rw [List.cons_append, List.cons_append, unhexP]
    split at h
    · rename_i hd
      obtain ⟨o', ho, rfl⟩ := Option.map_eq_some_iff.1 h
      rw [if_pos hd, unhex_snoc r a b ho ha hb]; rfl
    · cases h
theorem byte2_val (a b : Nat) (ha : a ≤ 15) (hb : b ≤ 15) : IntKind.wrap .u8 ((IntKind.wrap .u8 (16 * (a : Int))) + (b : Int)) = ((byte2 a b).toNat : Int) := by
  unfold byte2
  rw [UInt8.toNat_ofNat_of_lt' (by show _ < 256; omega)]
  show ((16 * (a : Int)) % (2 ^ 8 : Int) + (b : Int)) % (2 ^ 8 : Int) = _
  omega
theorem RUnhex_spec {W w : World} {F : List Asn} (l : List UInt8) (hn : l.length ≤ 1000000) (hS : St W F w) :
    CallR Try.prog 11 #[.string (mkS l)] w fun v w' => ∃ p c, v = .tuple #[.slice p (unh l).length c, .bool (unhexP l).isSome] ∧ St W (OwnS 5 1 p (unh l).length c ((unh l).map byteV) :: F) w' := by
  have hno : ∀ w, unhexP l = none → St W F w → ∃ p c, Value.tuple #[.slice none 0 0, .bool false] = .tuple #[.slice p (unh l).length c, .bool (unhexP l).isSome] ∧ St W (OwnS 5 1 p (unh l).length c ((unh l).map byteV) :: F) w := fun w hu hS => by
    unfold unh; rw [hu]; exact ⟨none, 0, rfl, OwnS.nil _ _ _ hS⟩
  refine F11_of ?_
  unfold F11
  rw [mkS_size]
  refine ⟨by decide, Bif.i (fun h => ?_) fun h => ?_⟩
  · have h : Int.tmod (l.length : Int) 2 = 1 := by simpa using h
    rw [Int.tmod_eq_emod_of_nonneg (by omega)] at h
    exact hno w (unhex_odd l (by omega)) hS
  have hev : l.length % 2 = 0 := by
    have h : ¬ Int.tmod (l.length : Int) 2 = 1 := by simpa using h
    rw [Int.tmod_eq_emod_of_nonneg (by omega)] at h
    omega
  refine ⟨fun vs w => ∃ p k c o, vs = [.slice p (List.length o) c, .int .i64 ((2 * k : Nat) : Int)] ∧ 2 * k ≤ l.length ∧ unhexP (l.take (2 * k)) = some o ∧ St W (OwnS 5 1 p o.length c (o.map byteV) :: F) w, leftN (l.length + 2), ⟨none, 0, 0, [], rfl, by omega, rfl, OwnS.nil _ _ _ hS⟩, fun p' n' c' i w hI => ?_⟩
  obtain ⟨p', k, c', o, he, hk, ho, hS⟩ := hI
  cases he
  refine Bif.i (fun hlt => ?_) fun hge => ?_
  · have hlt : 2 * k < l.length := by have := of_decide_eq_true hlt; omega
    have hx : l[2 * k]? = some (l[2 * k]'hlt) := List.getElem?_eq_getElem _
    have hy : l[2 * k + 1]? = some (l[2 * k + 1]'(by omega)) := List.getElem?_eq_getElem _
    generalize l[2 * k]'hlt = x at hx
    generalize l[2 * k + 1]'(by omega) = y at hy
    refine IxS.at rfl hx ((digit_spec x w).of fun v w1 ⟨hv, hw⟩ => ⟨_, hv, IxS.at (k := 2 * k + 1) (by rw [w64 (by omega) (by omega)]; omega) hy ((digit_spec y w1).of fun v w2 ⟨hv2, hw2⟩ => ⟨_, hv2, ?_⟩)⟩)
    subst hw; subst hw2
    refine Bif.i (fun h => ?_) fun h => Bif.i (fun h2 => ?_) fun h2 => ?_
    · have h := of_decide_eq_true h
      exact hno _ (unhex_bad l (List.mem_of_getElem? hx) (by omega)) hS.drop
    · have h2 := of_decide_eq_true h2
      exact hno _ (unhex_bad l (List.mem_of_getElem? hy) (by omega)) hS.drop
    have h := of_decide_eq_false h
    have h2 := of_decide_eq_false h2
    have hol := unhex_len _ ho
    rw [List.length_take] at hol
    have hs := unhex_snoc (l.take (2 * k)) x y ho (by omega) (by omega)
    have et : l.take (2 * k) ++ [x, y] = l.take (2 * (k + 1)) := by
      rw [show 2 * (k + 1) = 2 * k + 1 + 1 by omega, List.take_add_one, List.take_add_one, hx, hy]; simp
    rw [et] at hs
    rw [byte2_val _ _ (by omega) (by omega)]
    refine put1 (x := byte2 (hexD x) (hexD y)) rfl (by omega) hS fun p2 c2 w hS => ⟨_, _, _, rfl, ?_⟩
    have el : o.length + 1 = (o ++ [byte2 (hexD x) (hexD y)]).length := by simp
    rw [el] at hS
    rw [w64 (by omega) (by omega)]
    refine ⟨⟨p2, k + 1, c2, _, by rw [el, show ((2 * k : Nat) : Int) + 2 = ((2 * (k + 1) : Nat) : Int) by omega], by omega, hs, hS⟩, ?_⟩
    show l.length + 2 - (((2 * k : Nat) : Int) + 2).toNat < l.length + 2 - 2 * k
    omega
  have hk2 : 2 * k = l.length := by have := of_decide_eq_false hge; omega
  rw [hk2, List.take_length] at ho
  unfold unh
  rw [ho]
  exact ⟨p', c', rfl, hS⟩
end Go.Proofs.Ythnalgmkflflnaa
