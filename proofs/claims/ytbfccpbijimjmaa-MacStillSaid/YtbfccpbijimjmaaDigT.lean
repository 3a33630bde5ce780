/-
  Digits of bytes, and bytes of digits: the program's and the document's.
-/
import Derived.Test.YtbfccpbijimjmaaDigS
set_option linter.unusedVariables false
set_option linter.unusedSimpArgs false
namespace Go.Proofs.Ytbfccpbijimjmaa
open Go
def digs : ByteArray := ⟨#[48, 49, 50, 51, 52, 53, 54, 55, 56, 57, 97, 98, 99, 100, 101, 102]⟩
theorem digs_at : ∀ k : Fin 16, digs.get! k.val = hexB k.val := by decide +kernel
theorem IxS.hex {i : Int} {k : Nat} {K : UInt8 → Prop} (hi : i = (k : Int)) (hk : k < 16) (hK : K (hexB k)) : IxS digs i K := by
  subst hi
  refine ⟨⟨by omega, by show (k : Int) < 16; omega⟩, ?_⟩
  rw [Int.toNat_natCast, digs_at ⟨k, hk⟩]; exact hK
theorem IxS.at {l : List UInt8} {i : Int} {k : Nat} {x : UInt8} {K : UInt8 → Prop} (hi : i = (k : Int)) (hx : l[k]? = some x) (hK : K x) : IxS (mkS l) i K := by
  subst hi
  obtain ⟨h1, h2⟩ := List.getElem?_eq_some_iff.1 hx
  refine ⟨⟨by omega, by rw [mkS_size]; omega⟩, ?_⟩
  have : (mkS l).get! (Int.toNat (k : Int)) = x := by
    rw [Int.toNat_natCast]
    unfold mkS ByteArray.get!
    simp [h1, h2]
  rw [this]; exact hK
theorem and15 : ∀ x : Fin 256, IntKind.wrap .u8 ↑((BitVec.ofInt (IntKind.bits .u8) (x.val : Int) &&& BitVec.ofInt (IntKind.bits .u8) 15).toNat) = ((x.val % 16 : Nat) : Int) := by decide +kernel
theorem shr4 : ∀ x : Fin 256, Int.fdiv (x.val : Int) (2 ^ min (Int.toNat 4) (IntKind.bits .u8)) = ((x.val / 16 : Nat) : Int) := by decide +kernel
theorem div16 : ∀ x : Fin 256, IntKind.wrap .u8 (Int.tdiv (x.val : Int) 16) = ((x.val / 16 : Nat) : Int) := by decide +kernel
theorem mod16 : ∀ x : Fin 256, Int.tmod (x.val : Int) 16 = ((x.val % 16 : Nat) : Int) := by decide +kernel
theorem set2 (A : List UInt8) (m : Nat) (x y : UInt8) : ((((A ++ zB (m + 2)).map byteV).set A.length (byteV x)).set (A.length + 1) (byteV y)) = (A ++ [x, y] ++ zB m).map byteV := by
  rw [← List.map_set, ← List.map_set]
  congr 1
  unfold zB
  rw [List.set_append_right _ _ (Nat.le_refl _), Nat.sub_self, List.set_append_right _ _ (by omega), show A.length + 1 - A.length = 1 by omega]
  simp [List.replicate_succ]
theorem hexP_snoc (bs : List UInt8) (i : Nat) {x : UInt8} (hx : bs[i]? = some x) : hexP (bs.take (i + 1)) = hexP (bs.take i) ++ [hexB (x.toNat / 16), hexB (x.toNat % 16)] := by
  rw [List.take_add_one, hx, hexP_app]; rfl
theorem Hex_spec {W w : World} {F : List Asn} {p : Option Addr} {c : Nat} {bs : List UInt8} (hr : Rd F p (bs.map byteV)) (hn : bs.length ≤ 1000000) (hS : St W F w) :
    CallR Try.prog 23 #[.slice p bs.length c] w fun v w' => v = .string (mkS (hexP bs)) ∧ St W F w' := by
  have e2 : IntKind.wrap .i64 (2 * (bs.length : Int)) = ((2 * bs.length : Nat) : Int) := by rw [w64 (by omega) (by omega)]; omega
  refine F23_of ?_
  unfold F23
  rw [e2]
  refine MkS.i hS (by omega) (Int.le_refl _) (by omega) (by omega) fun b w hS => ?_
  rw [Int.toNat_natCast] at hS ⊢
  have hS : St W (Row b 5 ((hexP (bs.take 0) ++ zB (2 * (bs.length - 0))).map byteV) :: F) w := by
    rw [List.take_zero, show (hexP [] ++ zB (2 * (bs.length - 0))).map byteV = List.replicate (2 * bs.length) (.int .u8 0) by unfold zB hexP; simp [byteV]]; exact hS
  refine ⟨fun vs w => ∃ i : Nat, vs = [.int .i64 i] ∧ i ≤ bs.length ∧ St W (Row b 5 ((hexP (bs.take i) ++ zB (2 * (bs.length - i))).map byteV) :: F) w, leftN bs.length, ⟨0, rfl, by omega, hS⟩, fun x w hI => ?_⟩
  obtain ⟨i, he, hi, hS⟩ := hI
  cases he
  have hl : (hexP (bs.take i)).length = 2 * i := by rw [hexP_len, List.length_take]; omega
  refine Bif.i (fun hlt => ?_) fun hge => ?_
  · have hlt : i < bs.length := by have := of_decide_eq_true hlt; omega
    have hx : bs[i]? = some (bs[i]'hlt) := List.getElem?_eq_getElem _
    generalize bs[i]'hlt = x at hx
    have hs := hexP_snoc bs i hx
    have hxl : x.toNat < 256 := x.toNat_lt
    have eZ : 2 * (bs.length - i) = 2 * (bs.length - (i + 1)) + 2 := by omega
    rw [eZ] at hS
    generalize hA : hexP (bs.take i) = A at hS hl hs
    refine IxP.by_ (hr.cons _) hS rfl hlt hx fun a ha => LdI.at ha ?_
    have hC := Is.refl W (Row b 5 ((A ++ zB (2 * (bs.length - (i + 1)) + 2)).map byteV) :: F)
    refine ⟨StC W _, StC.start hS, by decide, IxS.hex (shr4 ⟨x.toNat, hxl⟩) (by dsimp only; omega) (IxS.hex (and15 ⟨x.toNat, hxl⟩) (by dsimp only; omega) (IxP.row (k := 2 * i) (by rw [w64 (by omega) (by omega)]; omega) (by omega) ?_))⟩
    refine Ef.st 0 hC rfl (by rw [List.length_map, List.length_append, hl]; unfold zB; rw [List.length_replicate]; omega) ⟨rfl, trivial, IxP.row (k := 2 * i + 1) (by rw [w64 (n := 2 * (i : Int)) (by omega) (by omega), w64 (by omega) (by omega)]; omega) (by omega) ?_⟩
    refine Ef.st 0 (Is.refl W _) rfl (by rw [List.length_set, List.length_map, List.length_append, hl]; unfold zB; rw [List.length_replicate]; omega) ⟨rfl, trivial, fun G w h => ?_⟩
    have hS := StC.ends h
    have hS : St W (Row b 5 ((hexP (bs.take (i + 1)) ++ zB (2 * (bs.length - (i + 1)))).map byteV) :: F) w := by
      rw [hs, ← set2, hl]; exact hS
    rw [up hlt (by omega)]
    exact ⟨⟨i + 1, rfl, by omega, hS⟩, by show bs.length - (i + 1) < bs.length - i; omega⟩
  have hi2 : i = bs.length := by have := of_decide_eq_false hge; omega
  subst hi2
  rw [Nat.sub_self, List.take_length] at hS
  have hS : St W (Row b 5 ((hexP bs).map byteV) :: F) w := by simpa [zB] using hS
  exact str_rd uB uU8 uS hS Rd.all (hexP_len bs) ⟨_, rfl, rfl, hS.drop⟩
theorem RHex_spec {W w : World} {F : List Asn} {p : Option Addr} {c : Nat} {bs : List UInt8} (hr : Rd F p (bs.map byteV)) (hn : bs.length ≤ 1000000) (hS : St W F w) :
    CallR Try.prog 18 #[.slice p bs.length c] w fun v w' => v = .string (mkS (hexP bs)) ∧ St W F w' := by
  have hl : ∀ i, i ≤ bs.length → (hexP (bs.take i)).length = 2 * i := fun i hi => by rw [hexP_len, List.length_take]; omega
  refine F18_of ⟨fun vs w => ∃ p i c, vs = [.slice p (2 * i) c, .int .i64 ((i : Nat) : Int)] ∧ i ≤ bs.length ∧ St W (OwnS 5 1 p (2 * i) c ((hexP (bs.take i)).map byteV) :: F) w, leftN bs.length, ⟨none, 0, 0, rfl, by omega, OwnS.nil _ _ _ hS⟩, fun p' n' c' i w hI => ?_⟩
  obtain ⟨p', i, c', he, hi, hS⟩ := hI
  cases he
  refine Bif.i (fun hlt => ?_) fun hge => ?_
  · have hlt : i < bs.length := by have := of_decide_eq_true hlt; omega
    have hx : bs[i]? = some (bs[i]'hlt) := List.getElem?_eq_getElem _
    generalize bs[i]'hlt = x at hx
    have hs := hexP_snoc bs i hx
    have hxl : x.toNat < 256 := x.toNat_lt
    have hli := hl i hi
    have hC := Is.refl W (OwnS 5 1 p' (2 * i) c' ((hexP (bs.take i)).map byteV) :: F)
    refine ⟨StC W _, StC.start hS, IxP.byC hC (hr.cons _) hS rfl hlt hx fun a9 h9 => IxP.byC hC (hr.cons _) hS rfl hlt hx fun a10 h10 => ?_⟩
    refine ⟨_, QtI.at h9, by decide, IxS.hex (div16 ⟨x.toNat, hxl⟩) (by dsimp only; omega) ⟨_, QtI.at h10, by decide, IxS.hex (mod16 ⟨x.toNat, hxl⟩) (by dsimp only; omega) fun b21 => ?_⟩⟩
    refine Ef.n0 (α := Option Addr × Nat) (V := fun y => .slice y.1 (2 * (i + 1)) y.2) (B := fun y => OwnS 5 1 y.1 (2 * (i + 1)) y.2 ((hexP (bs.take (i + 1))).map byteV) :: F) (none, 0) (hC.push b21 _) (fun G w h => ?_) fun y => ⟨_, _, _, rfl, trivial, fun G w h => ?_⟩
    · have h : St W (Pt b21 (.cells #[(Value.int .u8 ((hexB (x.toNat / 16)).toNat : Int)), (Value.int .u8 ((hexB (x.toNat % 16)).toNat : Int))] 5) :: OwnS 5 1 p' (2 * i) c' ((hexP (bs.take i)).map byteV) :: (F ++ pts G)) w := h
      refine append_sl uB (.inr ⟨_, uB⟩) iU8 sU8 zU8 rfl (h.imp Pt.row).p1 (xs := [hexB (x.toNat / 16), hexB (x.toNat % 16)].map byteV) (m := 2) Rd.all rfl notAgg_byteV (by rw [bU8]; omega) (by omega) fun p'' c'' w' h => ⟨_, _, _, rfl, (p'', c''), ?_, ?_⟩
      · rfl
      · have h2 := h.p1.drop
        rw [hs, List.map_append]; exact h2
    · rw [up hlt (by omega)]
      exact ⟨⟨y.1, i + 1, y.2, rfl, by omega, StC.ends h⟩, by show bs.length - (i + 1) < bs.length - i; omega⟩
  have hi2 : i = bs.length := by have := of_decide_eq_false hge; omega
  subst hi2
  rw [List.take_length] at hS
  exact str_rd uB uU8 uS hS (OwnS.rd F) (hexP_len bs) ⟨_, rfl, rfl, hS.drop⟩

end Go.Proofs.Ytbfccpbijimjmaa
