/-
  The walks of the laws of sums: more.
-/
import Derived.Test.YthnalgmkflflnaaLaw02
set_option linter.unusedVariables false
set_option linter.unusedSimpArgs false
namespace Go.Proofs.Ythnalgmkflflnaa
open Go
theorem QtStr {W : World} {C : Cls} {l : List Asn} {p : Option Addr} {bs : List UInt8} {n c : Nat} (hC : Is W C l) (hr : Rd l p (bs.map byteV)) (hl : bs.length = n) :
    Qt C (.string (mkS bs)) (fun w K => Run Try.prog (convert 22 9 (Value.slice p n c)) w fun v w' => AsS v fun x => K (.string x) w') := fun G w hw =>
  str_rd uB uU8 uS ((hC G w).1 hw) (hr.app (pts G)) hl ⟨_, rfl, rfl, hw⟩
theorem Still_walk {W : World} {p q : Option Addr} {xs ys : List UInt8} {c d : Nat} (hr : Rd [Base W] p (xs.map byteV)) (hc : xs.length ≤ c) (hcm : c ≤ 9223372036854775807) (hr2 : Rd [Base W] q (ys.map byteV)) (hd : ys.length ≤ d) (hdm : d ≤ 9223372036854775807) :
    CallR Try.prog 6 #[.slice p xs.length c, .slice q ys.length d] W fun v w' => v = .bool true ∧ ∃ r, St W (Base W :: r) w' := by
  refine F6_of ((head_spec (St.base W)).of fun v w ⟨hv, hS⟩ => ⟨_, hv, ?_⟩)
  refine Bif.i (fun h => ⟨rfl, _, hS⟩) fun h => Bif.i (fun h2 => ⟨rfl, _, hS⟩) fun h2 => ?_
  have h := of_decide_eq_false h
  have h2 := of_decide_eq_false h2
  refine str_rd uB uU8 uS hS hr rfl ⟨_, rfl, ?_⟩
  have hl := sha_len xs
  obtain ⟨sx, hsx⟩ : ∃ sx, sha xs = sx := ⟨_, rfl⟩
  rw [hsx] at hl
  have z : (arrB sx).size = 32 := by rw [arrB_size, hl]
  have zl : (sx.map byteV).length = 32 := by rw [List.length_map, hl]
  refine (sum_at hsx hr hc (by omega) hS).of fun v w ⟨hv, hS⟩ => ⟨_, z, hv, NewC.i hS fun b13 w hS => ⟨z, StA.r 0 hS rfl (by rw [z]; rfl) (arrB_notAgg _) fun w hS => ?_⟩⟩
  have hS : St W [Row b13 26 (sx.map byteV), Base W] w := hS
  have hly := sha_len ys
  obtain ⟨sy, hsy⟩ : ∃ sy, sha ys = sy := ⟨_, rfl⟩
  rw [hsy] at hly
  refine (sum_at hsy (hr2.cons _) hd (by omega) hS).of fun v w ⟨hv, hS⟩ => ⟨_, by rw [arrB_size, hly], hv, ?_⟩
  have hC := Is.refl W [Row b13 26 (sx.map byteV), Base W]
  have hrL := hr.cons (Row b13 26 (sx.map byteV))
  refine ⟨StC W _, StC.start hS, Bif.yes rfl ⟨mkS xs, QtStr hC hrL rfl, Bif.yes (beq_same rfl) ⟨arrB sx, z, QtA.r 0 hC rfl zl, ?_⟩⟩⟩
  refine Ef.n0 (α := Unit) (V := fun _ => .agg (arrB sx)) (B := fun _ => [Row b13 26 (sx.map byteV), Base W]) () hC (fun G w h => (sum_at hsx (hrL.app (pts G)) hc (by omega) h).of fun v w' ⟨hv, h⟩ => ⟨arrB sx, z, hv, (), rfl, h⟩) fun _ => ⟨arrB sx, z, rfl, QtA.r 0 hC rfl zl, _, fun w => eqSum sx sx hl hl w, _, rfl, Bif.yes (by simp) ⟨arrB sx, z, QtA.r 0 hC rfl zl, ?_⟩⟩
  refine Ef.n0 (α := { y : Nat × Nat // xs.length ≤ y.2 }) (V := fun y => .slice (some ⟨y.1.1, 0, none⟩) xs.length y.1.2) (B := fun y => [Row y.1.1 5 (xs.map byteV ++ List.replicate (y.1.2 - xs.length) (.int .u8 0)), Row b13 26 (sx.map byteV), Base W]) ⟨(0, xs.length), Nat.le_refl _⟩ hC (fun G w h => ?_) fun y => ⟨_, _, _, rfl, QtA.r 1 (Is.refl W _) rfl zl, ?_⟩
  · exact bytes_i uS uB uU8 h fun b c w' hc h => ⟨_, _, _, rfl, ⟨(b, c), hc⟩, rfl, h⟩
  have hrd : Rd [Row y.1.1 5 (xs.map byteV ++ List.replicate (y.1.2 - xs.length) (.int .u8 0)), Row b13 26 (sx.map byteV), Base W] (some ⟨y.1.1, 0, none⟩) (xs.map byteV) := Rd.row 0 fun i v h => by
    rw [Nat.zero_add, List.getElem?_append_left (List.getElem?_eq_some_iff.1 h).1]; exact h
  refine Ef.n0 (α := Unit) (V := fun _ => .agg (arrB sx)) (B := fun _ => [Row y.1.1 5 (xs.map byteV ++ List.replicate (y.1.2 - xs.length) (.int .u8 0)), Row b13 26 (sx.map byteV), Base W]) () (Is.refl W _) (fun G w h => (sum_at hsx (hrd.app (pts G)) y.2 (by omega) h).of fun v w' ⟨hv, h⟩ => ⟨arrB sx, z, hv, (), rfl, h⟩) fun _ => ⟨arrB sx, z, rfl, QtA.r 1 (Is.refl W _) rfl zl, _, fun w => eqSum sx sx hl hl w, _, rfl, fun G w h => ⟨by simp, _, (StC.ends h).p2⟩⟩

theorem hexP_get : ∀ (xs : List UInt8) (i : Nat) {x : UInt8}, xs[i]? = some x → (hexP xs)[2 * i]? = some (hexB (x.toNat / 16)) ∧ (hexP xs)[2 * i + 1]? = some (hexB (x.toNat % 16))
  | [], i, x, h => by simp at h
  | y :: r, 0, x, h => by simp at h; subst h; exact ⟨rfl, rfl⟩
  | y :: r, i + 1, x, h => by
    have := hexP_get r i (x := x) (by simpa using h)
    rw [hexP_cons, show 2 * (i + 1) = 2 * i + 1 + 1 by omega]
    exact this
theorem hexB_nat : ∀ x : Fin 16, (hexB x.val).toNat = if x.val < 10 then 48 + x.val else 87 + x.val := by decide +kernel
def nib (x k : Nat) : Nat := if k = 0 then x / 16 else x % 16
def nacc (x k : Nat) : Nat := if k = 0 then 0 else if k = 1 then x / 16 else x
def left2 : List Value → World → Nat := leftN 2
theorem Digits_walk {W : World} {p : Option Addr} {xs : List UInt8} {c : Nat} (hr : Rd [Base W] p (xs.map byteV)) (hc : xs.length ≤ c) (hcm : c ≤ 9223372036854775807) :
    CallR Try.prog 8 #[.slice p xs.length c] W fun v w' => v = .bool true ∧ ∃ r, St W (Base W :: r) w' := by
  refine F8_of ((head_spec (St.base W)).of fun v w ⟨hv, hS⟩ => ⟨_, hv, ?_⟩)
  refine Bif.i (fun h => ⟨rfl, _, hS⟩) fun h => ?_
  have h := of_decide_eq_false h
  refine (Hex_spec hr (by omega) hS).of fun v w ⟨hv, hS⟩ => ⟨_, hv, ?_⟩
  rw [w64 (n := 2 * (xs.length : Int)) (by omega) (by omega)]
  refine Bif.no (by rw [mkS_size, hexP_len]; simp) ?_
  refine ⟨fun vs w => ∃ i : Nat, vs = [.int .i64 i] ∧ i ≤ xs.length ∧ St W [Base W] w, leftN xs.length, ⟨0, rfl, by omega, hS⟩, fun x w hI => ?_⟩
  obtain ⟨i, he, hi, hS⟩ := hI
  cases he
  refine Bif.i (fun hlt => ?_) fun hge => ⟨rfl, _, hS⟩
  have hlt : i < xs.length := by have := of_decide_eq_true hlt; omega
  have hx : xs[i]? = some (xs[i]'hlt) := List.getElem?_eq_getElem _
  generalize xs[i]'hlt = x at hx
  have hxl : x.toNat < 256 := x.toNat_lt
  obtain ⟨g0, g1⟩ := hexP_get xs i hx
  refine ⟨fun vs w => ∃ k : Nat, vs = [.int .i64 (nacc x.toNat k : Nat), .int .i64 k] ∧ k ≤ 2 ∧ St W [Base W] w, leftN 2, ⟨0, rfl, by omega, hS⟩, fun n k w hI => ?_⟩
  obtain ⟨k, he, hk, hS⟩ := hI
  cases he
  refine Bif.i (fun hlt2 => ?_) fun hge => ?_
  · have hlt2 : k < 2 := by have := of_decide_eq_true hlt2; omega
    have hnib : nib x.toNat k < 16 := by unfold nib; split <;> omega
    have hg : (hexP xs)[2 * i + k]? = some (hexB (nib x.toNat k)) := by
      rcases (show k = 0 ∨ k = 1 by omega) with rfl | rfl
      · exact g0
      · exact g1
    have hacc : 16 * nacc x.toNat k + nib x.toNat k = nacc x.toNat (k + 1) := by
      rcases (show k = 0 ∨ k = 1 by omega) with rfl | rfl
      · simp [nacc, nib]
      · simp [nacc, nib]; omega
    have hacb : nacc x.toNat k < 256 := by
      unfold nacc
      split
      · omega
      · split <;> omega
    obtain ⟨N, hN⟩ : ∃ N, nib x.toNat k = N := ⟨_, rfl⟩
    rw [hN] at hnib hacc hg
    have hb := hexB_nat ⟨N, hnib⟩
    dsimp only at hb
    obtain ⟨b, hbe⟩ : ∃ b, hexB N = b := ⟨_, rfl⟩
    rw [hbe] at hg hb
    refine IxS.at (k := 2 * i + k) (by rw [w64 (n := 2 * (i : Int)) (by omega) (by omega), w64 (by omega) (by omega)]; omega) hg ?_
    refine ⟨fun vs w => vs = [.int .i64 (N : Nat)] ∧ St W [Base W] w, Bif.i (fun h9 => ?_) fun h9 => ?_, fun dd w hJ => ?_⟩
    · have h9 := of_decide_eq_true h9
      split at hb
      · omega
      · refine ⟨?_, hS⟩
        rw [w64 (n := (b.toNat : Int)) (by omega) (by omega), w64 (n := (b.toNat : Int) - 97) (by omega) (by omega), w64 (by omega) (by omega), show (b.toNat : Int) - 97 + 10 = (N : Int) by omega]
    · have h9 := of_decide_eq_false h9
      split at hb
      · refine ⟨?_, hS⟩
        rw [w64 (n := (b.toNat : Int)) (by omega) (by omega), w64 (by omega) (by omega), show (b.toNat : Int) - 48 = (N : Int) by omega]
      · omega
    obtain ⟨he, hS⟩ := hJ
    cases he
    have next : (∃ k' : Nat, [Value.int .i64 (IntKind.wrap .i64 ((IntKind.wrap .i64 (16 * (nacc x.toNat k : Int))) + (N : Int))), .int .i64 (IntKind.wrap .i64 ((k : Int) + 1))] = [.int .i64 (nacc x.toNat k' : Nat), .int .i64 k'] ∧ k' ≤ 2 ∧ St W [Base W] w) ∧ leftN 2 [Value.int .i64 (IntKind.wrap .i64 ((IntKind.wrap .i64 (16 * (nacc x.toNat k : Int))) + (N : Int))), .int .i64 (IntKind.wrap .i64 ((k : Int) + 1))] w < 2 - k := by
      rw [up hlt2 (by omega), w64 (n := 16 * (nacc x.toNat k : Int)) (by omega) (by omega), w64 (n := 16 * (nacc x.toNat k : Int) + (N : Int)) (by omega) (by omega), show 16 * (nacc x.toNat k : Int) + (N : Int) = ((nacc x.toNat (k + 1) : Nat) : Int) by omega]
      exact ⟨⟨k + 1, rfl, by omega, hS⟩, by show 2 - (k + 1) < 2 - k; omega⟩
    refine Bif.no (decide_eq_false (by omega)) (Bif.no (decide_eq_false (by omega)) (Bif.i (fun h57 => Bif.i (fun h97 => ?_) fun _ => next) fun _ => next))
    have h57 := of_decide_eq_true h57
    have h97 := of_decide_eq_true h97
    split at hb <;> omega
  have hk2 : k = 2 := by have := of_decide_eq_false hge; omega
  subst hk2
  refine IxP.by_ hr hS rfl hlt hx fun a ha => LdI.at ha ?_
  rw [w64 (n := (x.toNat : Int)) (by omega) (by omega)]
  refine Bif.no (by simp [nacc]) ?_
  rw [up hlt (by omega)]
  exact ⟨⟨i + 1, rfl, by omega, hS⟩, by show xs.length - (i + 1) < xs.length - i; omega⟩

theorem mkS_cut (l : List UInt8) (a b : Nat) : (mkS l).extract a b = mkS ((l.take b).drop a) := by
  apply ByteArray.ext
  simp [mkS, ByteArray.data_extract, List.extract_eq_take_drop, List.drop_take]
theorem unhex_at (xs : List UInt8) (k : Nat) (x : UInt8) (hk : k < (hexP xs).length) : (unhexP ((hexP xs).take k ++ [x] ++ (hexP xs).drop (k + 1))).isSome = decide (hexD x ≤ 15) := by
  have h1 := hexP_ok xs
  have h2 := hexP_len xs
  rw [Bool.eq_iff_iff, unhex_some]
  simp only [decide_eq_true_eq]
  constructor
  · rintro ⟨_, h⟩
    exact h x (by simp)
  · intro hx
    refine ⟨?_, fun c hc => ?_⟩
    · simp only [List.length_append, List.length_take, List.length_drop, List.length_cons, List.length_nil]; omega
    · rcases List.mem_append.1 hc with hc | hc
      · rcases List.mem_append.1 hc with hc | hc
        · exact h1 c (List.mem_of_mem_take hc)
        · simp at hc; subst hc; exact hx
      · exact h1 c (List.mem_of_mem_drop hc)
theorem Back_walk {W : World} {p : Option Addr} {xs : List UInt8} {c : Nat} (hr : Rd [Base W] p (xs.map byteV)) (hc : xs.length ≤ c) (hcm : c ≤ 9223372036854775807) (s : ByteArray) (gs : s.size ≤ 9223372036854775807)
    (at_ : Int) (wa : (Lit.int .u16 at_).wf = true) (y : Int) (wy : (Lit.int .u8 y).wf = true) :
    CallR Try.prog 5 #[.slice p xs.length c, .string s, .int .u16 at_, .int .u8 y] W fun v w' => v = .bool true ∧ ∃ r, St W (Base W :: r) w' := by
  obtain ⟨l, rfl⟩ : ∃ l, s = mkS l := ⟨_, (mkS_data s).symm⟩
  obtain ⟨x, rfl⟩ := u8_of y wy
  have ha : 0 ≤ at_ ∧ at_ ≤ 65535 := by simpa [Lit.wf, IntKind.min, IntKind.max, IntKind.signed, IntKind.bits] using wa
  have hxl : x.toNat < 256 := x.toNat_lt
  refine F5_of ((head_spec (St.base W)).of fun v w ⟨hv, hS⟩ => ⟨_, hv, ?_⟩)
  refine Bif.i (fun h => ⟨rfl, _, hS⟩) fun h => Bif.i (fun h2 => ⟨rfl, _, hS⟩) fun h2 => ?_
  have h := of_decide_eq_false h
  have h2 := of_decide_eq_false h2
  rw [mkS_size] at h2
  have hHl := hexP_len xs
  refine (Hex_spec hr (by omega) hS).of fun v w ⟨hv, hS⟩ => ⟨_, hv, ?_⟩
  have hu := Unhex_spec (W := W) (hexP xs) (by omega) hS
  simp only [unh, unhex_hex] at hu
  refine hu.of fun v w ⟨p1, c1, hv, hS⟩ => ⟨_, _, _, _, hv, Bif.no rfl ?_⟩
  refine str_rd uB uU8 uS hS (Rd.n 0 rfl fun F => OwnS.rd F) rfl ⟨_, rfl, ?_⟩
  refine str_rd uB uU8 uS hS (hr.cons _) rfl ⟨_, rfl, Bif.no (by have e := beq_same (a := mkS ((some xs).getD [])) (b := mkS xs) rfl; rw [e]; rfl) ?_⟩
  rw [w64 (n := 2 * (xs.length : Int)) (by omega) (by omega), mkS_size, hHl]
  refine Bif.no (by simp) ?_
  have hS : St W [Base W] w := hS.drop
  refine (Unhex_spec l (by omega) hS).of fun v w ⟨p2, c2, hv, hS⟩ => ⟨_, _, _, _, hv, ?_⟩
  refine ⟨fun vs w => vs = [] ∧ St W [Base W] w, Bif.i (fun hs => ?_) fun _ => ⟨rfl, hS.drop⟩, fun w hJ => ?_⟩
  · have hh : hexP (unh l) = l := by
      unfold unh
      cases hu : unhexP l with
      | none => rw [hu] at hs; cases hs
      | some a => exact hex_unhex l hu
    have hlu := hexP_len (unh l)
    rw [hh] at hlu
    refine (Hex_spec (Rd.n 0 rfl fun F => OwnS.rd F) (by omega) hS).of fun v w ⟨hv, hS⟩ => ⟨_, hv, Bif.no ?_ ⟨rfl, hS.drop⟩⟩
    rw [hh, beq_same rfl]; rfl
  have hS := hJ.2
  refine Bif.i (fun _ => ⟨rfl, _, hS⟩) fun hne => ?_
  have hne : xs.length ≠ 0 := by
    intro e
    rw [e] at hne
    exact absurd hne (by decide)
  refine ⟨⟨by omega, by omega, by rw [mkS_size]; omega⟩, ?_⟩
  rw [mkS_cut, show Int.toNat 1 = 1 from rfl, Int.toNat_natCast, List.take_of_length_le (by omega)]
  have hod := unhex_odd ((hexP xs).drop 1) (by rw [List.length_drop]; omega)
  have hu := Unhex_spec (W := W) ((hexP xs).drop 1) (by rw [List.length_drop]; omega) hS
  simp only [unh, hod] at hu
  refine hu.of fun v w ⟨p3, c3, hv, hS⟩ => ⟨_, _, _, _, hv, by omega, ?_⟩
  have hS : St W [Base W] w := hS.drop
  refine ⟨fun vs w => vs = [.bool (decide (hexD x ≤ 15))] ∧ St W [Base W] w, Bif.i (fun c1 => Bif.i (fun c2 => ?_) fun c2 => Bif.i (fun c3 => ?_) fun c3 => ?_) fun c1 => Bif.i (fun c3 => ?_) fun c3 => ?_, fun hex w hJ => ?_⟩
  · have c1 := of_decide_eq_true c1
    have c2 := of_decide_eq_true c2
    refine ⟨?_, hS⟩
    rw [decide_eq_true (by unfold hexD; rw [if_pos (by omega)]; omega)]
  · have c1 := of_decide_eq_true c1
    have c2 := of_decide_eq_false c2
    have c3 := of_decide_eq_true c3
    refine ⟨?_, hS⟩
    have : hexD x = if 97 ≤ x.toNat ∧ x.toNat ≤ 102 then x.toNat - 87 else 16 := by unfold hexD; rw [if_neg (by omega)]
    rw [this]
    by_cases h6 : x.toNat ≤ 102
    · rw [if_pos (by omega), decide_eq_true (by omega), decide_eq_true (by omega)]
    · rw [if_neg (by omega), decide_eq_false (by omega), decide_eq_false (by omega)]
  · have c1 := of_decide_eq_true c1
    have c2 := of_decide_eq_false c2
    have c3 := of_decide_eq_false c3
    refine ⟨?_, hS⟩
    have : hexD x = 16 := by unfold hexD; rw [if_neg (by omega), if_neg (by omega)]
    rw [this]; rfl
  · have c1 := of_decide_eq_false c1
    have c3 := of_decide_eq_true c3
    omega
  · have c1 := of_decide_eq_false c1
    refine ⟨?_, hS⟩
    have : hexD x = 16 := by unfold hexD; rw [if_neg (by omega), if_neg (by omega)]
    rw [this]; rfl
  obtain ⟨he, hS⟩ := hJ
  cases he
  obtain ⟨k, hk, hkl⟩ : ∃ k : Nat, Int.tmod (IntKind.wrap .i64 at_) ((2 * xs.length : Nat) : Int) = (k : Int) ∧ k < 2 * xs.length := by
    have h0 : 0 ≤ at_ % ((2 * xs.length : Nat) : Int) := Int.emod_nonneg _ (by omega)
    have h1 : at_ % ((2 * xs.length : Nat) : Int) < ((2 * xs.length : Nat) : Int) := Int.emod_lt_of_pos _ (by omega)
    refine ⟨(at_ % ((2 * xs.length : Nat) : Int)).toNat, ?_, by omega⟩
    rw [w64 (by omega) (by omega), Int.tmod_eq_emod_of_nonneg (by omega)]; omega
  rw [hk]
  rw [w64 (n := (k : Int) + 1) (by omega) (by omega)]
  refine ⟨StC W _, StC.start hS, ⟨⟨by omega, by omega, by rw [mkS_size]; omega⟩, ⟨⟨by omega, by omega, by rw [mkS_size]; omega⟩, fun b42 => ?_⟩⟩⟩
  rw [mkS_cut, mkS_cut, Int.toNat_natCast, Int.toNat_natCast, show Int.toNat ((k : Int) + 1) = k + 1 by omega, List.take_of_length_le (show (hexP xs).length ≤ 2 * xs.length by omega)]
  have hC := (Is.refl W [Base W]).push b42 (.cells #[(Value.int .u8 (x.toNat : Int))] 5)
  refine ⟨mkS [x], fun G w hw => ?_, ⟨?_, ?_, ?_⟩⟩
  · have h1 : St W (Pt b42 (.cells #[(Value.int .u8 (x.toNat : Int))] 5) :: ([Base W] ++ pts G)) w := (hC G w).1 hw
    exact str_rd (bs := [x]) uB uU8 uS (h1.imp Pt.row) Rd.all rfl ⟨_, rfl, rfl, hw⟩
  · rw [mkS_size, mkS_size]; simp; omega
  · rw [mkS_append, mkS_size, mkS_size]; simp; omega
  have hat := unhex_at xs k x (by omega)
  rw [mkS_append, mkS_append, show List.drop (Int.toNat 0) (List.take k (hexP xs)) = (hexP xs).take k from rfl]
  have hql : ((hexP xs).take k ++ [x] ++ (hexP xs).drop (k + 1)).length ≤ 1000000 := by
    simp only [List.length_append, List.length_take, List.length_drop, List.length_cons, List.length_nil]; omega
  generalize (hexP xs).take k ++ [x] ++ (hexP xs).drop (k + 1) = q at hat hql
  refine Ef.n0 (α := Option Addr × Nat) (V := fun z => .tuple #[.slice z.1 (unh q).length z.2, .bool (unhexP q).isSome]) (B := fun z => [OwnS 5 1 z.1 (unh q).length z.2 ((unh q).map byteV), Pt b42 (.cells #[(Value.int .u8 (x.toNat : Int))] 5), Base W]) (none, 0) hC (fun G w h => (Unhex_spec q hql h).of fun v w' ⟨p, c, hv, h⟩ => ⟨_, _, _, _, hv, (p, c), rfl, h⟩) fun z => ⟨_, _, _, _, rfl, trivial, fun G w h => Bif.yes rfl (Bif.yes rfl ⟨?_, _, (StC.ends h).p2⟩)⟩
  rw [hat, beq_self_eq_true]
end Go.Proofs.Ythnalgmkflflnaa
