/-
  The law of the bytes that go both ways: in pieces.
-/
import Derived.Test.YtneilmoiahphkaaLaw17
set_option linter.unusedVariables false
set_option linter.unusedSimpArgs false
namespace Go.Proofs.Ytneilmoiahphkaa
open Go

theorem u8_at {W w : World} {l : List Asn} {p : Option Addr} {xs : List UInt8} {k : Nat} (hl : Rd [Base W] p (xs.map byteV)) (hm : Base W ∈ l) (hS : St W l w) (hk : k < xs.length) :
    ∃ a, p = some a ∧ w.cell? (a.add (k * 1)) = some (.int .u8 xs[k].toNat) := by
  have ho : (xs.map byteV)[k]? = some (.int .u8 xs[k].toNat) := by rw [List.getElem?_map, List.getElem?_eq_getElem hk]; rfl
  obtain ⟨a, ha, hc⟩ := (hl.mem hm).of hS ho
  exact ⟨a, ha, by rw [Nat.mul_one]; exact hc⟩
/-- One way alone is used. -/
def one (bs : List UInt8) (e t : Bool) (mv : Int) : PS := ⟨⟨bs, e, t, mv⟩, Way.new, false⟩

theorem Pieces_walk {W : World} (most : Int) (wm : (Lit.int .u8 most).wf = true) {p q r : Option Addr} {xs ys zs : List UInt8} {c d e : Nat} (hr : Rd [Base W] p (xs.map byteV)) (hc : xs.length ≤ c) (hcm : c ≤ 9223372036854775807)
    (hy : Rd [Base W] q (ys.map byteV)) (hd : ys.length ≤ d) (hdm : d ≤ 9223372036854775807) (hz : Rd [Base W] r (zs.map byteV)) (he : zs.length ≤ e) (hem : e ≤ 9223372036854775807) :
    CallR Try.prog 5 #[.int .u8 most, .slice p xs.length c, .slice q ys.length d, .slice r zs.length e] W fun v w' => v = .bool true ∧ ∃ r, St W (Base W :: r) w' := by
  have hm : 0 ≤ most ∧ most ≤ 255 := by simpa [Lit.wf, IntKind.min, IntKind.max, IntKind.signed, IntKind.bits] using wm
  refine F5_of ?_
  unfold F5
  rw [w64 (n := most) (by omega) (by omega)]
  refine ((head_spec (St.base W)).of fun v w1 ⟨hv, hS⟩ => ⟨_, hv, ?_⟩)
  refine (PNew_spec _ hS).of fun v w2 ⟨pb, hv, hS⟩ => ⟨_, hv, ?_⟩
  refine (PNew_spec _ hS).of fun v w3 ⟨qb, hv, hS⟩ => ⟨_, hv, Bif.i (fun h => by cases h) fun _ => Bif.i (fun h => by cases h) fun _ => ?_⟩
  refine Bif.i (fun _ => ⟨rfl, [], hS.drop.drop⟩) fun h => ?_
  have h1 : (xs.length : Int) ≤ most := by have := of_decide_eq_false h; omega
  refine Bif.i (fun _ => ⟨rfl, [], hS.drop.drop⟩) fun h => ?_
  have h2 : ys.length ≤ 300 := by have := of_decide_eq_false h; omega
  refine Bif.i (fun _ => ⟨rfl, [], hS.drop.drop⟩) fun h => ?_
  have h3 : zs.length ≤ 300 := by have := of_decide_eq_false h; omega
  have hcap : xs.length ≤ capOf most := by unfold capOf; omega
  have hcap2 : capOf most ≤ 255 := by unfold capOf; omega
  have hadd : ∀ (ar bs : List UInt8), ar.length + bs.length ≤ xs.length → (one ar false false 0).in_ (capOf most) 0 bs = one (ar ++ bs) false false 0 := fun ar bs h => by
    show one (ar ++ bs.take (capOf most - ar.length)) false false 0 = _
    rw [List.take_of_length_le (by omega)]
  have hnum : ∀ (ar bs : List UInt8), ar.length + bs.length ≤ xs.length → (one ar false false 0).inN (capOf most) 0 bs = bs.length := fun ar bs h => by
    show min bs.length (capOf most - ar.length) = _
    omega
  refine (PIn_spec 0 (hr.mem (by simp)) hc hS.p1).of fun v w4 ⟨hv, hS⟩ => ⟨_, hv, ?_⟩
  have hi := hadd [] xs (by simp)
  have hn := hnum [] xs (by simp)
  have hnew : PS.new = one [] false false 0 := rfl
  rw [hnew, hi, List.nil_append] at hS
  rw [hnew, hn]
  refine (PEnd_spec 0 hS).of fun v w5 ⟨hv, hS⟩ => ⟨_, hv, ?_⟩
  have hS : St W [PumpA pb most (one xs true false 0), PumpA qb most (one [] false false 0), Base W] w5 := hS
  refine (POut_spec 1 _ hS).of fun v w6 ⟨p1, c1, hv, hS⟩ => ⟨_, _, _, _, hv, ?_⟩
  have hB : (one xs true false 0).outB 1 (xs.length : Int) = xs := by
    show xs.take (Int.toNat (xs.length : Int)) = xs
    rw [Int.toNat_natCast, List.take_length]
  have hE : (one xs true false 0).outE 1 (xs.length : Int) = true := by
    show (true && !false && (true && !false && (xs.drop (Int.toNat (xs.length : Int))).isEmpty)) = true
    rw [Int.toNat_natCast, List.drop_length]; rfl
  rw [hB] at hS ⊢
  rw [hE]
  have hS : St W [PumpA qb most (one [] false false 0), OwnS 5 1 p1 xs.length c1 (xs.map byteV), Base W] w6 := hS.p1.drop.p1
  refine ⟨fun vs w => ∃ A k : Nat, vs = [.int .i64 A, .int .i64 k] ∧ k ≤ ys.length + 1 ∧ A ≤ xs.length ∧ (k = ys.length + 1 → A = xs.length) ∧ St W [PumpA qb most (one (xs.take A) false false 0), OwnS 5 1 p1 xs.length c1 (xs.map byteV), Base W] w, leftN (ys.length + 1), ⟨0, 0, rfl, by omega, by omega, by omega, hS⟩, fun a0 i w hI => ?_⟩
  obtain ⟨A, k, hve, hk, hA, hlast, hS⟩ := hI
  cases hve
  refine Bif.i (fun hle => ?_) fun hgt => ?_
  · have hle : k ≤ ys.length := by have := of_decide_eq_true hle; omega
    refine ⟨fun vs w => ∃ mm : Nat, vs = [.int .i64 mm] ∧ A + mm ≤ xs.length ∧ (k = ys.length → A + mm = xs.length) ∧ St W [PumpA qb most (one (xs.take A) false false 0), OwnS 5 1 p1 xs.length c1 (xs.map byteV), Base W] w, Bif.i (fun hlt => ?_) fun hge => ?_, fun mm w5 hJ => ?_⟩
    · have hlt : k < ys.length := by have := of_decide_eq_true hlt; omega
      obtain ⟨a, ha, h0⟩ := u8_at hy (by simp) hS hlt
      have hy8 : ys[k].toNat < 256 := ys[k].toNat_lt
      refine ⟨a, ha, ⟨by omega, by omega⟩, LdI.at h0 ⟨min (xs.length - A) ys[k].toNat, ?_, by omega, by omega, hS⟩⟩
      rw [w64 (by omega) (by omega), w64 (by omega) (by omega)]
      congr 2
      split <;> omega
    · have hge : k = ys.length := by have := of_decide_eq_false hge; omega
      refine ⟨xs.length - A, ?_, by omega, by omega, hS⟩
      rw [w64 (by omega) (by omega)]
      congr 2
      omega
    · obtain ⟨mm, hve, g1, g2, hS⟩ := hJ
      cases hve
      rw [w64 (n := (A : Int) + (mm : Int)) (by omega) (by omega)]
      refine SlP.i (a := A) (b := A + mm) hr (by simp) hc rfl (by omega) (by omega) g1 fun p2 hr1 => ?_
      rw [Nat.mul_one, Nat.mul_one, ← List.map_drop, ← List.map_take, show A + mm - A = mm by omega] at hr1
      have el : ((xs.drop A).take mm).length = A + mm - A := by simp; omega
      have el2 : ((xs.drop A).take mm).length = mm := by omega
      have elA : (xs.take A).length = A := by simp; omega
      rw [← el]
      refine (PIn_spec 0 (hr1.mem (by simp)) (by rw [el]; omega) hS).of fun v w6 ⟨hv, hS⟩ => ⟨_, hv, ?_⟩
      rw [hadd _ _ (by omega), show xs.take A ++ (xs.drop A).take mm = xs.take (A + mm) by rw [List.take_add]] at hS
      rw [hnum _ _ (by omega), el2]
      refine Bif.i (fun h => by simp at h) fun _ => ?_
      rw [up (n := ys.length + 1) (by omega) (by omega)]
      exact ⟨⟨A + mm, k + 1, by simp, by omega, g1, by omega, hS⟩, by show ys.length + 1 - (k + 1) < ys.length + 1 - k; omega⟩
  have hke : k = ys.length + 1 := by have := of_decide_eq_false hgt; omega
  have hAe := hlast hke
  subst hAe
  rw [List.take_length] at hS
  refine (PEnd_spec 0 hS).of fun v w7 ⟨hv, hS⟩ => ⟨_, hv, ?_⟩
  have hS : St W [PumpA qb most (one xs true false 0), OwnS 5 1 p1 xs.length c1 (xs.map byteV), Base W] w7 := hS
  refine ⟨fun vs w => ∃ (got bs : List UInt8) (t : Bool) (mv en : Int) (k : Nat), vs = [.string (mkS got), .int .i64 en, .int .i64 k] ∧ got ++ bs = xs ∧ k ≤ zs.length + 1 ∧ (t = false ∧ en = 0 ∨ t = true ∧ en = 1 ∧ bs = []) ∧ (k = zs.length + 1 → t = true) ∧ St W [PumpA qb most (one bs true t mv), OwnS 5 1 p1 xs.length c1 (xs.map byteV), Base W] w, leftN (zs.length + 1), ⟨[], xs, false, 0, 0, 0, rfl, rfl, by omega, .inl ⟨rfl, rfl⟩, by omega, hS⟩, fun g0 e0 i w hI => ?_⟩
  obtain ⟨got, bs, t, mv, en, j, hve, hgb, hj, hcase, hlast, hS⟩ := hI
  cases hve
  have hlen : got.length + bs.length = xs.length := by rw [← hgb, List.length_append]
  refine Bif.i (fun hle => ?_) fun hgt => ?_
  · have hle : j ≤ zs.length := by have := of_decide_eq_true hle; omega
    refine ⟨fun vs w => ∃ mm : Nat, vs = [.int .i64 mm] ∧ (j = zs.length → mm = 300) ∧ St W [PumpA qb most (one bs true t mv), OwnS 5 1 p1 xs.length c1 (xs.map byteV), Base W] w, Bif.i (fun hlt => ?_) fun hge => ⟨300, rfl, fun _ => rfl, hS⟩, fun mm w5 hJ => ?_⟩
    · have hlt : j < zs.length := by have := of_decide_eq_true hlt; omega
      obtain ⟨a, ha, h0⟩ := u8_at hz (by simp) hS hlt
      have hy8 : zs[j].toNat < 256 := zs[j].toNat_lt
      refine ⟨a, ha, ⟨by omega, by omega⟩, LdI.at h0 ⟨zs[j].toNat, ?_, by omega, hS⟩⟩
      rw [w64 (by omega) (by omega)]
    · obtain ⟨mm, hve, hmm, hS⟩ := hJ
      cases hve
      refine (POut_spec 1 _ hS).of fun v w6 ⟨p2, c2, hv, hS⟩ => ⟨_, _, _, _, hv, ?_⟩
      have hB : (one bs true t mv).outB 1 (mm : Int) = bs.take mm := rfl
      have hE : (one bs true t mv).outE 1 (mm : Int) = (!t && (bs.drop mm).isEmpty) := by
        show (true && !false && (true && !t && (bs.drop mm).isEmpty)) = _
        simp
      have hO : (one bs true t mv).out 1 (mm : Int) = one (bs.drop mm) true (t || (!t && (bs.drop mm).isEmpty)) (IntKind.wrap .i64 (mv + ((bs.take mm).length : Int))) := by
        show one (bs.drop mm) true (t || (true && !t && (bs.drop mm).isEmpty)) _ = _
        simp only [Bool.true_and]
        rfl
      rw [hB, hO] at hS
      rw [hB, hE]
      refine str_rd uB uU8 uS hS (OwnS.rd _) rfl ⟨_, rfl, ⟨by simp only [mkS_size, List.length_take]; omega, ?_⟩⟩
      rw [mkS_append, up (n := zs.length + 1) (by omega) (by omega)]
      have hS := hS.drop
      have hgb' : got ++ bs.take mm ++ bs.drop mm = xs := by rw [List.append_assoc, List.take_append_drop]; exact hgb
      refine Bif.i (fun hf => ?_) fun hf => ?_
      · simp only [Bool.and_eq_true, Bool.not_eq_true', List.isEmpty_iff] at hf
        rcases hcase with ⟨ht, hen⟩ | ⟨ht, _⟩
        · subst hen
          rw [w64 (by omega) (by omega)]
          refine ⟨⟨_, bs.drop mm, true, IntKind.wrap .i64 (mv + ((bs.take mm).length : Int)), _, j + 1, rfl, hgb', by omega, .inr ⟨rfl, rfl, hf.2⟩, fun _ => rfl, ?_⟩, by show zs.length + 1 - (j + 1) < zs.length + 1 - j; omega⟩
          have e1 : (t || (!t && (bs.drop mm).isEmpty)) = true := by rw [hf.1, hf.2]; rfl
          rw [e1] at hS
          exact hS
        · rw [ht] at hf; simp at hf
      · rw [hf, Bool.or_false] at hS
        refine ⟨⟨_, _, t, _, _, j + 1, rfl, hgb', by omega, ?_, fun hjl => ?_, hS⟩, by show zs.length + 1 - (j + 1) < zs.length + 1 - j; omega⟩
        · rcases hcase with ⟨ht, hen⟩ | ⟨ht, hen, hbs⟩
          · exact .inl ⟨ht, hen⟩
          · exact .inr ⟨ht, hen, by rw [hbs]; simp⟩
        · rcases hcase with ⟨ht, hen⟩ | ⟨ht, _⟩
          · exfalso
            rw [ht] at hf
            simp only [Bool.not_false, Bool.true_and] at hf
            have hmm' := hmm (by omega)
            rw [List.drop_eq_nil_of_le (by omega)] at hf
            simp at hf
          · exact ht
  have hje : j = zs.length + 1 := by have := of_decide_eq_false hgt; omega
  have ht := hlast hje
  rcases hcase with ⟨ht', _⟩ | ⟨_, hen, hbs⟩
  · rw [ht] at ht'; cases ht'
  subst hen
  subst hbs
  rw [List.append_nil] at hgb
  subst hgb
  refine Bif.i (fun _ => ?_) fun h => by cases h
  refine Bif.i (fun _ => ?_) fun h => by simp at h
  refine str_rd uB uU8 uS hS ((OwnS.rd _).cons _) rfl ⟨_, rfl, ?_⟩
  refine str_rd uB uU8 uS hS (hr.mem (by simp)) rfl ⟨_, rfl, ?_⟩
  refine Bif.i (fun _ => ?_) fun h => by simp at h
  refine Bif.i (fun _ => ?_) fun h => by cases h
  refine str_rd uB uU8 uS hS (hr.mem (by simp)) rfl ⟨_, rfl, ?_⟩
  refine Bif.i (fun _ => ⟨rfl, [], hS.drop.drop⟩) fun h => by simp at h
end Go.Proofs.Ytneilmoiahphkaa
