/-
  Contracts of the bytes that go both ways.
-/
import Derived.Test.YtneilmoiahphkaaRingC
set_option linter.unusedVariables false
set_option linter.unusedSimpArgs false
namespace Go.Proofs.Ytneilmoiahphkaa
open Go

/-- What came in at a side, and did not go out yet. -/
structure Way where
  bs : List UInt8
  ended : Bool
  told : Bool
  moved : Int
/-- Both ways, and whether all is broken. -/
structure PS where
  w0 : Way
  w1 : Way
  broken : Bool
def Way.new : Way := ⟨[], false, false, 0⟩
def PS.new : PS := ⟨Way.new, Way.new, false⟩
def sideB (n : Int) : Bool := n == 0 || n == 1
def Way.end_ (w : Way) (k : Int) : Bool := w.ended && !w.told && (w.bs.drop k.toNat).isEmpty
def Way.out (w : Way) (k : Int) : Way := ⟨w.bs.drop k.toNat, w.ended, w.told || w.end_ k, IntKind.wrap .i64 (w.moved + ((w.bs.take k.toNat).length : Int))⟩
def PS.at (s : PS) (n : Int) : Way := if n = 0 then s.w0 else s.w1
def PS.to (s : PS) (n : Int) : Way := if n = 0 then s.w1 else s.w0
def PS.outB (s : PS) (n k : Int) : List UInt8 := if sideB n && !s.broken then (s.to n).bs.take k.toNat else []
def PS.outE (s : PS) (n k : Int) : Bool := sideB n && !s.broken && (s.to n).end_ k
def PS.out (s : PS) (n k : Int) : PS := if sideB n && !s.broken then (if n = 0 then ⟨s.w0, s.w1.out k, false⟩ else ⟨s.w0.out k, s.w1, false⟩) else s
def PS.hears (s : PS) (n : Int) : Bool := sideB n && !s.broken && !(s.at n).ended
def PS.end_ (s : PS) (n : Int) : PS := if s.hears n then (if n = 0 then ⟨{ s.w0 with ended := true }, s.w1, s.broken⟩ else ⟨s.w0, { s.w1 with ended := true }, s.broken⟩) else s
def Way.add (w : Way) (m : Nat) (xs : List UInt8) : Way := { w with bs := w.bs ++ xs.take (m - w.bs.length) }
def PS.inN (s : PS) (m : Nat) (n : Int) (xs : List UInt8) : Nat := if s.hears n then min xs.length (m - (s.at n).bs.length) else 0
def PS.in_ (s : PS) (m : Nat) (n : Int) (xs : List UInt8) : PS := if s.hears n then (if n = 0 then ⟨s.w0.add m xs, s.w1, s.broken⟩ else ⟨s.w0, s.w1.add m xs, s.broken⟩) else s
def PS.break_ (s : PS) : PS := ⟨{ s.w0 with bs := [] }, { s.w1 with bs := [] }, true⟩
def PS.over (s : PS) : Bool := s.broken || s.w0.told && s.w1.told
def PS.moved (s : PS) (n : Int) : Int := if sideB n then (s.to n).moved else 0
def PS.waits (s : PS) (n : Int) : Nat := if sideB n then (s.to n).bs.length else 0
def PS.room (s : PS) (m : Nat) (n : Int) : Nat := if s.hears n then m - (s.at n).bs.length else 0

def wayCells (r : Nat) (w : Way) : List Value := [.pointer (some ⟨r, 0, none⟩), .bool w.ended, .bool w.told, .int .i64 w.moved]
def pumpRow (r0 r1 : Nat) (most : Int) (w0 w1 : Way) (br : Bool) : List Value :=
  [.pointer (some ⟨r0, 0, none⟩), .bool w0.ended, .bool w0.told, .int .i64 w0.moved, .pointer (some ⟨r1, 0, none⟩), .bool w1.ended, .bool w1.told, .int .i64 w1.moved, .int .i64 most, .bool br]
def capOf (most : Int) : Nat := min most.toNat 65536
/-- What a pump is. -/
def PumpA (pb : Nat) (most : Int) (s : PS) : Asn := exA fun x : Nat × Nat => sepA [
  Row pb 50 (pumpRow x.1 x.2 most s.w0 s.w1 s.broken), RingA x.1 (capOf most) s.w0.bs, RingA x.2 (capOf most) s.w1.bs]
theorem PumpA.open_ {W w : World} {F : List Asn} {pb : Nat} {most : Int} {s : PS} (h : St W (PumpA pb most s :: F) w) :
    ∃ r0 r1 : Nat, St W (Row pb 50 (pumpRow r0 r1 most s.w0 s.w1 s.broken) :: RingA r0 (capOf most) s.w0.bs :: RingA r1 (capOf most) s.w1.bs :: F) w := by
  obtain ⟨⟨r0, r1⟩, h⟩ := h.of_ex
  exact ⟨r0, r1, h.of_sep⟩
theorem PumpA.shut {W w : World} {F : List Asn} {pb r0 r1 : Nat} {most : Int} {s : PS} (h : St W (Row pb 50 (pumpRow r0 r1 most s.w0 s.w1 s.broken) :: RingA r0 (capOf most) s.w0.bs :: RingA r1 (capOf most) s.w1.bs :: F) w) : St W (PumpA pb most s :: F) w :=
  St.to_ex (r0, r1) (St.to_sep (l := [_, _, _]) h)

theorem pside_spec {W w : World} {F : List Asn} (n : Int) (hS : St W F w) : CallR Try.prog 31 #[.int .i64 n] w fun v w' => v = .bool (sideB n) ∧ St W F w' := by
  refine F31_of ⟨by decide, ?_, hS⟩
  have e : Int.fdiv n (2 ^ min (Int.toNat 1) (IntKind.bits .i64)) = n / 2 := by
    rw [show (2 : Int) ^ min (Int.toNat 1) (IntKind.bits .i64) = 2 from rfl, Int.fdiv_eq_ediv_of_nonneg _ (by decide)]
  rw [e]
  congr 1
  unfold sideB
  rw [Bool.eq_iff_iff]
  simp
  omega

theorem side_cases {n : Int} (h : sideB n = true) : n = 0 ∨ n = 1 := by simpa [sideB] using h

theorem hears_spec {W w : World} {F : List Asn} {pb r0 r1 : Nat} {most : Int} {s : PS} (n : Int) (hS : St W (Row pb 50 (pumpRow r0 r1 most s.w0 s.w1 s.broken) :: F) w) :
    CallR Try.prog 33 #[.pointer (some ⟨pb, 0, none⟩), .int .i64 n] w fun v w' => v = .pointer (if s.hears n then (if n = 0 then some ⟨pb, 0, none⟩ else some ⟨pb, 4, none⟩) else none) ∧ St W (Row pb 50 (pumpRow r0 r1 most s.w0 s.w1 s.broken) :: F) w' := by
  refine F33_of ((pside_spec n hS).of fun v w1 ⟨hv, hS⟩ => ⟨_, hv, ?_⟩)
  refine Bif.i (fun h => ⟨?_, hS⟩) fun h => ?_
  · have h : sideB n = false := by simpa using h
    simp [PS.hears, h]
  have hs : sideB n = true := by simpa using h
  refine NilP.i (LdB.i hS rfl (Bif.i (fun hb => ⟨?_, hS⟩) fun hb => ?_))
  · simp [PS.hears, hb]
  rcases side_cases hs with rfl | rfl
  · refine NilP.i ⟨_, rfl, ⟨by decide, by decide⟩, LdB.i hS rfl (Bif.i (fun he => ⟨?_, hS⟩) fun he => NilP.i ⟨_, rfl, ⟨by decide, by decide⟩, ?_, hS⟩)⟩
    · simp [PS.hears, PS.at, he]
    · simp [PS.hears, PS.at, he, hb, hs]; rfl
  · refine NilP.i ⟨_, rfl, ⟨by decide, by decide⟩, LdB.i hS rfl (Bif.i (fun he => ⟨?_, hS⟩) fun he => NilP.i ⟨_, rfl, ⟨by decide, by decide⟩, ?_, hS⟩)⟩
    · simp [PS.hears, PS.at, he]
    · simp [PS.hears, PS.at, he, hb, hs]; rfl

theorem PEnd_spec {W w : World} {F : List Asn} {pb : Nat} {most : Int} {s : PS} (n : Int) (hS : St W (PumpA pb most s :: F) w) :
    CallR Try.prog 14 #[.pointer (some ⟨pb, 0, none⟩), .int .i64 n] w fun v w' => v = .bool (s.hears n) ∧ St W (PumpA pb most (s.end_ n) :: F) w' := by
  obtain ⟨r0, r1, hS⟩ := PumpA.open_ hS
  refine F14_of ((hears_spec n hS).of fun v w1 ⟨hv, hS⟩ => ⟨_, hv, ?_⟩)
  cases hh : s.hears n with
  | false => exact Bif.i (fun h => by simp [isNone'] at h) fun _ => ⟨by simp [isNone'], by rw [show s.end_ n = s by simp [PS.end_, hh]]; exact PumpA.shut hS⟩
  | true =>
    rcases side_cases (n := n) (by simp [PS.hears] at hh; simpa using hh.1.1) with rfl | rfl
    · refine Bif.i (fun _ => NilP.i (St1.i hS (by simp [pumpRow]) fun w2 hS => ⟨rfl, ?_⟩)) fun h => by simp [isNone'] at h
      rw [show s.end_ 0 = ⟨{ s.w0 with ended := true }, s.w1, s.broken⟩ by simp [PS.end_, hh]]
      exact PumpA.shut (s := ⟨{ s.w0 with ended := true }, s.w1, s.broken⟩) hS
    · refine Bif.i (fun _ => NilP.i (St1.i hS (by simp [pumpRow]) fun w2 hS => ⟨rfl, ?_⟩)) fun h => by simp [isNone'] at h
      rw [show s.end_ 1 = ⟨s.w0, { s.w1 with ended := true }, s.broken⟩ by simp [PS.end_, hh]]
      exact PumpA.shut (s := ⟨s.w0, { s.w1 with ended := true }, s.broken⟩) hS

theorem PIn_spec {W w : World} {F : List Asn} {pb c : Nat} {most : Int} {s : PS} {xs : List UInt8} {p : Option Addr} (n : Int) (hr : Rd F p (xs.map byteV)) (hc : xs.length ≤ c) (hS : St W (PumpA pb most s :: F) w) :
    CallR Try.prog 15 #[.pointer (some ⟨pb, 0, none⟩), .int .i64 n, .slice p xs.length c] w fun v w' => v = .int .i64 (s.inN (capOf most) n xs : Nat) ∧ St W (PumpA pb most (s.in_ (capOf most) n xs) :: F) w' := by
  obtain ⟨r0, r1, hS⟩ := PumpA.open_ hS
  refine F15_of ((hears_spec n hS).of fun v w1 ⟨hv, hS⟩ => ⟨_, hv, ?_⟩)
  cases hh : s.hears n with
  | false => exact Bif.i (fun h => by simp [isNone'] at h) fun _ => ⟨by simp [PS.inN, hh], by rw [show s.in_ (capOf most) n xs = s by simp [PS.in_, hh]]; exact PumpA.shut hS⟩
  | true =>
    rcases side_cases (n := n) (by simp [PS.hears] at hh; simpa using hh.1.1) with rfl | rfl
    · refine Bif.i (fun _ => NilP.i (LdP.i hS rfl ((Add_spec ((hr.cons _).cons _) hc hS.p1).of fun v w2 ⟨hv, hS⟩ => ⟨_, hv, ?_, ?_⟩))) fun h => by simp [isNone'] at h
      · simp [PS.inN, hh, PS.at]
      · rw [show s.in_ (capOf most) 0 xs = ⟨s.w0.add (capOf most) xs, s.w1, s.broken⟩ by simp [PS.in_, hh]]
        exact PumpA.shut (s := ⟨s.w0.add (capOf most) xs, s.w1, s.broken⟩) hS.p1
    · refine Bif.i (fun _ => NilP.i (LdP.i hS rfl ((Add_spec ((hr.cons _).cons _) hc hS.p2).of fun v w2 ⟨hv, hS⟩ => ⟨_, hv, ?_, ?_⟩))) fun h => by simp [isNone'] at h
      · simp [PS.inN, hh, PS.at]
      · rw [show s.in_ (capOf most) 1 xs = ⟨s.w0, s.w1.add (capOf most) xs, s.broken⟩ by simp [PS.in_, hh]]
        exact PumpA.shut (s := ⟨s.w0, s.w1.add (capOf most) xs, s.broken⟩) (St.push [_, _] hS)

theorem PRoom_spec {W w : World} {F : List Asn} {pb : Nat} {most : Int} {s : PS} (n : Int) (hS : St W (PumpA pb most s :: F) w) :
    CallR Try.prog 18 #[.pointer (some ⟨pb, 0, none⟩), .int .i64 n] w fun v w' => v = .int .i64 (s.room (capOf most) n : Nat) ∧ St W (PumpA pb most s :: F) w' := by
  obtain ⟨r0, r1, hS⟩ := PumpA.open_ hS
  refine F18_of ((hears_spec n hS).of fun v w1 ⟨hv, hS⟩ => ⟨_, hv, ?_⟩)
  cases hh : s.hears n with
  | false => exact Bif.i (fun h => by simp [isNone'] at h) fun _ => ⟨by simp [PS.room, hh], PumpA.shut hS⟩
  | true =>
    rcases side_cases (n := n) (by simp [PS.hears] at hh; simpa using hh.1.1) with rfl | rfl
    · exact Bif.i (fun _ => NilP.i (LdP.i hS rfl ((Room_spec hS.p1).of fun v w2 ⟨hv, hS⟩ => ⟨_, hv, by simp [PS.room, hh, PS.at], PumpA.shut hS.p1⟩))) fun h => by simp [isNone'] at h
    · exact Bif.i (fun _ => NilP.i (LdP.i hS rfl ((Room_spec hS.p2).of fun v w2 ⟨hv, hS⟩ => ⟨_, hv, by simp [PS.room, hh, PS.at], PumpA.shut (St.push [_, _] hS)⟩))) fun h => by simp [isNone'] at h

theorem PWaits_spec {W w : World} {F : List Asn} {pb : Nat} {most : Int} {s : PS} (n : Int) (hS : St W (PumpA pb most s :: F) w) :
    CallR Try.prog 16 #[.pointer (some ⟨pb, 0, none⟩), .int .i64 n] w fun v w' => v = .int .i64 (s.waits n : Nat) ∧ St W (PumpA pb most s :: F) w' := by
  obtain ⟨r0, r1, hS⟩ := PumpA.open_ hS
  refine F16_of ((pside_spec n hS).of fun v w1 ⟨hv, hS⟩ => ⟨_, hv, Bif.i (fun h => ⟨?_, PumpA.shut hS⟩) fun h => ?_⟩)
  · have h : sideB n = false := by simpa using h
    simp [PS.waits, h]
  have hs : sideB n = true := by simpa using h
  rcases side_cases hs with rfl | rfl
  · exact NilP.i ⟨_, rfl, ⟨by decide, by decide⟩, LdP.i (k0 := 4) hS rfl ((Many_spec hS.p2).of fun v w2 ⟨hv, hS⟩ => ⟨_, hv, by simp [PS.waits, hs, PS.to], PumpA.shut (St.push [_, _] hS)⟩)⟩
  · exact NilP.i ⟨_, rfl, ⟨by decide, by decide⟩, LdP.i (k0 := 0) hS rfl ((Many_spec hS.p1).of fun v w2 ⟨hv, hS⟩ => ⟨_, hv, by simp [PS.waits, hs, PS.to], PumpA.shut hS.p1⟩)⟩

theorem PMoved_spec {W w : World} {F : List Asn} {pb : Nat} {most : Int} {s : PS} (n : Int) (hS : St W (PumpA pb most s :: F) w) :
    CallR Try.prog 17 #[.pointer (some ⟨pb, 0, none⟩), .int .i64 n] w fun v w' => v = .int .i64 (s.moved n) ∧ St W (PumpA pb most s :: F) w' := by
  obtain ⟨r0, r1, hS⟩ := PumpA.open_ hS
  refine F17_of ((pside_spec n hS).of fun v w1 ⟨hv, hS⟩ => ⟨_, hv, Bif.i (fun h => ⟨?_, PumpA.shut hS⟩) fun h => ?_⟩)
  · have h : sideB n = false := by simpa using h
    simp [PS.moved, h]
  have hs : sideB n = true := by simpa using h
  rcases side_cases hs with rfl | rfl
  · exact NilP.i ⟨_, rfl, ⟨by decide, by decide⟩, LdI.i (k0 := 7) hS rfl ⟨by simp [PS.moved, hs, PS.to], PumpA.shut hS⟩⟩
  · exact NilP.i ⟨_, rfl, ⟨by decide, by decide⟩, LdI.i (k0 := 3) hS rfl ⟨by simp [PS.moved, hs, PS.to], PumpA.shut hS⟩⟩

theorem POver_spec {W w : World} {F : List Asn} {pb : Nat} {most : Int} {s : PS} (hS : St W (PumpA pb most s :: F) w) :
    CallR Try.prog 28 #[.pointer (some ⟨pb, 0, none⟩)] w fun v w' => v = .bool s.over ∧ St W (PumpA pb most s :: F) w' := by
  obtain ⟨r0, r1, hS⟩ := PumpA.open_ hS
  refine F28_of (NilP.i (LdB.i hS rfl (Bif.i (fun h => ⟨by simp [PS.over, h], PumpA.shut hS⟩) fun h => NilP.i ⟨_, rfl, ⟨by decide, by decide⟩, LdB.i (k0 := 2) hS rfl (Bif.i (fun h1 => NilP.i ⟨_, rfl, ⟨by decide, by decide⟩, LdB.i (k0 := 6) hS rfl ⟨by simp [PS.over, h, h1], PumpA.shut hS⟩⟩) fun h1 => ⟨by simp [PS.over, h, h1], PumpA.shut hS⟩)⟩)))

theorem out_fin {W w : World} {F : List Asn} {pb r0 r1 b : Nat} {most : Int} {w0 w1 : Way} {br : Bool} {bs : List UInt8} (h : St W (Row pb 50 (pumpRow r0 r1 most w0 w1 br) :: RingA r0 (capOf most) w0.bs :: RingA r1 (capOf most) w1.bs :: Row b 5 (bs.map byteV) :: F) w) :
    St W (OwnS 5 1 (some ⟨b, 0, none⟩) bs.length bs.length (bs.map byteV) :: PumpA pb most ⟨w0, w1, br⟩ :: F) w :=
  OwnS.whole (by simp) (PumpA.shut (s := ⟨w0, w1, br⟩) h).p1

theorem POut_spec {W w : World} {F : List Asn} {pb : Nat} {most : Int} {s : PS} (n k : Int) (hS : St W (PumpA pb most s :: F) w) :
    CallR Try.prog 13 #[.pointer (some ⟨pb, 0, none⟩), .int .i64 n, .int .i64 k] w fun v w' => ∃ p c, v = .tuple #[.slice p (s.outB n k).length c, .bool (s.outE n k)] ∧ St W (OwnS 5 1 p (s.outB n k).length c ((s.outB n k).map byteV) :: PumpA pb most (s.out n k) :: F) w' := by
  obtain ⟨r0, r1, hS⟩ := PumpA.open_ hS
  refine F13_of ((pside_spec n hS).of fun v w1 ⟨hv, hS⟩ => ⟨_, hv, Bif.i (fun h => ⟨none, 0, ?_⟩) fun h => ?_⟩)
  · have h : sideB n = false := by simpa using h
    rw [show s.out n k = s by simp [PS.out, h], show s.outB n k = [] by simp [PS.outB, h], show s.outE n k = false by simp [PS.outE, h]]
    exact ⟨rfl, OwnS.nil _ _ _ (PumpA.shut hS)⟩
  have hs : sideB n = true := by simpa using h
  refine NilP.i (LdB.i hS rfl (Bif.i (fun h => ⟨none, 0, ?_⟩) fun hb => ?_))
  · rw [show s.out n k = s by simp [PS.out, h], show s.outB n k = [] by simp [PS.outB, h], show s.outE n k = false by simp [PS.outE, h]]
    exact ⟨rfl, OwnS.nil _ _ _ (PumpA.shut hS)⟩
  rcases side_cases hs with rfl | rfl
  · rw [show s.out 0 k = ⟨s.w0, s.w1.out k, false⟩ by simp [PS.out, hb, hs], show s.outB 0 k = s.w1.bs.take k.toNat by simp [PS.outB, hb, hs, PS.to], show s.outE 0 k = s.w1.end_ k by simp [PS.outE, hb, hs, PS.to]]
    rw [hb] at hS
    have fin : ∀ (told e : Bool) (w' : World) (b : Nat), (s.w1.told || s.w1.end_ k) = told → s.w1.end_ k = e → St W (Row pb 50 [.pointer (some ⟨r0, 0, none⟩), .bool s.w0.ended, .bool s.w0.told, .int .i64 s.w0.moved, .pointer (some ⟨r1, 0, none⟩), .bool s.w1.ended, .bool told, .int .i64 (IntKind.wrap .i64 (s.w1.moved + ((s.w1.bs.take k.toNat).length : Int))), .int .i64 most, .bool false] :: RingA r0 (capOf most) s.w0.bs :: RingA r1 (capOf most) (s.w1.bs.drop k.toNat) :: Row b 5 ((s.w1.bs.take k.toNat).map byteV) :: F) w' →
        ∃ p c, Value.tuple #[.slice (some ⟨b, 0, none⟩) (s.w1.bs.take k.toNat).length (s.w1.bs.take k.toNat).length, .bool e] = Value.tuple #[.slice p (s.w1.bs.take k.toNat).length c, .bool (s.w1.end_ k)] ∧ St W (OwnS 5 1 p (s.w1.bs.take k.toNat).length c ((s.w1.bs.take k.toNat).map byteV) :: PumpA pb most ⟨s.w0, s.w1.out k, false⟩ :: F) w' := by
      intro told e w' b h1 h2 h
      subst h1; subst h2
      exact ⟨_, _, rfl, out_fin (w1 := s.w1.out k) h⟩
    refine NilP.i ⟨_, rfl, ⟨by decide, by decide⟩, ?_⟩
    refine CallR.of (F32_of (NilP.i (LdP.i (k0 := 4) hS rfl ((Take_spec k hS.p2).of fun v w2 ⟨b, hv, hS⟩ => ⟨_, _, _, hv, ?_⟩)))) fun v w' hv => hv
    have hS := St.push [_, _] (St.push [_, _, _] hS)
    refine NilP.i (LdI.i (k0 := 7) hS rfl (NilP.i (St1.i (k0 := 7) hS (by simp [pumpRow]) fun w3 hS => NilP.i (LdB.i (k0 := 5) hS rfl (Bif.i (fun he => ⟨_, _, _, _, rfl, ?_⟩) fun he => NilP.i (LdB.i (k0 := 6) hS rfl (Bif.i (fun ht => ⟨_, _, _, _, rfl, ?_⟩) fun ht => ?_)))))))
    · have he : s.w1.ended = false := by simpa using he
      exact fin _ _ _ _ (by simp [Way.end_, he]) (by simp [Way.end_, he]) hS
    · exact fin _ _ _ _ (by simp [Way.end_, ht]) (by simp [Way.end_, ht]) hS
    refine NilP.i (LdP.i (k0 := 4) hS rfl ((Many_spec hS.p2).of fun v w4 ⟨hv, hS⟩ => ⟨_, hv, Bif.i (fun hm => ⟨_, _, _, _, rfl, ?_⟩) fun hm => ?_⟩))
    · have hm : 0 < (s.w1.bs.drop k.toNat).length := by have := of_decide_eq_true hm; omega
      have hne : (s.w1.bs.drop k.toNat).isEmpty = false := by cases hd : s.w1.bs.drop k.toNat with | nil => rw [hd] at hm; simp at hm | cons => rfl
      exact fin _ _ _ _ (by simp only [Way.end_, hne, Bool.and_false, Bool.or_false]) (by simp only [Way.end_, hne, Bool.and_false]) (St.push [_, _] hS)
    · have hm : (s.w1.bs.drop k.toNat).length = 0 := by have := of_decide_eq_false hm; omega
      have hne : (s.w1.bs.drop k.toNat).isEmpty = true := by rw [List.isEmpty_iff]; exact List.eq_nil_of_length_eq_zero hm
      have he : s.w1.ended = true := by simpa using he
      refine NilP.i (St1.i (k0 := 6) (St.push [_, _] hS) (by simp [pumpRow]) fun w5 hS => ⟨_, _, _, _, rfl, ?_⟩)
      exact fin _ _ _ _ (by simp only [Way.end_, hne, he, ht, Bool.not_false, Bool.and_true, Bool.or_true]) (by simp only [Way.end_, hne, he, ht, Bool.not_false, Bool.and_true]) hS
  · rw [show s.out 1 k = ⟨s.w0.out k, s.w1, false⟩ by simp [PS.out, hb, hs], show s.outB 1 k = s.w0.bs.take k.toNat by simp [PS.outB, hb, hs, PS.to], show s.outE 1 k = s.w0.end_ k by simp [PS.outE, hb, hs, PS.to]]
    rw [hb] at hS
    have fin : ∀ (told e : Bool) (w' : World) (b : Nat), (s.w0.told || s.w0.end_ k) = told → s.w0.end_ k = e → St W (Row pb 50 [.pointer (some ⟨r0, 0, none⟩), .bool s.w0.ended, .bool told, .int .i64 (IntKind.wrap .i64 (s.w0.moved + ((s.w0.bs.take k.toNat).length : Int))), .pointer (some ⟨r1, 0, none⟩), .bool s.w1.ended, .bool s.w1.told, .int .i64 s.w1.moved, .int .i64 most, .bool false] :: RingA r0 (capOf most) (s.w0.bs.drop k.toNat) :: RingA r1 (capOf most) s.w1.bs :: Row b 5 ((s.w0.bs.take k.toNat).map byteV) :: F) w' →
        ∃ p c, Value.tuple #[.slice (some ⟨b, 0, none⟩) (s.w0.bs.take k.toNat).length (s.w0.bs.take k.toNat).length, .bool e] = Value.tuple #[.slice p (s.w0.bs.take k.toNat).length c, .bool (s.w0.end_ k)] ∧ St W (OwnS 5 1 p (s.w0.bs.take k.toNat).length c ((s.w0.bs.take k.toNat).map byteV) :: PumpA pb most ⟨s.w0.out k, s.w1, false⟩ :: F) w' := by
      intro told e w' b h1 h2 h
      subst h1; subst h2
      exact ⟨_, _, rfl, out_fin (w0 := s.w0.out k) h⟩
    refine NilP.i ⟨_, rfl, ⟨by decide, by decide⟩, ?_⟩
    refine CallR.of (F32_of (NilP.i (LdP.i (k0 := 0) hS rfl ((Take_spec k hS.p1).of fun v w2 ⟨b, hv, hS⟩ => ⟨_, _, _, hv, ?_⟩)))) fun v w' hv => hv
    have hS := (St.push [_, _, _] hS).p1
    refine NilP.i (LdI.i (k0 := 3) hS rfl (NilP.i (St1.i (k0 := 3) hS (by simp [pumpRow]) fun w3 hS => NilP.i (LdB.i (k0 := 1) hS rfl (Bif.i (fun he => ⟨_, _, _, _, rfl, ?_⟩) fun he => NilP.i (LdB.i (k0 := 2) hS rfl (Bif.i (fun ht => ⟨_, _, _, _, rfl, ?_⟩) fun ht => ?_)))))))
    · have he : s.w0.ended = false := by simpa using he
      exact fin _ _ _ _ (by simp [Way.end_, he]) (by simp [Way.end_, he]) hS
    · exact fin _ _ _ _ (by simp [Way.end_, ht]) (by simp [Way.end_, ht]) hS
    refine NilP.i (LdP.i (k0 := 0) hS rfl ((Many_spec hS.p1).of fun v w4 ⟨hv, hS⟩ => ⟨_, hv, Bif.i (fun hm => ⟨_, _, _, _, rfl, ?_⟩) fun hm => ?_⟩))
    · have hm : 0 < (s.w0.bs.drop k.toNat).length := by have := of_decide_eq_true hm; omega
      have hne : (s.w0.bs.drop k.toNat).isEmpty = false := by cases hd : s.w0.bs.drop k.toNat with | nil => rw [hd] at hm; simp at hm | cons => rfl
      exact fin _ _ _ _ (by simp only [Way.end_, hne, Bool.and_false, Bool.or_false]) (by simp only [Way.end_, hne, Bool.and_false]) hS.p1
    · have hm : (s.w0.bs.drop k.toNat).length = 0 := by have := of_decide_eq_false hm; omega
      have hne : (s.w0.bs.drop k.toNat).isEmpty = true := by rw [List.isEmpty_iff]; exact List.eq_nil_of_length_eq_zero hm
      have he : s.w0.ended = true := by simpa using he
      refine NilP.i (St1.i (k0 := 2) hS.p1 (by simp [pumpRow]) fun w5 hS => ⟨_, _, _, _, rfl, ?_⟩)
      exact fin _ _ _ _ (by simp only [Way.end_, hne, he, ht, Bool.not_false, Bool.and_true, Bool.or_true]) (by simp only [Way.end_, hne, he, ht, Bool.not_false, Bool.and_true]) hS

def leftN (n : Nat) : List Value → World → Nat := fun vs _ => match vs.getLast? with
  | some (.int _ i) => n - i.toNat
  | _ => 0
theorem PBreak_spec {W w : World} {F : List Asn} {pb : Nat} {most : Int} {s : PS} (hS : St W (PumpA pb most s :: F) w) :
    CallR Try.prog 22 #[.pointer (some ⟨pb, 0, none⟩)] w fun v w' => v = .tuple #[] ∧ St W (PumpA pb most s.break_ :: F) w' := by
  obtain ⟨r0, r1, hS⟩ := PumpA.open_ hS
  refine F22_of (NilP.i (St1.i (k0 := 9) hS (by simp [pumpRow]) fun w2 hS => ?_))
  refine ⟨fun vs w => (vs = [.int .i64 0] ∧ ∃ r0 r1, St W (Row pb 50 (pumpRow r0 r1 most s.w0 s.w1 true) :: RingA r0 (capOf most) s.w0.bs :: RingA r1 (capOf most) s.w1.bs :: F) w) ∨ (vs = [.int .i64 1] ∧ ∃ r0 r1, St W (Row pb 50 (pumpRow r0 r1 most s.w0 s.w1 true) :: RingA r0 (capOf most) [] :: RingA r1 (capOf most) s.w1.bs :: F) w) ∨ (vs = [.int .i64 2] ∧ ∃ r0 r1, St W (Row pb 50 (pumpRow r0 r1 most s.w0 s.w1 true) :: RingA r0 (capOf most) [] :: RingA r1 (capOf most) [] :: F) w), leftN 2, .inl ⟨rfl, r0, r1, hS⟩, fun i w3 hI => ?_⟩
  rcases hI with ⟨he, r0, r1, hS⟩ | ⟨he, r0, r1, hS⟩ | ⟨he, r0, r1, hS⟩ <;> cases he
  · refine Bif.i (fun _ => ⟨StC W _, StC.start hS, NilP.i (NilP.i ⟨most, fun G w4 h4 => LdI.i (k0 := 8) h4 rfl ⟨rfl, h4⟩, ?_⟩)⟩) fun h => by simp at h
    refine ⟨Nat, 0, fun r => .pointer (some ⟨r, 0, none⟩), fun r => StC W (RingA r (capOf most) [] :: Row pb 50 (pumpRow r0 r1 most s.w0 s.w1 true) :: RingA r0 (capOf most) s.w0.bs :: RingA r1 (capOf most) s.w1.bs :: F), fun G w4 h4 => (New_spec most h4).of fun v w5 ⟨r, hv, h5⟩ => ⟨_, hv, r, rfl, h5⟩, fun r => ⟨_, rfl, trivial, _, rfl, ⟨by decide, by decide⟩, Unit, (), fun _ => .tuple #[], fun _ => StC W (RingA r (capOf most) [] :: Row pb 50 (pumpRow r r1 most s.w0 s.w1 true) :: RingA r0 (capOf most) s.w0.bs :: RingA r1 (capOf most) s.w1.bs :: F), fun G w4 h4 => ?_, fun _ => ⟨rfl, trivial, fun G w4 h4 => ?_⟩⟩⟩
    · exact St1.i (k0 := 0) (St.p1 h4) (by simp [pumpRow]) fun w5 h5 => ⟨(), rfl, St.p1 h5⟩
    · exact ⟨.inr (.inl ⟨rfl, r, r1, ((St.p2 (StC.ends h4)).drop).p1⟩), (show (2 - 1 : Nat) < 2 - 0 by decide)⟩
  · refine Bif.i (fun _ => ⟨StC W _, StC.start hS, NilP.i (NilP.i ⟨most, fun G w4 h4 => LdI.i (k0 := 8) h4 rfl ⟨rfl, h4⟩, ?_⟩)⟩) fun h => by simp at h
    refine ⟨Nat, 0, fun r => .pointer (some ⟨r, 0, none⟩), fun r => StC W (RingA r (capOf most) [] :: Row pb 50 (pumpRow r0 r1 most s.w0 s.w1 true) :: RingA r0 (capOf most) [] :: RingA r1 (capOf most) s.w1.bs :: F), fun G w4 h4 => (New_spec most h4).of fun v w5 ⟨r, hv, h5⟩ => ⟨_, hv, r, rfl, h5⟩, fun r => ⟨_, rfl, trivial, _, rfl, ⟨by decide, by decide⟩, Unit, (), fun _ => .tuple #[], fun _ => StC W (RingA r (capOf most) [] :: Row pb 50 (pumpRow r0 r most s.w0 s.w1 true) :: RingA r0 (capOf most) [] :: RingA r1 (capOf most) s.w1.bs :: F), fun G w4 h4 => ?_, fun _ => ⟨rfl, trivial, fun G w4 h4 => ?_⟩⟩⟩
    · exact St1.i (k0 := 4) (St.p1 h4) (by simp [pumpRow]) fun w5 h5 => ⟨(), rfl, St.p1 h5⟩
    · exact ⟨.inr (.inr ⟨rfl, r0, r, St.push [_, _] ((St.p3 (StC.ends h4)).drop)⟩), (show (2 - 2 : Nat) < 2 - 1 by decide)⟩
  · refine Bif.i (fun h => by simp at h) fun _ => ⟨rfl, ?_⟩
    exact PumpA.shut (s := s.break_) hS

theorem PNew_spec {W w : World} {F : List Asn} (most : Int) (hS : St W F w) :
    CallR Try.prog 11 #[.int .i64 most] w fun v w' => ∃ pb, v = .pointer (some ⟨pb, 0, none⟩) ∧ St W (PumpA pb most PS.new :: F) w' := by
  refine F11_of (NewC.i hS fun pb w2 hS => ?_)
  refine ⟨fun vs w => (vs = [.int .i64 0] ∧ St W (Row pb 50 [.pointer none, .bool false, .bool false, .int .i64 0, .pointer none, .bool false, .bool false, .int .i64 0, .int .i64 most, .bool false] :: F) w) ∨ (vs = [.int .i64 1] ∧ ∃ r0, St W (Row pb 50 [.pointer (some ⟨r0, 0, none⟩), .bool false, .bool false, .int .i64 0, .pointer none, .bool false, .bool false, .int .i64 0, .int .i64 most, .bool false] :: RingA r0 (capOf most) [] :: F) w) ∨ (vs = [.int .i64 2] ∧ ∃ r0 r1, St W (Row pb 50 (pumpRow r0 r1 most Way.new Way.new false) :: RingA r0 (capOf most) [] :: RingA r1 (capOf most) [] :: F) w), leftN 2, .inl ⟨rfl, hS⟩, fun i w3 hI => ?_⟩
  rcases hI with ⟨he, hS⟩ | ⟨he, r0, hS⟩ | ⟨he, r0, r1, hS⟩ <;> cases he
  · refine Bif.i (fun _ => ⟨StC W _, StC.start hS, ?_⟩) fun h => by simp at h
    refine ⟨Nat, 0, fun r => .pointer (some ⟨r, 0, none⟩), fun r => StC W (RingA r (capOf most) [] :: Row pb 50 [.pointer none, .bool false, .bool false, .int .i64 0, .pointer none, .bool false, .bool false, .int .i64 0, .int .i64 most, .bool false] :: F), fun G w4 h4 => (New_spec most h4).of fun v w5 ⟨r, hv, h5⟩ => ⟨_, hv, r, rfl, h5⟩, fun r => ⟨_, rfl, trivial, _, rfl, ⟨by decide, by decide⟩, Unit, (), fun _ => .tuple #[], fun _ => StC W (Row pb 50 [.pointer (some ⟨r, 0, none⟩), .bool false, .bool false, .int .i64 0, .pointer none, .bool false, .bool false, .int .i64 0, .int .i64 most, .bool false] :: RingA r (capOf most) [] :: F), fun G w4 h4 => ?_, fun _ => ⟨rfl, trivial, fun G w4 h4 => ?_⟩⟩⟩
    · exact St1.i (k0 := 0) (St.p1 h4) (by simp) fun w5 h5 => ⟨(), rfl, h5⟩
    · exact ⟨.inr (.inl ⟨rfl, r, StC.ends h4⟩), (show (2 - 1 : Nat) < 2 - 0 by decide)⟩
  · refine Bif.i (fun _ => ⟨StC W _, StC.start hS, ?_⟩) fun h => by simp at h
    refine ⟨Nat, 0, fun r => .pointer (some ⟨r, 0, none⟩), fun r => StC W (RingA r (capOf most) [] :: Row pb 50 [.pointer (some ⟨r0, 0, none⟩), .bool false, .bool false, .int .i64 0, .pointer none, .bool false, .bool false, .int .i64 0, .int .i64 most, .bool false] :: RingA r0 (capOf most) [] :: F), fun G w4 h4 => (New_spec most h4).of fun v w5 ⟨r, hv, h5⟩ => ⟨_, hv, r, rfl, h5⟩, fun r => ⟨_, rfl, trivial, _, rfl, ⟨by decide, by decide⟩, Unit, (), fun _ => .tuple #[], fun _ => StC W (Row pb 50 (pumpRow r0 r most Way.new Way.new false) :: RingA r0 (capOf most) [] :: RingA r (capOf most) [] :: F), fun G w4 h4 => ?_, fun _ => ⟨rfl, trivial, fun G w4 h4 => ?_⟩⟩⟩
    · exact St1.i (k0 := 4) (St.p1 h4) (by simp) fun w5 h5 => ⟨(), rfl, h5.perm (List.Perm.cons _ (List.Perm.swap _ _ _))⟩
    · exact ⟨.inr (.inr ⟨rfl, r0, r, StC.ends h4⟩), (show (2 - 2 : Nat) < 2 - 1 by decide)⟩
  · refine Bif.i (fun h => by simp at h) fun _ => ⟨pb, rfl, ?_⟩
    exact PumpA.shut (s := PS.new) hS
end Go.Proofs.Ytneilmoiahphkaa
