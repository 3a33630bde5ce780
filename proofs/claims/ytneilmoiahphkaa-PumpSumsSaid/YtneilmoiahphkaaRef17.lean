/-
  Contracts of the document's bytes that go both ways.
-/
import Derived.Test.YtneilmoiahphkaaPumpC
import Derived.Test.YtneilmoiahphkaaRef07
set_option linter.unusedVariables false
set_option linter.unusedSimpArgs false
namespace Go.Proofs.Ytneilmoiahphkaa
open Go

def qRow (r0 r1 : Nat) (w0 w1 : Way) (br : Bool) : List Value :=
  [.pointer (some ⟨r0, 0, none⟩), .bool w0.ended, .bool w0.told, .int .i64 w0.moved, .pointer (some ⟨r1, 0, none⟩), .bool w1.ended, .bool w1.told, .int .i64 w1.moved, .bool br]
def QPumpA (pb : Nat) (m : Nat) (s : PS) : Asn := exA fun x : Nat × Nat => sepA [
  Row pb 62 (qRow x.1 x.2 s.w0 s.w1 s.broken), RefA x.1 m s.w0.bs, RefA x.2 m s.w1.bs]
theorem QPumpA.open_ {W w : World} {F : List Asn} {pb m : Nat} {s : PS} (h : St W (QPumpA pb m s :: F) w) :
    ∃ r0 r1 : Nat, St W (Row pb 62 (qRow r0 r1 s.w0 s.w1 s.broken) :: RefA r0 m s.w0.bs :: RefA r1 m s.w1.bs :: F) w := by
  obtain ⟨⟨r0, r1⟩, h⟩ := h.of_ex
  exact ⟨r0, r1, h.of_sep⟩
theorem QPumpA.shut {W w : World} {F : List Asn} {pb m r0 r1 : Nat} {s : PS} (h : St W (Row pb 62 (qRow r0 r1 s.w0 s.w1 s.broken) :: RefA r0 m s.w0.bs :: RefA r1 m s.w1.bs :: F) w) : St W (QPumpA pb m s :: F) w :=
  St.to_ex (r0, r1) (St.to_sep (l := [_, _, _]) h)

theorem qside_spec {W w : World} {F : List Asn} (n : Int) (hS : St W F w) : CallR Try.prog 38 #[.int .i64 n] w fun v w' => v = .bool (sideB n) ∧ St W F w' := by
  refine F38_of (Bif.i (fun h => ⟨?_, hS⟩) fun h => ⟨?_, hS⟩)
  · simp only [sideB, h, Bool.true_or]
  · simp only [sideB, h, Bool.false_or]

theorem QEnd_spec {W w : World} {F : List Asn} {pb m : Nat} {s : PS} (n : Int) (hS : St W (QPumpA pb m s :: F) w) :
    CallR Try.prog 21 #[.pointer (some ⟨pb, 0, none⟩), .int .i64 n] w fun v w' => v = .bool (s.hears n) ∧ St W (QPumpA pb m (s.end_ n) :: F) w' := by
  obtain ⟨r0, r1, hS⟩ := QPumpA.open_ hS
  have no : s.hears n = false → ∀ w', St W (Row pb 62 (qRow r0 r1 s.w0 s.w1 s.broken) :: RefA r0 m s.w0.bs :: RefA r1 m s.w1.bs :: F) w' → Value.bool false = .bool (s.hears n) ∧ St W (QPumpA pb m (s.end_ n) :: F) w' := fun h w' hS => ⟨by rw [h], by rw [show s.end_ n = s by simp [PS.end_, h]]; exact QPumpA.shut hS⟩
  refine F21_of ((qside_spec n hS).of fun v w1 ⟨hv, hS⟩ => ⟨_, hv, Bif.i (fun h => no (by simp at h; simp [PS.hears, h]) _ hS) fun h => ?_⟩)
  have hs : sideB n = true := by simpa using h
  refine NilP.i (LdB.i (k0 := 8) hS rfl (Bif.i (fun h => no (by simp [PS.hears, h]) _ hS) fun hb => ?_))
  rcases side_cases hs with rfl | rfl
  · refine NilP.i ⟨_, rfl, ⟨by decide, by decide⟩, LdB.i (k0 := 1) hS rfl (Bif.i (fun h => no (by simp [PS.hears, h, PS.at]) _ hS) fun he => NilP.i ⟨_, rfl, ⟨by decide, by decide⟩, St1.i (k0 := 1) hS (by simp [qRow]) fun w2 hS => ⟨?_, ?_⟩⟩)⟩
    · simp [PS.hears, hs, hb, PS.at, he]
    · rw [show s.end_ 0 = ⟨{ s.w0 with ended := true }, s.w1, s.broken⟩ by simp [PS.end_, PS.hears, hs, hb, PS.at, he]]
      exact QPumpA.shut (s := ⟨{ s.w0 with ended := true }, s.w1, s.broken⟩) hS
  · refine NilP.i ⟨_, rfl, ⟨by decide, by decide⟩, LdB.i (k0 := 5) hS rfl (Bif.i (fun h => no (by simp [PS.hears, h, PS.at]) _ hS) fun he => NilP.i ⟨_, rfl, ⟨by decide, by decide⟩, St1.i (k0 := 5) hS (by simp [qRow]) fun w2 hS => ⟨?_, ?_⟩⟩)⟩
    · simp [PS.hears, hs, hb, PS.at, he]
    · rw [show s.end_ 1 = ⟨s.w0, { s.w1 with ended := true }, s.broken⟩ by simp [PS.end_, PS.hears, hs, hb, PS.at, he]]
      exact QPumpA.shut (s := ⟨s.w0, { s.w1 with ended := true }, s.broken⟩) hS

theorem QIn_spec {W w : World} {F : List Asn} {pb m c : Nat} {s : PS} {xs : List UInt8} {p : Option Addr} (n : Int) (hr : Rd F p (xs.map byteV)) (hc : xs.length ≤ c) (hS : St W (QPumpA pb m s :: F) w) :
    CallR Try.prog 24 #[.pointer (some ⟨pb, 0, none⟩), .int .i64 n, .slice p xs.length c] w fun v w' => v = .int .i64 (s.inN m n xs : Nat) ∧ St W (QPumpA pb m (s.in_ m n xs) :: F) w' := by
  obtain ⟨r0, r1, hS⟩ := QPumpA.open_ hS
  have no : s.hears n = false → ∀ w', St W (Row pb 62 (qRow r0 r1 s.w0 s.w1 s.broken) :: RefA r0 m s.w0.bs :: RefA r1 m s.w1.bs :: F) w' → Value.int .i64 0 = .int .i64 (s.inN m n xs : Nat) ∧ St W (QPumpA pb m (s.in_ m n xs) :: F) w' := fun h w' hS => ⟨by simp [PS.inN, h], by rw [show s.in_ m n xs = s by simp [PS.in_, h]]; exact QPumpA.shut hS⟩
  refine F24_of ((qside_spec n hS).of fun v w1 ⟨hv, hS⟩ => ⟨_, hv, Bif.i (fun h => no (by simp at h; simp [PS.hears, h]) _ hS) fun h => ?_⟩)
  have hs : sideB n = true := by simpa using h
  refine NilP.i (LdB.i (k0 := 8) hS rfl (Bif.i (fun h => no (by simp [PS.hears, h]) _ hS) fun hb => ?_))
  rcases side_cases hs with rfl | rfl
  · refine NilP.i ⟨_, rfl, ⟨by decide, by decide⟩, LdB.i (k0 := 1) hS rfl (Bif.i (fun h => no (by simp [PS.hears, h, PS.at]) _ hS) fun he => NilP.i ⟨_, rfl, ⟨by decide, by decide⟩, LdP.i (k0 := 0) hS rfl ((RAdd_spec ((hr.cons _).cons _) hc hS.p1).of fun v w2 ⟨hv, hS⟩ => ⟨_, hv, ?_, ?_⟩)⟩)⟩
    · simp [PS.inN, PS.hears, hs, hb, PS.at, he]
    · rw [show s.in_ m 0 xs = ⟨s.w0.add m xs, s.w1, s.broken⟩ by simp [PS.in_, PS.hears, hs, hb, PS.at, he]]
      exact QPumpA.shut (s := ⟨s.w0.add m xs, s.w1, s.broken⟩) hS.p1
  · refine NilP.i ⟨_, rfl, ⟨by decide, by decide⟩, LdB.i (k0 := 5) hS rfl (Bif.i (fun h => no (by simp [PS.hears, h, PS.at]) _ hS) fun he => NilP.i ⟨_, rfl, ⟨by decide, by decide⟩, LdP.i (k0 := 4) hS rfl ((RAdd_spec ((hr.cons _).cons _) hc hS.p2).of fun v w2 ⟨hv, hS⟩ => ⟨_, hv, ?_, ?_⟩)⟩)⟩
    · simp [PS.inN, PS.hears, hs, hb, PS.at, he]
    · rw [show s.in_ m 1 xs = ⟨s.w0, s.w1.add m xs, s.broken⟩ by simp [PS.in_, PS.hears, hs, hb, PS.at, he]]
      exact QPumpA.shut (s := ⟨s.w0, s.w1.add m xs, s.broken⟩) (St.push [_, _] hS)

theorem QWaits_spec {W w : World} {F : List Asn} {pb m : Nat} {s : PS} (n : Int) (hS : St W (QPumpA pb m s :: F) w) :
    CallR Try.prog 25 #[.pointer (some ⟨pb, 0, none⟩), .int .i64 n] w fun v w' => v = .int .i64 (s.waits n : Nat) ∧ St W (QPumpA pb m s :: F) w' := by
  have hS0 := hS
  obtain ⟨r0, r1, hS⟩ := QPumpA.open_ hS
  refine F25_of ((qside_spec n hS).of fun v w1 ⟨hv, hS⟩ => ⟨_, hv, Bif.i (fun h => ⟨?_, QPumpA.shut hS⟩) fun h => ?_⟩)
  · have h : sideB n = false := by simpa using h
    simp [PS.waits, h]
  have hs : sideB n = true := by simpa using h
  rcases side_cases hs with rfl | rfl
  · obtain ⟨q, c, g1, g2, hR⟩ := RefA.open_ hS.p2
    exact NilP.i ⟨_, rfl, ⟨by decide, by decide⟩, LdP.i (k0 := 4) hS rfl (NilP.i (LdL.i (k0 := 0) hR rfl ⟨by simp [PS.waits, hs, PS.to], QPumpA.shut hS⟩))⟩
  · obtain ⟨q, c, g1, g2, hR⟩ := RefA.open_ hS.p1
    exact NilP.i ⟨_, rfl, ⟨by decide, by decide⟩, LdP.i (k0 := 0) hS rfl (NilP.i (LdL.i (k0 := 0) hR rfl ⟨by simp [PS.waits, hs, PS.to], QPumpA.shut hS⟩))⟩

theorem QMoved_spec {W w : World} {F : List Asn} {pb m : Nat} {s : PS} (n : Int) (hS : St W (QPumpA pb m s :: F) w) :
    CallR Try.prog 27 #[.pointer (some ⟨pb, 0, none⟩), .int .i64 n] w fun v w' => v = .int .i64 (s.moved n) ∧ St W (QPumpA pb m s :: F) w' := by
  obtain ⟨r0, r1, hS⟩ := QPumpA.open_ hS
  refine F27_of ((qside_spec n hS).of fun v w1 ⟨hv, hS⟩ => ⟨_, hv, Bif.i (fun h => ⟨?_, QPumpA.shut hS⟩) fun h => ?_⟩)
  · have h : sideB n = false := by simpa using h
    simp [PS.moved, h]
  have hs : sideB n = true := by simpa using h
  rcases side_cases hs with rfl | rfl
  · exact NilP.i ⟨_, rfl, ⟨by decide, by decide⟩, LdI.i (k0 := 7) hS rfl ⟨by simp [PS.moved, hs, PS.to], QPumpA.shut hS⟩⟩
  · exact NilP.i ⟨_, rfl, ⟨by decide, by decide⟩, LdI.i (k0 := 3) hS rfl ⟨by simp [PS.moved, hs, PS.to], QPumpA.shut hS⟩⟩

theorem QOver_spec {W w : World} {F : List Asn} {pb m : Nat} {s : PS} (hS : St W (QPumpA pb m s :: F) w) :
    CallR Try.prog 29 #[.pointer (some ⟨pb, 0, none⟩)] w fun v w' => v = .bool s.over ∧ St W (QPumpA pb m s :: F) w' := by
  obtain ⟨r0, r1, hS⟩ := QPumpA.open_ hS
  refine F29_of (NilP.i (LdB.i hS rfl (Bif.i (fun h => ⟨by simp [PS.over, h], QPumpA.shut hS⟩) fun h => NilP.i ⟨_, rfl, ⟨by decide, by decide⟩, LdB.i (k0 := 2) hS rfl (Bif.i (fun h1 => NilP.i ⟨_, rfl, ⟨by decide, by decide⟩, LdB.i (k0 := 6) hS rfl ⟨by simp [PS.over, h, h1], QPumpA.shut hS⟩⟩) fun h1 => ⟨by simp [PS.over, h, h1], QPumpA.shut hS⟩)⟩)))

theorem QRoom_spec {W w : World} {F : List Asn} {pb m : Nat} {s : PS} (n : Int) (hS : St W (QPumpA pb m s :: F) w) :
    CallR Try.prog 26 #[.pointer (some ⟨pb, 0, none⟩), .int .i64 n] w fun v w' => v = .int .i64 (s.room m n : Nat) ∧ St W (QPumpA pb m s :: F) w' := by
  obtain ⟨r0, r1, hS⟩ := QPumpA.open_ hS
  have no : s.hears n = false → ∀ w', St W (Row pb 62 (qRow r0 r1 s.w0 s.w1 s.broken) :: RefA r0 m s.w0.bs :: RefA r1 m s.w1.bs :: F) w' → Value.int .i64 0 = .int .i64 (s.room m n : Nat) ∧ St W (QPumpA pb m s :: F) w' := fun h w' hS => ⟨by simp [PS.room, h], QPumpA.shut hS⟩
  refine F26_of ((qside_spec n hS).of fun v w1 ⟨hv, hS⟩ => ⟨_, hv, Bif.i (fun h => no (by simp at h; simp [PS.hears, h]) _ hS) fun h => ?_⟩)
  have hs : sideB n = true := by simpa using h
  refine NilP.i (LdB.i (k0 := 8) hS rfl (Bif.i (fun h => no (by simp [PS.hears, h]) _ hS) fun hb => ?_))
  rcases side_cases hs with rfl | rfl
  · refine NilP.i ⟨_, rfl, ⟨by decide, by decide⟩, LdB.i (k0 := 1) hS rfl (Bif.i (fun h => no (by simp [PS.hears, h, PS.at]) _ hS) fun he => ?_)⟩
    obtain ⟨q, c, g1, g2, hR⟩ := RefA.open_ hS.p1
    refine ⟨StC W _, StC.start hR, NilP.i ⟨_, rfl, ⟨by decide, by decide⟩, NilP.i ⟨_, rfl, ⟨by decide, by decide⟩, _, fun G w6 h6 => LdP.i (k0 := 0) (St.p2 h6) rfl ⟨rfl, h6⟩, NilP.i ⟨_, fun G w6 h6 => LdI.i (k0 := 1) h6 rfl ⟨rfl, h6⟩, _, fun G w6 h6 => LdP.i (k0 := 0) (St.p2 h6) rfl ⟨rfl, h6⟩, NilP.i ⟨_, _, _, fun G w6 h6 => LdL.i (k0 := 0) h6 rfl ⟨rfl, h6⟩, fun G w7 h7 => ⟨?_, ?_⟩⟩⟩⟩⟩⟩
    · rw [w64 (by omega) (by omega)]
      simp [PS.room, PS.hears, hs, hb, PS.at, he]
      omega
    · exact QPumpA.shut (RefA.shut rfl g1 g2 (StC.ends h7)).p1
  · refine NilP.i ⟨_, rfl, ⟨by decide, by decide⟩, LdB.i (k0 := 5) hS rfl (Bif.i (fun h => no (by simp [PS.hears, h, PS.at]) _ hS) fun he => ?_)⟩
    obtain ⟨q, c, g1, g2, hR⟩ := RefA.open_ hS.p2
    refine ⟨StC W _, StC.start hR, NilP.i ⟨_, rfl, ⟨by decide, by decide⟩, NilP.i ⟨_, rfl, ⟨by decide, by decide⟩, _, fun G w6 h6 => LdP.i (k0 := 4) (St.p2 h6) rfl ⟨rfl, h6⟩, NilP.i ⟨_, fun G w6 h6 => LdI.i (k0 := 1) h6 rfl ⟨rfl, h6⟩, _, fun G w6 h6 => LdP.i (k0 := 4) (St.p2 h6) rfl ⟨rfl, h6⟩, NilP.i ⟨_, _, _, fun G w6 h6 => LdL.i (k0 := 0) h6 rfl ⟨rfl, h6⟩, fun G w7 h7 => ⟨?_, ?_⟩⟩⟩⟩⟩⟩
    · rw [w64 (by omega) (by omega)]
      simp [PS.room, PS.hears, hs, hb, PS.at, he]
      omega
    · exact QPumpA.shut (St.push [_, _] (RefA.shut rfl g1 g2 (StC.ends h7)))

theorem QBreak_spec {W w : World} {F : List Asn} {pb m : Nat} {s : PS} (hS : St W (QPumpA pb m s :: F) w) :
    CallR Try.prog 23 #[.pointer (some ⟨pb, 0, none⟩)] w fun v w' => v = .tuple #[] ∧ St W (QPumpA pb m s.break_ :: F) w' := by
  obtain ⟨r0, r1, hS⟩ := QPumpA.open_ hS
  refine F23_of (NilP.i (St1.i (k0 := 8) hS (by simp [qRow]) fun w2 hS => NilP.i ⟨_, rfl, ⟨by decide, by decide⟩, LdP.i (k0 := 0) hS rfl ?_⟩))
  obtain ⟨q, c, g1, g2, hR⟩ := RefA.open_ hS.p1
  refine NilP.i (St1.i (k0 := 0) hR (by simp) fun w3 hR => ?_)
  have hS := (RefA.shut (bs := []) (p := none) (c := 0) (n := 0) rfl g1 (by simp) (OwnS.nil _ _ _ hR.p1.drop).p1).p1
  refine NilP.i ⟨_, rfl, ⟨by decide, by decide⟩, LdP.i (k0 := 4) hS rfl ?_⟩
  obtain ⟨q, c, g1, g2, hR⟩ := RefA.open_ hS.p2
  refine NilP.i (St1.i (k0 := 0) hR (by simp) fun w3 hR => ⟨rfl, ?_⟩)
  have hS := St.push [_, _] (RefA.shut (bs := []) (p := none) (c := 0) (n := 0) rfl g1 (by simp) (OwnS.nil _ _ _ hR.p1.drop).p1)
  exact QPumpA.shut (s := s.break_) hS

theorem QNew_spec {W w : World} {F : List Asn} (most : Int) (hS : St W F w) :
    CallR Try.prog 19 #[.int .i64 most] w fun v w' => ∃ pb, v = .pointer (some ⟨pb, 0, none⟩) ∧ St W (QPumpA pb (capOf most) PS.new :: F) w' := by
  refine F19_of (NewC.i hS fun pb w2 hS => ?_)
  refine ⟨StC W _, StC.start hS, ?_⟩
  refine ⟨fun v => Cls.some fun r => Cls.only (v = .pointer (some ⟨r, 0, none⟩)) (StC W (RefA r (capOf most) [] :: Row pb 62 [.pointer none, .bool false, .bool false, .int .i64 0, .pointer none, .bool false, .bool false, .int .i64 0, .bool false] :: F)), fun G w4 h4 => (RNew_spec most h4).of fun v w5 ⟨r, hv, h5⟩ => ⟨_, hv, ⟨_, rfl⟩, r, rfl, h5⟩, fun x => ⟨trivial, _, rfl, ⟨by decide, by decide⟩, fun v => Cls.some fun r => (StC W (Row pb 62 [.pointer (some ⟨r, 0, none⟩), .bool false, .bool false, .int .i64 0, .pointer none, .bool false, .bool false, .int .i64 0, .bool false] :: RefA r (capOf most) [] :: F)), fun G w4 ⟨r, hv, h4⟩ => ?_, trivial, fun G w4 ⟨r0, h4⟩ => ?_⟩⟩
  · cases hv
    exact St1.i (k0 := 0) (St.p1 h4) (by simp) fun w5 h5 => ⟨isR0, r, h5⟩
  have hS := StC.ends h4
  refine ⟨StC W _, StC.start hS, ?_⟩
  refine ⟨fun v => Cls.some fun r => Cls.only (v = .pointer (some ⟨r, 0, none⟩)) (StC W (RefA r (capOf most) [] :: Row pb 62 [.pointer (some ⟨r0, 0, none⟩), .bool false, .bool false, .int .i64 0, .pointer none, .bool false, .bool false, .int .i64 0, .bool false] :: RefA r0 (capOf most) [] :: F)), fun G w4 h4 => (RNew_spec most h4).of fun v w5 ⟨r, hv, h5⟩ => ⟨_, hv, ⟨_, rfl⟩, r, rfl, h5⟩, fun x => ⟨trivial, _, rfl, ⟨by decide, by decide⟩, fun v => Cls.some fun r => (StC W (Row pb 62 (qRow r0 r Way.new Way.new false) :: RefA r0 (capOf most) [] :: RefA r (capOf most) [] :: F)), fun G w4 ⟨r, hv, h4⟩ => ?_, trivial, fun G w4 ⟨r, h4⟩ => ?_⟩⟩
  · cases hv
    exact St1.i (k0 := 4) (St.p1 h4) (by simp) fun w5 h5 => ⟨isR0, r, h5.perm (List.Perm.cons _ (List.Perm.swap _ _ _))⟩
  · exact ⟨pb, rfl, QPumpA.shut (s := PS.new) (StC.ends h4)⟩
theorem QOut_spec {W w : World} {F : List Asn} {pb m : Nat} {s : PS} (n k : Int) (hS : St W (QPumpA pb m s :: F) w) :
    CallR Try.prog 20 #[.pointer (some ⟨pb, 0, none⟩), .int .i64 n, .int .i64 k] w fun v w' => ∃ p c, v = .tuple #[.slice p (s.outB n k).length c, .bool (s.outE n k)] ∧ St W (OwnS 5 1 p (s.outB n k).length c ((s.outB n k).map byteV) :: QPumpA pb m (s.out n k) :: F) w' := by
  obtain ⟨r0, r1, hS⟩ := QPumpA.open_ hS
  refine F20_of ((qside_spec n hS).of fun v w1 ⟨hv, hS⟩ => ⟨_, hv, Bif.i (fun h => ⟨none, 0, ?_⟩) fun h => ?_⟩)
  · have h : sideB n = false := by simpa using h
    rw [show s.out n k = s by simp [PS.out, h], show s.outB n k = [] by simp [PS.outB, h], show s.outE n k = false by simp [PS.outE, h]]
    exact ⟨rfl, OwnS.nil _ _ _ (QPumpA.shut hS)⟩
  have hs : sideB n = true := by simpa using h
  refine NilP.i (LdB.i hS rfl (Bif.i (fun h => ⟨none, 0, ?_⟩) fun hb => ?_))
  · rw [show s.out n k = s by simp [PS.out, h], show s.outB n k = [] by simp [PS.outB, h], show s.outE n k = false by simp [PS.outE, h]]
    exact ⟨rfl, OwnS.nil _ _ _ (QPumpA.shut hS)⟩
  rcases side_cases hs with rfl | rfl
  · rw [show s.out 0 k = ⟨s.w0, s.w1.out k, false⟩ by simp [PS.out, hb, hs], show s.outB 0 k = s.w1.bs.take k.toNat by simp [PS.outB, hb, hs, PS.to], show s.outE 0 k = s.w1.end_ k by simp [PS.outE, hb, hs, PS.to]]
    rw [hb] at hS
    refine NilP.i ⟨_, rfl, ⟨by decide, by decide⟩, LdP.i (k0 := 4) hS rfl (LdB.i (k0 := 5) hS rfl (LdB.i (k0 := 6) hS rfl (LdI.i (k0 := 7) hS rfl (NewC.i hS fun b w2 hS => St1.i (k0 := 0) hS (by simp) fun w3 hS => St1.i (k0 := 1) hS (by simp) fun w4 hS => St1.i (k0 := 2) hS (by simp) fun w5 hS => St1.i (k0 := 3) hS (by simp) fun w6 hS => LdP.i (k0 := 0) hS rfl ?_))))⟩
    have hS : St W (Row b 59 (wayCells r1 s.w1) :: Row pb 62 (qRow r0 r1 s.w0 s.w1 false) :: RefA r0 m s.w0.bs :: RefA r1 m s.w1.bs :: F) w6 := hS
    refine (RTake_spec k hS.p3).of fun v w7 ⟨p, c, hv, hS⟩ => ⟨_, _, _, hv, LdI.i (k0 := 3) hS.p2 rfl (St1.i (k0 := 3) hS.p2 (by simp [wayCells]) fun w8 hS => ?_)⟩
    have hS : St W (Row b 59 [.pointer (some ⟨r1, 0, none⟩), .bool s.w1.ended, .bool s.w1.told, .int .i64 (IntKind.wrap .i64 (s.w1.moved + ((s.w1.bs.take k.toNat).length : Int)))] :: OwnS 5 1 p (s.w1.bs.take k.toNat).length c ((s.w1.bs.take k.toNat).map byteV) :: RefA r1 m (s.w1.bs.drop k.toNat) :: Row pb 62 (qRow r0 r1 s.w0 s.w1 false) :: RefA r0 m s.w0.bs :: F) w8 := hS
    refine ⟨fun vs w => vs = [.bool (s.w1.end_ k)] ∧ St W (Row b 59 [.pointer (some ⟨r1, 0, none⟩), .bool s.w1.ended, .bool s.w1.told, .int .i64 (IntKind.wrap .i64 (s.w1.moved + ((s.w1.bs.take k.toNat).length : Int)))] :: OwnS 5 1 p (s.w1.bs.take k.toNat).length c ((s.w1.bs.take k.toNat).map byteV) :: RefA r1 m (s.w1.bs.drop k.toNat) :: Row pb 62 (qRow r0 r1 s.w0 s.w1 false) :: RefA r0 m s.w0.bs :: F) w, LdB.i (k0 := 1) hS rfl (Bif.i (fun he => LdP.i (k0 := 0) hS rfl (NilP.i ?_)) fun he => ⟨by simp [Way.end_, he], hS⟩), fun x w9 hJ => ?_⟩
    · obtain ⟨q, c2, g1, g2, hR⟩ := RefA.open_ hS.p2
      refine LdL.i (k0 := 0) hR rfl (Bif.i (fun hz => LdB.i (k0 := 2) hS rfl ⟨?_, hS⟩) fun hz => ⟨?_, hS⟩)
      · have hz : (s.w1.bs.drop k.toNat).length = 0 := by simp only [beq_iff_eq] at hz; omega
        have hne : (s.w1.bs.drop k.toNat).isEmpty = true := by rw [List.isEmpty_iff]; exact List.eq_nil_of_length_eq_zero hz
        simp only [Way.end_, hne, he, Bool.and_true, Bool.true_and]
      · have hz : (s.w1.bs.drop k.toNat).length ≠ 0 := by simp only [beq_eq_false_iff_ne] at hz; omega
        have hne : (s.w1.bs.drop k.toNat).isEmpty = false := by cases hd : s.w1.bs.drop k.toNat with | nil => rw [hd] at hz; simp at hz | cons => rfl
        simp only [Way.end_, hne, Bool.and_false]
    obtain ⟨he, hS⟩ := hJ
    cases he
    refine ⟨fun vs w => vs = [] ∧ St W (Row b 59 [.pointer (some ⟨r1, 0, none⟩), .bool s.w1.ended, .bool (s.w1.told || s.w1.end_ k), .int .i64 (IntKind.wrap .i64 (s.w1.moved + ((s.w1.bs.take k.toNat).length : Int)))] :: OwnS 5 1 p (s.w1.bs.take k.toNat).length c ((s.w1.bs.take k.toNat).map byteV) :: RefA r1 m (s.w1.bs.drop k.toNat) :: Row pb 62 (qRow r0 r1 s.w0 s.w1 false) :: RefA r0 m s.w0.bs :: F) w, LdB.i (k0 := 2) hS rfl (Bif.i (fun ht => St1.i (k0 := 2) hS (by simp) fun w10 hS => ⟨rfl, by rw [ht, Bool.true_or]; exact hS⟩) fun ht => St1.i (k0 := 2) hS (by simp) fun w10 hS => ⟨rfl, by rw [ht, Bool.false_or]; exact hS⟩), fun w10 hJ => ?_⟩
    obtain ⟨_, hS⟩ := hJ
    refine ⟨StC W _, StC.start hS, NilP.i ⟨_, _, _, _, fun G w11 h => LdP.i (k0 := 0) h rfl (LdB.i (k0 := 1) h rfl (LdB.i (k0 := 2) h rfl (LdI.i (k0 := 3) h rfl ⟨rfl, h⟩))), _, rfl, ⟨by decide, by decide⟩, fun _ => StC W (Row pb 62 (qRow r0 r1 s.w0 (s.w1.out k) false) :: Row b 59 [.pointer (some ⟨r1, 0, none⟩), .bool s.w1.ended, .bool (s.w1.told || s.w1.end_ k), .int .i64 (IntKind.wrap .i64 (s.w1.moved + ((s.w1.bs.take k.toNat).length : Int)))] :: OwnS 5 1 p (s.w1.bs.take k.toNat).length c ((s.w1.bs.take k.toNat).map byteV) :: RefA r1 m (s.w1.bs.drop k.toNat) :: RefA r0 m s.w0.bs :: F), fun G w11 h => St1.i (k0 := 4) (St.p3 h) (by simp [qRow]) fun w12 h => St1.i (k0 := 5) h (by simp [qRow]) fun w13 h => St1.i (k0 := 6) h (by simp [qRow]) fun w14 h => St1.i (k0 := 7) h (by simp [qRow]) fun w15 h => ⟨isR0, h⟩, trivial, fun G w11 h => ⟨p, c, rfl, ?_⟩⟩⟩
    have hS := St.push [_, _, _] (((StC.ends h).p1.drop).p1)
    exact (QPumpA.shut (s := ⟨s.w0, s.w1.out k, false⟩) (hS.perm (List.Perm.cons _ (List.Perm.swap _ _ _)))).p1
  · rw [show s.out 1 k = ⟨s.w0.out k, s.w1, false⟩ by simp [PS.out, hb, hs], show s.outB 1 k = s.w0.bs.take k.toNat by simp [PS.outB, hb, hs, PS.to], show s.outE 1 k = s.w0.end_ k by simp [PS.outE, hb, hs, PS.to]]
    rw [hb] at hS
    refine NilP.i ⟨_, rfl, ⟨by decide, by decide⟩, LdP.i (k0 := 0) hS rfl (LdB.i (k0 := 1) hS rfl (LdB.i (k0 := 2) hS rfl (LdI.i (k0 := 3) hS rfl (NewC.i hS fun b w2 hS => St1.i (k0 := 0) hS (by simp) fun w3 hS => St1.i (k0 := 1) hS (by simp) fun w4 hS => St1.i (k0 := 2) hS (by simp) fun w5 hS => St1.i (k0 := 3) hS (by simp) fun w6 hS => LdP.i (k0 := 0) hS rfl ?_))))⟩
    have hS : St W (Row b 59 (wayCells r0 s.w0) :: Row pb 62 (qRow r0 r1 s.w0 s.w1 false) :: RefA r0 m s.w0.bs :: RefA r1 m s.w1.bs :: F) w6 := hS
    refine (RTake_spec k hS.p2).of fun v w7 ⟨p, c, hv, hS⟩ => ⟨_, _, _, hv, LdI.i (k0 := 3) hS.p2 rfl (St1.i (k0 := 3) hS.p2 (by simp [wayCells]) fun w8 hS => ?_)⟩
    have hS : St W (Row b 59 [.pointer (some ⟨r0, 0, none⟩), .bool s.w0.ended, .bool s.w0.told, .int .i64 (IntKind.wrap .i64 (s.w0.moved + ((s.w0.bs.take k.toNat).length : Int)))] :: OwnS 5 1 p (s.w0.bs.take k.toNat).length c ((s.w0.bs.take k.toNat).map byteV) :: RefA r0 m (s.w0.bs.drop k.toNat) :: Row pb 62 (qRow r0 r1 s.w0 s.w1 false) :: RefA r1 m s.w1.bs :: F) w8 := hS
    refine ⟨fun vs w => vs = [.bool (s.w0.end_ k)] ∧ St W (Row b 59 [.pointer (some ⟨r0, 0, none⟩), .bool s.w0.ended, .bool s.w0.told, .int .i64 (IntKind.wrap .i64 (s.w0.moved + ((s.w0.bs.take k.toNat).length : Int)))] :: OwnS 5 1 p (s.w0.bs.take k.toNat).length c ((s.w0.bs.take k.toNat).map byteV) :: RefA r0 m (s.w0.bs.drop k.toNat) :: Row pb 62 (qRow r0 r1 s.w0 s.w1 false) :: RefA r1 m s.w1.bs :: F) w, LdB.i (k0 := 1) hS rfl (Bif.i (fun he => LdP.i (k0 := 0) hS rfl (NilP.i ?_)) fun he => ⟨by simp [Way.end_, he], hS⟩), fun x w9 hJ => ?_⟩
    · obtain ⟨q, c2, g1, g2, hR⟩ := RefA.open_ hS.p2
      refine LdL.i (k0 := 0) hR rfl (Bif.i (fun hz => LdB.i (k0 := 2) hS rfl ⟨?_, hS⟩) fun hz => ⟨?_, hS⟩)
      · have hz : (s.w0.bs.drop k.toNat).length = 0 := by simp only [beq_iff_eq] at hz; omega
        have hne : (s.w0.bs.drop k.toNat).isEmpty = true := by rw [List.isEmpty_iff]; exact List.eq_nil_of_length_eq_zero hz
        simp only [Way.end_, hne, he, Bool.and_true, Bool.true_and]
      · have hz : (s.w0.bs.drop k.toNat).length ≠ 0 := by simp only [beq_eq_false_iff_ne] at hz; omega
        have hne : (s.w0.bs.drop k.toNat).isEmpty = false := by cases hd : s.w0.bs.drop k.toNat with | nil => rw [hd] at hz; simp at hz | cons => rfl
        simp only [Way.end_, hne, Bool.and_false]
    obtain ⟨he, hS⟩ := hJ
    cases he
    refine ⟨fun vs w => vs = [] ∧ St W (Row b 59 [.pointer (some ⟨r0, 0, none⟩), .bool s.w0.ended, .bool (s.w0.told || s.w0.end_ k), .int .i64 (IntKind.wrap .i64 (s.w0.moved + ((s.w0.bs.take k.toNat).length : Int)))] :: OwnS 5 1 p (s.w0.bs.take k.toNat).length c ((s.w0.bs.take k.toNat).map byteV) :: RefA r0 m (s.w0.bs.drop k.toNat) :: Row pb 62 (qRow r0 r1 s.w0 s.w1 false) :: RefA r1 m s.w1.bs :: F) w, LdB.i (k0 := 2) hS rfl (Bif.i (fun ht => St1.i (k0 := 2) hS (by simp) fun w10 hS => ⟨rfl, by rw [ht, Bool.true_or]; exact hS⟩) fun ht => St1.i (k0 := 2) hS (by simp) fun w10 hS => ⟨rfl, by rw [ht, Bool.false_or]; exact hS⟩), fun w10 hJ => ?_⟩
    obtain ⟨_, hS⟩ := hJ
    refine ⟨StC W _, StC.start hS, NilP.i ⟨_, _, _, _, fun G w11 h => LdP.i (k0 := 0) h rfl (LdB.i (k0 := 1) h rfl (LdB.i (k0 := 2) h rfl (LdI.i (k0 := 3) h rfl ⟨rfl, h⟩))), _, rfl, ⟨by decide, by decide⟩, fun _ => StC W (Row pb 62 (qRow r0 r1 (s.w0.out k) s.w1 false) :: Row b 59 [.pointer (some ⟨r0, 0, none⟩), .bool s.w0.ended, .bool (s.w0.told || s.w0.end_ k), .int .i64 (IntKind.wrap .i64 (s.w0.moved + ((s.w0.bs.take k.toNat).length : Int)))] :: OwnS 5 1 p (s.w0.bs.take k.toNat).length c ((s.w0.bs.take k.toNat).map byteV) :: RefA r0 m (s.w0.bs.drop k.toNat) :: RefA r1 m s.w1.bs :: F), fun G w11 h => St1.i (k0 := 0) (St.p3 h) (by simp [qRow]) fun w12 h => St1.i (k0 := 1) h (by simp [qRow]) fun w13 h => St1.i (k0 := 2) h (by simp [qRow]) fun w14 h => St1.i (k0 := 3) h (by simp [qRow]) fun w15 h => ⟨isR0, h⟩, trivial, fun G w11 h => ⟨p, c, rfl, ?_⟩⟩⟩
    have hS := St.push [_, _, _] (((StC.ends h).p1.drop).p1)
    exact (QPumpA.shut (s := ⟨s.w0.out k, s.w1, false⟩) hS).p1
end Go.Proofs.Ytneilmoiahphkaa
