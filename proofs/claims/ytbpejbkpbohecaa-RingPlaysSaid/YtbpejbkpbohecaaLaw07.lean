/-
  The laws of the bytes that wait: what both lists of calls tell.
-/
import Derived.Test.YtbpejbkpbohecaaRef07
import Derived.Test.YtbpejbkpbohecaaArgs
set_option linter.unusedVariables false
set_option linter.unusedSimpArgs false
namespace Go.Proofs.Ytbpejbkpbohecaa
open Go
theorem uS : Try.prog.underlying 9 = some .string := Try.underlying9

theorem head_spec {W w : World} {F : List Asn} (hS : St W F w) : CallR Try.prog 9 #[] w fun v w' => v = .bool true ∧ St W F w' := by
  refine F9_of ((New_spec 3 hS).of fun v w1 ⟨rb, hv, hS⟩ => ⟨_, hv, Bif.i (fun h => by cases h) fun _ => ?_⟩)
  refine constB_i uB uU8 hS fun b1 w2 hS => ⟨_, _, _, rfl, ?_⟩
  have hS : St W (RingA rb 3 [] :: Row b1 5 ([97, 98, 99, 100].map byteV) :: F) w2 := hS.p1
  refine (Add_spec (xs := [97, 98, 99, 100]) Rd.all (by decide) hS).of fun v w3 ⟨hv, hS⟩ => ⟨_, hv, ?_⟩
  refine (Take_spec 2 hS).of fun v w4 ⟨b2, hv, hS⟩ => ⟨_, _, _, hv, ?_⟩
  refine constB_i uB uU8 hS fun b3 w5 hS => ⟨_, _, _, rfl, ?_⟩
  have hS : St W (RingA rb 3 [99] :: Row b3 5 ([120, 121, 122].map byteV) :: Row b2 5 ([97, 98].map byteV) :: Row b1 5 ([97, 98, 99, 100].map byteV) :: F) w5 := hS.p2
  refine (Add_spec (xs := [120, 121, 122]) Rd.all (by decide) hS).of fun v w6 ⟨hv, hS⟩ => ⟨_, hv, ?_⟩
  refine Bif.i (fun _ => ?_) fun h => by simp at h
  refine str_rd (bs := [97, 98]) uB uU8 uS hS ((Rd.all.cons _).cons _) rfl ⟨_, rfl, ?_⟩
  refine Bif.i (fun _ => ?_) fun h => by simp [mkS_toList] at h
  refine Bif.i (fun _ => ?_) fun h => by simp at h
  refine (Look_spec hS).of fun v w7 ⟨b4, hv, hS⟩ => ⟨_, _, _, hv, ?_⟩
  refine str_rd (bs := [99, 120, 121]) uB uU8 uS hS Rd.all rfl ⟨_, rfl, ?_⟩
  refine Bif.i (fun _ => ?_) fun h => by simp [mkS_toList] at h
  refine (Many_spec hS.p1).of fun v w8 ⟨hv, hS⟩ => ⟨_, hv, ?_⟩
  refine Bif.i (fun _ => ?_) fun h => by simp at h
  refine (Room_spec hS).of fun v w9 ⟨hv, hS⟩ => ⟨_, hv, ?_⟩
  refine Bif.i (fun _ => ?_) fun h => by simp at h
  refine (Take_spec 9 hS).of fun v w10 ⟨b5, hv, hS⟩ => ⟨_, _, _, hv, ?_⟩
  refine str_rd (bs := [99, 120, 121]) uB uU8 uS hS Rd.all rfl ⟨_, rfl, ?_⟩
  refine Bif.i (fun _ => ?_) fun h => by simp [mkS_toList] at h
  refine (Room_spec hS.p1).of fun v w11 ⟨hv, hS⟩ => ⟨_, hv, rfl, ?_⟩
  exact hS.drop.drop.drop.drop.drop.drop

/-! ### A list of calls -/
structure OpD where
  what : Int
  p : Option Addr
  xs : List UInt8
  c : Nat
  nn : Int
deriving Inhabited
def opCells (o : OpD) : List Value := [.int .i64 o.what, .slice o.p o.xs.length o.c, .int .i64 o.nn]
def OpOk (W : World) (o : OpD) : Prop := o.xs.length ≤ o.c ∧ Rd [Base W] o.p (o.xs.map byteV)
theorem cOp : Try.prog.cellsOf 31 = 3 := by kernel_rfl
theorem cB : Try.prog.cellsOf 29 = 1 := by kernel_rfl
theorem cU8 : Try.prog.cellsOf 5 = 1 := by kernel_rfl
theorem cInt : Try.prog.cellsOf 3 = 1 := by kernel_rfl
theorem ops_arg {H : Type} {enc : TypeId × Value → H} {W : World} {base fuel : Nat} {spare : Nat → Bool} {held : Bool} {cs : List Value} {x : DataW H × List MemPlace} (h : DataW.trod enc Try.prog W base spare held fuel 22 cs = some x) :
    ∃ (p : Option Addr) (os : List OpD) (c : Nat), cs = [.slice p os.length c] ∧ os.length ≤ c ∧ c ≤ 9223372036854775807 ∧ Rd [Base W] p (os.flatMap opCells) ∧ ∀ o ∈ os, OpOk W o := by
  refine sl_arg opCells (OpOk W) Try.underlying22 cOp (by decide) (fun _ => rfl) (fun n cs' y hl h => ?_) h
  obtain ⟨y0, y1, y2, n, _, _, h0, h1, h2⟩ := Deep.trod_struct3 Try.underlying31 h
  match cs', hl with
  | [u0, u1, u2], _ =>
    rw [cInt] at h0 h2
    rw [cB] at h1
    obtain ⟨z0, e0, _⟩ := int_arg Try.underlying3 h0
    obtain ⟨p, xs, c, e1, g1, _, g2⟩ := bytes_arg uB uU8 cU8 h1
    obtain ⟨z2, e2, _⟩ := int_arg Try.underlying3 h2
    refine ⟨⟨z0, p, xs, c, z2⟩, ?_, g1, g2⟩
    simp at e0 e1 e2
    rw [e0, e1, e2]
    rfl
theorem ops_open {H : Type} {enc : TypeId × Value → H} {W : World} {base b0 : Nat} {spare : Nat → Bool} {held : Bool} {r : _root_.Go.Reach} {v : Value} {d : DataW H} {ps : List MemPlace} (hval : Value.okWide Try.prog W r b0 22 v) (h : DataW.Trod enc Try.prog W base spare held 22 v d ps) :
    ∃ (p : Option Addr) (os : List OpD) (c : Nat), v = .slice p os.length c ∧ os.length ≤ c ∧ c ≤ 9223372036854775807 ∧ Rd [Base W] p (os.flatMap opCells) ∧ ∀ o ∈ os, OpOk W o := by
  obtain ⟨a, len, cap, rfl⟩ := WideShapes.okWide_slice Try.underlying22 hval
  obtain ⟨fuel, hf⟩ := h
  obtain ⟨p, xs, c, h1, h2⟩ := ops_arg hf
  simp [Value.cells] at h1
  obtain ⟨rfl, rfl, rfl⟩ := h1
  exact ⟨_, xs, _, rfl, h2⟩
theorem op_at {W w : World} {l : List Asn} {p : Option Addr} {os : List OpD} {k : Nat} (hl : Rd [Base W] p (os.flatMap opCells)) (hm : Base W ∈ l) (hS : St W l w) (hk : k < os.length) :
    ∃ a, p = some a ∧ w.cell? ((a.add (k * 3)).add 0) = some (.int .i64 os[k].what) ∧ w.cell? ((a.add (k * 3)).add 1) = some (.slice os[k].p os[k].xs.length os[k].c) ∧ w.cell? ((a.add (k * 3)).add 2) = some (.int .i64 os[k].nn) := by
  have hf : ∀ x, (opCells x).length = 3 := fun _ => rfl
  have ho : os[k]? = some os[k] := List.getElem?_eq_getElem hk
  have h0 := flat_at hf ho (j := 0) rfl
  obtain ⟨a, ha, _⟩ := (hl.mem hm).of hS h0
  exact ⟨a, ha, (hl.mem hm).at2 hS ha h0, (hl.mem hm).at2 hS ha (flat_at hf ho (j := 1) rfl), (hl.mem hm).at2 hS ha (flat_at hf ho (j := 2) rfl)⟩
/-- What is left of a count that goes up. -/
def left (n : Nat) : List Value → World → Nat := fun vs _ => match vs.getLast? with
  | some (.int _ i) => n - i.toNat
  | _ => 0
theorem up {k n : Nat} (h : k < n) (hn : n ≤ 9223372036854775807) : IntKind.wrap .i64 ((k : Int) + 1) = ((k + 1 : Nat) : Int) := by rw [w64 (by omega) (by omega)]; omega

theorem Great_spec {W w : World} {l : List Asn} {p : Option Addr} {os : List OpD} {c : Nat} (hl : Rd [Base W] p (os.flatMap opCells)) (hm : Base W ∈ l) (hlen : os.length ≤ 9223372036854775807) (hS : St W l w) :
    CallR Try.prog 12 #[.slice p os.length c] w fun v w' => ∃ b, v = .bool b ∧ (b = false → os.length ≤ 400) ∧ St W l w' := by
  refine F12_of ⟨fun vs w => (∃ n : Int, vs = [.int .i64 n]) ∧ St W l w, ⟨fun vs w => (∃ (n : Int) (k : Nat), vs = [.int .i64 n, .int .i64 k] ∧ k ≤ os.length) ∧ St W l w, left os.length, ⟨⟨_, 0, rfl, Nat.zero_le _⟩, hS⟩, fun n i w hI => ?_⟩, fun n w hJ => ?_⟩
  · obtain ⟨⟨n', k, he, hk⟩, hS⟩ := hI
    cases he
    refine Bif.i (fun hlt => ?_) fun _ => ⟨⟨_, rfl⟩, hS⟩
    have hlt : k < os.length := by have := of_decide_eq_true hlt; omega
    refine Bif.i (fun _ => ?_) fun _ => ⟨⟨_, rfl⟩, hS⟩
    obtain ⟨a, ha, h0, h1, h2⟩ := op_at hl hm hS hlt
    refine ⟨a, ha, ⟨by omega, by omega⟩, LdL.at h1 ⟨⟨⟨_, k + 1, by rw [up hlt hlen], by omega⟩, hS⟩, ?_⟩⟩
    rw [up hlt hlen]
    show os.length - (k + 1) < os.length - k
    omega
  · refine Bif.i (fun _ => ⟨_, rfl, fun h => by simp at h, hJ.2⟩) fun _ => ⟨_, rfl, fun h => ?_, hJ.2⟩
    have := of_decide_eq_false h
    omega

theorem Plays_walk {W : World} {p : Option Addr} {os : List OpD} {c : Nat} (most : Int) (wm : (Lit.int .i64 most).wf = true) (hl : Rd [Base W] p (os.flatMap opCells)) (hc : os.length ≤ c) (hcm : c ≤ 9223372036854775807) (hok : ∀ o ∈ os, OpOk W o) :
    CallR Try.prog 3 #[.int .i64 most, .slice p os.length c] W fun v w' => v = .bool true ∧ St W [Base W] w' := by
  have hlen : os.length ≤ 9223372036854775807 := Nat.le_trans hc hcm
  refine F3_of ((head_spec (St.base W)).of fun v w1 ⟨hv, hS⟩ => ⟨_, hv, ?_⟩)
  refine (New_spec most hS).of fun v w2 ⟨rb, hv, hS⟩ => ⟨_, hv, ?_⟩
  refine (RNew_spec most hS).of fun v w3 ⟨rr, hv, hS⟩ => ⟨_, hv, ?_⟩
  refine Bif.i (fun h => by cases h) fun _ => ?_
  generalize min most.toNat 65536 = m at hS
  refine (Great_spec hl (by simp) hlen hS).of fun v w4 ⟨b, hv, hb, hS⟩ => ⟨_, hv, Bif.i (fun _ => ⟨rfl, hS.drop.drop⟩) fun hb' => ?_⟩
  refine ⟨fun vs w => (∃ k : Nat, vs = [.int .i64 k] ∧ k ≤ os.length) ∧ ∃ bs, St W [RefA rr m bs, RingA rb m bs, Base W] w, left os.length, ⟨⟨0, rfl, Nat.zero_le _⟩, [], hS⟩, fun i w hI => ?_⟩
  obtain ⟨⟨k, he, hk⟩, bs, hS⟩ := hI
  cases he
  refine Bif.i (fun hlt => ?_) fun _ => ⟨rfl, hS.drop.drop⟩
  have hlt : k < os.length := by have := of_decide_eq_true hlt; omega
  have ho := hok _ (List.getElem_mem hlt)
  obtain ⟨a, ha, h0, h1, h2⟩ := op_at hl (by simp) hS hlt
  refine ⟨a, ha, ⟨by omega, by omega⟩, LdI.at h0 ⟨fun vs w => vs = [] ∧ ∃ bs, St W [RefA rr m bs, RingA rb m bs, Base W] w, Bif.i (fun _ => ?_) fun _ => ?_, fun w5 hJ => ?_⟩⟩
  · refine ⟨a, ha, ⟨by omega, by omega⟩, LdI.at h2 ((Take_spec _ hS.p1).of fun v w5 ⟨b1, hv, hS⟩ => ⟨_, _, _, hv, ?_⟩)⟩
    obtain ⟨a, ha, h0, h1, h2⟩ := op_at hl (by simp) hS hlt
    refine ⟨a, ha, ⟨by omega, by omega⟩, LdI.at h2 ((RTake_spec _ hS.p2).of fun v w6 ⟨p2, c2, hv, hS⟩ => ⟨_, _, _, hv, ?_⟩)⟩
    refine str_rd uB uU8 uS hS ((Rd.all.cons _).cons _) rfl ⟨_, rfl, ?_⟩
    refine str_rd uB uU8 uS hS (OwnS.rd _) rfl ⟨_, rfl, ?_⟩
    refine Bif.i (fun h => by simp at h) fun _ => ⟨rfl, bs.drop os[k].nn.toNat, ?_⟩
    exact hS.drop.p1.drop
  · refine ⟨a, ha, ⟨by omega, by omega⟩, LdL.at h1 ((Add_spec (ho.2.mem (by simp)) ho.1 hS.p1).of fun v w5 ⟨hv, hS⟩ => ⟨_, hv, ?_⟩)⟩
    obtain ⟨a, ha, h0, h1, h2⟩ := op_at hl (by simp) hS hlt
    refine ⟨a, ha, ⟨by omega, by omega⟩, LdL.at h1 ((RAdd_spec (ho.2.mem (by simp)) ho.1 hS.p1).of fun v w6 ⟨hv, hS⟩ => ⟨_, hv, ?_⟩)⟩
    exact Bif.i (fun h => by simp at h) fun _ => ⟨rfl, _, hS⟩
  · obtain ⟨_, bs, hS⟩ := hJ
    obtain ⟨q, cq, g1, g2, hS⟩ := RefA.open_ hS
    refine ⟨StC W _, StC.start hS, NilP.i ⟨_, fun G w6 h6 => (Many_spec h6.p2).of fun v w7 ⟨hv, h7⟩ => ⟨_, hv, rfl, h7.p2.p2⟩, _, _, _, fun G w6 h6 => LdL.i h6 rfl ⟨rfl, h6⟩, Bif.i (fun h => by simp at h) fun _ => ?_⟩⟩
    refine NilP.i (NilP.i ⟨_, fun G w6 h6 => (Room_spec h6.p2).of fun v w7 ⟨hv, h7⟩ => ⟨_, hv, rfl, h7.p2.p2⟩, _, fun G w6 h6 => LdI.i h6 rfl ⟨rfl, h6⟩, _, _, _, fun G w6 h6 => LdL.i h6 rfl ⟨rfl, h6⟩, Bif.i (fun h => ?_) fun _ => ?_⟩)
    · rw [w64 (by omega) (by omega)] at h
      simp at h
      omega
    refine NilP.i ⟨_, _, _, fun G w6 h6 => LdL.i h6 rfl ⟨rfl, h6⟩, _, fun G w6 h6 => str_rd uB uU8 uS h6 ((OwnS.rd _).cons _) rfl ⟨_, rfl, rfl, h6⟩, ?_⟩
    refine ⟨fun v => Cls.some fun b => Cls.only (v = .slice (some ⟨b, 0, none⟩) bs.length bs.length) (StC W [Row b 5 (bs.map byteV), RingA rb m bs, Row rr 36 [.slice q bs.length cq, .int .i64 m], OwnS 5 1 q bs.length cq (bs.map byteV), Base W]), fun G w6 h6 => ?_, fun p3 n3 c3 => ⟨⟨?_, ?_⟩, mkS bs, ?_, fun G w6 h6 => ?_⟩⟩
    · exact (Look_spec h6.p2).of fun v w7 ⟨b, hv, h7⟩ => ⟨_, _, _, hv, ⟨_, _, _, rfl⟩, b, rfl, h7⟩
    · intro G w6 h6
      have h6' := h6
      obtain ⟨b, hv, h6⟩ := h6
      exact str_rd uB uU8 uS h6 ((((OwnS.rd _).cons _).cons _).cons _) rfl ⟨_, rfl, rfl, h6'⟩
    · intro G w6 h6
      have h6' := h6
      obtain ⟨b, hv, h6⟩ := h6
      exact LdL.i (St.p2 h6) rfl ⟨rfl, h6'⟩
    · intro G w6 h6
      have h6' := h6
      obtain ⟨b, hv, h6⟩ := h6
      cases hv
      exact str_rd uB uU8 uS h6 Rd.all rfl ⟨_, rfl, rfl, h6'⟩
    · obtain ⟨b, hv, h6⟩ := h6
      refine Bif.i (fun h => by simp at h) fun _ => ⟨⟨⟨k + 1, by rw [up hlt hlen], by omega⟩, bs, ?_⟩, ?_⟩
      · exact RefA.shut rfl g1 g2 ((StC.ends h6).drop.p1.perm (List.Perm.cons _ (List.Perm.swap _ _ _)))
      · rw [up hlt hlen]
        show os.length - (k + 1) < os.length - k
        omega
end Go.Proofs.Ytbpejbkpbohecaa
