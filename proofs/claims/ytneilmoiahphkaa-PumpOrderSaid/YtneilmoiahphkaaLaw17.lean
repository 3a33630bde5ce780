/-
  The laws of the bytes that go both ways: what lists of calls tell.
-/
import Derived.Test.YtneilmoiahphkaaPumpC
import Derived.Test.YtneilmoiahphkaaArgs
import Derived.Lib.SmallJoins
set_option linter.unusedVariables false
set_option linter.unusedSimpArgs false
namespace Go.Proofs.Ytneilmoiahphkaa
open Go
theorem uS : Try.prog.underlying 9 = some .string := Try.underlying9

theorem head_spec {W w : World} {F : List Asn} (hS : St W F w) : CallR Try.prog 10 #[] w fun v w' => v = .bool true ∧ St W F w' := by
  refine F10_of ((PNew_spec 3 hS).of fun v w1 ⟨pb, hv, hS⟩ => ⟨_, hv, Bif.i (fun h => by cases h) fun _ => ?_⟩)
  refine constB_i uB uU8 hS fun b1 w2 hS => ⟨_, _, _, rfl, ?_⟩
  have hS : St W (PumpA pb 3 PS.new :: Row b1 5 ([97, 98, 99, 100].map byteV) :: F) w2 := hS.p1
  refine (PIn_spec (xs := [97, 98, 99, 100]) 0 Rd.all (by decide) hS).of fun v w3 ⟨hv, hS⟩ => ⟨_, hv, ?_⟩
  refine (PEnd_spec 0 hS).of fun v w4 ⟨hv, hS⟩ => ⟨_, hv, ?_⟩
  refine constB_i uB uU8 hS fun b2 w5 hS => ⟨_, _, _, rfl, ?_⟩
  have hS : St W (PumpA pb 3 ⟨⟨[97, 98, 99], true, false, 0⟩, Way.new, false⟩ :: Row b2 5 ([120].map byteV) :: Row b1 5 ([97, 98, 99, 100].map byteV) :: F) w5 := hS.p1
  refine (PIn_spec (xs := [120]) 0 Rd.all (by decide) hS).of fun v w6 ⟨hv, hS⟩ => ⟨_, hv, ?_⟩
  refine (POut_spec 1 2 hS).of fun v w7 ⟨p1, c1, hv, hS⟩ => ⟨_, _, _, _, hv, ?_⟩
  refine (POut_spec 1 9 hS.p1).of fun v w8 ⟨p2, c2, hv, hS⟩ => ⟨_, _, _, _, hv, ?_⟩
  refine (POut_spec 1 9 hS.p1).of fun v w9 ⟨p3, c3, hv, hS⟩ => ⟨_, _, _, _, hv, ?_⟩
  refine constB_i uB uU8 hS fun b4 w10 hS => ⟨_, _, _, rfl, ?_⟩
  have hS := hS.p2
  refine (PIn_spec (xs := [113]) 1 Rd.all (by decide) hS).of fun v w11 ⟨hv, hS⟩ => ⟨_, hv, ?_⟩
  refine (POut_spec 0 1 hS).of fun v w12 ⟨p4, c4, hv, hS⟩ => ⟨_, _, _, _, hv, ?_⟩
  refine Bif.i (fun _ => ?_) fun h => absurd h (by decide)
  refine Bif.i (fun _ => ?_) fun h => absurd h (by decide)
  refine Bif.i (fun _ => ?_) fun h => absurd h (by decide)
  refine str_rd (bs := [97, 98]) uB uU8 uS hS ((((((OwnS.rd _).cons _).cons _).cons _).cons _).cons _) rfl ⟨_, rfl, ?_⟩
  refine Bif.i (fun _ => ?_) fun h => by simp [mkS_toList] at h
  refine Bif.i (fun _ => ?_) fun h => absurd h (by decide)
  refine str_rd (bs := [99]) uB uU8 uS hS (((((OwnS.rd _).cons _).cons _).cons _).cons _) rfl ⟨_, rfl, ?_⟩
  refine Bif.i (fun _ => ?_) fun h => by simp [mkS_toList] at h
  refine Bif.i (fun _ => ?_) fun h => absurd h (by decide)
  refine Bif.i (fun _ => ?_) fun h => absurd h (by decide)
  refine Bif.i (fun _ => ?_) fun h => absurd h (by decide)
  refine Bif.i (fun _ => ?_) fun h => absurd h (by decide)
  refine str_rd (bs := [113]) uB uU8 uS hS (OwnS.rd _) rfl ⟨_, rfl, ?_⟩
  refine Bif.i (fun _ => ?_) fun h => by simp [mkS_toList] at h
  refine Bif.i (fun _ => ?_) fun h => absurd h (by decide)
  refine (POver_spec hS.p1).of fun v w13 ⟨hv, hS⟩ => ⟨_, hv, ?_⟩
  refine Bif.i (fun _ => ?_) fun h => absurd h (by decide)
  refine (PMoved_spec 1 hS).of fun v w14 ⟨hv, hS⟩ => ⟨_, hv, ?_⟩
  refine Bif.i (fun _ => ?_) fun h => absurd h (by decide)
  refine (PWaits_spec 0 hS).of fun v w15 ⟨hv, hS⟩ => ⟨_, hv, ?_⟩
  refine Bif.i (fun _ => ?_) fun h => absurd h (by decide)
  refine (PRoom_spec 1 hS).of fun v w16 ⟨hv, hS⟩ => ⟨_, hv, ?_⟩
  refine Bif.i (fun _ => ?_) fun h => absurd h (by decide)
  refine (PRoom_spec 0 hS).of fun v w17 ⟨hv, hS⟩ => ⟨_, hv, ?_⟩
  exact ⟨congrArg Value.bool (by decide), hS.drop.drop.drop.drop.drop.drop.drop.drop⟩

/-! ### A list of calls -/
structure OpD where
  what : Int
  side : Int
  p : Option Addr
  xs : List UInt8
  c : Nat
  nn : Int
deriving Inhabited
def opCells (o : OpD) : List Value := [.int .i64 o.what, .int .i64 o.side, .slice o.p o.xs.length o.c, .int .i64 o.nn]
def OpOk (W : World) (o : OpD) : Prop := o.xs.length ≤ o.c ∧ Rd [Base W] o.p (o.xs.map byteV) ∧ (-9223372036854775808 ≤ o.side ∧ o.side ≤ 9223372036854775807)
theorem cOp : Try.prog.cellsOf 30 = 4 := by kernel_rfl
theorem cB : Try.prog.cellsOf 28 = 1 := by kernel_rfl
theorem cU8 : Try.prog.cellsOf 5 = 1 := by kernel_rfl
theorem cInt : Try.prog.cellsOf 3 = 1 := by kernel_rfl
theorem ops_arg {H : Type} {enc : TypeId × Value → H} {W : World} {base fuel : Nat} {spare : Nat → Bool} {held : Bool} {cs : List Value} {x : DataW H × List MemPlace} (h : DataW.trod enc Try.prog W base spare held fuel 22 cs = some x) :
    ∃ (p : Option Addr) (os : List OpD) (c : Nat), cs = [.slice p os.length c] ∧ os.length ≤ c ∧ c ≤ 9223372036854775807 ∧ Rd [Base W] p (os.flatMap opCells) ∧ ∀ o ∈ os, OpOk W o := by
  refine sl_arg opCells (OpOk W) Try.underlying22 cOp (by decide) (fun _ => rfl) (fun n cs' y hl h => ?_) h
  obtain ⟨y0, y1, y2, y3, n, _, _, h0, h1, h2, h3⟩ := _root_.Go.Joins.trod_struct4 Try.underlying30 h
  match cs', hl with
  | [u0, u1, u2, u3], _ =>
    rw [cInt] at h0 h1 h3
    rw [cB] at h2
    obtain ⟨z0, e0, _⟩ := int_arg Try.underlying3 h0
    obtain ⟨z1, e1, w1⟩ := int_arg Try.underlying3 h1
    obtain ⟨p, xs, c, e2, g1, _, g2⟩ := bytes_arg uB uU8 cU8 h2
    obtain ⟨z3, e3, _⟩ := int_arg Try.underlying3 h3
    refine ⟨⟨z0, z1, p, xs, c, z3⟩, ?_, g1, g2, by simpa [Lit.wf, IntKind.min, IntKind.max, IntKind.signed, IntKind.bits] using w1⟩
    simp at e0 e1 e2 e3
    rw [e0, e1, e2, e3]
    rfl
theorem ops_open {H : Type} {enc : TypeId × Value → H} {W : World} {base b0 : Nat} {spare : Nat → Bool} {held : Bool} {r : _root_.Go.Reach} {v : Value} {d : DataW H} {ps : List MemPlace} (hval : Value.okWide Try.prog W r b0 22 v) (h : DataW.Trod enc Try.prog W base spare held 22 v d ps) :
    ∃ (p : Option Addr) (os : List OpD) (c : Nat), v = .slice p os.length c ∧ os.length ≤ c ∧ c ≤ 9223372036854775807 ∧ Rd [Base W] p (os.flatMap opCells) ∧ ∀ o ∈ os, OpOk W o := by
  obtain ⟨a, len, cap, rfl⟩ := WideShapes.okWide_slice Try.underlying22 hval
  obtain ⟨fuel, hf⟩ := h
  obtain ⟨p, xs, c, h1, h2⟩ := ops_arg hf
  simp [Value.cells] at h1
  obtain ⟨rfl, rfl, rfl⟩ := h1
  exact ⟨_, xs, _, rfl, h2⟩
theorem op_at {W w : World} {l : List Asn} {p : Option Addr} {os : List OpD} {k : Nat} (hl : Rd [Base W] p (os.flatMap opCells)) (hm : Base W ∈ l) (hS : St W l w) (hk : k < os.length) :
    ∃ a, p = some a ∧ w.cell? ((a.add (k * 4)).add 0) = some (.int .i64 os[k].what) ∧ w.cell? ((a.add (k * 4)).add 1) = some (.int .i64 os[k].side) ∧ w.cell? ((a.add (k * 4)).add 2) = some (.slice os[k].p os[k].xs.length os[k].c) ∧ w.cell? ((a.add (k * 4)).add 3) = some (.int .i64 os[k].nn) := by
  have hf : ∀ x, (opCells x).length = 4 := fun _ => rfl
  have ho : os[k]? = some os[k] := List.getElem?_eq_getElem hk
  have h0 := flat_at hf ho (j := 0) rfl
  obtain ⟨a, ha, _⟩ := (hl.mem hm).of hS h0
  exact ⟨a, ha, (hl.mem hm).at2 hS ha h0, (hl.mem hm).at2 hS ha (flat_at hf ho (j := 1) rfl), (hl.mem hm).at2 hS ha (flat_at hf ho (j := 2) rfl), (hl.mem hm).at2 hS ha (flat_at hf ho (j := 3) rfl)⟩
theorem up {k n : Nat} (h : k < n) (hn : n ≤ 9223372036854775807) : IntKind.wrap .i64 ((k : Int) + 1) = ((k + 1 : Nat) : Int) := by rw [w64 (by omega) (by omega)]; omega

theorem Great_spec {W w : World} {l : List Asn} {p : Option Addr} {os : List OpD} {c : Nat} (hl : Rd [Base W] p (os.flatMap opCells)) (hm : Base W ∈ l) (hlen : os.length ≤ 9223372036854775807) (hS : St W l w) :
    CallR Try.prog 12 #[.slice p os.length c] w fun v w' => ∃ b, v = .bool b ∧ (b = false → os.length ≤ 400) ∧ St W l w' := by
  refine F12_of ⟨fun vs w => (∃ n : Int, vs = [.int .i64 n]) ∧ St W l w, ⟨fun vs w => (∃ (n : Int) (k : Nat), vs = [.int .i64 n, .int .i64 k] ∧ k ≤ os.length) ∧ St W l w, leftN os.length, ⟨⟨_, 0, rfl, Nat.zero_le _⟩, hS⟩, fun n i w hI => ?_⟩, fun n w hJ => ?_⟩
  · obtain ⟨⟨n', k, he, hk⟩, hS⟩ := hI
    cases he
    refine Bif.i (fun hlt => ?_) fun _ => ⟨⟨_, rfl⟩, hS⟩
    have hlt : k < os.length := by have := of_decide_eq_true hlt; omega
    refine Bif.i (fun _ => ?_) fun _ => ⟨⟨_, rfl⟩, hS⟩
    obtain ⟨a, ha, h0, h1, h2, h3⟩ := op_at hl hm hS hlt
    refine ⟨a, ha, ⟨by omega, by omega⟩, LdL.at h2 ⟨⟨⟨_, k + 1, by rw [up hlt hlen], by omega⟩, hS⟩, ?_⟩⟩
    rw [up hlt hlen]
    show os.length - (k + 1) < os.length - k
    omega
  · refine Bif.i (fun _ => ⟨_, rfl, fun h => by simp at h, hJ.2⟩) fun _ => ⟨_, rfl, fun h => ?_, hJ.2⟩
    have := of_decide_eq_false h
    omega

def left3 : List Value → World → Nat := fun vs _ => match vs with
  | [.int _ i] => (3 - i).toNat
  | _ => 0

end Go.Proofs.Ytneilmoiahphkaa
