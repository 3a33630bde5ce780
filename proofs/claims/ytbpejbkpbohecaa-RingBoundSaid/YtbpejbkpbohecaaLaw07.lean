/-
  The laws of the bytes that wait: what both lists of calls tell.
-/
import Derived.Test.YtbpejbkpbohecaaRef07
import Derived.Test.YtbpejbkpbohecaaArgs
set_option linter.unusedVariables false
set_option linter.unusedSimpArgs false
namespace Go.Proofs.Ytbpejbkpbohecaa
open Go
theorem uS : Try.prog.underlying 9 = some .string := Try.underlying9

theorem head_spec {W w : World} {F : List Asn} (hS : St W F w) : CallR Try.prog 9 #[] w fun v w' => v = .bool true ∧ St W F w' := by
  refine F9_of ((New_spec 3 hS).of fun v w1 ⟨rb, hv, hS⟩ => ⟨_, hv, Bif.i (fun h => by cases h) fun _ => ?_⟩)
  refine constB_i uB uU8 hS fun b1 w2 hS => ⟨_, _, _, rfl, ?_⟩
  have hS : St W (RingA rb 3 [] :: Row b1 5 ([97, 98, 99, 100].map byteV) :: F) w2 := hS.p1
  refine (Add_spec (xs := [97, 98, 99, 100]) Rd.all (by decide) hS).of fun v w3 ⟨hv, hS⟩ => ⟨_, hv, ?_⟩
  refine (Take_spec 2 hS).of fun v w4 ⟨b2, hv, hS⟩ => ⟨_, _, _, hv, ?_⟩
  refine constB_i uB uU8 hS fun b3 w5 hS => ⟨_, _, _, rfl, ?_⟩
  have hS : St W (RingA rb 3 [99] :: Row b3 5 ([120, 121, 122].map byteV) :: Row b2 5 ([97, 98].map byteV) :: Row b1 5 ([97, 98, 99, 100].map byteV) :: F) w5 := hS.p2
  refine (Add_spec (xs := [120, 121, 122]) Rd.all (by decide) hS).of fun v w6 ⟨hv, hS⟩ => ⟨_, hv, ?_⟩
  refine Bif.i (fun _ => ?_) fun h => by simp at h
  refine str_rd (bs := [97, 98]) uB uU8 uS hS ((Rd.all.cons _).cons _) rfl ⟨_, rfl, ?_⟩
  refine Bif.i (fun _ => ?_) fun h => by simp [mkS_toList] at h
  refine Bif.i (fun _ => ?_) fun h => by simp at h
  refine (Look_spec hS).of fun v w7 ⟨b4, hv, hS⟩ => ⟨_, _, _, hv, ?_⟩
  refine str_rd (bs := [99, 120, 121]) uB uU8 uS hS Rd.all rfl ⟨_, rfl, ?_⟩
  refine Bif.i (fun _ => ?_) fun h => by simp [mkS_toList] at h
  refine (Many_spec hS.p1).of fun v w8 ⟨hv, hS⟩ => ⟨_, hv, ?_⟩
  refine Bif.i (fun _ => ?_) fun h => by simp at h
  refine (Room_spec hS).of fun v w9 ⟨hv, hS⟩ => ⟨_, hv, ?_⟩
  refine Bif.i (fun _ => ?_) fun h => by simp at h
  refine (Take_spec 9 hS).of fun v w10 ⟨b5, hv, hS⟩ => ⟨_, _, _, hv, ?_⟩
  refine str_rd (bs := [99, 120, 121]) uB uU8 uS hS Rd.all rfl ⟨_, rfl, ?_⟩
  refine Bif.i (fun _ => ?_) fun h => by simp [mkS_toList] at h
  refine (Room_spec hS.p1).of fun v w11 ⟨hv, hS⟩ => ⟨_, hv, rfl, ?_⟩
  exact hS.drop.drop.drop.drop.drop.drop

/-! ### A list of calls -/
structure OpD where
  what : Int
  p : Option Addr
  xs : List UInt8
  c : Nat
  nn : Int
deriving Inhabited
def opCells (o : OpD) : List Value := [.int .i64 o.what, .slice o.p o.xs.length o.c, .int .i64 o.nn]
def OpOk (W : World) (o : OpD) : Prop := o.xs.length ≤ o.c ∧ Rd [Base W] o.p (o.xs.map byteV)
theorem cOp : Try.prog.cellsOf 31 = 3 := by kernel_rfl
theorem cB : Try.prog.cellsOf 29 = 1 := by kernel_rfl
theorem cU8 : Try.prog.cellsOf 5 = 1 := by kernel_rfl
theorem cInt : Try.prog.cellsOf 3 = 1 := by kernel_rfl
theorem ops_arg {H : Type} {enc : TypeId × Value → H} {W : World} {base fuel : Nat} {spare : Nat → Bool} {held : Bool} {cs : List Value} {x : DataW H × List MemPlace} (h : DataW.trod enc Try.prog W base spare held fuel 22 cs = some x) :
    ∃ (p : Option Addr) (os : List OpD) (c : Nat), cs = [.slice p os.length c] ∧ os.length ≤ c ∧ c ≤ 9223372036854775807 ∧ Rd [Base W] p (os.flatMap opCells) ∧ ∀ o ∈ os, OpOk W o := by
  refine sl_arg opCells (OpOk W) Try.underlying22 cOp (by decide) (fun _ => rfl) (fun n cs' y hl h => ?_) h
  obtain ⟨y0, y1, y2, n, _, _, h0, h1, h2⟩ := Deep.trod_struct3 Try.underlying31 h
  match cs', hl with
  | [u0, u1, u2], _ =>
    rw [cInt] at h0 h2
    rw [cB] at h1
    obtain ⟨z0, e0, _⟩ := int_arg Try.underlying3 h0
    obtain ⟨p, xs, c, e1, g1, _, g2⟩ := bytes_arg uB uU8 cU8 h1
    obtain ⟨z2, e2, _⟩ := int_arg Try.underlying3 h2
    refine ⟨⟨z0, p, xs, c, z2⟩, ?_, g1, g2⟩
    simp at e0 e1 e2
    rw [e0, e1, e2]
    rfl
theorem ops_open {H : Type} {enc : TypeId × Value → H} {W : World} {base b0 : Nat} {spare : Nat → Bool} {held : Bool} {r : _root_.Go.Reach} {v : Value} {d : DataW H} {ps : List MemPlace} (hval : Value.okWide Try.prog W r b0 22 v) (h : DataW.Trod enc Try.prog W base spare held 22 v d ps) :
    ∃ (p : Option Addr) (os : List OpD) (c : Nat), v = .slice p os.length c ∧ os.length ≤ c ∧ c ≤ 9223372036854775807 ∧ Rd [Base W] p (os.flatMap opCells) ∧ ∀ o ∈ os, OpOk W o := by
  obtain ⟨a, len, cap, rfl⟩ := WideShapes.okWide_slice Try.underlying22 hval
  obtain ⟨fuel, hf⟩ := h
  obtain ⟨p, xs, c, h1, h2⟩ := ops_arg hf
  simp [Value.cells] at h1
  obtain ⟨rfl, rfl, rfl⟩ := h1
  exact ⟨_, xs, _, rfl, h2⟩
theorem op_at {W w : World} {l : List Asn} {p : Option Addr} {os : List OpD} {k : Nat} (hl : Rd [Base W] p (os.flatMap opCells)) (hm : Base W ∈ l) (hS : St W l w) (hk : k < os.length) :
    ∃ a, p = some a ∧ w.cell? ((a.add (k * 3)).add 0) = some (.int .i64 os[k].what) ∧ w.cell? ((a.add (k * 3)).add 1) = some (.slice os[k].p os[k].xs.length os[k].c) ∧ w.cell? ((a.add (k * 3)).add 2) = some (.int .i64 os[k].nn) := by
  have hf : ∀ x, (opCells x).length = 3 := fun _ => rfl
  have ho : os[k]? = some os[k] := List.getElem?_eq_getElem hk
  have h0 := flat_at hf ho (j := 0) rfl
  obtain ⟨a, ha, _⟩ := (hl.mem hm).of hS h0
  exact ⟨a, ha, (hl.mem hm).at2 hS ha h0, (hl.mem hm).at2 hS ha (flat_at hf ho (j := 1) rfl), (hl.mem hm).at2 hS ha (flat_at hf ho (j := 2) rfl)⟩
/-- What is left of a count that goes up. -/
def left (n : Nat) : List Value → World → Nat := fun vs _ => match vs.getLast? with
  | some (.int _ i) => n - i.toNat
  | _ => 0
theorem up {k n : Nat} (h : k < n) (hn : n ≤ 9223372036854775807) : IntKind.wrap .i64 ((k : Int) + 1) = ((k + 1 : Nat) : Int) := by rw [w64 (by omega) (by omega)]; omega

theorem Great_spec {W w : World} {l : List Asn} {p : Option Addr} {os : List OpD} {c : Nat} (hl : Rd [Base W] p (os.flatMap opCells)) (hm : Base W ∈ l) (hlen : os.length ≤ 9223372036854775807) (hS : St W l w) :
    CallR Try.prog 12 #[.slice p os.length c] w fun v w' => ∃ b, v = .bool b ∧ (b = false → os.length ≤ 400) ∧ St W l w' := by
  refine F12_of ⟨fun vs w => (∃ n : Int, vs = [.int .i64 n]) ∧ St W l w, ⟨fun vs w => (∃ (n : Int) (k : Nat), vs = [.int .i64 n, .int .i64 k] ∧ k ≤ os.length) ∧ St W l w, left os.length, ⟨⟨_, 0, rfl, Nat.zero_le _⟩, hS⟩, fun n i w hI => ?_⟩, fun n w hJ => ?_⟩
  · obtain ⟨⟨n', k, he, hk⟩, hS⟩ := hI
    cases he
    refine Bif.i (fun hlt => ?_) fun _ => ⟨⟨_, rfl⟩, hS⟩
    have hlt : k < os.length := by have := of_decide_eq_true hlt; omega
    refine Bif.i (fun _ => ?_) fun _ => ⟨⟨_, rfl⟩, hS⟩
    obtain ⟨a, ha, h0, h1, h2⟩ := op_at hl hm hS hlt
    refine ⟨a, ha, ⟨by omega, by omega⟩, LdL.at h1 ⟨⟨⟨_, k + 1, by rw [up hlt hlen], by omega⟩, hS⟩, ?_⟩⟩
    rw [up hlt hlen]
    show os.length - (k + 1) < os.length - k
    omega
  · refine Bif.i (fun _ => ⟨_, rfl, fun h => by simp at h, hJ.2⟩) fun _ => ⟨_, rfl, fun h => ?_, hJ.2⟩
    have := of_decide_eq_false h
    omega

theorem Plays_walk {W : World} {p : Option Addr} {os : List OpD} {c : Nat} (most : Int) (wm : (Lit.int .i64 most).wf = true) (hl : Rd [Base W] p (os.flatMap opCells)) (hc : os.length ≤ c) (hcm : c ≤ 9223372036854775807) (hok : ∀ o ∈ os, OpOk W o) :
    CallR Try.prog 3 #[.int .i64 most, .slice p os.length c] W fun v w' => v = .bool true ∧ ∃ r, St W (Base W :: r) w' := by
  have hlen : os.length ≤ 9223372036854775807 := Nat.le_trans hc hcm
  refine F3_of ((head_spec (St.base W)).of fun v w1 ⟨hv, hS⟩ => ⟨_, hv, ?_⟩)
  refine (New_spec most hS).of fun v w2 ⟨rb, hv, hS⟩ => ⟨_, hv, ?_⟩
  refine (RNew_spec most hS).of fun v w3 ⟨rr, hv, hS⟩ => ⟨_, hv, ?_⟩
  refine Bif.i (fun h => by cases h) fun _ => ?_
  generalize min most.toNat 65536 = m at hS
  refine (Great_spec hl (by simp) hlen hS).of fun v w4 ⟨b, hv, hb, hS⟩ => ⟨_, hv, Bif.i (fun _ => ⟨rfl, [], hS.drop.drop⟩) fun hb' => ?_⟩
  refine ⟨fun vs w => (∃ k : Nat, vs = [.int .i64 k] ∧ k ≤ os.length) ∧ ∃ bs, St W [RefA rr m bs, RingA rb m bs, Base W] w, left os.length, ⟨⟨0, rfl, Nat.zero_le _⟩, [], hS⟩, fun i w hI => ?_⟩
  obtain ⟨⟨k, he, hk⟩, bs, hS⟩ := hI
  cases he
  refine Bif.i (fun hlt => ?_) fun _ => ⟨rfl, [], hS.drop.drop⟩
  have hlt : k < os.length := by have := of_decide_eq_true hlt; omega
  have ho := hok _ (List.getElem_mem hlt)
  obtain ⟨a, ha, h0, h1, h2⟩ := op_at hl (by simp) hS hlt
  refine ⟨a, ha, ⟨by omega, by omega⟩, LdI.at h0 ⟨fun vs w => vs = [] ∧ ∃ bs, St W [RefA rr m bs, RingA rb m bs, Base W] w, Bif.i (fun _ => ?_) fun _ => ?_, fun w5 hJ => ?_⟩⟩
  · refine ⟨a, ha, ⟨by omega, by omega⟩, LdI.at h2 ((Take_spec _ hS.p1).of fun v w5 ⟨b1, hv, hS⟩ => ⟨_, _, _, hv, ?_⟩)⟩
    obtain ⟨a, ha, h0, h1, h2⟩ := op_at hl (by simp) hS hlt
    refine ⟨a, ha, ⟨by omega, by omega⟩, LdI.at h2 ((RTake_spec _ hS.p2).of fun v w6 ⟨p2, c2, hv, hS⟩ => ⟨_, _, _, hv, ?_⟩)⟩
    refine str_rd uB uU8 uS hS ((Rd.all.cons _).cons _) rfl ⟨_, rfl, ?_⟩
    refine str_rd uB uU8 uS hS (OwnS.rd _) rfl ⟨_, rfl, ?_⟩
    refine Bif.i (fun h => by simp at h) fun _ => ⟨rfl, bs.drop os[k].nn.toNat, ?_⟩
    exact hS.drop.p1.drop
  · refine ⟨a, ha, ⟨by omega, by omega⟩, LdL.at h1 ((Add_spec (ho.2.mem (by simp)) ho.1 hS.p1).of fun v w5 ⟨hv, hS⟩ => ⟨_, hv, ?_⟩)⟩
    obtain ⟨a, ha, h0, h1, h2⟩ := op_at hl (by simp) hS hlt
    refine ⟨a, ha, ⟨by omega, by omega⟩, LdL.at h1 ((RAdd_spec (ho.2.mem (by simp)) ho.1 hS.p1).of fun v w6 ⟨hv, hS⟩ => ⟨_, hv, ?_⟩)⟩
    exact Bif.i (fun h => by simp at h) fun _ => ⟨rfl, _, hS⟩
  · obtain ⟨_, bs, hS⟩ := hJ
    obtain ⟨q, cq, g1, g2, hS⟩ := RefA.open_ hS
    refine ⟨StC W _, StC.start hS, NilP.i ⟨_, fun G w6 h6 => (Many_spec h6.p2).of fun v w7 ⟨hv, h7⟩ => ⟨_, hv, rfl, h7.p2.p2⟩, _, _, _, fun G w6 h6 => LdL.i h6 rfl ⟨rfl, h6⟩, Bif.i (fun h => by simp at h) fun _ => ?_⟩⟩
    refine NilP.i (NilP.i ⟨_, fun G w6 h6 => (Room_spec h6.p2).of fun v w7 ⟨hv, h7⟩ => ⟨_, hv, rfl, h7.p2.p2⟩, _, fun G w6 h6 => LdI.i h6 rfl ⟨rfl, h6⟩, _, _, _, fun G w6 h6 => LdL.i h6 rfl ⟨rfl, h6⟩, Bif.i (fun h => ?_) fun _ => ?_⟩)
    · rw [w64 (by omega) (by omega)] at h
      simp at h
      omega
    refine NilP.i ⟨_, _, _, fun G w6 h6 => LdL.i h6 rfl ⟨rfl, h6⟩, _, fun G w6 h6 => str_rd uB uU8 uS h6 ((OwnS.rd _).cons _) rfl ⟨_, rfl, rfl, h6⟩, ?_⟩
    refine ⟨fun v => Cls.some fun b => Cls.only (v = .slice (some ⟨b, 0, none⟩) bs.length bs.length) (StC W [Row b 5 (bs.map byteV), RingA rb m bs, Row rr 36 [.slice q bs.length cq, .int .i64 m], OwnS 5 1 q bs.length cq (bs.map byteV), Base W]), fun G w6 h6 => ?_, fun p3 n3 c3 => ⟨⟨?_, ?_⟩, mkS bs, ?_, fun G w6 h6 => ?_⟩⟩
    · exact (Look_spec h6.p2).of fun v w7 ⟨b, hv, h7⟩ => ⟨_, _, _, hv, ⟨_, _, _, rfl⟩, b, rfl, h7⟩
    · intro G w6 h6
      have h6' := h6
      obtain ⟨b, hv, h6⟩ := h6
      exact str_rd uB uU8 uS h6 ((((OwnS.rd _).cons _).cons _).cons _) rfl ⟨_, rfl, rfl, h6'⟩
    · intro G w6 h6
      have h6' := h6
      obtain ⟨b, hv, h6⟩ := h6
      exact LdL.i (St.p2 h6) rfl ⟨rfl, h6'⟩
    · intro G w6 h6
      have h6' := h6
      obtain ⟨b, hv, h6⟩ := h6
      cases hv
      exact str_rd uB uU8 uS h6 Rd.all rfl ⟨_, rfl, rfl, h6'⟩
    · obtain ⟨b, hv, h6⟩ := h6
      refine Bif.i (fun h => by simp at h) fun _ => ⟨⟨⟨k + 1, by rw [up hlt hlen], by omega⟩, bs, ?_⟩, ?_⟩
      · exact RefA.shut rfl g1 g2 ((StC.ends h6).drop.p1.perm (List.Perm.cons _ (List.Perm.swap _ _ _)))
      · rw [up hlt hlen]
        show os.length - (k + 1) < os.length - k
        omega

theorem Own_walk {W : World} {p : Option Addr} {xs : List UInt8} {c : Nat} (hr : Rd [Base W] p (xs.map byteV)) (hc : xs.length ≤ c) (hcm : c ≤ 9223372036854775807) (z : Int) (wz : (Lit.int .u8 z).wf = true) :
    CallR Try.prog 6 #[.slice p xs.length c, .int .u8 z] W fun v w' => v = .bool true ∧ ∃ r, St W (Base W :: r) w' := by
  refine F6_of ((head_spec (St.base W)).of fun v w1 ⟨hv, hS⟩ => ⟨_, hv, ?_⟩)
  refine (New_spec 100 hS).of fun v w2 ⟨rb, hv, hS⟩ => ⟨_, hv, Bif.i (fun h => by cases h) fun _ => ?_⟩
  refine Bif.i (fun _ => ⟨rfl, [], hS.drop⟩) fun h => ?_
  have hlen : xs.length ≤ 100 := by have := of_decide_eq_false h; omega
  refine NewC.i hS fun b10 w3 hS => ?_
  refine append_sl uB (.inr ⟨_, uB⟩) iU8 sU8 zU8 rfl (OwnS.empty hS) (hr.mem (by simp)) (by simp) notAgg_byteV (by rw [bU8]; omega) (by omega) fun pa ca w4 hS => ⟨_, _, _, rfl, ?_⟩
  rw [Nat.zero_add, List.nil_append] at hS
  rw [Nat.zero_add]
  refine (Add_spec (OwnS.rd _) (OwnS.le hS).2 hS.p1).of fun v w5 ⟨hv, hS⟩ => ⟨_, hv, ?_⟩
  have hbs : [] ++ xs.take (min (Int.toNat 100) 65536 - ([] : List UInt8).length) = xs := by
    rw [List.nil_append]; exact List.take_of_length_le (by simpa using hlen)
  rw [hbs] at hS
  refine ⟨fun vs w => (∃ k : Nat, vs = [.int .i64 k] ∧ k ≤ xs.length) ∧ ∃ cs, St W [OwnS 5 1 pa xs.length ca cs, RingA rb (min (Int.toNat 100) 65536) xs, Base W] w, left xs.length, ⟨⟨0, rfl, Nat.zero_le _⟩, _, hS.p1⟩, fun i w hI => ?_⟩
  obtain ⟨⟨k, he, hk⟩, cs, hS⟩ := hI
  cases he
  refine Bif.i (fun hlt => ?_) fun _ => ?_
  · have hlt : k < xs.length := by have := of_decide_eq_true hlt; omega
    refine OwnS.ix hS hlt _ fun w6 hS => ⟨⟨⟨k + 1, by rw [up hlt (by omega)], by omega⟩, _, hS⟩, ?_⟩
    rw [up hlt (by omega)]
    show xs.length - (k + 1) < xs.length - k
    omega
  refine (Look_spec hS.p1).of fun v w6 ⟨b4, hv, hS⟩ => ⟨_, _, _, hv, ?_⟩
  have hS := OwnS.whole (size := 1) (n := xs.length) (by simp) hS
  refine ⟨fun vs w => (∃ k : Nat, vs = [.int .i64 k] ∧ k ≤ xs.length) ∧ ∃ cs', St W [OwnS 5 1 (some ⟨b4, 0, none⟩) xs.length xs.length cs', RingA rb (min (Int.toNat 100) 65536) xs, OwnS 5 1 pa xs.length ca cs, Base W] w, left xs.length, ⟨⟨0, rfl, Nat.zero_le _⟩, _, hS⟩, fun i w hI => ?_⟩
  obtain ⟨⟨k, he, hk⟩, cs', hS⟩ := hI
  cases he
  refine Bif.i (fun hlt => ?_) fun _ => ?_
  · have hlt : k < xs.length := by have := of_decide_eq_true hlt; omega
    refine OwnS.ix hS hlt _ fun w6 hS => ⟨⟨⟨k + 1, by rw [up hlt (by omega)], by omega⟩, _, hS⟩, ?_⟩
    rw [up hlt (by omega)]
    show xs.length - (k + 1) < xs.length - k
    omega
  have ht : xs.take (Int.toNat 100) = xs := List.take_of_length_le (by simpa using hlen)
  refine ⟨StC W _, StC.start hS, Bif.i (fun _ => ?_) fun h => by cases h⟩
  refine ⟨mkS xs, fun G w7 h7 => str_rd uB uU8 uS h7 ((hr.mem (l := [_, _, _, Base W]) (by simp)).app (pts G)) rfl ⟨_, rfl, rfl, h7⟩, ?_⟩
  refine ⟨fun v => Cls.some fun b => Cls.only (v = .slice (some ⟨b, 0, none⟩) xs.length xs.length) (StC W [Row b 5 (xs.map byteV), RingA rb (min (Int.toNat 100) 65536) (xs.drop (Int.toNat 100)), OwnS 5 1 (some ⟨b4, 0, none⟩) xs.length xs.length cs', OwnS 5 1 pa xs.length ca cs, Base W]), fun G w7 h7 => ?_, fun p3 n3 c3 => ⟨?_, mkS xs, ?_, fun G w8 h8 => ?_⟩⟩
  · refine (Take_spec 100 (St.p1 h7)).of fun v w8 ⟨b, hv, h8⟩ => ⟨_, _, _, hv, ⟨_, _, _, rfl⟩, b, by rw [ht], ?_⟩
    rw [ht] at h8
    exact h8
  · intro G w8 h8
    have h8' := h8
    obtain ⟨b, hv, h8⟩ := h8
    exact str_rd uB uU8 uS h8 ((hr.mem (l := [_, _, _, _, Base W]) (by simp)).app (pts G)) rfl ⟨_, rfl, rfl, h8'⟩
  · intro G w8 h8
    have h8' := h8
    obtain ⟨b, hv, h8⟩ := h8
    cases hv
    exact str_rd uB uU8 uS h8 Rd.all rfl ⟨_, rfl, rfl, h8'⟩
  · obtain ⟨b, hv, h8⟩ := h8
    exact ⟨by simp, [], (StC.ends h8).drop.drop.drop.drop⟩

theorem Order_walk {W : World} {p : Option Addr} {os : List OpD} {c : Nat} (most : Int) (wm : (Lit.int .u8 most).wf = true) (hl : Rd [Base W] p (os.flatMap opCells)) (hc : os.length ≤ c) (hcm : c ≤ 9223372036854775807) (hok : ∀ o ∈ os, OpOk W o) :
    CallR Try.prog 4 #[.int .u8 most, .slice p os.length c] W fun v w' => v = .bool true ∧ ∃ r, St W (Base W :: r) w' := by
  have hlen : os.length ≤ 9223372036854775807 := Nat.le_trans hc hcm
  refine F4_of ((head_spec (St.base W)).of fun v w1 ⟨hv, hS⟩ => ⟨_, hv, ?_⟩)
  refine (New_spec _ hS).of fun v w2 ⟨rb, hv, hS⟩ => ⟨_, hv, Bif.i (fun h => by cases h) fun _ => ?_⟩
  generalize min (IntKind.wrap .i64 most).toNat 65536 = m at hS
  refine (Great_spec hl (by simp) hlen hS).of fun v w4 ⟨b, hv, hb, hS⟩ => ⟨_, hv, Bif.i (fun _ => ⟨rfl, [], hS.drop⟩) fun hb' => ?_⟩
  have hl4 := hb hb'
  refine ⟨fun vs w => ∃ (k : Nat) (inn out bs : List UInt8), vs = [.string (mkS inn), .string (mkS out), .int .i64 k] ∧ k ≤ os.length ∧ out ++ bs = inn ∧ inn.length ≤ k * 65536 ∧ St W [RingA rb m bs, Base W] w, left os.length, ⟨0, [], [], [], rfl, Nat.zero_le _, rfl, Nat.zero_le _, hS⟩, fun i0 o0 i w hI => ?_⟩
  obtain ⟨k, inn, out, bs, he, hk, hio, hin, hS⟩ := hI
  cases he
  have hle := RingA.le hS
  have hol : out.length + bs.length = inn.length := by rw [← hio, List.length_append]
  refine Bif.i (fun hlt => ?_) fun _ => Bif.i (fun _ => ?_) fun h => by cases h
  · have hlt : k < os.length := by have := of_decide_eq_true hlt; omega
    have ho := hok _ (List.getElem_mem hlt)
    obtain ⟨a, ha, h0, h1, h2⟩ := op_at hl (by simp) hS hlt
    refine ⟨a, ha, ⟨by omega, by omega⟩, LdI.at h0 (Bif.i (fun _ => ?_) fun _ => ?_)⟩
    · refine ⟨a, ha, ⟨by omega, by omega⟩, LdI.at h2 ((Take_spec _ hS).of fun v w5 ⟨b1, hv, hS⟩ => ⟨_, _, _, hv, ?_⟩)⟩
      refine str_rd uB uU8 uS hS Rd.all rfl ⟨_, rfl, ⟨by simp only [mkS_size, List.length_take]; omega, ?_⟩⟩
      rw [up hlt hlen, mkS_append]
      exact ⟨⟨k + 1, inn, _, _, rfl, by omega, by rw [List.append_assoc, List.take_append_drop]; exact hio, Nat.le_trans hin (Nat.mul_le_mul_right _ (Nat.le_succ k)), hS.drop⟩, by show os.length - (k + 1) < os.length - k; omega⟩
    · refine ⟨a, ha, ⟨by omega, by omega⟩, LdL.at h1 ((Add_spec (ho.2.mem (by simp)) ho.1 hS).of fun v w5 ⟨hv, hS⟩ => ⟨_, hv, ?_⟩)⟩
      refine Bif.i (fun h => by have := of_decide_eq_true h; omega) fun _ => ?_
      obtain ⟨a, ha, h0, h1, h2⟩ := op_at hl (by simp) hS hlt
      refine ⟨a, ha, ⟨by omega, by omega⟩, LdL.at h1 (Bif.i (fun h => by have := of_decide_eq_true h; omega) fun _ => ?_)⟩
      have et : os[k].xs.take (min os[k].xs.length (m - bs.length)) = os[k].xs.take (m - bs.length) := by
        rcases Nat.le_total os[k].xs.length (m - bs.length) with h | h
        · rw [Nat.min_eq_left h, List.take_length, List.take_of_length_le h]
        · rw [Nat.min_eq_right h]
      refine ⟨a, ha, ⟨by omega, by omega⟩, LdL.at h1 (SlP.i (a := 0) (b := min os[k].xs.length (m - bs.length)) (ho.2.mem (l := [RingA rb m (bs ++ os[k].xs.take (m - bs.length)), Base W]) (by simp)) (by simp) ho.1 rfl rfl (by omega) (by omega) fun p1 hr1 => ?_)⟩
      rw [Nat.zero_mul, Nat.mul_one, List.drop_zero, Nat.sub_zero, ← List.map_take, et] at hr1
      refine str_rd uB uU8 uS hS hr1 (by simp; omega) ⟨_, rfl, ⟨by simp only [mkS_size, List.length_take]; omega, ?_⟩⟩
      rw [up hlt hlen, mkS_append]
      exact ⟨⟨k + 1, _, out, _, rfl, by omega, by rw [← List.append_assoc, hio], by simp only [List.length_append, List.length_take]; omega, hS⟩, by show os.length - (k + 1) < os.length - k; omega⟩
  · refine (Look_spec hS).of fun v w5 ⟨b1, hv, hS⟩ => ⟨_, _, _, hv, ?_⟩
    refine str_rd uB uU8 uS hS Rd.all rfl ⟨_, rfl, ⟨by simp only [mkS_size]; omega, ?_⟩⟩
    rw [mkS_append, hio]
    exact ⟨by simp, [], hS.drop.drop⟩

theorem Bound_walk {W : World} {p : Option Addr} {os : List OpD} {c : Nat} (most : Int) (wm : (Lit.int .u8 most).wf = true) (hl : Rd [Base W] p (os.flatMap opCells)) (hc : os.length ≤ c) (hcm : c ≤ 9223372036854775807) (hok : ∀ o ∈ os, OpOk W o) :
    CallR Try.prog 5 #[.int .u8 most, .slice p os.length c] W fun v w' => v = .bool true ∧ ∃ r, St W (Base W :: r) w' := by
  have hlen : os.length ≤ 9223372036854775807 := Nat.le_trans hc hcm
  have hm : 0 ≤ most ∧ most ≤ 255 := by simpa [Lit.wf, IntKind.min, IntKind.max, IntKind.signed, IntKind.bits] using wm
  refine F5_of ?_
  unfold F5
  rw [w64 (n := most) (by omega) (by omega)]
  refine ((head_spec (St.base W)).of fun v w1 ⟨hv, hS⟩ => ⟨_, hv, ?_⟩)
  refine (New_spec _ hS).of fun v w2 ⟨rb, hv, hS⟩ => ⟨_, hv, Bif.i (fun h => by cases h) fun _ => ?_⟩
  have em : ((min most.toNat 65536 : Nat) : Int) = most := by omega
  generalize min most.toNat 65536 = m at hS em
  refine (Great_spec hl (by simp) hlen hS).of fun v w4 ⟨b, hv, hb, hS⟩ => ⟨_, hv, Bif.i (fun _ => ⟨rfl, [], hS.drop⟩) fun hb' => ?_⟩
  refine ⟨fun vs w => (∃ k : Nat, vs = [.int .i64 k] ∧ k ≤ os.length) ∧ ∃ bs, St W [RingA rb m bs, Base W] w, left os.length, ⟨⟨0, rfl, Nat.zero_le _⟩, [], hS⟩, fun i w hI => ?_⟩
  obtain ⟨⟨k, he, hk⟩, bs, hS⟩ := hI
  cases he
  have hle := RingA.le hS
  refine Bif.i (fun hlt => ?_) fun _ => Bif.i (fun _ => ?_) fun h => by cases h
  · have hlt : k < os.length := by have := of_decide_eq_true hlt; omega
    have ho := hok _ (List.getElem_mem hlt)
    refine (Many_spec hS).of fun v w5 ⟨hv, hS⟩ => ⟨_, hv, (Room_spec hS).of fun v w6 ⟨hv, hS⟩ => ⟨_, hv, Bif.i (fun h => ?_) fun _ => ?_⟩⟩
    · rw [w64 (by omega) (by omega)] at h
      simp at h
      omega
    obtain ⟨a, ha, h0, h1, h2⟩ := op_at hl (by simp) hS hlt
    refine ⟨a, ha, ⟨by omega, by omega⟩, LdI.at h0 (Bif.i (fun _ => ?_) fun _ => ?_)⟩
    · refine ⟨a, ha, ⟨by omega, by omega⟩, LdI.at h2 ((Take_spec _ hS).of fun v w5 ⟨b1, hv, hS⟩ => ⟨_, _, _, hv, ?_⟩)⟩
      obtain ⟨a, ha, h0, h1, h2⟩ := op_at hl (by simp) hS hlt
      refine ⟨a, ha, ⟨by omega, by omega⟩, LdI.at h2 (Bif.i (fun h => ?_) fun _ => ?_)⟩
      · simp only [List.length_take, bne_iff_ne, ne_eq] at h
        exact absurd (by split <;> split at * <;> omega) h
      refine (Many_spec hS.p1).of fun v w7 ⟨hv, hS⟩ => ⟨_, hv, Bif.i (fun h => ?_) fun _ => ?_⟩
      · rw [w64 (by simp only [List.length_take]; omega) (by simp only [List.length_take]; omega)] at h
        simp only [List.length_take, List.length_drop, bne_iff_ne, ne_eq] at h
        omega
      rw [up hlt hlen]
      exact ⟨⟨⟨k + 1, rfl, by omega⟩, _, hS.p1.drop⟩, by show os.length - (k + 1) < os.length - k; omega⟩
    · refine ⟨a, ha, ⟨by omega, by omega⟩, LdL.at h1 ((Add_spec (ho.2.mem (by simp)) ho.1 hS).of fun v w5 ⟨hv, hS⟩ => ⟨_, hv, ?_⟩)⟩
      obtain ⟨a, ha, h0, h1, h2⟩ := op_at hl (by simp) hS hlt
      refine ⟨a, ha, ⟨by omega, by omega⟩, LdL.at h1 (Bif.i (fun h => ?_) fun _ => ?_)⟩
      · simp only [bne_iff_ne, ne_eq] at h
        exact absurd (by split <;> omega) h
      refine (Many_spec hS).of fun v w7 ⟨hv, hS⟩ => ⟨_, hv, Bif.i (fun h => ?_) fun _ => ?_⟩
      · rw [w64 (by omega) (by omega)] at h
        simp only [List.length_append, List.length_take, bne_iff_ne, ne_eq] at h
        omega
      rw [up hlt hlen]
      exact ⟨⟨⟨k + 1, rfl, by omega⟩, _, hS⟩, by show os.length - (k + 1) < os.length - k; omega⟩
  · refine (Many_spec hS).of fun v w5 ⟨hv, hS⟩ => ⟨_, hv, ?_⟩
    exact ⟨by rw [decide_eq_true (show (bs.length : Int) ≤ most by omega)], [], hS.drop⟩

/-! ### Pieces -/
theorem u8_at {W w : World} {l : List Asn} {p : Option Addr} {xs : List UInt8} {k : Nat} (hl : Rd [Base W] p (xs.map byteV)) (hm : Base W ∈ l) (hS : St W l w) (hk : k < xs.length) :
    ∃ a, p = some a ∧ w.cell? (a.add (k * 1)) = some (.int .u8 xs[k].toNat) := by
  have ho : (xs.map byteV)[k]? = some (.int .u8 xs[k].toNat) := by rw [List.getElem?_map, List.getElem?_eq_getElem hk]; rfl
  obtain ⟨a, ha, hc⟩ := (hl.mem hm).of hS ho
  exact ⟨a, ha, by rw [Nat.mul_one]; exact hc⟩
theorem more_bytes {xs : List UInt8} {A d M : Nat} (hA : A ≤ xs.length) : (xs.take A).take M ++ ((xs.drop A).take d).take (M - ((xs.take A).take M).length) = (xs.take (A + d)).take M := by
  have e : xs.take (A + d) = xs.take A ++ (xs.drop A).take d := by rw [List.take_add]
  rw [e, List.take_append]
  congr 2
  simp only [List.length_take]
  omega

theorem Pieces_walk {W : World} (most : Int) (wm : (Lit.int .u8 most).wf = true) {p q : Option Addr} {xs ys : List UInt8} {c d : Nat} (hr : Rd [Base W] p (xs.map byteV)) (hc : xs.length ≤ c) (hcm : c ≤ 9223372036854775807)
    (hy : Rd [Base W] q (ys.map byteV)) (hd : ys.length ≤ d) (hdm : d ≤ 9223372036854775807) :
    CallR Try.prog 7 #[.int .u8 most, .slice p xs.length c, .slice q ys.length d] W fun v w' => v = .bool true ∧ ∃ r, St W (Base W :: r) w' := by
  refine F7_of ((head_spec (St.base W)).of fun v w1 ⟨hv, hS⟩ => ⟨_, hv, ?_⟩)
  refine (New_spec _ hS).of fun v w2 ⟨rb, hv, hS⟩ => ⟨_, hv, ?_⟩
  refine (New_spec _ hS).of fun v w3 ⟨rc, hv, hS⟩ => ⟨_, hv, Bif.i (fun h => by cases h) fun _ => Bif.i (fun h => by cases h) fun _ => ?_⟩
  generalize min (IntKind.wrap .i64 most).toNat 65536 = M at hS
  refine Bif.i (fun _ => ⟨rfl, [], hS.drop.drop⟩) fun h => ?_
  have h3 : xs.length ≤ 3000 := by have := of_decide_eq_false h; omega
  refine Bif.i (fun _ => ⟨rfl, [], hS.drop.drop⟩) fun h => ?_
  have h4 : ys.length ≤ 300 := by have := of_decide_eq_false h; omega
  refine (Add_spec (hr.mem (by simp)) hc hS.p1).of fun v w4 ⟨hv, hS⟩ => ⟨_, hv, ?_⟩
  have hb : [] ++ xs.take (M - ([] : List UInt8).length) = xs.take M := by simp
  rw [hb] at hS
  refine ⟨fun vs w => ∃ A k : Nat, vs = [.int .i64 (((xs.take A).take M).length : Nat), .int .i64 A, .int .i64 k] ∧ k ≤ ys.length + 1 ∧ A ≤ xs.length ∧ (k = ys.length + 1 → A = xs.length) ∧ St W [RingA rc M ((xs.take A).take M), RingA rb M (xs.take M), Base W] w, left (ys.length + 1), ⟨0, 0, by simp, by omega, by omega, by omega, by simpa using hS.p1⟩, fun k0 a0 i w hI => ?_⟩
  obtain ⟨A, k, he, hk, hA, hlast, hS⟩ := hI
  cases he
  have step : ∀ (mm : Nat) (w5 : World), A + mm ≤ xs.length → (k = ys.length → A + mm = xs.length) → k ≤ ys.length → St W [RingA rc M ((xs.take A).take M), RingA rb M (xs.take M), Base W] w5 →
      SlP p xs.length c 1 A (IntKind.wrap .i64 ((A : Int) + (mm : Int))) fun p1 n1 c1 => CallR Try.prog 15 #[.pointer (some ⟨rc, 0, none⟩), .slice p1 n1 c1] w5 fun v w' => ∃ x, v = .int .i64 x ∧ IntKind.wrap .i64 ((((xs.take A).take M).length : Nat) + x) = (((xs.take (A + mm)).take M).length : Nat) ∧ St W [RingA rc M ((xs.take (A + mm)).take M), RingA rb M (xs.take M), Base W] w' := by
    intro mm w5 h1 h2 h3 hS
    rw [w64 (by omega) (by omega)]
    refine SlP.i (a := A) (b := A + mm) hr (by simp) hc rfl (by omega) (by omega) h1 fun p1 hr1 => ?_
    rw [Nat.mul_one, Nat.mul_one, ← List.map_drop, ← List.map_take, show A + mm - A = mm by omega] at hr1
    have el : ((xs.drop A).take mm).length = A + mm - A := by simp; omega
    rw [← el]
    refine (Add_spec (hr1.mem (by simp)) (by rw [el]; omega) hS).of fun v w6 ⟨hv, hS⟩ => ⟨_, hv, ?_, by rw [more_bytes hA] at hS; exact hS⟩
    rw [w64 (by simp only [List.length_take]; omega) (by simp only [List.length_take]; omega)]
    simp only [List.length_take, List.length_drop]
    omega
  refine Bif.i (fun hle => ?_) fun hgt => ?_
  · have hle : k ≤ ys.length := by have := of_decide_eq_true hle; omega
    refine ⟨fun vs w => ∃ mm : Nat, vs = [.int .i64 mm] ∧ A + mm ≤ xs.length ∧ (k = ys.length → A + mm = xs.length) ∧ St W [RingA rc M ((xs.take A).take M), RingA rb M (xs.take M), Base W] w, Bif.i (fun hlt => ?_) fun hge => ?_, fun mm w5 hJ => ?_⟩
    · have hlt : k < ys.length := by have := of_decide_eq_true hlt; omega
      obtain ⟨a, ha, h0⟩ := u8_at hy (by simp) hS hlt
      have hy8 : ys[k].toNat < 256 := ys[k].toNat_lt
      refine ⟨a, ha, ⟨by omega, by omega⟩, LdI.at h0 ⟨min (xs.length - A) ys[k].toNat, ?_, by omega, by omega, hS⟩⟩
      rw [w64 (by omega) (by omega), w64 (by omega) (by omega)]
      congr 2
      split <;> omega
    · have hge : k = ys.length := by have := of_decide_eq_false hge; omega
      refine ⟨xs.length - A, ?_, by omega, by omega, hS⟩
      rw [w64 (by omega) (by omega)]
      congr 2
      omega
    · obtain ⟨mm, he, g1, g2, hS⟩ := hJ
      cases he
      have hstep := step mm w5 g1 g2 hle hS
      refine ⟨hstep.1, hstep.2.of fun v w6 ⟨x, hv, hx, hS⟩ => ⟨_, hv, ?_⟩⟩
      dsimp only
      rw [hx, w64 (by omega) (by omega), up (n := ys.length + 1) (by omega) (by omega)]
      exact ⟨⟨A + mm, k + 1, by simp, by omega, g1, by omega, hS⟩, by show ys.length + 1 - (k + 1) < ys.length + 1 - k; omega⟩
  have hke : k = ys.length + 1 := by have := of_decide_eq_false hgt; omega
  have hAe := hlast hke
  subst hAe
  rw [List.take_length] at hS ⊢
  refine ⟨fun vs w => ∃ (k : Nat) (out bs : List UInt8), vs = [.string (mkS out), .int .i64 k] ∧ k ≤ ys.length ∧ out ++ bs = xs.take M ∧ St W [RingA rc M bs, RingA rb M (xs.take M), Base W] w, left ys.length, ⟨0, [], _, rfl, Nat.zero_le _, rfl, hS⟩, fun o0 i w hI => ?_⟩
  obtain ⟨j, out, bs, he, hj, hob, hS⟩ := hI
  cases he
  have hob' : out.length + bs.length ≤ 3000 := by rw [← List.length_append, hob]; simp; omega
  refine Bif.i (fun hlt => ?_) fun _ => ?_
  · have hlt : j < ys.length := by have := of_decide_eq_true hlt; omega
    obtain ⟨a, ha, h0⟩ := u8_at hy (by simp) hS hlt
    refine ⟨a, ha, ⟨by omega, by omega⟩, LdI.at h0 ((Take_spec _ hS).of fun v w5 ⟨b1, hv, hS⟩ => ⟨_, _, _, hv, ?_⟩)⟩
    refine str_rd uB uU8 uS hS Rd.all rfl ⟨_, rfl, ⟨by simp only [mkS_size, List.length_take]; omega, ?_⟩⟩
    rw [up hlt (by omega), mkS_append]
    exact ⟨⟨j + 1, _, _, rfl, by omega, by rw [List.append_assoc, List.take_append_drop]; exact hob, hS.drop⟩, by show ys.length - (j + 1) < ys.length - j; omega⟩
  refine (Take_spec _ hS).of fun v w5 ⟨b1, hv, hS⟩ => ⟨_, _, _, hv, ?_⟩
  have ht : bs.take (Int.toNat 3000) = bs := List.take_of_length_le (by show bs.length ≤ 3000; omega)
  refine str_rd uB uU8 uS hS Rd.all rfl ⟨_, rfl, ⟨by simp only [mkS_size, List.length_take]; omega, ?_⟩⟩
  rw [mkS_append, ht, hob]
  refine Bif.i (fun _ => Bif.i (fun _ => ?_) fun h => ?_) fun h => by cases h
  · refine (Take_spec _ hS.p2).of fun v w6 ⟨b2, hv, hS⟩ => ⟨_, _, _, hv, ?_⟩
    have ht2 : (xs.take M).take (Int.toNat 3000) = xs.take M := List.take_of_length_le (by show (xs.take M).length ≤ 3000; simp; omega)
    refine str_rd uB uU8 uS hS Rd.all rfl ⟨_, rfl, ?_, [], hS.drop.drop.drop.drop⟩
    rw [ht2]
    simp
  · simp at h
    omega

theorem Looks_walk {W : World} {p : Option Addr} {os : List OpD} {c : Nat} (most : Int) (wm : (Lit.int .u8 most).wf = true) (hl : Rd [Base W] p (os.flatMap opCells)) (hc : os.length ≤ c) (hcm : c ≤ 9223372036854775807) (hok : ∀ o ∈ os, OpOk W o) :
    CallR Try.prog 8 #[.int .u8 most, .slice p os.length c] W fun v w' => v = .bool true ∧ ∃ r, St W (Base W :: r) w' := by
  have hlen : os.length ≤ 9223372036854775807 := Nat.le_trans hc hcm
  refine F8_of ((head_spec (St.base W)).of fun v w1 ⟨hv, hS⟩ => ⟨_, hv, ?_⟩)
  refine (New_spec _ hS).of fun v w2 ⟨rb, hv, hS⟩ => ⟨_, hv, ?_⟩
  refine (New_spec _ hS).of fun v w3 ⟨rc, hv, hS⟩ => ⟨_, hv, Bif.i (fun h => by cases h) fun _ => Bif.i (fun h => by cases h) fun _ => ?_⟩
  generalize min (IntKind.wrap .i64 most).toNat 65536 = m at hS
  refine (Great_spec hl (by simp) hlen hS).of fun v w4 ⟨b, hv, hb, hS⟩ => ⟨_, hv, Bif.i (fun _ => ⟨rfl, [], hS.drop.drop⟩) fun hb' => ?_⟩
  refine ⟨fun vs w => (∃ k : Nat, vs = [.int .i64 k] ∧ k ≤ os.length) ∧ ∃ bs, St W [RingA rb m bs, RingA rc m bs, Base W] w, left os.length, ⟨⟨0, rfl, Nat.zero_le _⟩, [], hS.p1⟩, fun i w hI => ?_⟩
  obtain ⟨⟨k, he, hk⟩, bs, hS⟩ := hI
  cases he
  refine Bif.i (fun hlt => ?_) fun _ => ?_
  · have hlt : k < os.length := by have := of_decide_eq_true hlt; omega
    have ho := hok _ (List.getElem_mem hlt)
    refine (Look_spec hS).of fun v w5 ⟨b1, hv, hS⟩ => ⟨_, _, _, hv, str_rd uB uU8 uS hS Rd.all rfl ⟨_, rfl, ?_⟩⟩
    refine (Look_spec hS.p1).of fun v w6 ⟨b2, hv, hS⟩ => ⟨_, _, _, hv, str_rd uB uU8 uS hS Rd.all rfl ⟨_, rfl, Bif.i (fun h => by simp at h) fun _ => ?_⟩⟩
    refine (Many_spec hS.p1).of fun v w7 ⟨hv, hS⟩ => ⟨_, hv, Bif.i (fun h => by simp [mkS_size] at h) fun _ => ?_⟩
    have hS : St W [RingA rb m bs, RingA rc m bs, Base W] w7 := (hS.p1.drop).p1.drop
    obtain ⟨a, ha, h0, h1, h2⟩ := op_at hl (by simp) hS hlt
    refine ⟨a, ha, ⟨by omega, by omega⟩, LdI.at h0 (Bif.i (fun _ => ?_) fun _ => ?_)⟩
    · refine ⟨StC W _, StC.start hS, ⟨a, ha, ⟨by omega, by omega⟩, ⟨a, ha, ⟨by omega, by omega⟩, os[k].nn, fun G w8 h8 => ?_, os[k].nn, fun G w8 h8 => ?_, ?_⟩⟩⟩
      · obtain ⟨a', ha', h0, h1, h2⟩ := op_at (l := _ ++ pts G) hl (by simp) h8 hlt
        rw [ha] at ha'; cases ha'
        exact LdI.at h2 ⟨rfl, h8⟩
      · obtain ⟨a', ha', h0, h1, h2⟩ := op_at (l := _ ++ pts G) hl (by simp) h8 hlt
        rw [ha] at ha'; cases ha'
        exact LdI.at h2 ⟨rfl, h8⟩
      generalize hn : os[k].nn = nn
      refine ⟨fun v => Cls.some fun b => Cls.only (v = .slice (some ⟨b, 0, none⟩) (bs.take nn.toNat).length (bs.take nn.toNat).length) (StC W [Row b 5 ((bs.take nn.toNat).map byteV), RingA rb m (bs.drop nn.toNat), RingA rc m bs, Base W]), fun G w8 h8 => ?_, fun p1 n1 c1 => ⟨fun G w8 h8 => ?_, mkS (bs.take nn.toNat), fun G w8 h8 => ?_, ?_⟩⟩
      · exact (Take_spec _ h8).of fun v w9 ⟨b, hv, h9⟩ => ⟨_, _, _, hv, ⟨_, _, _, rfl⟩, b, rfl, h9⟩
      · have h8' := h8
        obtain ⟨b, hv, h8⟩ := h8
        obtain ⟨a', ha', h0, h1, h2⟩ := op_at (l := _ ++ pts G) hl (by simp) h8 hlt
        rw [ha] at ha'; cases ha'
        rw [hn] at h2
        exact LdI.at h2 ⟨rfl, h8'⟩
      · have h8' := h8
        obtain ⟨b, hv, h8⟩ := h8
        cases hv
        exact str_rd uB uU8 uS h8 Rd.all rfl ⟨_, rfl, rfl, h8'⟩
      refine ⟨fun v => Cls.some fun b : Nat × Nat => Cls.only (v = .slice (some ⟨b.1, 0, none⟩) (bs.take nn.toNat).length (bs.take nn.toNat).length ∧ Value.slice p1 n1 c1 = .slice (some ⟨b.2, 0, none⟩) (bs.take nn.toNat).length (bs.take nn.toNat).length) (StC W [Row b.1 5 ((bs.take nn.toNat).map byteV), Row b.2 5 ((bs.take nn.toNat).map byteV), RingA rb m (bs.drop nn.toNat), RingA rc m (bs.drop nn.toNat), Base W]), fun G w8 h8 => ?_, fun p2 n2 c2 => ⟨fun G w8 h8 => ?_, mkS (bs.take nn.toNat), fun G w8 h8 => ?_, fun G w8 h8 => ?_⟩⟩
      · obtain ⟨b, hv, h8⟩ := h8
        exact (Take_spec _ (St.p2 h8)).of fun v w9 ⟨b2, hv2, h9⟩ => ⟨_, _, _, hv2, ⟨_, _, _, rfl⟩, (b2, b), ⟨rfl, hv⟩, (St.p1 (St.p2 h9)).perm (List.Perm.cons _ (List.Perm.cons _ (List.Perm.swap _ _ _)))⟩
      · have h8' := h8
        obtain ⟨b, hv, h8⟩ := h8
        cases hv.2
        exact str_rd uB uU8 uS h8 (Rd.all.cons _) rfl ⟨_, rfl, rfl, h8'⟩
      · have h8' := h8
        obtain ⟨b, hv, h8⟩ := h8
        cases hv.1
        exact str_rd uB uU8 uS h8 Rd.all rfl ⟨_, rfl, rfl, h8'⟩
      · obtain ⟨b, hv, h8⟩ := h8
        refine Bif.i (fun h => by simp at h) fun _ => ?_
        rw [up hlt hlen]
        exact ⟨⟨⟨k + 1, rfl, by omega⟩, _, (StC.ends h8).drop.drop⟩, by show os.length - (k + 1) < os.length - k; omega⟩
    · refine ⟨StC W _, StC.start hS, ⟨a, ha, ⟨by omega, by omega⟩, ⟨a, ha, ⟨by omega, by omega⟩, os[k].p, os[k].xs.length, os[k].c, fun G w8 h8 => ?_, os[k].p, os[k].xs.length, os[k].c, fun G w8 h8 => ?_, ?_⟩⟩⟩
      · obtain ⟨a', ha', h0, h1, h2⟩ := op_at (l := _ ++ pts G) hl (by simp) h8 hlt
        rw [ha] at ha'; cases ha'
        exact LdL.at h1 ⟨rfl, h8⟩
      · obtain ⟨a', ha', h0, h1, h2⟩ := op_at (l := _ ++ pts G) hl (by simp) h8 hlt
        rw [ha] at ha'; cases ha'
        exact LdL.at h1 ⟨rfl, h8⟩
      generalize hn : os[k] = o at ho
      refine ⟨fun v => Cls.only (v = .int .i64 (min o.xs.length (m - bs.length) : Nat)) (StC W [RingA rb m (bs ++ o.xs.take (m - bs.length)), RingA rc m bs, Base W]), fun G w8 h8 => ?_, fun x1 => ⟨fun G w8 h8 => ?_, ?_⟩⟩
      · exact (Add_spec ((ho.2.mem (l := [_, Base W]) (by simp)).app (pts G)) ho.1 h8).of fun v w9 ⟨hv, h9⟩ => ⟨_, hv, ⟨_, rfl⟩, rfl, h9⟩
      · have h8' := h8
        obtain ⟨hv, h8⟩ := h8
        obtain ⟨a', ha', h0, h1, h2⟩ := op_at (l := _ ++ pts G) hl (by simp) h8 hlt
        rw [ha] at ha'; cases ha'
        rw [hn] at h1
        exact LdL.at h1 ⟨rfl, h8'⟩
      refine ⟨fun v => Cls.only (v = .int .i64 (min o.xs.length (m - bs.length) : Nat) ∧ Value.int .i64 x1 = .int .i64 (min o.xs.length (m - bs.length) : Nat)) (StC W [RingA rc m (bs ++ o.xs.take (m - bs.length)), RingA rb m (bs ++ o.xs.take (m - bs.length)), Base W]), fun G w8 h8 => ?_, fun x2 => ⟨trivial, fun G w8 h8 => ?_⟩⟩
      · obtain ⟨hv, h8⟩ := h8
        exact (Add_spec ((ho.2.mem (l := [_, Base W]) (by simp)).app (pts G)) ho.1 (St.p1 h8)).of fun v w9 ⟨hv2, h9⟩ => ⟨_, hv2, ⟨_, rfl⟩, ⟨rfl, hv⟩, h9⟩
      · obtain ⟨⟨hv1, hv2⟩, h8⟩ := h8
        cases hv1
        cases hv2
        refine Bif.i (fun h => by simp at h) fun _ => ?_
        rw [up hlt hlen]
        exact ⟨⟨⟨k + 1, rfl, by omega⟩, _, (StC.ends h8).p1⟩, by show os.length - (k + 1) < os.length - k; omega⟩
  · refine ⟨StC W _, StC.start hS, Bif.i (fun _ => ?_) fun h => by cases h⟩
    refine ⟨fun v => Cls.some fun b => Cls.only (v = .slice (some ⟨b, 0, none⟩) bs.length bs.length) (StC W [Row b 5 (bs.map byteV), RingA rb m bs, RingA rc m bs, Base W]), fun G w8 h8 => ?_, fun p1 n1 c1 => ⟨trivial, mkS bs, fun G w8 h8 => ?_, ?_⟩⟩
    · exact (Look_spec h8).of fun v w9 ⟨b, hv, h9⟩ => ⟨_, _, _, hv, ⟨_, _, _, rfl⟩, b, rfl, h9⟩
    · have h8' := h8
      obtain ⟨b, hv, h8⟩ := h8
      cases hv
      exact str_rd uB uU8 uS h8 Rd.all rfl ⟨_, rfl, rfl, h8'⟩
    refine ⟨fun v => Cls.some fun b : Nat × Nat => Cls.only (v = .slice (some ⟨b.1, 0, none⟩) bs.length bs.length ∧ Value.slice p1 n1 c1 = .slice (some ⟨b.2, 0, none⟩) bs.length bs.length) (StC W [Row b.1 5 (bs.map byteV), RingA rc m bs, Row b.2 5 (bs.map byteV), RingA rb m bs, Base W]), fun G w8 h8 => ?_, fun p2 n2 c2 => ⟨fun G w8 h8 => ?_, mkS bs, fun G w8 h8 => ?_, fun G w8 h8 => ?_⟩⟩
    · obtain ⟨b, hv, h8⟩ := h8
      exact (Look_spec (St.p2 h8)).of fun v w9 ⟨b2, hv2, h9⟩ => ⟨_, _, _, hv2, ⟨_, _, _, rfl⟩, (b2, b), ⟨rfl, hv⟩, h9⟩
    · have h8' := h8
      obtain ⟨b, hv, h8⟩ := h8
      cases hv.2
      exact str_rd uB uU8 uS h8 ((Rd.all.cons _).cons _) rfl ⟨_, rfl, rfl, h8'⟩
    · have h8' := h8
      obtain ⟨b, hv, h8⟩ := h8
      cases hv.1
      exact str_rd uB uU8 uS h8 Rd.all rfl ⟨_, rfl, rfl, h8'⟩
    · obtain ⟨b, hv, h8⟩ := h8
      exact ⟨by simp, [], (StC.ends h8).drop.drop.drop.drop⟩
end Go.Proofs.Ytbpejbkpbohecaa
