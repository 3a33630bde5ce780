/-
  The live question of the laws of an agent.
-/
import Derived.Test.YtlkbjkmpanohfaaAgF
import Derived.Test.YtlkbjkmpanohfaaMark
set_option linter.unusedVariables false
set_option linter.unusedSimpArgs false
namespace Go.Proofs.Ytlkbjkmpanohfaa
open Go
def P0 : PlanD := ⟨⟨#[97, 110, 110]⟩, ⟨#[107]⟩, ⟨#[115]⟩, ⟨#[119, 101, 98]⟩, 50, 10⟩
def g (held : Bool) (epoch last next : Int) (L : List LD) : AG := ⟨held, epoch, last, next, L⟩
theorem hd0 (b : Nat) : startP P0 (g false 0 0 1 []) b = (g false 0 0 1 [⟨b, 0, e0, 0⟩], [openA 0, sayA 0 (helloM P0)]) := by kernel_rfl
theorem hd1 (b b' : Nat) : hearP P0 (g false 0 0 1 [⟨b, 0, e0, 0⟩]) 0 ⟨2, ⟨#[110]⟩, e0, 0, 0⟩ 0 b' = (g false 0 0 1 [⟨b, 0, e0, 1⟩], [sayA 0 ⟨3, proofOf P0 ⟨#[110]⟩, e0, 0, 0⟩]) := by kernel_rfl
theorem hd2 (b b' : Nat) : hearP P0 (g false 0 0 1 [⟨b, 0, e0, 1⟩]) 0 ⟨4, e0, e0, 0, 0⟩ 0 b' = (g false 0 0 1 [⟨b, 0, e0, 2⟩], [sayA 0 (claimM P0)]) := by kernel_rfl
theorem hd3 (b b' : Nat) : hearP P0 (g false 0 0 1 [⟨b, 0, e0, 2⟩]) 0 ⟨7, ⟨#[119, 101, 98]⟩, e0, 3, 50⟩ 0 b' = (g true 3 0 1 [⟨b, 0, e0, 2⟩], []) := by kernel_rfl
theorem hd4 (b b' : Nat) : hearP P0 (g true 3 0 1 [⟨b, 0, e0, 2⟩]) 0 ⟨11, ⟨#[119, 101, 98]⟩, ⟨#[116]⟩, 0, 0⟩ 1 b' = (g true 3 0 2 [⟨b, 0, e0, 2⟩, ⟨b', 1, ⟨#[116]⟩, 0⟩], [openA 1, sayA 1 (helloM P0)]) := by kernel_rfl
theorem hd5 (b b' b2 : Nat) : tickP P0 (g true 3 0 2 [⟨b, 0, e0, 2⟩, ⟨b', 1, ⟨#[116]⟩, 0⟩]) 10 b2 = (g true 3 10 2 [⟨b, 0, e0, 2⟩, ⟨b', 1, ⟨#[116]⟩, 0⟩], [sayA 0 ⟨8, ⟨#[119, 101, 98]⟩, e0, 3, 50⟩]) := by kernel_rfl
theorem hd6 (b b' b2 : Nat) : startP P0 (g true 3 10 2 [⟨b, 0, e0, 2⟩, ⟨b', 1, ⟨#[116]⟩, 0⟩]) b2 = (g true 3 10 2 [⟨b, 0, e0, 2⟩, ⟨b', 1, ⟨#[116]⟩, 0⟩], []) := by kernel_rfl
theorem hd7 (b b' : Nat) : throughP (g true 3 10 2 [⟨b, 0, e0, 2⟩, ⟨b', 1, ⟨#[116]⟩, 0⟩]) 0 = true ∧ throughP (g true 3 10 2 [⟨b, 0, e0, 2⟩, ⟨b', 1, ⟨#[116]⟩, 0⟩]) 1 = false := ⟨by kernel_rfl, by kernel_rfl⟩
section
variable {W w : World} {F l : List Asn}
/-- An element of a row of acts, in a drawn region. -/
theorem IxP.actM {C : Cls} {p : Option Addr} {n k c : Nat} {i : Int} {x : ActD} {os : List ActD} {K : Addr → Prop} (hC : ∀ G w, C.p G w → St W l w) (hr : Rd l p (os.flatMap actC)) (hS : St W l w) (hi : i = (k : Int)) (hn : k < n) (hx : os[k]? = some x)
    (hK : ∀ a, (∀ {G : List (Nat × Obj)} {w : World}, C.p G w → ∀ j v, (actC x)[j]? = some v → w.cell? (a.add j) = some v) → K a) : IxP p n i 7 K := by
  subst hi
  have h0 : (os.flatMap actC)[k * 7 + 0]? = some ((actC x)[0]'(by rw [actC7]; decide)) := flat_at actC7 hx (List.getElem?_eq_getElem _)
  obtain ⟨a, ha, _⟩ := hr.of hS h0
  refine ⟨a, ha, ⟨by omega, by omega⟩, hK _ fun {G w} hw j v hj => ?_⟩
  rw [Int.toNat_natCast]
  exact hr.at2 (hC G w hw) ha (flat_at actC7 hx hj)
theorem Qt.act {C : Cls} {a : Addr} {x : ActD} (ha : ∀ {G : List (Nat × Obj)} {w : World}, C.p G w → ∀ j v, (actC x)[j]? = some v → w.cell? (a.add j) = some v) :
    Qt C (actV x) (fun w44 K45 =>
      LdI .i64 (Addr.add a 0) w44 fun x46 => LdI .i64 (Addr.add a 1) w44 fun x47 => LdI .i64 (Addr.add a 2) w44 fun x48 => LdS (Addr.add a 3) w44 fun x49 => LdS (Addr.add a 4) w44 fun x50 => LdI .i64 (Addr.add a 5) w44 fun x51 => LdI .i64 (Addr.add a 6) w44 fun x52 =>
      K45 (Value.agg #[(Value.int .i64 x46), (Value.int .i64 x47), (Value.int .i64 x48), (Value.string x49), (Value.string x50), (Value.int .i64 x51), (Value.int .i64 x52)]) w44) := fun G w hw =>
  LdI.at (ha hw 0 _ rfl) (LdI.at (ha hw 1 _ rfl) (LdI.at (ha hw 2 _ rfl) (LdS.at (ha hw 3 _ rfl) (LdS.at (ha hw 4 _ rfl) (LdI.at (ha hw 5 _ rfl) (LdI.at (ha hw 6 _ rfl) ⟨rfl, hw⟩))))))
theorem Qt.msg {C : Cls} {a : Addr} {x : ActD} (ha : ∀ {G : List (Nat × Obj)} {w : World}, C.p G w → ∀ j v, (actC x)[j]? = some v → w.cell? (a.add j) = some v) :
    Qt C (msgV x.m) (fun w44 K45 =>
      LdI .i64 (Addr.add (Addr.add a 2) 0) w44 fun x48 => LdS (Addr.add (Addr.add a 2) 1) w44 fun x49 => LdS (Addr.add (Addr.add a 2) 2) w44 fun x50 => LdI .i64 (Addr.add (Addr.add a 2) 3) w44 fun x51 => LdI .i64 (Addr.add (Addr.add a 2) 4) w44 fun x52 =>
      K45 (Value.agg #[(Value.int .i64 x48), (Value.string x49), (Value.string x50), (Value.int .i64 x51), (Value.int .i64 x52)]) w44) := fun G w hw =>
  LdI.at (by rw [Addr.add_add]; exact ha hw 2 _ rfl) (LdS.at (by rw [Addr.add_add]; exact ha hw 3 _ rfl) (LdS.at (by rw [Addr.add_add]; exact ha hw 4 _ rfl) (LdI.at (by rw [Addr.add_add]; exact ha hw 5 _ rfl) (LdI.at (by rw [Addr.add_add]; exact ha hw 6 _ rfl) ⟨rfl, hw⟩))))
theorem Plan_spec (hS : St W F w) : CallR Try.prog 19 #[] w fun v w' => v = .agg #[.string P0.ten, .string P0.tok, .string P0.sec, .string P0.nam, .int .i64 P0.ttl, .int .i64 P0.every] ∧ St W F w' := by
  refine F19_of (NewC.i hS fun b2 w hS => St1.a 0 hS rfl (by simp) fun w hS => St1.a 0 hS rfl (by simp) fun w hS => St1.a 0 hS rfl (by simp) fun w hS => St1.a 0 hS rfl (by simp) fun w hS => St1.a 0 hS rfl (by simp) fun w hS => St1.a 0 hS rfl (by simp) fun w hS => ?_)
  exact LdS.a 0 hS rfl rfl (LdS.a 0 hS rfl rfl (LdS.a 0 hS rfl rfl (LdS.a 0 hS rfl rfl (LdI.a 0 hS rfl rfl (LdI.a 0 hS rfl rfl ⟨rfl, hS.drop⟩)))))
theorem head_spec (hS : St W F w) : CallR Try.prog 6 #[] w fun v w' => v = .bool true ∧ St W F w' := by
  refine F6_of ((Plan_spec hS).of fun v w ⟨hv, hS⟩ => ⟨_, _, _, _, _, _, hv, ?_⟩)
  refine (New_spec P0 (by unfold PlanOk; decide) hS).of fun v w ⟨a, hv, hS⟩ => ⟨_, hv, Bif.no rfl ?_⟩
  have hS : St W (AgentA a P0 (g false 0 0 1 []) :: F) w := hS
  refine (Start_spec hS).of fun v w ⟨p0, c0, b0, hv, hS⟩ => ⟨_, _, _, hv, ?_⟩
  rw [hd0] at hS ⊢
  refine (Hear_spec 0 ⟨2, ⟨#[110]⟩, e0, 0, 0⟩ 0 hS.p1).of fun v w ⟨p1, c1, b1, hv, hS⟩ => ⟨_, _, _, hv, ?_⟩
  rw [hd1] at hS ⊢
  refine (Hear_spec 0 ⟨4, e0, e0, 0, 0⟩ 0 hS.p1).of fun v w ⟨p2, c2, b2, hv, hS⟩ => ⟨_, _, _, hv, ?_⟩
  rw [hd2] at hS ⊢
  refine (Hear_spec 0 ⟨7, ⟨#[119, 101, 98]⟩, e0, 3, 50⟩ 0 hS.p1).of fun v w ⟨p3, c3, b3, hv, hS⟩ => ⟨_, _, _, hv, ?_⟩
  rw [hd3] at hS ⊢
  refine (Hear_spec 0 ⟨11, ⟨#[119, 101, 98]⟩, ⟨#[116]⟩, 0, 0⟩ 1 hS.p1).of fun v w ⟨p4, c4, b4, hv, hS⟩ => ⟨_, _, _, hv, ?_⟩
  rw [hd4] at hS ⊢
  refine (Tick_spec 10 hS.p1).of fun v w ⟨p5, c5, b5, hv, hS⟩ => ⟨_, _, _, hv, ?_⟩
  rw [hd5] at hS ⊢
  refine (Holds_spec hS.p1).of fun v w ⟨hv, hS⟩ => ⟨_, _, hv, ?_⟩
  refine Bif.no rfl (Bif.no rfl (Bif.no rfl (Bif.no rfl (Bif.no rfl ?_))))
  generalize hG : g true 3 10 2 [⟨b0, 0, e0, 2⟩, ⟨b4, 1, ⟨#[116]⟩, 0⟩] = G6 at hS
  have ht0 : throughP G6 0 = true := by rw [← hG]; exact (hd7 b0 b4).1
  have ht1 : throughP G6 1 = false := by rw [← hG]; exact (hd7 b0 b4).2
  have hs6 : ∀ b, startP P0 G6 b = (G6, []) := fun b => by rw [← hG]; exact hd6 b0 b4 b
  have hep : G6.epoch = 3 := by rw [← hG]; rfl
  have hhe : G6.held = true := by rw [← hG]; rfl
  have hpr : proofOf P0 ⟨#[110]⟩ = mkS (proofP [115] [[97, 110, 110], [107], [110]]) := rfl
  generalize hpp : proofOf P0 ⟨#[110]⟩ = pr at hS hpr
  obtain ⟨L, hL⟩ : ∃ L, L = AgentA a P0 G6 :: ActsA p5 c5 [sayA 0 ⟨8, ⟨#[119, 101, 98]⟩, e0, 3, 50⟩] :: ActsA p4 c4 [openA 1, sayA 1 (helloM P0)] :: ActsA p3 c3 [] :: ActsA p2 c2 [sayA 0 (claimM P0)] :: ActsA p1 c1 [sayA 0 ⟨3, pr, e0, 0, 0⟩] :: ActsA p0 c0 [openA 0, sayA 0 (helloM P0)] :: F := ⟨_, rfl⟩
  have hS : St W L w := by rw [hL]; exact hS
  have r0 : Rd L p0 ([openA 0, sayA 0 (helloM P0)].flatMap actC) := by rw [hL]; exact Rd.n 6 rfl fun F => SlA.rd F
  have r1 : Rd L p1 ([sayA 0 ⟨3, pr, e0, 0, 0⟩].flatMap actC) := by rw [hL]; exact Rd.n 5 rfl fun F => SlA.rd F
  have r2 : Rd L p2 ([sayA 0 (claimM P0)].flatMap actC) := by rw [hL]; exact Rd.n 4 rfl fun F => SlA.rd F
  have r4 : Rd L p4 ([openA 1, sayA 1 (helloM P0)].flatMap actC) := by rw [hL]; exact Rd.n 2 rfl fun F => SlA.rd F
  have r5 : Rd L p5 ([sayA 0 ⟨8, ⟨#[119, 101, 98]⟩, e0, 3, 50⟩].flatMap actC) := by rw [hL]; exact Rd.n 1 rfl fun F => SlA.rd F
  have hC : ∀ G w, (StM W L).p G w → St W L w := fun G w h => StM.ends h
  refine ⟨StM W L, StM.start hS, ?_⟩
  refine IxP.actM (k := 0) (c := 0) hC r0 hS rfl (by simp) rfl fun a36 h36 => ⟨_, _, _, _, _, _, _, Qt.act h36, _, fun w => eqAct (openA 0) (openA 0) w, _, rfl, Bif.yes (decide_eq_true rfl) ?_⟩
  refine IxP.actM (k := 1) (c := 0) hC r0 hS rfl (by simp) rfl fun a55 h55 => ⟨_, _, _, _, _, Qt.msg h55, _, fun w => eqMsg (helloM P0) (helloM P0) w, _, rfl, Bif.yes (decide_eq_true rfl) ?_⟩
  refine IxP.actM (k := 0) (c := 0) hC r1 hS rfl (by simp) rfl fun a70 h70 => ⟨pr, QtS.at fun G' w hw => by rw [Addr.add_add]; exact h70 hw 3 _ rfl, fun b75 => ⟨some ⟨b75, 0, none⟩, 1, 1, fun G' w hw => ?_, fun b82 => ?_⟩⟩
  · have h1 : St W (rowM (b75, .cells #[Value.int .u8 115] 5) :: (L ++ G'.map rowM)) w := St.pull L hw
    exact conv_mark uB uU8 h1 fun w' h => ⟨_, _, _, rfl, rfl, St.push L h⟩
  refine ⟨Unit, (), fun _ => .string pr, fun _ => StM W L, fun G' w hw => ?_, fun _ => ⟨_, rfl, QtS.at fun G' w hw => by rw [Addr.add_add]; exact h70 hw 3 _ rfl, Bif.yes (by rw [bytes_beq]; exact decide_eq_true rfl) ?_⟩⟩
  · have h1 : St W (rowM (b75, .cells #[Value.int .u8 115] 5) :: rowM (b82, .cells #[Value.string ⟨#[97, 110, 110]⟩, Value.string ⟨#[107]⟩, Value.string ⟨#[110]⟩] 9) :: (L ++ G'.map rowM)) w := by
      have h2 : St W (L ++ rowM (b75, .cells #[Value.int .u8 115] 5) :: rowM (b82, .cells #[Value.string ⟨#[97, 110, 110]⟩, Value.string ⟨#[107]⟩, Value.string ⟨#[110]⟩] 9) :: G'.map rowM) w := hw
      have h3 := St.pull L h2
      exact (St.pull (rowM (b75, .cells #[Value.int .u8 115] 5) :: L) h3).p1
    have h2 : St W (Row b82 9 ([[97, 110, 110], [107], [110]].map strV) :: Row b75 5 (([115] : List UInt8).map byteV) :: (L ++ G'.map rowM)) w := ((h1.imp rowM.row).p1).imp rowM.row
    exact (RProof_spec (k := [115]) (ws := [[97, 110, 110], [107], [110]]) (Rd.cons Rd.all _) (by decide) Rd.all (by decide) (by decide) h2).of fun v w' ⟨hv, h⟩ => ⟨_, hv, (), by rw [hpr], h.drop.drop⟩
  refine IxP.actM (k := 0) (c := 0) hC r2 hS rfl (by simp) rfl fun a95 h95 => ⟨_, _, _, _, _, Qt.msg h95, _, fun w => eqMsg (claimM P0) (claimM P0) w, _, rfl, Bif.yes (decide_eq_true rfl) (Bif.yes rfl ?_)⟩
  refine IxP.actM (k := 0) (c := 0) hC r4 hS rfl (by simp) rfl fun a110 h110 => ⟨_, _, _, _, _, _, _, Qt.act h110, _, fun w => eqAct (openA 1) (openA 1) w, _, rfl, Bif.yes (decide_eq_true rfl) ?_⟩
  refine IxP.actM (k := 0) (c := 0) hC r5 hS rfl (by simp) rfl fun a129 h129 => ⟨_, _, _, _, _, Qt.msg h129, _, fun w => eqMsg ⟨8, ⟨#[119, 101, 98]⟩, e0, 3, 50⟩ ⟨8, ⟨#[119, 101, 98]⟩, e0, 3, 50⟩ w, _, rfl, Bif.yes (decide_eq_true rfl) (Bif.yes (by dsimp only; rw [hep]; rfl) (Bif.yes hhe ?_))⟩
  have thr : ∀ (no : Int) (G' : List (Nat × Obj)) (w : World), (StM W L).p G' w → CallR Try.prog 16 #[ptrV a, .int .i64 no] w fun v w' => v = .bool (throughP G6 no) ∧ (StM W L).p G' w' := fun no G' w h => by
    rw [hL] at h ⊢
    exact Through_spec no h
  have sta : ∀ (G' : List (Nat × Obj)) (w : World), (StM W L).p G' w → CallR Try.prog 12 #[ptrV a] w fun v w' => ∃ y : Option Addr × Nat, v = .slice y.1 0 y.2 ∧ (StM W F).p G' w' := fun G' w h => by
    rw [hL] at h
    refine (Start_spec h).of fun v w' ⟨p, c, b, hv, h⟩ => ?_
    rw [hs6] at hv
    exact ⟨(p, c), hv, St.dropL [_, _, _, _, _, _, _, _] h⟩
  refine ⟨Unit, (), fun _ => .bool true, fun _ => StM W L, fun G' w hw => (thr 0 G' w hw).of fun v w' ⟨hv, h⟩ => ⟨_, hv, (), by rw [ht0], h⟩, fun _ => ⟨_, rfl, trivial, Bif.yes rfl ?_⟩⟩
  refine ⟨Unit, (), fun _ => .bool false, fun _ => StM W L, fun G' w hw => (thr 1 G' w hw).of fun v w' ⟨hv, h⟩ => ⟨_, hv, (), by rw [ht1], h⟩, fun _ => ⟨_, rfl, trivial, Bif.yes rfl ?_⟩⟩
  exact ⟨Option Addr × Nat, (none, 0), fun y => .slice y.1 0 y.2, fun y => StM W F, fun G' w hw => (sta G' w hw).of fun v w' ⟨y, hv, h⟩ => ⟨_, _, _, hv, y, rfl, h⟩, fun y => ⟨_, _, _, rfl, trivial, fun G' w h => ⟨rfl, StM.ends h⟩⟩⟩
end
end Go.Proofs.Ytlkbjkmpanohfaa
