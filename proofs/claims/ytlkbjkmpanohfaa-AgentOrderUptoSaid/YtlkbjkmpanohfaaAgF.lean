/-
  Contracts of an agent: calls, time, all of it.
-/
import Derived.Test.YtlkbjkmpanohfaaAgD
set_option linter.unusedVariables false
set_option linter.unusedSimpArgs false
namespace Go.Proofs.Ytlkbjkmpanohfaa
open Go
section
variable {W w : World} {F : List Asn} {a m : Nat} {P : PlanD} {G : AG} {no : Int} {d : LD} {x : MsgD} {now : Int}
theorem call_tail {b10 : Nat} {R : Value → World → Prop} (hno1 : ¬ (x.A = P.nam ∧ x.k = 7)) (hno2 : ¬ (x.A = P.nam ∧ x.k = 10 ∧ G.held = true ∧ x.N = G.epoch)) (hG : AOk G) (hP : PlanOk P) (hS : St W (Row b10 32 (msgC x) :: AgL a P m G F) w)
    (hR : ∀ v w', (∃ p c b, v = .slice p (calledP P G x now b).2.length c ∧ St W (ActsA p c (calledP P G x now b).2 :: AgentA a P (calledP P G x now b).1 :: F) w') → R v w') :
    Bif (ByteArray.toList x.A == ByteArray.toList P.nam) (
      LdI .i64 (Addr.add ⟨b10, 0, none⟩ 0) w fun x81 =>
      Bif (x81 == 11) (
      NilP (some ⟨a, 0, none⟩) fun a82 =>
      LdI .i64 (Addr.add a82 10) w fun x83 =>
      Bif (decide (x83 < 1000)) (
      NilP (some ⟨a, 0, none⟩) fun a84 =>
      LdI .i64 (Addr.add a84 10) w fun x85 =>
      NilP (some ⟨a, 0, none⟩) fun a86 =>
      St1 (Addr.add a86 10) (Value.int .i64 (IntKind.wrap .i64 (x85 + 1))) w fun w87 =>
      ∃ (C88 : Cls), Cls.p C88 [] w87 ∧
      NilP (some ⟨a, 0, none⟩) fun a89 =>
      ∃ (x90 : Int), Qt C88 (Value.int .i64 x90) (fun w91 K92 =>
      LdI .i64 (Addr.add a89 10) w91 fun x93 =>
      K92 (Value.int .i64 x93) w91) ∧
      ∃ (x94 : ByteArray), Qt C88 (Value.string x94) (fun w95 K96 =>
      LdS (Addr.add ⟨b10, 0, none⟩ 2) w95 fun x97 =>
      K96 (Value.string x97) w95) ∧
      Ef C88 (fun w101 K100 =>
      CallR Try.prog 23 #[(Value.pointer (some ⟨a, 0, none⟩)), (Value.int .i64 (IntKind.wrap .i64 (x90 - 1))), (Value.string x94)] w101 fun v103 w104 =>
      AsL v103 fun x105p x105n x105c =>
      K100 (Value.slice x105p x105n x105c) w104) fun v102 D99 =>
      AsL v102 fun x106p x106n x106c =>
      (True) ∧
      ∀ G107 w108, Cls.p D99 G107 w108 →
      R (Value.slice x106p x106n x106c) w108) (
      R (Value.slice none 0 0) w)) (
      R (Value.slice none 0 0) w)) (
      R (Value.slice none 0 0) w) := by
  have hnx := hG.next
  have fin : ¬ (x.A = P.nam ∧ x.k = 11 ∧ G.next < 1000) → R (Value.slice none 0 0) w := fun h3 => by
    refine hR _ _ ⟨none, 0, 0, ?_, ?_⟩
    · unfold calledP; rw [if_neg hno1, if_neg hno2, if_neg h3]; rfl
    · unfold calledP; rw [if_neg hno1, if_neg hno2, if_neg h3]
      exact nil_acts (AgentA.shut hG hP hS.drop)
  rw [bytes_beq]
  refine Bif.i (fun hA => LdI.a 0 hS rfl rfl (Bif.i (fun hk => NilP.i (LdI.a 1 hS rfl rfl (Bif.i (fun hn => ?_) fun hn => fin (fun h => (of_decide_eq_false hn) h.2.2)))) fun hk => fin (fun h => by have hk : ¬ x.k = 11 := by simpa using hk
                                                                                                                                                                                                     exact hk h.2.1))) fun hA => fin (fun h => (of_decide_eq_false hA) h.1)
  have hA := of_decide_eq_true hA
  have hk : x.k = 11 := by simpa using hk
  have hn := of_decide_eq_true hn
  refine NilP.i (LdI.a 1 hS rfl rfl (NilP.i ?_))
  rw [w64 (n := G.next + 1) (by omega) (by omega)]
  refine St1.a 1 hS rfl (by simp [agC]) fun w hS => ?_
  have hS : St W (Row b10 32 (msgC x) :: AgL a P m { G with next := G.next + 1 } F) w := hS
  have hG' : AOk { G with next := G.next + 1 } := ⟨hG.nod, fun d hd => by have := hG.nos d hd; exact ⟨this.1, by show d.no < G.next + 1; omega⟩, hG.sts, ⟨by show 1 ≤ G.next + 1; omega, by show G.next + 1 ≤ 1000; omega⟩, hG.last⟩
  have hfree : lineOf { G with next := G.next + 1 } G.next = none := lineOf_none.2 fun d hd e => by
    have := (hG.nos d hd).2
    omega
  have hcall : ∀ b, calledP P G x now b = openP P { G with next := G.next + 1 } G.next x.B b := fun b => by
    unfold calledP; rw [if_neg hno1, if_neg hno2, if_pos ⟨hA, hk, hn⟩]
  have hC := Is.refl W (Row b10 32 (msgC x) :: AgL a P m { G with next := G.next + 1 } F)
  refine ⟨StC W _, StC.start hS, NilP.i ⟨_, QtI.at fun G' w hw => hC.cell 1 rfl rfl hw, x.B, QtS.at fun G' w hw => hC.cell 0 rfl rfl hw, ?_⟩⟩
  have e1 : IntKind.wrap .i64 (({ G with next := G.next + 1 } : AG).next - 1) = G.next := by
    show IntKind.wrap .i64 (G.next + 1 - 1) = G.next
    rw [w64 (by omega) (by omega)]; omega
  rw [e1]
  refine Ef.n0 (α := Option Addr × Nat × Nat) (V := fun y => .slice y.1 2 y.2.1) (B := fun y => ActsA y.1 y.2.1 (calledP P G x now y.2.2).2 :: AgentA a P (calledP P G x now y.2.2).1 :: Row b10 32 (msgC x) :: F) (none, 0, 0) hC (fun G' w h => ?_) fun y => ⟨_, _, _, rfl, trivial, fun G' w h => hR _ _ ⟨y.1, y.2.1, y.2.2, ?_, ?_⟩⟩
  · refine (open_spec (P := P) G.next x.B (by omega) (by show G.next < G.next + 1; omega) hfree (AgentA.shut hG' hP (St.mv 0 3 h rfl))).of fun v w' ⟨p, c, b, hv, h⟩ => ⟨_, _, _, hv, (p, c, b), rfl, ?_⟩
    show St W (ActsA p c (calledP P G x now b).2 :: AgentA a P (calledP P G x now b).1 :: Row b10 32 (msgC x) :: (F ++ pts G')) w'
    rw [hcall]; exact h
  · rw [hcall]; rfl
  · exact St.del 2 (StC.ends h) rfl
theorem called_spec (hst : timeOk now) (hS : St W (AgentA a P G :: F) w) (l : Option Addr) :
    CallR Try.prog 35 #[ptrV a, .pointer l, msgV x, .int .i64 now] w fun v w' => ∃ p c b, v = .slice p (calledP P G x now b).2.length c ∧ St W (ActsA p c (calledP P G x now b).2 :: AgentA a P (calledP P G x now b).1 :: F) w' := by
  obtain ⟨m, hG, hP, hS⟩ := AgentA.open_ hS
  refine F35_of (NewC.i hS fun b10 w hS => ?_)
  have hS : St W (Row b10 32 (msgC x) :: AgL a P m G F) w := hS
  have hC := Is.refl W (Row b10 32 (msgC x) :: AgL a P m G F)
  refine ⟨StC W _, StC.start hS, NilP.i ⟨x.A, QtS.at fun G' w hw => hC.cell 0 rfl rfl hw, P.nam, QtS.at fun G' w hw => hC.cell 1 rfl rfl hw, fun G' w h => ?_⟩⟩
  have hS := StC.ends h
  have tail : ¬ (x.A = P.nam ∧ x.k = 7) → ¬ (x.A = P.nam ∧ x.k = 10 ∧ G.held = true ∧ x.N = G.epoch) → ∀ {w : World}, St W (Row b10 32 (msgC x) :: AgL a P m G F) w → _ := fun h1 h2 {w} hS => call_tail (now := now) h1 h2 hG hP hS fun v w' h => h
  rw [bytes_beq]
  refine Bif.i (fun hA => LdI.a 0 hS rfl rfl (Bif.i (fun hk => ?_) fun hk => ?_)) fun hA => ?_
  · have hA := of_decide_eq_true hA
    have hk : x.k = 7 := by simpa using hk
    have hcall : ∀ b, calledP P G x now b = ({ G with held := true, epoch := x.N, last := now }, []) := fun b => by unfold calledP; rw [if_pos ⟨hA, hk⟩]
    refine ⟨StC W _, StC.start hS, NilP.i ⟨x.N, QtI.at fun G' w hw => hC.cell 0 rfl rfl hw, ?_⟩⟩
    refine Ef.sta 1 hC rfl (by simp [agC]) ⟨rfl, QtI.a 0 (Is.refl W _) rfl rfl, NilP.i ?_⟩
    refine Ef.sta 1 (Is.refl W _) rfl (by simp [agC]) ⟨rfl, trivial, NilP.i ?_⟩
    refine Ef.sta 1 (Is.refl W _) rfl (by simp [agC]) ⟨rfl, trivial, fun G' w h => ⟨none, 0, 0, by rw [hcall]; rfl, ?_⟩⟩
    have hS := StC.ends h
    rw [hcall]
    have hS : St W (Row b10 32 (msgC x) :: AgL a P m { G with held := true, epoch := x.N, last := now } F) w := hS
    exact nil_acts (AgentA.shut ⟨hG.nod, hG.nos, hG.sts, hG.next, hst⟩ hP hS.drop)
  · have hA := of_decide_eq_true hA
    have hk7 : ¬ x.k = 7 := by simpa using hk
    refine ⟨StC W _, StC.start hS, Bif.yes (decide_eq_true hA) ⟨x.k, QtI.at fun G' w hw => hC.cell 0 rfl rfl hw, Bif.i (fun hk => NilP.i ⟨G.held, QtB.at fun G' w hw => hC.cell 1 rfl rfl hw, Bif.i (fun hh => NilP.i ⟨x.N, QtI.at fun G' w hw => hC.cell 0 rfl rfl hw, G.epoch, QtI.at fun G' w hw => hC.cell 1 rfl rfl hw, fun G' w h => ?_⟩) fun hh => fun G' w h => ?_⟩) fun hk => fun G' w h => ?_⟩⟩
    · have hS := StC.ends h
      have hk : x.k = 10 := by simpa using hk
      refine Bif.i (fun he => ?_) fun he => ?_
      · have he : x.N = G.epoch := by simpa using he
        have hcall : ∀ b, calledP P G x now b = ({ G with held := false, epoch := 0 }, [sayA 0 (claimM P)]) := fun b => by unfold calledP; rw [if_neg (fun h => hk7 h.2), if_pos ⟨hA, hk, hh, he⟩]
        refine NilP.i (St1.a 1 hS rfl (by simp [agC]) fun w hS => NilP.i (St1.a 1 hS rfl (by simp [agC]) fun w hS => ?_))
        have hS : St W (Row b10 32 (msgC x) :: AgL a P m { G with held := false, epoch := 0 } F) w := hS
        refine (claim_spec (AgentA.shut (G := { G with held := false, epoch := 0 }) ⟨hG.nod, hG.nos, hG.sts, hG.next, hG.last⟩ hP hS.drop)).of fun v w' ⟨p, c, hv, h⟩ => ⟨_, _, _, hv, p, c, 0, by rw [hcall]; rfl, ?_⟩
        rw [hcall]; exact h
      · have he : ¬ x.N = G.epoch := by simpa using he
        have := tail (fun h => hk7 h.2) (fun h => he h.2.2.2) hS
        rw [bytes_beq] at this
        exact this
    · have := tail (fun h => hk7 h.2) (fun h => by rw [hh] at h; cases h.2.2.1) (StC.ends h)
      rw [bytes_beq] at this
      exact this
    · have hk : ¬ x.k = 10 := by simpa using hk
      have := tail (fun h => hk7 h.2) (fun h => hk h.2.1) (StC.ends h)
      rw [bytes_beq] at this
      exact this
  · have hA' := of_decide_eq_false hA
    refine ⟨StC W _, StC.start hS, Bif.no hA fun G' w h => ?_⟩
    have := tail (fun h => hA' h.1) (fun h => hA' h.1) (StC.ends h)
    rw [bytes_beq] at this
    exact this
theorem Hear_spec (no : Int) (x : MsgD) (now : Int) (hS : St W (AgentA a P G :: F) w) :
    CallR Try.prog 15 #[ptrV a, .int .i64 no, msgV x, .int .i64 now] w fun v w' => ∃ p c b, v = .slice p (hearP P G no x now b).2.length c ∧ St W (ActsA p c (hearP P G no x now b).2 :: AgentA a P (hearP P G no x now b).1 :: F) w' := by
  obtain ⟨m, hG, hP, hS⟩ := AgentA.open_ hS
  refine F15_of (NewC.i hS fun b10 w hS => NilP.i (LdM.a 1 hS rfl rfl (lookup_i kI uM iPt zPt 2 hS rfl no true ?_)))
  rw [if_pos rfl, aget_line]
  cases hl : lineOf G no with
  | none =>
    refine ⟨none, false, rfl, Bif.yes rfl ⟨none, 0, 0, ?_, ?_⟩⟩
    · unfold hearP; rw [hl]; rfl
    · unfold hearP; rw [hl]; exact nil_acts (AgentA.shut hG hP hS.drop)
  | some d =>
    have hS : St W (Row b10 32 (msgC x) :: AgL a P m G F) w := hS
    obtain ⟨hdm, hdn⟩ := lineOf_some hl
    have hds := (hG.sts d hdm).1
    refine ⟨some ⟨d.b, 0, none⟩, true, rfl, Bif.no rfl (NilP.i ⟨hearV a d.st, AgL.line (l0 := []) hl hS.drop (j := 2) rfl, ?_⟩)⟩
    have nil_ : d.st = 3 ∨ ¬ timeOk now → ∀ w, St W (Row b10 32 (msgC x) :: AgL a P m G F) w → ∃ p c b, Value.slice none 0 0 = .slice p (hearP P G no x now b).2.length c ∧ St W (ActsA p c (hearP P G no x now b).2 :: AgentA a P (hearP P G no x now b).1 :: F) w := fun h w hS => by
      refine ⟨none, 0, 0, ?_, ?_⟩
      · unfold hearP; rw [hl]; dsimp only; rw [if_pos h]; rfl
      · unfold hearP; rw [hl]; dsimp only; rw [if_pos h]; exact nil_acts (AgentA.shut hG hP hS.drop)
    by_cases h3 : d.st = 3
    · rw [h3]
      exact ⟨_, fun w => eqNil2 w, _, rfl, Bif.yes rfl (nil_ (.inl h3) w hS)⟩
    have hfun : ∃ f, hearV a d.st = .func f #[ptrV a] #[] := by
      have : d.st = 0 ∨ d.st = 1 ∨ d.st = 2 := by omega
      rcases this with h | h | h <;> rw [h] <;> exact ⟨_, rfl⟩
    obtain ⟨f, hf⟩ := hfun
    refine ⟨.bool false, fun w => by rw [hf]; exact eqNil f _ _ w, _, rfl, Bif.no rfl ?_⟩
    refine (time_spec now hS).of fun v w ⟨hv, hS⟩ => ⟨_, hv, Bif.i (fun ht => ?_) fun ht => ?_⟩
    · have ht : ¬ timeOk now := by simpa using ht
      exact nil_ (.inr ht) w hS
    have ht : timeOk now := by simpa using ht
    have hh : ∀ b, hearP P G no x now b = if d.st = 0 then (if x.k = 2 then (setSt G no 1, [sayA no ⟨3, proofOf P x.A, e0, 0, 0⟩]) else (G, [])) else if d.st = 1 then (if x.k = 4 then (if no = 0 then (setSt G no 2, [sayA 0 (claimM P)]) else (setSt G no 3, [sayA no ⟨12, e0, d.tk, 0, 0⟩])) else (G, [])) else calledP P G x now b := fun b => by
      unfold hearP; rw [hl]; dsimp only; rw [if_neg (by rintro (h | h); exact h3 h; exact h ht)]
    have hC := Is.refl W (Row b10 32 (msgC x) :: AgL a P m G F)
    refine ⟨StC W _, StC.start hS, NilP.i ⟨hearV a d.st, fun G' w hw => ⟨_, AgL.line (l0 := []) hl ((hC G' w).1 hw).drop (j := 2) rfl, rfl, hw⟩, x.k, x.A, x.B, x.N, x.M, fun G' w hw => LdI.at (hC.cell 0 rfl rfl hw) (LdS.at (hC.cell 0 rfl rfl hw) (LdS.at (hC.cell 0 rfl rfl hw) (LdI.at (hC.cell 0 rfl rfl hw) (LdI.at (hC.cell 0 rfl rfl hw) ⟨rfl, hw⟩)))), ?_⟩⟩
    refine Ef.n0 (α := Option Addr × Nat × Nat) (V := fun y => .slice y.1 (hearP P G no x now y.2.2).2.length y.2.1) (B := fun y => ActsA y.1 y.2.1 (hearP P G no x now y.2.2).2 :: AgentA a P (hearP P G no x now y.2.2).1 :: Row b10 32 (msgC x) :: F) (none, 0, 0) hC (fun G' w h => ?_) fun y => ⟨_, _, _, rfl, trivial, fun G' w h => ⟨_, _, _, rfl, St.del 2 (StC.ends h) rfl⟩⟩
    have hA : St W (AgentA a P G :: Row b10 32 (msgC x) :: (F ++ pts G')) w := AgentA.shut hG hP (St.mv 0 3 h rfl)
    have : d.st = 0 ∨ d.st = 1 ∨ d.st = 2 := by omega
    rcases this with h0 | h0 | h0
    · rw [h0]
      refine CallF.lit1 (by kernel_rfl) ((nonce_spec (now := now) (x := x) hl h0 hA).of fun v w' ⟨p, c, hv, h⟩ => ⟨_, _, _, hv, (p, c, 0), ?_, ?_⟩)
      · rw [hh, if_pos h0]
      · show St W (ActsA p c (hearP P G no x now 0).2 :: AgentA a P (hearP P G no x now 0).1 :: Row b10 32 (msgC x) :: (F ++ pts G')) w'
        rw [hh, if_pos h0]; exact h
    · rw [h0]
      refine CallF.lit1 (by kernel_rfl) ((welcome_spec (now := now) (x := x) hl h0 hA).of fun v w' ⟨p, c, hv, h⟩ => ⟨_, _, _, hv, (p, c, 0), ?_, ?_⟩)
      · rw [hh, if_neg (show ¬ d.st = 0 by omega), if_pos h0]
      · show St W (ActsA p c (hearP P G no x now 0).2 :: AgentA a P (hearP P G no x now 0).1 :: Row b10 32 (msgC x) :: (F ++ pts G')) w'
        rw [hh, if_neg (show ¬ d.st = 0 by omega), if_pos h0]; exact h
    · rw [h0]
      refine CallF.lit1 (by kernel_rfl) ((called_spec (x := x) ht hA _).of fun v w' ⟨p, c, b, hv, h⟩ => ⟨_, _, _, hv, (p, c, b), ?_, ?_⟩)
      · rw [hh, if_neg (show ¬ d.st = 0 by omega), if_neg (show ¬ d.st = 1 by omega)]
      · show St W (ActsA p c (hearP P G no x now b).2 :: AgentA a P (hearP P G no x now b).1 :: Row b10 32 (msgC x) :: (F ++ pts G')) w'
        rw [hh, if_neg (show ¬ d.st = 0 by omega), if_neg (show ¬ d.st = 1 by omega)]; exact h
theorem Tick_spec (now : Int) (hS : St W (AgentA a P G :: F) w) :
    CallR Try.prog 17 #[ptrV a, .int .i64 now] w fun v w' => ∃ p c b, v = .slice p (tickP P G now b).2.length c ∧ St W (ActsA p c (tickP P G now b).2 :: AgentA a P (tickP P G now b).1 :: F) w' := by
  obtain ⟨m, hG, hP, hS⟩ := AgentA.open_ hS
  refine F17_of (NilP.i (LdM.a 0 hS rfl rfl (lookup_i kI uM iPt zPt 1 hS rfl 0 true ?_)))
  rw [if_pos rfl, aget_line]
  cases hl : lineOf G 0 with
  | none =>
    refine ⟨none, false, rfl, Bif.yes rfl ?_⟩
    refine (Start_spec (AgentA.shut hG hP hS)).of fun v w' ⟨p, c, b, hv, h⟩ => ⟨_, _, _, hv, p, c, b, ?_, ?_⟩
    · unfold tickP; rw [if_pos (by rw [hl]; rfl)]
    · unfold tickP; rw [if_pos (by rw [hl]; rfl)]; exact h
  | some d =>
    have hA := AgentA.shut hG hP hS
    have ht : ∀ b, tickP P G now b = if throughP G 0 = true ∧ G.held = true ∧ timeOk now ∧ ¬ now - G.last < P.every then ({ G with last := now }, [sayA 0 ⟨8, P.nam, e0, G.epoch, P.ttl⟩]) else (G, []) := fun b => by
      unfold tickP; rw [if_neg (by rw [hl]; simp)]
    have nil_ : ¬ (throughP G 0 = true ∧ G.held = true ∧ timeOk now ∧ ¬ now - G.last < P.every) → ∀ w, St W (AgentA a P G :: F) w → ∃ p c b, Value.slice none 0 0 = .slice p (tickP P G now b).2.length c ∧ St W (ActsA p c (tickP P G now b).2 :: AgentA a P (tickP P G now b).1 :: F) w := fun h w hS => by
      refine ⟨none, 0, 0, ?_, ?_⟩
      · rw [ht, if_neg h]; rfl
      · rw [ht, if_neg h]; exact nil_acts hS
    refine ⟨some ⟨d.b, 0, none⟩, true, rfl, Bif.no rfl ⟨StC W _, StC.start hS, ?_⟩⟩
    refine Ef.n0 (α := Nat) (V := fun _ => .bool (throughP G 0)) (B := fun m => AgL a P m G F) m (Is.refl W _) (fun G' w h => (Through_spec 0 (AgentA.shut hG hP h)).of fun v w' ⟨hv, h⟩ => ⟨_, hv, ?_⟩) fun m => ⟨_, rfl, trivial, ?_⟩
    · obtain ⟨m', _, _, h⟩ := AgentA.open_ h
      exact ⟨m', rfl, h⟩
    have hC := Is.refl W (AgL a P m G F)
    refine Bif.i (fun h1 => fun G' w h => nil_ (fun hh => by rw [hh.1] at h1; cases h1) w (AgentA.shut hG hP (StC.ends h))) fun h1 => NilP.i ⟨G.held, QtB.at fun G' w hw => hC.cell 0 rfl rfl hw, Bif.i (fun h2 => fun G' w h => nil_ (fun hh => by rw [hh.2.1] at h2; cases h2) w (AgentA.shut hG hP (StC.ends h))) fun h2 => ?_⟩
    refine Ef.n0 (α := Unit) (V := fun _ => .bool (decide (timeOk now))) (B := fun _ => AgL a P m G F) () hC (fun G' w h => (time_spec now h).of fun v w' ⟨hv, h⟩ => ⟨_, hv, (), rfl, h⟩) fun _ => ⟨_, rfl, trivial, ?_⟩
    refine Bif.i (fun h3 => fun G' w h => nil_ (fun hh => by rw [decide_eq_true hh.2.2.1] at h3; cases h3) w (AgentA.shut hG hP (StC.ends h))) fun h3 => NilP.i (NilP.i ⟨G.last, QtI.at fun G' w hw => hC.cell 0 rfl rfl hw, P.every, QtI.at fun G' w hw => hC.cell 0 rfl rfl hw, fun G' w h => ?_⟩)
    have hS := StC.ends h
    have h1 : throughP G 0 = true := by simpa using h1
    have h2 : G.held = true := by simpa using h2
    have h3 : timeOk now := by simpa using h3
    have hlast := hG.last
    unfold timeOk maxN at hlast
    have h3' := h3
    unfold timeOk maxN at h3'
    rw [w64 (n := now - G.last) (by omega) (by omega)]
    refine Bif.i (fun h4 => nil_ (fun hh => hh.2.2.2 (of_decide_eq_true h4)) w (AgentA.shut hG hP hS)) fun h4 => ?_
    have h4 := of_decide_eq_false h4
    have ht2 : ∀ b, tickP P G now b = ({ G with last := now }, [sayA 0 ⟨8, P.nam, e0, G.epoch, P.ttl⟩]) := fun b => by rw [ht, if_pos ⟨h1, h2, h3, h4⟩]
    refine NilP.i (St1.a 0 hS rfl (by simp [agC]) fun w hS => ?_)
    have hS : St W (AgL a P m { G with last := now } F) w := hS
    have hC2 := Is.refl W (AgL a P m { G with last := now } F)
    refine ⟨StC W _, StC.start hS, NilP.i (NilP.i (NilP.i ⟨P.nam, QtS.at fun G' w hw => hC2.cell 0 rfl rfl hw, G.epoch, QtI.at fun G' w hw => hC2.cell 0 rfl rfl hw, P.ttl, QtI.at fun G' w hw => hC2.cell 0 rfl rfl hw, ?_⟩))⟩
    refine Ef.n0 (α := Option Addr × Nat) (V := fun z => .slice z.1 1 z.2) (B := fun z => ActsA z.1 z.2 [sayA 0 ⟨8, P.nam, e0, G.epoch, P.ttl⟩] :: AgL a P m { G with last := now } F) (none, 0) hC2 (fun G' w h => (say_spec 0 ⟨8, P.nam, e0, G.epoch, P.ttl⟩ h).of fun v w' ⟨p, c, hv, h⟩ => ⟨_, _, _, hv, (p, c), rfl, h⟩) fun z => ⟨_, _, _, rfl, trivial, fun G' w h => ⟨_, _, 0, by rw [ht2]; rfl, ?_⟩⟩
    have hS := StC.ends h
    rw [ht2]
    exact (AgentA.shut (G := { G with last := now }) ⟨hG.nod, hG.nos, hG.sts, hG.next, h3⟩ hP (St.mv 0 3 hS rfl)).p1
structure OpD where
  what : Int
  line : Int
  m : MsgD
  now : Int
deriving Inhabited
def opC (o : OpD) : List Value := [.int .i64 o.what, .int .i64 o.line, .int .i64 o.m.k, .string o.m.A, .string o.m.B, .int .i64 o.m.N, .int .i64 o.m.M, .int .i64 o.now]
theorem op8 (o : OpD) : (opC o).length = 8 := rfl
def doesP (P : PlanD) (G : AG) (o : OpD) (b : Nat) : AG × List ActD :=
  if o.what = 4 then tickP P G o.now b
  else if o.what = 5 then ((lostP G o.line).1, [])
  else if o.what = 6 then startP P G b
  else if o.what < 4 then hearP P G o.line o.m o.now b
  else (G, [])
theorem does_spec (o : OpD) (hS : St W (AgentA a P G :: F) w) :
    CallR Try.prog 10 #[ptrV a, .agg #[.int .i64 o.what, .int .i64 o.line, .int .i64 o.m.k, .string o.m.A, .string o.m.B, .int .i64 o.m.N, .int .i64 o.m.M, .int .i64 o.now]] w fun v w' => ∃ p c b, v = .slice p (doesP P G o b).2.length c ∧ St W (ActsA p c (doesP P G o b).2 :: AgentA a P (doesP P G o b).1 :: F) w' := by
  refine F10_of (NewC.i hS fun b11 w hS => LdI.a 0 hS rfl rfl ?_)
  have hS : St W (Row b11 34 (opC o) :: AgentA a P G :: F) w := hS
  refine Bif.i (fun h => ?_) fun h => Bif.i (fun h2 => ?_) fun h2 => Bif.i (fun h3 => ?_) fun h3 => ?_
  · have h : o.what = 4 := by simpa using h
    have hd : ∀ b, doesP P G o b = tickP P G o.now b := fun b => by unfold doesP; rw [if_pos h]
    exact LdI.a 0 hS rfl rfl ((Tick_spec o.now hS.drop).of fun v w' ⟨p, c, b, hv, h⟩ => ⟨_, _, _, hv, p, c, b, by rw [hd], by rw [hd]; exact h⟩)
  · have h : ¬ o.what = 4 := by simpa using h
    have h2 : o.what = 5 := by simpa using h2
    have hd : ∀ b, doesP P G o b = ((lostP G o.line).1, []) := fun b => by unfold doesP; rw [if_neg h, if_pos h2]
    exact LdI.a 0 hS rfl rfl ((Lost_spec o.line hS.drop).of fun v w' ⟨hv, h⟩ => ⟨_, hv, none, 0, 0, by rw [hd]; rfl, by rw [hd]; exact nil_acts h⟩)
  · have h : ¬ o.what = 4 := by simpa using h
    have h2 : ¬ o.what = 5 := by simpa using h2
    have h3 : o.what = 6 := by simpa using h3
    have hd : ∀ b, doesP P G o b = startP P G b := fun b => by unfold doesP; rw [if_neg h, if_neg h2, if_pos h3]
    exact (Start_spec hS.drop).of fun v w' ⟨p, c, b, hv, h⟩ => ⟨_, _, _, hv, p, c, b, by rw [hd], by rw [hd]; exact h⟩
  · have h : ¬ o.what = 4 := by simpa using h
    have h2 : ¬ o.what = 5 := by simpa using h2
    have h3 : ¬ o.what = 6 := by simpa using h3
    refine LdI.a 0 hS rfl rfl (Bif.i (fun h4 => ?_) fun h4 => ?_)
    · have h4 := of_decide_eq_true h4
      have hd : ∀ b, doesP P G o b = hearP P G o.line o.m o.now b := fun b => by unfold doesP; rw [if_neg h, if_neg h2, if_neg h3, if_pos h4]
      refine LdI.a 0 hS rfl rfl (LdI.at (hS.cell 0 rfl (k0 := 2) rfl) (LdS.at (hS.cell 0 rfl (k0 := 3) rfl) (LdS.at (hS.cell 0 rfl (k0 := 4) rfl) (LdI.at (hS.cell 0 rfl (k0 := 5) rfl) (LdI.at (hS.cell 0 rfl (k0 := 6) rfl) (LdI.a 0 hS rfl rfl ?_))))))
      exact (Hear_spec o.line o.m o.now hS.drop).of fun v w' ⟨p, c, b, hv, h⟩ => ⟨_, _, _, hv, p, c, b, by rw [hd], by rw [hd]; exact h⟩
    · have h4 := of_decide_eq_false h4
      have hd : ∀ b, doesP P G o b = (G, []) := fun b => by unfold doesP; rw [if_neg h, if_neg h2, if_neg h3, if_neg h4]
      exact ⟨none, 0, 0, by rw [hd]; rfl, by rw [hd]; exact nil_acts hS.drop⟩
theorem Great_spec (x : MsgD) (hS : St W F w) : CallR Try.prog 18 #[msgV x] w fun v w' => (∃ b, v = .bool b) ∧ St W F w' :=
  F18_of (NewC.i hS fun b7 w hS => LdS.a 0 hS rfl rfl (LdS.a 0 hS rfl rfl ⟨⟨_, rfl⟩, hS.drop⟩))
theorem greatPlan_spec (P : PlanD) (hS : St W F w) : CallR Try.prog 9 #[.agg #[.string P.ten, .string P.tok, .string P.sec, .string P.nam, .int .i64 P.ttl, .int .i64 P.every]] w fun v w' => (∃ b, v = .bool b) ∧ St W F w' :=
  F9_of (NewC.i hS fun b7 w hS => LdS.a 0 hS rfl rfl (LdS.a 0 hS rfl rfl (LdS.a 0 hS rfl rfl (LdS.a 0 hS rfl rfl ⟨⟨_, rfl⟩, hS.drop⟩))))
theorem greatOps_spec {p : Option Addr} {c : Nat} {os : List OpD} (hr : Rd F p (os.flatMap opC)) (hm : os.length ≤ 9223372036854775807) (hS : St W F w) :
    CallR Try.prog 8 #[.slice p os.length c] w fun v w' => ∃ b, v = .bool b ∧ (b = false → os.length ≤ 200) ∧ St W F w' := by
  refine F8_of ⟨fun vs w => ∃ k : Nat, vs = [.int .i64 k] ∧ k ≤ os.length ∧ k ≤ 300 ∧ St W F w, leftN os.length, ⟨0, rfl, by omega, by omega, hS⟩, fun x w hI => ?_⟩
  clear hS
  obtain ⟨k, he, hk, hk3, hS⟩ := hI
  cases he
  have fin : ∀ w, St W F w → ∃ b, Value.bool (decide ((os.length : Int) > 200)) = .bool b ∧ (b = false → os.length ≤ 200) ∧ St W F w := fun w hS => ⟨_, rfl, fun h => by have := of_decide_eq_false h; omega, hS⟩
  generalize hd : decide ((k : Int) < 300) = bd
  refine Bif.i (fun hlt => Bif.i (fun h3 => ?_) fun h3 => fin w hS) fun hge => fin w hS
  have hlt : k < os.length := by have := of_decide_eq_true hlt; omega
  rw [h3] at hd
  have h3 := of_decide_eq_true hd
  have hx : os[k]? = some (os[k]'hlt) := List.getElem?_eq_getElem _
  generalize os[k]'hlt = o at hx
  refine IxP.el op8 (by decide) hr hS rfl hlt hx fun a ha => ?_
  have hc : ∀ j v, (opC o)[j]? = some v → w.cell? (a.add j) = some v := ha
  refine LdI.at (by rw [Addr.add_add]; exact hc 2 _ rfl) (LdS.at (by rw [Addr.add_add]; exact hc 3 _ rfl) (LdS.at (by rw [Addr.add_add]; exact hc 4 _ rfl) (LdI.at (by rw [Addr.add_add]; exact hc 5 _ rfl) (LdI.at (by rw [Addr.add_add]; exact hc 6 _ rfl) ?_))))
  refine (Great_spec o.m hS).of fun v w' ⟨⟨b, hv⟩, hS⟩ => ⟨_, hv, Bif.i (fun _ => ⟨true, rfl, (fun h => by cases h), hS⟩) fun _ => ?_⟩
  rw [up hlt hm]
  exact ⟨⟨k + 1, rfl, by omega, by omega, hS⟩, by show os.length - (k + 1) < os.length - k; omega⟩
end
end Go.Proofs.Ytlkbjkmpanohfaa
