/-
  Contracts of an agent: what it hears.
-/
import Derived.Test.YtlkbjkmpanohfaaAgC
set_option linter.unusedVariables false
set_option linter.unusedSimpArgs false
namespace Go.Proofs.Ytlkbjkmpanohfaa
open Go
theorem QtS.at {C : Cls} {a : Addr} {x : ByteArray} (h : ∀ G w, C.p G w → w.cell? a = some (.string x)) : Qt C (.string x) fun w K => LdS a w fun x => K (.string x) w := fun G w hw => LdS.at (h G w hw) ⟨rfl, hw⟩
theorem QtB.at {C : Cls} {a : Addr} {x : Bool} (h : ∀ G w, C.p G w → w.cell? a = some (.bool x)) : Qt C (.bool x) fun w K => LdB a w fun x => K (.bool x) w := fun G w hw => LdB.at (h G w hw) ⟨rfl, hw⟩
def msgC (x : MsgD) : List Value := [.int .i64 x.k, .string x.A, .string x.B, .int .i64 x.N, .int .i64 x.M]
theorem keyD_set (G : AG) (no : Int) (st : Nat) : keyD (setSt G no st).L = keyD G.L := by
  unfold keyD setSt
  rw [List.map_map]
  refine List.map_congr_left fun d _ => ?_
  simp only [Function.comp_apply]
  split <;> rfl
theorem setSt_line {G : AG} {no : Int} {st : Nat} {d : LD} (h : lineOf G no = some d) : lineOf (setSt G no st) no = some { d with st := st } := by
  unfold lineOf setSt at *
  dsimp only at h ⊢
  generalize G.L = L at h
  induction L with
  | nil => simp at h
  | cons x r ih =>
    rw [List.find?_cons] at h
    rw [List.map_cons, List.find?_cons]
    by_cases hx : x.no = no
    · simp only [hx, decide_true, Option.some.injEq] at h
      subst h
      simp [hx]
    · simp only [hx, decide_false] at h
      simp only [hx, if_false, decide_false]
      exact ih h
section
variable {W w : World} {F : List Asn} {a m : Nat} {P : PlanD} {G : AG} {no : Int} {d : LD} {x : MsgD} {now : Int}
/-- A line waits for something else. -/
theorem AgL.step {st : Nat} {K : World → Prop} (hl : lineOf G no = some d) (hn : (G.L.map (·.no)).Nodup) (hpass : decide (2 ≤ st) = decide (2 ≤ d.st)) (hS : St W (AgL a P m G F) w) (hK : ∀ w', St W (AgL a P m (setSt G no st) F) w' → K w') : St1 ⟨d.b, 2, none⟩ (hearV a st) w K := by
  obtain ⟨hm, hno⟩ := lineOf_some hl
  obtain ⟨i, hi⟩ := List.getElem?_of_mem hm
  have hlt := (List.getElem?_eq_some_iff.1 hi).1
  refine St1.n 0 (linesA.take (St.mv 2 0 hS rfl) hi) rfl (by simp [lineC]) fun w' h => hK w' ?_
  have e : (lineC a d).set 2 (hearV a st) = lineC a { d with st := st } := by
    unfold lineC; rw [hpass]; rfl
  have h : St W (rowL a { d with st := st } :: linesA a (G.L.eraseIdx i) :: Row a 55 (agC P m G) :: MapOf (Value.int .i64) ptrV m (keyD G.L) :: F) w' := by
    unfold rowL; rw [← e]; exact h
  have h2 := linesA.give hlt h
  rw [set_eq hn hi hno] at h2
  have h3 : St W (Row a 55 (agC P m G) :: MapOf (Value.int .i64) ptrV m (keyD G.L) :: linesA a (setSt G no st).L :: F) w' := St.mv 0 2 h2 rfl
  rw [← keyD_set G no st] at h3
  exact h3
/-- A line is through, and waits for something else. -/
theorem AgL.pass {st : Nat} {K : World → Prop} (hl : lineOf G no = some d) (hn : (G.L.map (·.no)).Nodup) (hst : 2 ≤ st) (hS : St W (AgL a P m G F) w) (hK : ∀ w', St W (AgL a P m (setSt G no st) F) w' → K w')
    {K2 : World → Prop} (hK2 : ∀ w1, w1.cell? ⟨d.b, 0, none⟩ = some (.int .i64 d.no) → St1 ⟨d.b, 2, none⟩ (hearV a st) w1 K → K2 w1) : St1 ⟨d.b, 3, none⟩ (.bool true) w K2 := by
  obtain ⟨hm, hno⟩ := lineOf_some hl
  obtain ⟨i, hi⟩ := List.getElem?_of_mem hm
  have hlt := (List.getElem?_eq_some_iff.1 hi).1
  refine St1.n 0 (linesA.take (St.mv 2 0 hS rfl) hi) rfl (by simp [lineC]) fun w1 h => hK2 w1 (h.ld rfl) ?_
  refine St1.n 0 h rfl (by simp [lineC]) fun w' h => hK w' ?_
  have e : ((lineC a d).set 3 (.bool true)).set 2 (hearV a st) = lineC a { d with st := st } := by
    unfold lineC; rw [decide_eq_true hst]; rfl
  have h : St W (rowL a { d with st := st } :: linesA a (G.L.eraseIdx i) :: Row a 55 (agC P m G) :: MapOf (Value.int .i64) ptrV m (keyD G.L) :: F) w' := by
    unfold rowL; rw [← e]; exact h
  have h2 := linesA.give hlt h
  rw [set_eq hn hi hno] at h2
  have h3 : St W (Row a 55 (agC P m G) :: MapOf (Value.int .i64) ptrV m (keyD G.L) :: linesA a (setSt G no st).L :: F) w' := St.mv 0 2 h2 rfl
  rw [← keyD_set G no st] at h3
  exact h3
theorem AgL.line {l0 : List Asn} (hl : lineOf G no = some d) (hS : St W (AgL a P m G F) w) {j : Nat} {v : Value} (hj : (lineC a d)[j]? = some v) : w.cell? ⟨d.b, j, none⟩ = some v := by
  obtain ⟨i, hi⟩ := List.getElem?_of_mem (lineOf_some hl).1
  exact linesA.cell (hS.at 2 rfl) hi hj
theorem nil_acts {F' : List Asn} (hS : St W F' w) : St W (ActsA none 0 [] :: F') w := SlA.nil hS
theorem strB (s : ByteArray) : Value.string s = .string (mkS (bsOf s)) := by unfold bsOf; rw [mkS_data]
theorem bsOf_len (s : ByteArray) : (bsOf s).length = s.size := rfl
theorem nonce_spec (hl : lineOf G no = some d) (hst : d.st = 0) (hS : St W (AgentA a P G :: F) w) :
    CallR Try.prog 28 #[ptrV a, ptrV d.b, msgV x, .int .i64 now] w fun v w' => ∃ p c, v = .slice p (if x.k = 2 then (setSt G no 1, [sayA no ⟨3, proofOf P x.A, e0, 0, 0⟩]) else (G, [])).2.length c ∧
      St W (ActsA p c (if x.k = 2 then (setSt G no 1, [sayA no ⟨3, proofOf P x.A, e0, 0, 0⟩]) else (G, [])).2 :: AgentA a P (if x.k = 2 then (setSt G no 1, [sayA no ⟨3, proofOf P x.A, e0, 0, 0⟩]) else (G, [])).1 :: F) w' := by
  obtain ⟨m, hG, hP, hS⟩ := AgentA.open_ hS
  obtain ⟨hdm, hdn⟩ := lineOf_some hl
  refine F28_of (NewC.i hS fun b10 w hS => LdI.a 0 hS rfl rfl (Bif.i (fun hk => ?_) fun hk => ?_))
  · have hk : ¬ x.k = 2 := by simpa using hk
    rw [if_neg hk]
    exact ⟨none, 0, rfl, nil_acts (AgentA.shut hG hP hS.drop)⟩
  have hk : x.k = 2 := by simpa using hk
  rw [if_pos hk]
  have hG' : AOk (setSt G no 1) := hG.setSt (by omega) (by omega) (by omega)
  have hS : St W (AgL a P m G (Row b10 32 (msgC x) :: F)) w := St.mv 0 3 hS rfl
  refine NilP.i ⟨trivial, AgL.step (st := 1) hl hG.nod (by rw [hst]; rfl) hS fun w hS => ?_⟩
  have hl' := setSt_line (st := 1) hl
  have hsec : P.sec.size ≤ 9223372036854775807 := hP
  have hconv : ∀ {F' : List Asn} {w : World} {K : Value → World → Prop}, St W F' w → (∀ b c w', (bsOf P.sec).length ≤ c → St W (Row b 5 ((bsOf P.sec).map byteV ++ List.replicate (c - (bsOf P.sec).length) (.int .u8 0)) :: F') w' → K (.slice (some ⟨b, 0, none⟩) (bsOf P.sec).length c) w') → Run Try.prog (convert 9 40 (.string P.sec)) w K := fun {F' w K} h hK => by
    rw [strB]; exact bytes_i uS uB uU8 h hK
  generalize hGG : setSt G no 1 = G1 at hS hG' hl'
  have hC := Is.refl W (AgL a P m G1 (Row b10 32 (msgC x) :: F))
  refine ⟨StC W _, StC.start hS, NilP.i (NilP.i (NilP.i (NilP.i ⟨d.no, QtI.at fun G' w hw => ?_, P.sec, QtS.at fun G' w hw => hC.cell 0 rfl rfl hw, P.ten, QtS.at fun G' w hw => hC.cell 0 rfl rfl hw, P.tok, QtS.at fun G' w hw => hC.cell 0 rfl rfl hw, x.A, QtS.at fun G' w hw => hC.cell 3 rfl rfl hw, ?_⟩)))⟩
  · exact AgL.line (l0 := []) hl' ((hC G' w).1 hw) (j := 0) rfl
  refine Ef.n0 (α := { y : Nat × Nat // (bsOf P.sec).length ≤ y.2 }) (V := fun y => .slice (some ⟨y.1.1, 0, none⟩) (bsOf P.sec).length y.1.2) (B := fun y => Row y.1.1 5 ((bsOf P.sec).map byteV ++ List.replicate (y.1.2 - (bsOf P.sec).length) (Value.int .u8 0)) :: AgL a P m G1 (Row b10 32 (msgC x) :: F)) ⟨(0, (bsOf P.sec).length), Nat.le_refl _⟩ hC (fun G' w h => hconv h fun b c w' hle h => ⟨_, _, _, rfl, ⟨(b, c), hle⟩, rfl, h⟩) fun y => ?_
  have hC2 := Is.refl W (Row y.1.1 5 ((bsOf P.sec).map byteV ++ List.replicate (y.1.2 - (bsOf P.sec).length) (Value.int .u8 0)) :: AgL a P m G1 (Row b10 32 (msgC x) :: F))
  refine ⟨_, _, _, rfl, ⟨QtS.at fun G' w hw => hC2.cell 4 rfl rfl hw, QtS.at fun G' w hw => hC2.cell 1 rfl rfl hw, QtS.at fun G' w hw => hC2.cell 1 rfl rfl hw, QtI.at fun G' w hw => AgL.line (l0 := []) hl' ((hC2 G' w).1 hw).drop (j := 0) rfl⟩, fun b61 => ?_⟩
  have hpr : proofOf P x.A = mkS (proofP (bsOf P.sec) [bsOf P.ten, bsOf P.tok, bsOf x.A]) := rfl
  refine Ef.n0 (α := Unit) (V := fun _ => .string (proofOf P x.A)) (B := fun _ => AgL a P m G1 (Row b10 32 (msgC x) :: F)) () (hC2.push b61 _) (fun G' w h => ?_) fun _ => ⟨_, rfl, QtI.at fun G' w hw => AgL.line (l0 := []) hl' hw (j := 0) rfl, ?_⟩
  · have h2 : St W (Row b61 9 ([bsOf P.ten, bsOf P.tok, bsOf x.A].map strV) :: Row y.1.1 5 ((bsOf P.sec).map byteV ++ List.replicate (y.1.2 - (bsOf P.sec).length) (Value.int .u8 0)) :: (AgL a P m G1 (Row b10 32 (msgC x) :: F) ++ pts G')) w := by
      have e : [bsOf P.ten, bsOf P.tok, bsOf x.A].map strV = [Value.string P.ten, Value.string P.tok, Value.string x.A] := by
        simp only [List.map_cons, List.map_nil, strV]
        rw [← strB, ← strB, ← strB]
      rw [e]
      have h : St W (Pt b61 (.cells #[(Value.string P.ten), (Value.string P.tok), (Value.string x.A)] 9) :: Row y.1.1 5 ((bsOf P.sec).map byteV ++ List.replicate (y.1.2 - (bsOf P.sec).length) (Value.int .u8 0)) :: (AgL a P m G1 (Row b10 32 (msgC x) :: F) ++ pts G')) w := h
      exact h.imp Pt.row
    have hrk : Rd (Row b61 9 ([bsOf P.ten, bsOf P.tok, bsOf x.A].map strV) :: Row y.1.1 5 ((bsOf P.sec).map byteV ++ List.replicate (y.1.2 - (bsOf P.sec).length) (Value.int .u8 0)) :: (AgL a P m G1 (Row b10 32 (msgC x) :: F) ++ pts G')) (some ⟨y.1.1, 0, none⟩) ((bsOf P.sec).map byteV) := by
      refine Rd.cons (Rd.row 0 fun i v hi => ?_) _
      rw [Nat.zero_add, List.getElem?_append_left (List.getElem?_eq_some_iff.1 hi).1]; exact hi
    exact (Proof_spec hrk y.2 (by rw [bsOf_len]; exact hsec) Rd.all (by simp) h2).of fun v w' ⟨hv, h⟩ => ⟨_, hv, (), by rw [hpr], h.drop.drop⟩
  refine Ef.n0 (α := Option Addr × Nat) (V := fun z => .slice z.1 1 z.2) (B := fun z => ActsA z.1 z.2 [sayA no ⟨3, proofOf P x.A, e0, 0, 0⟩] :: AgL a P m G1 (Row b10 32 (msgC x) :: F)) (none, 0) (Is.refl W _) (fun G' w h => (say_spec d.no ⟨3, proofOf P x.A, e0, 0, 0⟩ h).of fun v w' ⟨p, c, hv, h⟩ => ⟨_, _, _, hv, (p, c), rfl, by rw [hdn] at h; exact h⟩) fun z => ⟨_, _, _, rfl, trivial, fun G' w h => ⟨_, _, rfl, ?_⟩⟩
  have hS := StC.ends h
  exact (AgentA.shut hG' hP (St.mv 0 3 (St.del 4 hS rfl) rfl)).p1
theorem welcome_spec (hl : lineOf G no = some d) (hst : d.st = 1) (hS : St W (AgentA a P G :: F) w) :
    CallR Try.prog 30 #[ptrV a, ptrV d.b, msgV x, .int .i64 now] w fun v w' => ∃ p c, v = .slice p (if x.k = 4 then (if no = 0 then (setSt G no 2, [sayA 0 (claimM P)]) else (setSt G no 3, [sayA no ⟨12, e0, d.tk, 0, 0⟩])) else (G, [])).2.length c ∧
      St W (ActsA p c (if x.k = 4 then (if no = 0 then (setSt G no 2, [sayA 0 (claimM P)]) else (setSt G no 3, [sayA no ⟨12, e0, d.tk, 0, 0⟩])) else (G, [])).2 :: AgentA a P (if x.k = 4 then (if no = 0 then (setSt G no 2, [sayA 0 (claimM P)]) else (setSt G no 3, [sayA no ⟨12, e0, d.tk, 0, 0⟩])) else (G, [])).1 :: F) w' := by
  obtain ⟨m, hG, hP, hS⟩ := AgentA.open_ hS
  obtain ⟨hdm, hdn⟩ := lineOf_some hl
  refine F30_of (NewC.i hS fun b10 w hS => LdI.a 0 hS rfl rfl (Bif.i (fun hk => ?_) fun hk => ?_))
  · have hk : ¬ x.k = 4 := by simpa using hk
    rw [if_neg hk]
    exact ⟨none, 0, rfl, nil_acts (AgentA.shut hG hP hS.drop)⟩
  have hk : x.k = 4 := by simpa using hk
  rw [if_pos hk]
  have hS : St W (AgL a P m G (Row b10 32 (msgC x) :: F)) w := St.mv 0 3 hS rfl
  by_cases h0 : no = 0
  · rw [if_pos h0]
    have hG' : AOk (setSt G no 2) := hG.setSt (by omega) (fun _ => h0) (by omega)
    refine NilP.i (AgL.pass (st := 2) (K := fun w' => CallR Try.prog 36 #[ptrV a] w' fun v w' => AsL v fun x21p x21n x21c => ∃ p c, Value.slice x21p x21n x21c = .slice p [sayA 0 (claimM P)].length c ∧ St W (ActsA p c [sayA 0 (claimM P)] :: AgentA a P (setSt G no 2) :: F) w') hl hG.nod (by omega) hS (fun w' hS => ?_) fun w1 hc h1 => NilP.i (LdI.at hc (Bif.yes (by rw [hdn, h0]; rfl) (NilP.i ⟨trivial, h1⟩))))
    exact (claim_spec (AgentA.shut hG' hP hS)).of fun v w' ⟨p, c, hv, h⟩ => ⟨_, _, _, hv, p, c, rfl, St.del 2 h rfl⟩
  · rw [if_neg h0]
    have hG' : AOk (setSt G no 3) := hG.setSt (by omega) (by omega) (fun _ => h0)
    refine NilP.i ?_
    have hl' := setSt_line (st := 3) hl
    refine AgL.pass (st := 3) hl hG.nod (by omega) hS ?_ (fun w1 hc h1 => NilP.i (LdI.at hc (Bif.no (by rw [hdn]; simpa using h0) (NilP.i ⟨trivial, h1⟩))))
    intro w' hS
    generalize hGG : setSt G no 3 = G1 at hS hG' hl'
    have hC := Is.refl W (AgL a P m G1 (Row b10 32 (msgC x) :: F))
    refine ⟨StC W _, StC.start hS, NilP.i (NilP.i ⟨d.no, QtI.at fun G' w hw => AgL.line (l0 := []) hl' ((hC G' w).1 hw) (j := 0) rfl, d.tk, QtS.at fun G' w hw => AgL.line (l0 := []) hl' ((hC G' w).1 hw) (j := 1) rfl, ?_⟩)⟩
    refine Ef.n0 (α := Option Addr × Nat) (V := fun z => .slice z.1 1 z.2) (B := fun z => ActsA z.1 z.2 [sayA no ⟨12, e0, d.tk, 0, 0⟩] :: AgL a P m G1 (Row b10 32 (msgC x) :: F)) (none, 0) hC (fun G' w h => (say_spec d.no ⟨12, e0, d.tk, 0, 0⟩ h).of fun v w' ⟨p, c, hv, h⟩ => ⟨_, _, _, hv, (p, c), rfl, by rw [hdn] at h; exact h⟩) fun z => ⟨_, _, _, rfl, trivial, fun G' w h => ⟨_, _, rfl, ?_⟩⟩
    have hS := StC.ends h
    exact (AgentA.shut hG' hP (St.mv 0 3 (St.del 4 hS rfl) rfl)).p1
end
end Go.Proofs.Ytlkbjkmpanohfaa
