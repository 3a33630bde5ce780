/-
  Contracts of an agent.
-/
import Derived.Test.YtlkbjkmpanohfaaAgP
set_option linter.unusedVariables false
set_option linter.unusedSimpArgs false
namespace Go.Proofs.Ytlkbjkmpanohfaa
open Go
theorem add0 (a : Addr) : Addr.add a 0 = a := rfl
theorem kI : Keys Try.prog 3 (Value.int .i64) := Keys.i64 uInt
theorem uM : Try.prog.underlying 53 = some (.map 3 60) := Try.underlying53
theorem iPt : Try.prog.info? 60 = some Try.t60 := by kernel_rfl
theorem zPt : Try.t60.zero = some (.pointer none) := rfl
theorem uActs : Try.prog.underlying 35 = some (.slice 38) := Try.underlying35
theorem iAct : Try.prog.info? 38 = some Try.t38 := by kernel_rfl
theorem sAct : Try.t38.size = 7 := rfl
theorem zAct : ∃ z, Try.t38.zero = some z ∧ z.cells.size = 7 := ⟨_, rfl, rfl⟩
theorem bAct : Try.t38.bytes ≤ 100 := by decide +kernel
theorem actC7 (a : ActD) : (actC a).length = 7 := rfl
theorem actCn (a : ActD) : ∀ v ∈ actC a, NotAgg v := fun v hv => by
  simp [actC] at hv
  rcases hv with rfl | rfl | rfl | rfl | rfl | rfl | rfl <;> trivial
def ptrV (a : Nat) : Value := .pointer (some ⟨a, 0, none⟩)
def hearV (a : Nat) : Nat → Value
  | 0 => .func (.func 28) #[ptrV a] #[]
  | 1 => .func (.func 30) #[ptrV a] #[]
  | 2 => .func (.func 35) #[ptrV a] #[]
  | _ => .nilFunc
def lineC (a : Nat) (d : LD) : List Value := [.int .i64 d.no, .string d.tk, hearV a d.st, .bool (decide (2 ≤ d.st))]
def rowL (a : Nat) (d : LD) : Asn := Row d.b 65 (lineC a d)
def linesA (a : Nat) (L : List LD) : Asn := sepA (L.map (rowL a))
def keyD (L : List LD) : List (Int × Nat) := L.map fun d => (d.no, d.b)
def agC (P : PlanD) (m : Nat) (G : AG) : List Value := [.string P.ten, .string P.tok, .string P.sec, .string P.nam, .int .i64 P.ttl, .int .i64 P.every, .map (some m), .bool G.held, .int .i64 G.epoch, .int .i64 G.last, .int .i64 G.next]
def PlanOk (P : PlanD) : Prop := P.sec.size ≤ 9223372036854775807
abbrev AgL (a : Nat) (P : PlanD) (m : Nat) (G : AG) (F : List Asn) : List Asn := Row a 55 (agC P m G) :: MapOf (Value.int .i64) ptrV m (keyD G.L) :: linesA a G.L :: F
def AgentA (a : Nat) (P : PlanD) (G : AG) : Asn := exA fun m : Nat => sepA [prA (AOk G ∧ PlanOk P), Row a 55 (agC P m G), MapOf (Value.int .i64) ptrV m (keyD G.L), linesA a G.L]
theorem erase_perm {α : Type} : ∀ (l : List α) (i : Nat) {x : α}, l[i]? = some x → l.Perm (x :: l.eraseIdx i)
  | [], i, x, h => by simp at h
  | y :: r, 0, x, h => by simp at h; subst h; exact .refl _
  | y :: r, i + 1, x, h => ((erase_perm r i (by simpa using h)).cons y).trans (List.Perm.swap _ _ _)
theorem set_erase {α : Type} : ∀ (l : List α) (i : Nat) (y : α), i < l.length → (l.set i y).Perm (y :: l.eraseIdx i)
  | [], i, y, h => by simp at h
  | x :: r, 0, y, h => .refl _
  | x :: r, i + 1, y, h => ((set_erase r i y (by simpa using h)).cons x).trans (List.Perm.swap _ _ _)
theorem aget_key (L : List LD) (no : Int) : aget (keyD L) no = (L.find? fun d => decide (d.no = no)).map (·.b) := by
  induction L with
  | nil => rfl
  | cons d r ih =>
    unfold keyD at ih ⊢
    simp only [List.map_cons, aget, List.find?_cons]
    by_cases h : d.no = no
    · simp [h]
    · simp [h, ih]
theorem aget_line (G : AG) (no : Int) : aget (keyD G.L) no = (lineOf G no).map (·.b) := aget_key G.L no
theorem set_eq {L : List LD} {i : Nat} {d : LD} {no : Int} {st : Nat} (hn : (L.map (·.no)).Nodup) (hi : L[i]? = some d) (hd : d.no = no) : L.set i { d with st := st } = L.map fun d => if d.no = no then { d with st := st } else d := by
  induction L generalizing i with
  | nil => simp at hi
  | cons x r ih =>
    simp only [List.map_cons, List.nodup_cons] at hn
    cases i with
    | zero =>
      simp at hi; subst hi
      rw [List.set_cons_zero, List.map_cons, if_pos hd]
      congr 1
      refine (List.map_id _).symm.trans (List.map_congr_left fun y hy => ?_)
      have : y.no ≠ no := fun e => hn.1 (by rw [hd, ← e]; exact List.mem_map.2 ⟨y, hy, rfl⟩)
      rw [if_neg this]; rfl
    | succ i =>
      have hi' : r[i]? = some d := by simpa using hi
      have : x.no ≠ no := fun e => hn.1 (by rw [e, ← hd]; exact List.mem_map.2 ⟨d, List.mem_of_getElem? hi', rfl⟩)
      rw [List.set_cons_succ, List.map_cons, if_neg this, ih hn.2 hi']
section
variable {W w : World} {F : List Asn} {a m : Nat} {P : PlanD} {G : AG} {L : List LD} {i : Nat} {d : LD}
theorem linesA.take (h : St W (linesA a L :: F) w) (hi : L[i]? = some d) : St W (rowL a d :: linesA a (L.eraseIdx i) :: F) w := by
  have h1 : St W (L.map (rowL a) ++ F) w := h.of_sep
  have h2 : St W ((d :: L.eraseIdx i).map (rowL a) ++ F) w := h1.perm (((erase_perm L i hi).map (rowL a)).append_right F)
  exact (St.to_sep (l := (L.eraseIdx i).map (rowL a)) (St.perm h2 (by
    simp only [List.map_cons, List.cons_append]
    exact (List.perm_middle (l₁ := (L.eraseIdx i).map (rowL a)) (a := rowL a d) (l₂ := F)).symm))).p1
theorem linesA.give {y : LD} (hlt : i < L.length) (h : St W (rowL a y :: linesA a (L.eraseIdx i) :: F) w) : St W (linesA a (L.set i y) :: F) w := by
  have h1 : St W ((L.eraseIdx i).map (rowL a) ++ (rowL a y :: F)) w := St.of_sep h.p1
  refine St.to_sep (St.perm h1 ?_)
  exact List.perm_middle.trans (((set_erase L i y hlt).symm.map (rowL a)).append_right F)
theorem linesA.cell (h : St W (linesA a L :: F) w) (hi : L[i]? = some d) {j : Nat} {v : Value} (hj : (lineC a d)[j]? = some v) : w.cell? ⟨d.b, j, none⟩ = some v := (linesA.take h hi).ld hj
theorem linesA.cut {p : LD → Bool} (h : St W (linesA a L :: F) w) : St W (linesA a (L.filter p) :: F) w := by
  have h1 : St W (L.map (rowL a) ++ F) w := h.of_sep
  have h2 : (L.map (rowL a) ++ F).Perm ((L.filter fun x => !p x).map (rowL a) ++ ((L.filter p).map (rowL a) ++ F)) := by
    rw [← List.append_assoc, ← List.map_append]
    exact (((List.perm_append_comm.trans (List.filter_append_perm p L)).symm).map _).append_right F
  exact St.to_sep (St.dropL _ (h1.perm h2))
theorem linesA.add (h : St W (rowL a d :: linesA a L :: F) w) : St W (linesA a (L ++ [d]) :: F) w := by
  have h1 : St W (L.map (rowL a) ++ (rowL a d :: F)) w := St.of_sep h.p1
  refine St.to_sep ?_
  rw [List.map_append, List.append_assoc]
  exact h1
theorem AgentA.open_ (h : St W (AgentA a P G :: F) w) : ∃ m, AOk G ∧ PlanOk P ∧ St W (AgL a P m G F) w := by
  obtain ⟨m, h⟩ := h.of_ex
  obtain ⟨⟨h1, h2⟩, h⟩ := h.of_sep.of_pr
  exact ⟨m, h1, h2, h⟩
theorem AgentA.shut (hG : AOk G) (hP : PlanOk P) (h : St W (AgL a P m G F) w) : St W (AgentA a P G :: F) w :=
  St.to_ex m (St.to_sep (l := [_, _, _, _]) (St.to_pr ⟨hG, hP⟩ h))
theorem AgentA.ok (h : St W (AgentA a P G :: F) w) : AOk G ∧ PlanOk P := by
  obtain ⟨m, hG, hP, _⟩ := AgentA.open_ h
  exact ⟨hG, hP⟩
abbrev ActsA (p : Option Addr) (c : Nat) (l : List ActD) : Asn := SlA 38 7 actC p c l
theorem say_spec (no : Int) (x : MsgD) (hS : St W F w) : CallR Try.prog 25 #[.int .i64 no, msgV x] w fun v w' => ∃ p c, v = .slice p 1 c ∧ St W (ActsA p c [sayA no x] :: F) w' := by
  refine F25_of (NewC.i hS fun b8 w hS => LdI.a 0 hS rfl rfl (LdS.a 0 hS rfl rfl (LdS.a 0 hS rfl rfl (LdI.a 0 hS rfl rfl (LdI.a 0 hS rfl rfl (NewC.i hS fun b15 w hS => ⟨_, _, rfl, ?_⟩))))))
  have hS : St W (Row b15 38 ([sayA no x].flatMap actC) :: Row b8 32 [.int .i64 x.k, .string x.A, .string x.B, .int .i64 x.N, .int .i64 x.M] :: F) w := hS
  exact (SlA.of_row (os := [sayA no x]) actC7 hS).p1.drop
theorem time_spec (now : Int) (hS : St W F w) : CallR Try.prog 24 #[.int .i64 now] w fun v w' => v = .bool (decide (timeOk now)) ∧ St W F w' := by
  refine F24_of (Bif.i (fun h => ⟨?_, hS⟩) fun h => ⟨?_, hS⟩)
  · have h := of_decide_eq_true h
    congr 1
    rw [decide_eq_decide]
    exact ⟨fun h2 => ⟨h, h2⟩, fun h2 => h2.2⟩
  · have h := of_decide_eq_false h
    rw [decide_eq_false (fun h2 : timeOk now => h h2.1)]
theorem claim_spec (hS : St W (AgentA a P G :: F) w) : CallR Try.prog 36 #[ptrV a] w fun v w' => ∃ p c, v = .slice p 1 c ∧ St W (ActsA p c [sayA 0 (claimM P)] :: AgentA a P G :: F) w' := by
  obtain ⟨m, hG, hP, hS⟩ := AgentA.open_ hS
  refine F36_of ?_
  unfold F36
  simp only [add0]
  have hC := Is.refl W (AgL a P m G F)
  refine ⟨StC W _, StC.start hS, NilP.i (NilP.i ⟨_, QtS.a 0 hC rfl rfl, _, QtI.a 0 hC rfl rfl, ?_⟩)⟩
  refine Ef.n0 (α := Option Addr × Nat) (V := fun y => .slice y.1 1 y.2) (B := fun y => ActsA y.1 y.2 [sayA 0 (claimM P)] :: AgL a P m G F) (none, 0) hC (fun G' w h => (say_spec 0 (claimM P) h).of fun v w' ⟨p, c, hv, h⟩ => ⟨_, _, _, hv, (p, c), rfl, h⟩) fun y => ⟨_, _, _, rfl, trivial, fun G' w h => ⟨_, _, rfl, ?_⟩⟩
  exact (AgentA.shut hG hP (St.mv 0 3 (StC.ends h) rfl)).p1 |> fun h => h.p1.p1
theorem New_spec (P : PlanD) (hP : PlanOk P) (hS : St W F w) : CallR Try.prog 7 #[.agg #[.string P.ten, .string P.tok, .string P.sec, .string P.nam, .int .i64 P.ttl, .int .i64 P.every]] w fun v w' => ∃ a, v = ptrV a ∧ St W (AgentA a P ⟨false, 0, 0, 1, []⟩ :: F) w' := by
  refine F7_of (NewC.i hS fun b8 w hS => LdS.a 0 hS rfl rfl (LdS.a 0 hS rfl rfl (LdS.a 0 hS rfl rfl (LdS.a 0 hS rfl rfl (LdI.a 0 hS rfl rfl (LdI.a 0 hS rfl rfl (NewM.n (Value.int .i64) ptrV hS fun m w1 hS => NewC.i hS fun a w hS => ⟨a, rfl, ?_⟩)))))))
  have h2 : St W (Row a 55 (agC P m ⟨false, 0, 0, 1, []⟩) :: MapOf (Value.int .i64) ptrV m [] :: Row b8 23 [.string P.ten, .string P.tok, .string P.sec, .string P.nam, .int .i64 P.ttl, .int .i64 P.every] :: F) w := hS.perm (List.Perm.cons _ List.perm_append_comm)
  have h3 : St W (linesA a [] :: Row a 55 (agC P m ⟨false, 0, 0, 1, []⟩) :: MapOf (Value.int .i64) ptrV m [] :: F) w := St.to_sep (l := []) (St.del 2 h2 rfl)
  exact AgentA.shut AOk.new hP (St.mv 0 2 h3 rfl)
theorem open_spec (no : Int) (tk : ByteArray) (h0 : 0 ≤ no) (h1 : no < G.next) (hn : lineOf G no = none) (hS : St W (AgentA a P G :: F) w) :
    CallR Try.prog 23 #[ptrV a, .int .i64 no, .string tk] w fun v w' => ∃ p c b, v = .slice p 2 c ∧ St W (ActsA p c (openP P G no tk b).2 :: AgentA a P (openP P G no tk b).1 :: F) w' := by
  obtain ⟨m, hG, hP, hS⟩ := AgentA.open_ hS
  refine F23_of ?_
  unfold F23
  simp only [add0]
  refine NilP.i (LdM.a 0 hS rfl rfl (NewC.i hS fun b w hS => ?_))
  have hS : St W (rowL a ⟨b, no, tk, 0⟩ :: AgL a P m G F) w := hS
  have hg : aget (keyD G.L) no = none := by rw [aget_line, hn]; rfl
  refine mapUpdate_i kI uM 2 hS rfl no b fun w hS => ?_
  rw [aset_none hg] at hS
  have hG' : AOk (openP P G no tk b).1 := hG.open_ h0 h1 hn
  have hS : St W (AgL a P m (openP P G no tk b).1 F) w := by
    have e : keyD G.L ++ [(no, b)] = keyD (openP P G no tk b).1.L := by unfold keyD openP; rw [List.map_append]; rfl
    rw [e] at hS
    have h2 : St W (rowL a ⟨b, no, tk, 0⟩ :: linesA a G.L :: Row a 55 (agC P m G) :: MapOf (Value.int .i64) ptrV m (keyD (openP P G no tk b).1.L) :: F) w := St.mv 3 1 hS rfl
    exact St.mv 0 2 (linesA.add h2) rfl
  generalize hGG : (openP P G no tk b).1 = G' at hS hG'
  have hacts : (openP P G no tk b).2 = [openA no, sayA no (helloM P)] := rfl
  have hC := Is.refl W (AgL a P m G' F)
  refine ⟨StC W _, StC.start hS, NilP.i (NilP.i ⟨_, QtS.n 0 hC rfl rfl, _, QtS.a 0 hC rfl rfl, ?_⟩)⟩
  refine Ef.n0 (α := Option Addr × Nat) (V := fun y => .slice y.1 1 y.2) (B := fun y => ActsA y.1 y.2 [sayA no (helloM P)] :: AgL a P m G' F) (none, 0) hC (fun G' w h => (say_spec no (helloM P) h).of fun v w' ⟨p, c, hv, h⟩ => ⟨_, _, _, hv, (p, c), rfl, h⟩) fun y => ⟨_, _, _, rfl, trivial, fun b30 => ?_⟩
  refine Ef.n0 (α := Option Addr × Nat) (V := fun z => .slice z.1 2 z.2) (B := fun z => ActsA z.1 z.2 [openA no, sayA no (helloM P)] :: AgL a P m G' F) (none, 0) ((Is.refl W _).push b30 _) (fun G2 w h => ?_) fun z => ⟨_, _, _, rfl, trivial, fun G2 w h => ⟨_, _, b, rfl, ?_⟩⟩
  · have h : St W (Pt b30 (.cells #[(Value.int .i64 1), (Value.int .i64 no), (Value.int .i64 0), (Value.string ⟨#[]⟩), (Value.string ⟨#[]⟩), (Value.int .i64 0), (Value.int .i64 0)] 38) :: ActsA y.1 y.2 [sayA no (helloM P)] :: (AgL a P m G' F ++ pts G2)) w := h
    have h2 : St W (Row b30 38 ([openA no].flatMap actC) :: ActsA y.1 y.2 [sayA no (helloM P)] :: (AgL a P m G' F ++ pts G2)) w := h.imp Pt.row
    have h3 := SlA.of_row (os := [openA no]) actC7 h2
    obtain ⟨z, hz, hzs⟩ := zAct
    have hb := bAct
    refine append_el (os := [openA no]) (xs := [sayA no (helloM P)]) actC7 uActs (.inr ⟨_, uActs⟩) iAct sAct hz hzs 0 h3 rfl (Rd.n 0 rfl fun F => SlA.rd F) rfl actCn (by simp only [List.length_cons, List.length_nil]; omega) (by simp only [List.length_cons, List.length_nil]; omega) fun p' c' w' h => ⟨_, _, _, rfl, (p', c'), rfl, ?_⟩
    exact St.del 1 h rfl
  · have hS := StC.ends h
    rw [hacts, hGG]
    exact (AgentA.shut hG' hP (St.mv 0 3 hS rfl)).p1.p1.p1
theorem Start_spec (hS : St W (AgentA a P G :: F) w) : CallR Try.prog 12 #[ptrV a] w fun v w' => ∃ p c b, v = .slice p (startP P G b).2.length c ∧ St W (ActsA p c (startP P G b).2 :: AgentA a P (startP P G b).1 :: F) w' := by
  have hok := AgentA.ok hS
  have hS0 := hS
  obtain ⟨m, hG, hP, hS⟩ := AgentA.open_ hS
  refine F12_of (NilP.i (LdM.a 0 hS rfl rfl (lookup_i kI uM iPt zPt 1 hS rfl 0 true ?_)))
  rw [if_pos rfl, aget_line]
  unfold startP
  cases hl : lineOf G 0 with
  | some d =>
    refine ⟨some ⟨d.b, 0, none⟩, true, rfl, Bif.yes rfl ⟨none, 0, 0, rfl, ?_⟩⟩
    exact SlA.nil (AgentA.shut hG hP hS)
  | none =>
    refine ⟨none, false, rfl, Bif.no rfl ?_⟩
    exact (open_spec 0 e0 (Int.le_refl _) (by have := hG.next; omega) hl (AgentA.shut hG hP hS)).of fun v w' ⟨p, c, b, hv, h⟩ => ⟨_, _, _, hv, p, c, b, rfl, h⟩
theorem Through_spec (no : Int) (hS : St W (AgentA a P G :: F) w) : CallR Try.prog 16 #[ptrV a, .int .i64 no] w fun v w' => v = .bool (throughP G no) ∧ St W (AgentA a P G :: F) w' := by
  obtain ⟨m, hG, hP, hS⟩ := AgentA.open_ hS
  refine F16_of (NilP.i (LdM.a 0 hS rfl rfl (lookup_i kI uM iPt zPt 1 hS rfl no true ?_)))
  rw [if_pos rfl, aget_line]
  unfold throughP
  cases hl : lineOf G no with
  | some d =>
    obtain ⟨i, hi⟩ := List.getElem?_of_mem (lineOf_some hl).1
    exact ⟨some ⟨d.b, 0, none⟩, true, rfl, Bif.yes rfl (NilP.i (LdB.at (linesA.cell (hS.at 2 rfl) hi (j := 3) rfl) ⟨rfl, AgentA.shut hG hP hS⟩))⟩
  | none => exact ⟨none, false, rfl, Bif.no rfl ⟨rfl, AgentA.shut hG hP hS⟩⟩
theorem Holds_spec (hS : St W (AgentA a P G :: F) w) : CallR Try.prog 14 #[ptrV a] w fun v w' => v = .tuple #[.int .i64 G.epoch, .bool G.held] ∧ St W (AgentA a P G :: F) w' := by
  obtain ⟨m, hG, hP, hS⟩ := AgentA.open_ hS
  have hC := Is.refl W (AgL a P m G F)
  exact F14_of ⟨StC W _, StC.start hS, NilP.i (NilP.i ⟨_, QtI.a 0 hC rfl rfl, _, QtB.a 0 hC rfl rfl, fun G' w h => ⟨rfl, AgentA.shut hG hP (StC.ends h)⟩⟩)⟩
theorem adel_key (L : List LD) (hn : (L.map (·.no)).Nodup) (no : Int) : adel (keyD L) no = keyD (L.filter fun d => decide (d.no ≠ no)) := by
  induction L with
  | nil => rfl
  | cons d r ih =>
    simp only [List.map_cons, List.nodup_cons] at hn
    unfold keyD at ih ⊢
    simp only [List.map_cons, adel]
    by_cases h : d.no = no
    · rw [if_pos h, List.filter_cons_of_neg (by simpa using h), List.filter_eq_self.2]
      intro x hx
      have : x.no ≠ no := fun e => hn.1 (by rw [h, ← e]; exact List.mem_map.2 ⟨x, hx, rfl⟩)
      simpa using this
    · rw [if_neg h, List.filter_cons_of_pos (by simpa using h), ih hn.2]; rfl
theorem Lost_spec (no : Int) (hS : St W (AgentA a P G :: F) w) : CallR Try.prog 13 #[ptrV a, .int .i64 no] w fun v w' => v = .bool (lostP G no).2 ∧ St W (AgentA a P (lostP G no).1 :: F) w' := by
  obtain ⟨m, hG, hP, hS⟩ := AgentA.open_ hS
  have hL := hG.lost no
  refine F13_of (NilP.i (LdM.a 0 hS rfl rfl (lookup_i kI uM iPt zPt 1 hS rfl no true ?_)))
  rw [if_pos rfl, aget_line]
  unfold lostP at hL ⊢
  cases hl : lineOf G no with
  | none =>
    refine ⟨none, false, rfl, NilP.i (LdM.a 0 hS rfl rfl (delete_i kI uM 1 hS rfl no fun w hS => Bif.no rfl ⟨rfl, ?_⟩))⟩
    have hg : aget (keyD G.L) no = none := by rw [aget_line, hl]; rfl
    rw [adel_none hg] at hS
    exact AgentA.shut hG hP hS
  | some d =>
    rw [hl] at hL
    refine ⟨some ⟨d.b, 0, none⟩, true, rfl, NilP.i (LdM.a 0 hS rfl rfl (delete_i kI uM 1 hS rfl no fun w hS => Bif.yes rfl ?_))⟩
    rw [if_neg (by simp)] at hL ⊢
    by_cases h0 : no = 0
    · rw [if_pos h0] at hL ⊢
      refine Bif.yes (by rw [h0]; rfl) (NilP.i (LdM.a 0 hS rfl rfl (clear_i uM 1 hS rfl fun w hS => NilP.i (St1.a 0 hS rfl (by simp [agC]) fun w hS => NilP.i (St1.a 0 hS rfl (by simp [agC]) fun w hS => ⟨rfl, ?_⟩)))))
      have hS : St W (Row a 55 (agC P m { G with L := [], held := false, epoch := 0 }) :: MapOf (Value.int .i64) ptrV m [] :: linesA a G.L :: F) w := hS
      exact AgentA.shut hL hP (St.mv 0 2 (St.to_sep (l := []) (St.del 2 hS rfl)) rfl)
    · rw [if_neg h0] at hL ⊢
      refine Bif.no (by simpa using h0) ⟨rfl, ?_⟩
      have hS : St W (Row a 55 (agC P m G) :: MapOf (Value.int .i64) ptrV m (adel (keyD G.L) no) :: linesA a G.L :: F) w := hS
      rw [adel_key _ hG.nod] at hS
      exact AgentA.shut hL hP (St.mv 0 2 (linesA.cut (St.mv 2 0 hS rfl)) rfl)
end
end Go.Proofs.Ytlkbjkmpanohfaa
