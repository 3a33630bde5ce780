/-
  An agent, in plain Lean: what it does.
-/
import Derived.Test.YtlkbjkmpanohfaaAgE
set_option linter.unusedVariables false
set_option linter.unusedSimpArgs false
namespace Go.Proofs.Ytlkbjkmpanohfaa
open Go
structure PlanD where
  ten : ByteArray
  tok : ByteArray
  sec : ByteArray
  nam : ByteArray
  ttl : Int
  every : Int
/-- A line: its block, number, ticket, what it waits for (0: a nonce, 1: a welcome, 2: calls, 3: nothing more). -/
structure LD where
  b : Nat
  no : Int
  tk : ByteArray
  st : Nat
structure AG where
  held : Bool
  epoch : Int
  last : Int
  next : Int
  L : List LD
def e0 : ByteArray := ⟨#[]⟩
def bsOf (s : ByteArray) : List UInt8 := s.data.toList
def proofOf (P : PlanD) (x : ByteArray) : ByteArray := mkS (proofP (bsOf P.sec) [bsOf P.ten, bsOf P.tok, bsOf x])
def sayA (no : Int) (m : MsgD) : ActD := ⟨2, no, m⟩
def openA (no : Int) : ActD := ⟨1, no, ⟨0, e0, e0, 0, 0⟩⟩
def helloM (P : PlanD) : MsgD := ⟨1, P.ten, P.tok, 0, 0⟩
def claimM (P : PlanD) : MsgD := ⟨6, P.nam, e0, P.ttl, 0⟩
def maxN : Int := 1099511627776
def timeOk (now : Int) : Prop := 0 ≤ now ∧ now ≤ maxN
instance (n : Int) : Decidable (timeOk n) := by unfold timeOk; infer_instance
def lineOf (G : AG) (no : Int) : Option LD := G.L.find? fun d => decide (d.no = no)
def setSt (G : AG) (no : Int) (st : Nat) : AG := { G with L := G.L.map fun d => if d.no = no then { d with st := st } else d }
def openP (P : PlanD) (G : AG) (no : Int) (tk : ByteArray) (b : Nat) : AG × List ActD := ({ G with L := G.L ++ [⟨b, no, tk, 0⟩] }, [openA no, sayA no (helloM P)])
def startP (P : PlanD) (G : AG) (b : Nat) : AG × List ActD := if (lineOf G 0).isSome then (G, []) else openP P G 0 e0 b
def calledP (P : PlanD) (G : AG) (m : MsgD) (now : Int) (b : Nat) : AG × List ActD :=
  if m.A = P.nam ∧ m.k = 7 then ({ G with held := true, epoch := m.N, last := now }, [])
  else if m.A = P.nam ∧ m.k = 10 ∧ G.held = true ∧ m.N = G.epoch then ({ G with held := false, epoch := 0 }, [sayA 0 (claimM P)])
  else if m.A = P.nam ∧ m.k = 11 ∧ G.next < 1000 then openP P { G with next := G.next + 1 } G.next m.B b
  else (G, [])
def hearP (P : PlanD) (G : AG) (no : Int) (m : MsgD) (now : Int) (b : Nat) : AG × List ActD :=
  match lineOf G no with
  | none => (G, [])
  | some d =>
    if d.st = 3 ∨ ¬ timeOk now then (G, [])
    else if d.st = 0 then (if m.k = 2 then (setSt G no 1, [sayA no ⟨3, proofOf P m.A, e0, 0, 0⟩]) else (G, []))
    else if d.st = 1 then (if m.k = 4 then (if no = 0 then (setSt G no 2, [sayA 0 (claimM P)]) else (setSt G no 3, [sayA no ⟨12, e0, d.tk, 0, 0⟩])) else (G, []))
    else calledP P G m now b
def throughP (G : AG) (no : Int) : Bool := match lineOf G no with
  | none => false
  | some d => decide (2 ≤ d.st)
def tickP (P : PlanD) (G : AG) (now : Int) (b : Nat) : AG × List ActD :=
  if (lineOf G 0).isNone then startP P G b
  else if throughP G 0 = true ∧ G.held = true ∧ timeOk now ∧ ¬ now - G.last < P.every then ({ G with last := now }, [sayA 0 ⟨8, P.nam, e0, G.epoch, P.ttl⟩])
  else (G, [])
def lostP (G : AG) (no : Int) : AG × Bool :=
  if (lineOf G no).isNone then (G, false)
  else if no = 0 then ({ G with L := [], held := false, epoch := 0 }, true)
  else ({ G with L := G.L.filter fun d => decide (d.no ≠ no) }, true)
structure AOk (G : AG) : Prop where
  nod : (G.L.map (·.no)).Nodup
  nos : ∀ d ∈ G.L, 0 ≤ d.no ∧ d.no < G.next
  sts : ∀ d ∈ G.L, d.st ≤ 3 ∧ (d.st = 2 → d.no = 0) ∧ (d.st = 3 → d.no ≠ 0)
  next : 1 ≤ G.next ∧ G.next ≤ 1000
  last : timeOk G.last
theorem AOk.new : AOk ⟨false, 0, 0, 1, []⟩ := ⟨.nil, by simp, by simp, by simp, by decide⟩
theorem lineOf_some {G : AG} {no : Int} {d : LD} (h : lineOf G no = some d) : d ∈ G.L ∧ d.no = no := by
  unfold lineOf at h
  exact ⟨List.mem_of_find?_eq_some h, by simpa using List.find?_some h⟩
theorem lineOf_none {G : AG} {no : Int} : lineOf G no = none ↔ ∀ d ∈ G.L, d.no ≠ no := by
  unfold lineOf
  rw [List.find?_eq_none]; simp
theorem setSt_nos (G : AG) (no : Int) (st : Nat) : (setSt G no st).L.map (·.no) = G.L.map (·.no) := by
  unfold setSt
  rw [List.map_map]
  refine List.map_congr_left fun d _ => ?_
  simp only [Function.comp_apply]
  split <;> rfl
theorem setSt_mem {G : AG} {no : Int} {st : Nat} {d : LD} (h : d ∈ (setSt G no st).L) : ∃ d0 ∈ G.L, d.no = d0.no ∧ d.tk = d0.tk ∧ ((d0.no = no ∧ d.st = st) ∨ (d0.no ≠ no ∧ d = d0)) := by
  unfold setSt at h
  obtain ⟨d0, h0, rfl⟩ := List.mem_map.1 h
  refine ⟨d0, h0, ?_⟩
  split
  · rename_i e; exact ⟨rfl, rfl, .inl ⟨e, rfl⟩⟩
  · rename_i e; exact ⟨rfl, rfl, .inr ⟨e, rfl⟩⟩
theorem AOk.setSt {G : AG} (h : AOk G) {no : Int} {st : Nat} (h3 : st ≤ 3) (h2 : st = 2 → no = 0) (h4 : st = 3 → no ≠ 0) : AOk (setSt G no st) := by
  refine ⟨by rw [setSt_nos]; exact h.nod, fun d hd => ?_, fun d hd => ?_, h.next, h.last⟩
  · obtain ⟨d0, h0, e, _⟩ := setSt_mem hd
    rw [e]; exact h.nos d0 h0
  · obtain ⟨d0, h0, e, _, ⟨e1, e2⟩ | ⟨e1, e2⟩⟩ := setSt_mem hd
    · rw [e2, e, e1]; exact ⟨h3, h2, h4⟩
    · rw [e2]; exact h.sts d0 h0
theorem AOk.open_ {P : PlanD} {G : AG} (h : AOk G) {no : Int} {tk : ByteArray} {b : Nat} (h0 : 0 ≤ no) (h1 : no < G.next) (hn : lineOf G no = none) : AOk (openP P G no tk b).1 := by
  unfold openP
  refine ⟨?_, fun d hd => ?_, fun d hd => ?_, h.next, h.last⟩
  · dsimp only
    rw [List.map_append, List.nodup_append]
    refine ⟨h.nod, by simp, fun x hx y hy => ?_⟩
    simp at hy
    obtain ⟨d, hd, rfl⟩ := List.mem_map.1 hx
    rw [hy]; exact lineOf_none.1 hn d hd
  · rcases List.mem_append.1 hd with hd | hd
    · exact h.nos d hd
    · simp at hd; subst hd; exact ⟨h0, h1⟩
  · rcases List.mem_append.1 hd with hd | hd
    · exact h.sts d hd
    · simp at hd; subst hd; simp
theorem AOk.start {P : PlanD} {G : AG} (h : AOk G) (b : Nat) : AOk (startP P G b).1 := by
  unfold startP
  split
  · exact h
  · rename_i hn
    exact h.open_ (Int.le_refl _) (by have := h.next; omega) (by simpa using hn)
theorem AOk.called {P : PlanD} {G : AG} (h : AOk G) {m : MsgD} {now : Int} (ht : timeOk now) (b : Nat) : AOk (calledP P G m now b).1 := by
  unfold calledP
  split
  · exact ⟨h.nod, h.nos, h.sts, h.next, ht⟩
  · split
    · exact ⟨h.nod, h.nos, h.sts, h.next, h.last⟩
    · split
      · rename_i hc
        have hn := h.next
        have h' : AOk { G with next := G.next + 1 } := ⟨h.nod, fun d hd => by have := h.nos d hd; exact ⟨this.1, by show d.no < G.next + 1; omega⟩, h.sts, ⟨by show 1 ≤ G.next + 1; omega, by show G.next + 1 ≤ 1000; omega⟩, h.last⟩
        refine h'.open_ (by omega) (by show G.next < G.next + 1; omega) (lineOf_none.2 fun d hd e => ?_)
        have := (h.nos d hd).2
        omega
      · exact h
theorem AOk.hear {P : PlanD} {G : AG} (h : AOk G) (no : Int) (m : MsgD) (now : Int) (b : Nat) : AOk (hearP P G no m now b).1 := by
  unfold hearP
  cases hl : lineOf G no with
  | none => exact h
  | some d =>
    dsimp only
    split
    · exact h
    · rename_i h1
      split
      · split
        · exact h.setSt (by omega) (by omega) (by omega)
        · exact h
      · split
        · split
          · split
            · rename_i e; exact h.setSt (by omega) (fun _ => e) (by omega)
            · rename_i e; exact h.setSt (by omega) (by omega) (fun _ => e)
          · exact h
        · exact h.called (by
            apply Decidable.byContradiction
            intro hc; exact h1 (.inr hc)) b
theorem AOk.tick {P : PlanD} {G : AG} (h : AOk G) (now : Int) (b : Nat) : AOk (tickP P G now b).1 := by
  unfold tickP
  split
  · exact h.start b
  · split
    · rename_i hc; exact ⟨h.nod, h.nos, h.sts, h.next, hc.2.2.1⟩
    · exact h
theorem AOk.lost {G : AG} (h : AOk G) (no : Int) : AOk (lostP G no).1 := by
  unfold lostP
  split
  · exact h
  · split
    · exact ⟨.nil, by simp, by simp, h.next, h.last⟩
    · refine ⟨h.nod.sublist (List.Sublist.map _ List.filter_sublist), fun d hd => h.nos d (List.mem_filter.1 hd).1, fun d hd => h.sts d (List.mem_filter.1 hd).1, h.next, h.last⟩
end Go.Proofs.Ytlkbjkmpanohfaa
