/-
  In which order an agent says what it says, in plain Lean.
-/
import Derived.Test.YtlkbjkmpanohfaaLaw20
set_option linter.unusedVariables false
set_option linter.unusedSimpArgs false
namespace Go.Proofs.Ytlkbjkmpanohfaa
open Go
def stepOf (st : Nat) : Int := if st = 0 then 2 else if st = 3 then 4 else 3
def StepsOk (S : List Int) (G : AG) : Prop := S.length = 1001 ∧ ∀ d ∈ G.L, S[d.no.toNat]? = some (stepOf d.st)
inductive Fine (P : PlanD) (o : OpD) (S' : List Int) : List Int → List ActD → Prop
  | nil : Fine P o S' S' []
  | opened {S : List Int} {n : Nat} {r : List ActD} : n ≤ 999 → Fine P o S' (S.set n 1) (sayA n (helloM P) :: r) → Fine P o S' S (openA n :: sayA n (helloM P) :: r)
  | hello {S : List Int} {n : Nat} {r : List ActD} : n ≤ 999 → S[n]? = some 1 → Fine P o S' (S.set n 2) r → Fine P o S' S (sayA n (helloM P) :: r)
  | proof {S : List Int} {n : Nat} {r : List ActD} : n ≤ 999 → S[n]? = some 2 → o.m.k = 2 → Fine P o S' (S.set n 3) r → Fine P o S' S (sayA n ⟨3, proofOf P o.m.A, e0, 0, 0⟩ :: r)
  | ticket {S : List Int} {n : Nat} {tk : ByteArray} {r : List ActD} : n ≤ 999 → n ≠ 0 → S[n]? = some 3 → Fine P o S' (S.set n 4) r → Fine P o S' S (sayA n ⟨12, e0, tk, 0, 0⟩ :: r)
  | claim {S : List Int} {x : Int} {m : MsgD} {r : List ActD} : S[0]? = some x → 3 ≤ x → m.k = 6 ∨ m.k = 8 → Fine P o S' S r → Fine P o S' S (sayA ((0 : Nat) : Int) m :: r)
theorem StepsOk.same {S : List Int} {G G' : AG} (h : StepsOk S G) (hL : G'.L = G.L) : StepsOk S G' := ⟨h.1, by rw [hL]; exact h.2⟩
theorem StepsOk.sub {S : List Int} {G G' : AG} (h : StepsOk S G) (hL : ∀ d ∈ G'.L, d ∈ G.L) : StepsOk S G' := ⟨h.1, fun d hd => h.2 d (hL d hd)⟩
theorem StepsOk.step {S S1 : List Int} {G : AG} {no : Int} {st : Nat} (h : StepsOk S G) (hG : AOk G) (h0 : 0 ≤ no) (hl : S1.length = 1001) (h1 : S1[no.toNat]? = some (stepOf st)) (h2 : ∀ m, m ≠ no.toNat → S1[m]? = S[m]?) : StepsOk S1 (setSt G no st) := by
  refine ⟨hl, fun d hd => ?_⟩
  obtain ⟨d0, h0', e, _, ⟨e1, e2⟩ | ⟨e1, e2⟩⟩ := setSt_mem hd
  · rw [e, e1, e2]; exact h1
  · have := (hG.nos d0 h0').1
    rw [e2, h2 _ (by omega)]; exact h.2 d0 h0'
theorem fine_open {P : PlanD} {o : OpD} {G : AG} {S : List Int} (h : StepsOk S G) (hG : AOk G) {no : Int} (tk : ByteArray) (b : Nat) (h0 : 0 ≤ no) (h1 : no < G.next) (hn : lineOf G no = none) : ∃ S', Fine P o S' S (openP P G no tk b).2 ∧ StepsOk S' (openP P G no tk b).1 := by
  obtain ⟨n, rfl⟩ := Int.eq_ofNat_of_zero_le h0
  have hx := hG.next
  have hl := h.1
  have hlt : n < S.length := by omega
  refine ⟨(S.set n 1).set n 2, .opened (by omega) (.hello (by omega) (by rw [List.getElem?_set_self hlt]) .nil), by simp [hl], fun d hd => ?_⟩
  rcases List.mem_append.1 hd with hd | hd
  · have hne := lineOf_none.1 hn d hd
    have := (hG.nos d hd).1
    rw [List.getElem?_set_ne (by omega), List.getElem?_set_ne (by omega)]
    exact h.2 d hd
  · simp at hd; subst hd
    show ((S.set n 1).set n 2)[n]? = some 2
    rw [List.getElem?_set_self (by rw [List.length_set]; exact hlt)]
theorem fine_start {P : PlanD} {o : OpD} {G : AG} {S : List Int} (h : StepsOk S G) (hG : AOk G) (b : Nat) : ∃ S', Fine P o S' S (startP P G b).2 ∧ StepsOk S' (startP P G b).1 := by
  unfold startP
  split
  · exact ⟨S, .nil, h⟩
  · rename_i hn
    exact fine_open h hG e0 b (Int.le_refl _) (by have := hG.next; omega) (by simpa using hn)
theorem fine_hear {P : PlanD} {o : OpD} {G : AG} {S : List Int} (h : StepsOk S G) (hG : AOk G) (b : Nat) : ∃ S', Fine P o S' S (hearP P G o.line o.m o.now b).2 ∧ StepsOk S' (hearP P G o.line o.m o.now b).1 := by
  unfold hearP
  cases hl : lineOf G o.line with
  | none => exact ⟨S, .nil, h⟩
  | some d =>
    obtain ⟨hd, hn⟩ := lineOf_some hl
    have hnos := hG.nos d hd
    have hst := hG.sts d hd
    have hS := h.2 d hd
    have hlen := h.1
    have hx := hG.next
    rw [hn] at hnos hst hS
    generalize o.line = no at hl hn hnos hst hS
    obtain ⟨n, rfl⟩ := Int.eq_ofNat_of_zero_le hnos.1
    have hlt : n < S.length := by omega
    have en : ((n : Nat) : Int).toNat = n := rfl
    rw [en] at hS
    dsimp only
    split
    · exact ⟨S, .nil, h⟩
    rename_i h3
    split
    · rename_i h4
      split
      · rename_i hk
        refine ⟨S.set n 3, .proof (by omega) (by rw [hS, h4]; rfl) hk .nil, h.step hG hnos.1 (by simp [hlen]) ?_ fun m hm => ?_⟩
        · rw [en, List.getElem?_set_self hlt]; rfl
        · rw [List.getElem?_set_ne (by rw [en] at hm; exact fun e => hm e.symm)]
      · exact ⟨S, .nil, h⟩
    rename_i h4
    split
    · rename_i h5
      split
      · split
        · rename_i hk hz
          have hz : n = 0 := by omega
          subst hz
          refine ⟨S, .claim hS (by rw [h5]; decide) (.inl rfl) .nil, h.step hG (by omega) hlen ?_ fun m hm => rfl⟩
          rw [en, hS, h5]; rfl
        · rename_i hk hz
          refine ⟨S.set n 4, .ticket (by omega) (by omega) (by rw [hS, h5]; rfl) .nil, h.step hG hnos.1 (by simp [hlen]) ?_ fun m hm => ?_⟩
          · rw [en, List.getElem?_set_self hlt]; rfl
          · rw [List.getElem?_set_ne (by rw [en] at hm; exact fun e => hm e.symm)]
      · exact ⟨S, .nil, h⟩
    rename_i h5
    have h6 : d.st = 2 := by
      have : ¬ d.st = 3 := fun e => h3 (.inl e)
      omega
    have hz : n = 0 := by have := hst.2.1 h6; omega
    subst hz
    rw [h6] at hS
    unfold calledP
    split
    · exact ⟨S, .nil, h.same rfl⟩
    · split
      · exact ⟨S, .claim hS (by decide) (.inl rfl) .nil, h.same rfl⟩
      · split
        · rename_i hc
          have hG' : AOk { G with next := G.next + 1 } := ⟨hG.nod, fun d hd => by have := hG.nos d hd; exact ⟨this.1, by show d.no < G.next + 1; omega⟩, hG.sts, ⟨by show 1 ≤ G.next + 1; omega, by show G.next + 1 ≤ 1000; omega⟩, hG.last⟩
          exact fine_open (G := { G with next := G.next + 1 }) (h.same rfl) hG' o.m.B b (by omega) (by show G.next < G.next + 1; omega) (lineOf_none.2 fun d hd e => by have := (hG.nos d hd).2; omega)
        · exact ⟨S, .nil, h⟩
theorem fine_does {P : PlanD} {o : OpD} {G : AG} {S : List Int} (h : StepsOk S G) (hG : AOk G) (b : Nat) : ∃ S', Fine P o S' S (doesP P G o b).2 ∧ StepsOk S' (doesP P G o b).1 := by
  unfold doesP
  split
  · unfold tickP
    split
    · exact fine_start h hG b
    · split
      · rename_i hc
        have ht := hc.1
        unfold throughP at ht
        cases hl : lineOf G 0 with
        | none => rw [hl] at ht; simp at ht
        | some d =>
          rw [hl] at ht
          have ht : 2 ≤ d.st := of_decide_eq_true ht
          obtain ⟨hd, hn⟩ := lineOf_some hl
          have hS := h.2 d hd
          rw [hn] at hS
          have hst := hG.sts d hd
          have h6 : d.st = 2 := by
            apply Decidable.byContradiction
            intro hc
            exact hst.2.2 (by omega) hn
          rw [h6] at hS
          exact ⟨S, .claim hS (by decide) (.inr rfl) .nil, h.same rfl⟩
      · exact ⟨S, .nil, h⟩
  · split
    · refine ⟨S, .nil, h.sub fun d hd => ?_⟩
      unfold lostP at hd
      split at hd
      · exact hd
      · split at hd
        · simp at hd
        · exact (List.mem_filter.1 hd).1
    · split
      · exact fine_start h hG b
      · split
        · exact fine_hear h hG b
        · exact ⟨S, .nil, h⟩
end Go.Proofs.Ytlkbjkmpanohfaa
