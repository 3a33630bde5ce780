/-
  Alarms, in plain Lean: their order; rows of them; all of a clock.
-/
import Derived.Test.YtgmpnonjhpopdaaHeapT
import Derived.Test.YtgmpnonjhpopdaaSl
set_option linter.unusedVariables false
set_option linter.unusedSimpArgs false
namespace Go.Proofs.Ytgmpnonjhpopdaa
open Go
/-- An alarm: a number, and when it goes. -/
abbrev Al := Int × Int
def leA (x y : Al) : Prop := x.2 < y.2 ∨ x.2 = y.2 ∧ x.1 ≤ y.1
instance (x y : Al) : Decidable (leA x y) := by unfold leA; infer_instance
theorem leA_ord : Order leA := ⟨fun a b c h1 h2 => by unfold leA at *; omega, fun a b => by unfold leA; omega⟩
theorem leA_anti {x y : Al} (h1 : leA x y) (h2 : leA y x) : x = y := by
  unfold leA at *
  exact Prod.ext (by omega) (by omega)
/-- Sorted, each number once. -/
def Srt (l : List Al) : Prop := l.Pairwise leA ∧ (l.map (·.1)).Nodup
structure ClG where
  now : Int
  al : List Al
def delA (l : List Al) (id : Int) : List Al := l.filter fun x => decide (x.1 ≠ id)
def insA (x : Al) : List Al → List Al
  | [] => [x]
  | y :: r => if leA x y then x :: y :: r else y :: insA x r
def getA (l : List Al) (id : Int) : Option Int := (l.find? fun x => decide (x.1 = id)).map (·.2)
def maxN : Int := 1099511627776
def cSet (G : ClG) (id tm : Int) : ClG × Int :=
  if tm ≤ G.now ∨ tm > 2199023255552 then (G, 1)
  else if (getA G.al id).isNone ∧ G.al.length ≥ 1024 then (G, 2)
  else (⟨G.now, insA (id, tm) (delA G.al id)⟩, 0)
def cDrop (G : ClG) (id : Int) : ClG × Bool := (⟨G.now, delA G.al id⟩, (getA G.al id).isSome)
def cTick (G : ClG) (n : Int) : ClG × List Int × Int :=
  if n < 0 ∨ n > maxN - G.now then (G, [], 1)
  else (⟨G.now + n, G.al.filter fun x => decide (¬ x.2 ≤ G.now + n)⟩, (G.al.filter fun x => decide (x.2 ≤ G.now + n)).map (·.1), 0)
/-- All of it is well. -/
structure COk (G : ClG) : Prop where
  srt : Srt G.al
  now0 : 0 ≤ G.now
  now1 : G.now ≤ maxN
  late : ∀ x ∈ G.al, G.now < x.2 ∧ x.2 ≤ 2199023255552
  many : G.al.length ≤ 1024
theorem COk.new : COk ⟨0, []⟩ := ⟨⟨.nil, .nil⟩, by simp, by simp [maxN], by simp, by simp⟩
theorem delA_sub (l : List Al) (id : Int) : (delA l id).Sublist l := List.filter_sublist
theorem delA_srt {l : List Al} (h : Srt l) (id : Int) : Srt (delA l id) := ⟨h.1.sublist (delA_sub l id), h.2.sublist ((delA_sub l id).map _)⟩
theorem delA_mem {l : List Al} {id : Int} {x : Al} : x ∈ delA l id ↔ x ∈ l ∧ x.1 ≠ id := by unfold delA; simp
theorem insA_perm (x : Al) (l : List Al) : (insA x l).Perm (x :: l) := by
  induction l with
  | nil => exact .refl _
  | cons y r ih =>
    simp only [insA]
    split
    · exact .refl _
    · exact (ih.cons y).trans (List.Perm.swap _ _ _)
theorem insA_mem {x y : Al} {l : List Al} : y ∈ insA x l ↔ y = x ∨ y ∈ l := by rw [(insA_perm x l).mem_iff, List.mem_cons]
theorem insA_srt {x : Al} {l : List Al} (h : Srt l) (hn : ∀ y ∈ l, y.1 ≠ x.1) : Srt (insA x l) := by
  refine ⟨?_, ?_⟩
  · have h1 := h.1
    clear hn h
    induction l with
    | nil => simp [insA]
    | cons y r ih =>
      simp only [insA]
      have h2 := List.pairwise_cons.1 h1
      split
      · rename_i hx
        refine List.pairwise_cons.2 ⟨fun z hz => ?_, h1⟩
        rcases List.mem_cons.1 hz with rfl | hz
        · exact hx
        · exact leA_ord.trans _ _ _ hx (h2.1 z hz)
      · rename_i hx
        refine List.pairwise_cons.2 ⟨fun z hz => ?_, ih h2.2⟩
        rcases insA_mem.1 hz with rfl | hz
        · exact (leA_ord.total _ _).resolve_right hx
        · exact h2.1 z hz
  · rw [((insA_perm x l).map _).nodup_iff, List.map_cons, List.nodup_cons]
    refine ⟨fun hm => ?_, h.2⟩
    obtain ⟨y, hy, e⟩ := List.mem_map.1 hm
    exact hn y hy e
theorem find_mem {l : List Al} {id tm : Int} (hn : (l.map (·.1)).Nodup) : getA l id = some tm ↔ (id, tm) ∈ l := by
  unfold getA
  induction l with
  | nil => simp
  | cons y r ih =>
    simp only [List.map_cons, List.nodup_cons] at hn
    rw [List.find?_cons]
    by_cases e : y.1 = id
    · simp only [e, decide_true, Option.map_some, Option.some.injEq, List.mem_cons]
      constructor
      · rintro rfl; exact .inl (by rw [← e])
      · rintro (h | h)
        · rw [← h]
        · exact absurd (List.mem_map.2 ⟨_, h, rfl⟩) (by rw [← e] at *; exact hn.1)
    · simp only [e, decide_false, ih hn.2, List.mem_cons]
      constructor
      · exact .inr
      · rintro (h | h)
        · exact absurd (by rw [← h]) e
        · exact h
theorem get_none {l : List Al} {id : Int} : getA l id = none ↔ ∀ x ∈ l, x.1 ≠ id := by
  unfold getA
  rw [Option.map_eq_none_iff, List.find?_eq_none]
  simp
theorem delA_none {l : List Al} {id : Int} (h : getA l id = none) : delA l id = l := by
  unfold delA
  rw [List.filter_eq_self]
  intro x hx
  simpa using get_none.1 h x hx
theorem COk.set {G : ClG} (h : COk G) (id tm : Int) : COk (cSet G id tm).1 := by
  unfold cSet
  split
  · exact h
  · rename_i h1
    split
    · exact h
    · rename_i h2
      refine ⟨insA_srt (delA_srt h.srt id) fun y hy => (delA_mem.1 hy).2, h.now0, h.now1, fun x hx => ?_, ?_⟩
      · rcases insA_mem.1 hx with rfl | hx
        · dsimp only; omega
        · exact h.late x (delA_mem.1 hx).1
      · dsimp only
        rw [(insA_perm _ _).length_eq, List.length_cons]
        have hs := (delA_sub G.al id).length_le
        cases hg : getA G.al id with
        | none =>
          rw [hg] at h2
          have : ¬ G.al.length ≥ 1024 := fun hh => h2 ⟨rfl, hh⟩
          omega
        | some t =>
          have hm := (find_mem h.srt.2).1 hg
          have : (delA G.al id).length < G.al.length := by
            unfold delA
            exact List.length_filter_lt_length_iff_exists.2 ⟨_, hm, by simp⟩
          have := h.many
          omega
theorem COk.drop {G : ClG} (h : COk G) (id : Int) : COk (cDrop G id).1 := ⟨delA_srt h.srt id, h.now0, h.now1, fun x hx => h.late x (delA_mem.1 hx).1, Nat.le_trans (delA_sub G.al id).length_le h.many⟩
theorem COk.tick {G : ClG} (h : COk G) (n : Int) : COk (cTick G n).1 := by
  unfold cTick
  split
  · exact h
  · rename_i hn
    have hs : (G.al.filter fun x => decide (¬ x.2 ≤ G.now + n)).Sublist G.al := List.filter_sublist
    refine ⟨⟨h.srt.1.sublist hs, h.srt.2.sublist (hs.map _)⟩, ?_, ?_, fun x hx => ?_, Nat.le_trans hs.length_le h.many⟩
    · have := h.now0; dsimp only; omega
    · dsimp only; omega
    · obtain ⟨h1, h2⟩ := List.mem_filter.1 hx
      have := h.late x h1
      have h2 : ¬ x.2 ≤ G.now + n := by simpa using h2
      dsimp only
      omega
/-- Sorted rows of the same alarms are the same. -/
theorem srt_perm {a b : List Al} (ha : a.Pairwise leA) (hb : b.Pairwise leA) (hp : a.Perm b) : a = b := hp.eq_of_pairwise (fun _ _ _ _ h1 h2 => leA_anti h1 h2) ha hb
end Go.Proofs.Ytgmpnonjhpopdaa
