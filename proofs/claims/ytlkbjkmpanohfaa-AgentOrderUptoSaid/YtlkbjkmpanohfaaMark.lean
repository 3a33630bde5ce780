/-
  A drawn region in which new rows may be marked as a text's memory.
-/
import Derived.Test.YtlkbjkmpanohfaaSl
import Derived.Lib.SlBytesConst
set_option linter.unusedVariables false
set_option linter.unusedSimpArgs false
namespace Go.Proofs.Ytlkbjkmpanohfaa
open Go
/-- A new object; a new row perhaps with its mark. -/
def rowM (x : Nat × Obj) : Asn := fun h => h x.1 = some x.2 ∨ ∃ c t, x.2 = .cells c t ∧ h x.1 = some (.cells c t (c.size, c.size + 1))
def StM (W : World) (l : List Asn) : Cls where
  p := fun G w => St W (l ++ G.map rowM) w
  drew := fun G w h => St.drew h
  new := fun G w o h => St.push l ((St.alloc h o).imp fun _ h => .inl h)
  perm := fun hp h => h.perm ((hp.map _).append_left l)
theorem StM.start {W w : World} {l : List Asn} (h : St W l w) : (StM W l).p [] w := by
  show St W (l ++ []) w
  rw [List.append_nil]; exact h
theorem StM.ends {W w : World} {l : List Asn} {G : List (Nat × Obj)} (h : (StM W l).p G w) : St W l w := St.keep l h
theorem rowM.row {b : Nat} {c : Array Value} {t : TypeId} : ∀ h, rowM (b, .cells c t) h → Row b t c.toList h := fun h hh => by
  rcases hh with hh | ⟨c', t', e, hh⟩
  · exact ⟨c, (0, 0), hh, rfl, fun i _ => by omega⟩
  · cases e
    exact ⟨c, (c.size, c.size + 1), hh, rfl, fun i hi => by simp at hi; simp only; omega⟩
theorem modify_set (a : Array Obj) (b : Nat) (f : Obj → Obj) (o : Obj) (h : a[b]? = some o) : a.modify b f = a.setIfInBounds b (f o) := by
  apply Array.ext_getElem?
  intro i
  rw [Array.getElem?_modify, Array.getElem?_setIfInBounds]
  have hb : b < a.size := by
    rcases Nat.lt_or_ge b a.size with h' | h'
    · exact h'
    · rw [Array.getElem?_eq_none h'] at h; cases h
  by_cases e : b = i
  · subst e; rw [if_pos rfl, if_pos rfl, if_pos hb, h]; rfl
  · rw [if_neg e, if_neg e]
theorem St.freeze {W w : World} {l : List Asn} {b : Nat} {c : Array Value} {t : TypeId} (h : St W (rowM (b, .cells c t) :: l) w) : (∃ fz, w.heap[b]? = some (.cells c t fz)) ∧ St W (rowM (b, .cells c t) :: l) (w.freeze ⟨b, c.size, none⟩ 1) := by
  have fin : ∀ o, (o = .cells c t ∨ o = .cells c t (c.size, c.size + 1)) → St W (Pt b o :: l) w → (∃ fz, w.heap[b]? = some (.cells c t fz)) ∧ St W (rowM (b, .cells c t) :: l) (w.freeze ⟨b, c.size, none⟩ 1) := fun o ho h => by
    have ht := h.turn (o' := .cells c t (c.size, c.size + 1))
    refine ⟨by rcases ho with rfl | rfl <;> exact ⟨_, ht.1⟩, ?_⟩
    have e : w.freeze ⟨b, c.size, none⟩ 1 = { w with heap := w.heap.setIfInBounds b (.cells c t (c.size, c.size + 1)) } := by
      unfold World.freeze
      rw [if_neg (by decide), modify_set _ _ _ _ ht.1]
      rcases ho with rfl | rfl
      · rfl
      · simp
    rw [e]
    exact ht.2.imp fun h hh => .inr ⟨c, t, rfl, hh⟩
  obtain ⟨h0, g, h1, h2, h3⟩ := h
  rcases h2 with h2 | ⟨c', t', e, h2⟩
  · exact fin _ (.inl rfl) ⟨h0, g, h1, h2, h3⟩
  · cases e; exact fin _ (.inr rfl) ⟨h0, g, h1, h2, h3⟩
theorem conv_mark {P : Program} {W w : World} {l : List Asn} {T e : TypeId} (ht : P.underlying T = some (.slice e)) (he : P.underlying e = some (.int .u8)) {b n cap : Nat} {c : Array Value} {F : Value → World → Prop} (hS : St W (rowM (b, .cells c e) :: l) w)
    (hF : ∀ w', St W (rowM (b, .cells c e) :: l) w' → F (.slice (some ⟨b, 0, none⟩) n cap) w') : Run P (convert T T (.slice (some ⟨b, 0, none⟩) n cap)) w F := by
  obtain ⟨⟨fz, hb⟩, h⟩ := St.freeze hS
  refine ⟨_, _, ?_, hF _ h⟩
  have hsh : w.shape? b = some (e, c.size) := by
    unfold World.shape?
    rw [hb]
  simp [convert, run_underlying ht, run_underlying he, markStringish, hsh]
end Go.Proofs.Ytlkbjkmpanohfaa
