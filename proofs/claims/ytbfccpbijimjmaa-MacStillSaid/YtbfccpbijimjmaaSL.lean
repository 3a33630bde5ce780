/-
  Memory by parts: rows of cells that are owned, one apart from the other; all else is a frame.
-/
import Derived.Test.YtbfccpbijimjmaaLift
set_option linter.unusedVariables false
set_option linter.unusedSimpArgs false
namespace Go.Proofs.Ytbfccpbijimjmaa
open Go

abbrev Hp := Nat → Option Obj
abbrev Asn := Hp → Prop
def hpOf (w : World) : Hp := fun b => w.heap[b]?
def HSub (h H : Hp) : Prop := ∀ b o, h b = some o → H b = some o
def cutH (H h : Hp) : Hp := fun b => match h b with | some _ => none | none => H b

def Own : List Asn → Hp → Prop
  | [], _ => True
  | A :: r, H => ∃ h, HSub h H ∧ A h ∧ Own r (cutH H h)

theorem HSub.refl (h : Hp) : HSub h h := fun _ _ h => h
theorem HSub.trans {a b c : Hp} (h : HSub a b) (k : HSub b c) : HSub a c := fun x o hx => k x o (h x o hx)
theorem HSub.cut (H h : Hp) : HSub (cutH H h) H := fun b o hb => by
  unfold cutH at hb
  split at hb
  · cases hb
  · exact hb
theorem cut_mono {H H' : Hp} (hs : HSub H H') (h : Hp) : HSub (cutH H h) (cutH H' h) := fun b o hb => by
  unfold cutH at *
  split at hb
  · cases hb
  · exact hs b o hb

theorem Own.mono : ∀ {l : List Asn} {H H' : Hp}, HSub H H' → Own l H → Own l H'
  | [], _, _, _, _ => trivial
  | A :: r, H, H', hs, ⟨h, h1, h2, h3⟩ => ⟨h, h1.trans hs, h2, Own.mono (cut_mono hs h) h3⟩

theorem Own.swap {A B : Asn} {r : List Asn} {H : Hp} : Own (A :: B :: r) H → Own (B :: A :: r) H := by
  rintro ⟨h, h1, h2, g, g1, g2, g3⟩
  refine ⟨g, g1.trans (HSub.cut _ _), g2, h, fun b o hb => ?_, h2, Own.mono (fun b o hb => ?_) g3⟩
  · unfold cutH
    cases hg : g b with
    | some u =>
      have := g1 b u hg
      unfold cutH at this
      rw [hb] at this
      cases this
    | none => exact h1 b o hb
  · unfold cutH at hb ⊢
    cases hg : g b with
    | some u => simp [hg] at hb
    | none =>
      simp only [hg] at hb
      cases hh : h b with
      | some u => simp [hh] at hb
      | none => simpa [hh] using hb

theorem Own.tail {A : Asn} {r : List Asn} {H : Hp} : Own (A :: r) H → Own r H := fun ⟨h, _, _, h3⟩ => Own.mono (HSub.cut _ _) h3
theorem Own.imp {A B : Asn} (hi : ∀ h, A h → B h) {r : List Asn} {H : Hp} : Own (A :: r) H → Own (B :: r) H := fun ⟨h, h1, h2, h3⟩ => ⟨h, h1, hi h h2, h3⟩
theorem Own.rest {A : Asn} {r s : List Asn} (hi : ∀ h, Own r h → Own s h) {H : Hp} : Own (A :: r) H → Own (A :: s) H := fun ⟨h, h1, h2, h3⟩ => ⟨h, h1, h2, hi _ h3⟩
theorem Own.perm {l m : List Asn} (hp : l.Perm m) : ∀ {H : Hp}, Own l H → Own m H := by
  induction hp with
  | nil => exact fun h => h
  | cons x _ ih => exact fun h => h.rest fun _ k => ih k
  | swap x y l => exact fun h => h.swap
  | trans _ _ ih1 ih2 => exact fun h => ih2 (ih1 h)

/-- Several as one. -/
def sepA (l : List Asn) : Asn := fun h => Own l h
def exA {α : Type} (F : α → Asn) : Asn := fun h => ∃ x, F x h
def prA (p : Prop) : Asn := fun _ => p

theorem Own.of_sep : ∀ {l r : List Asn} {H : Hp}, Own (sepA l :: r) H → Own (l ++ r) H
  | [], r, H, h => h.tail
  | A :: l, r, H, ⟨h, h1, ⟨g, g1, g2, g3⟩, h3⟩ => by
    refine ⟨g, g1.trans h1, g2, Own.of_sep (l := l) ⟨cutH h g, cut_mono h1 g, g3, Own.mono (fun b o hb => ?_) h3⟩⟩
    unfold cutH at hb ⊢
    cases hh : h b with
    | some u => simp [hh] at hb
    | none =>
      simp only [hh] at hb
      cases hg : g b with
      | some u => rw [g1 b u hg] at hh; cases hh
      | none => exact hb
theorem Own.to_sep : ∀ {l r : List Asn} {H : Hp}, Own (l ++ r) H → Own (sepA l :: r) H
  | [], r, H, h => ⟨fun _ => none, fun b o hb => by (cases hb), trivial, h⟩
  | A :: l, r, H, ⟨g, g1, g2, h⟩ => by
    obtain ⟨h, h1, h2, h3⟩ := Own.to_sep (l := l) (r := r) h
    have key : ∀ b o, h b = some o → g b = none ∧ H b = some o := fun b o hb => by
      have := h1 b o hb
      unfold cutH at this
      cases hg : g b with
      | some u => simp [hg] at this
      | none => exact ⟨rfl, by simpa [hg] using this⟩
    refine ⟨fun b => match g b with | some u => some u | none => h b, fun b o hb => ?_, ⟨g, fun b o hb => by simp [hb], g2, Own.mono (fun b o hb => ?_) h2⟩, Own.mono (fun b o hb => ?_) h3⟩
    · simp only at hb
      cases hg : g b with
      | some x => rw [hg] at hb; cases hb; exact g1 b _ hg
      | none => rw [hg] at hb; exact (key b o hb).2
    · unfold cutH
      simp [(key b o hb).1, hb]
    · unfold cutH at hb ⊢
      cases hh : h b with
      | some u => simp [hh] at hb
      | none =>
        simp only [hh] at hb
        cases hg : g b with
        | some u => simp [hg] at hb
        | none => simp only [hg, hh] at hb ⊢; exact hb

/-! ### The world -/
structure Same (W w : World) : Prop where
  os : w.os = W.os
  tape : w.tape = W.tape
  output : w.output = W.output
  size : W.heap.size ≤ w.heap.size
def St (W : World) (l : List Asn) (w : World) : Prop := Same W w ∧ Own l (hpOf w)

section
variable {W w : World} {l r : List Asn} {A B C D E : Asn}
theorem St.perm {m : List Asn} (h : St W l w) (hp : l.Perm m) : St W m w := ⟨h.1, h.2.perm hp⟩
theorem St.drop (h : St W (A :: r) w) : St W r w := ⟨h.1, h.2.tail⟩
theorem St.imp (h : St W (A :: r) w) (hi : ∀ h, A h → B h) : St W (B :: r) w := ⟨h.1, h.2.imp hi⟩
theorem St.p1 (h : St W (A :: B :: r) w) : St W (B :: A :: r) w := ⟨h.1, h.2.swap⟩
theorem St.p2 (h : St W (A :: B :: C :: r) w) : St W (C :: A :: B :: r) w := h.perm (((List.Perm.swap C B r).cons A).trans (List.Perm.swap C A (B :: r)))
theorem St.p3 (h : St W (A :: B :: C :: D :: r) w) : St W (D :: A :: B :: C :: r) w := h.perm ((List.Perm.cons A ((List.Perm.swap D C r).cons B |>.trans (List.Perm.swap D B (C :: r)))).trans (List.Perm.swap D A (B :: C :: r)))
theorem St.p4 (h : St W (A :: B :: C :: D :: E :: r) w) : St W (E :: A :: B :: C :: D :: r) w := by
  refine h.perm ?_
  exact (List.perm_middle (a := E) (l₁ := [A, B, C, D]) (l₂ := r))
/-- Whatever stands behind so many comes to the head. -/
theorem St.pull (l₁ : List Asn) (h : St W (l₁ ++ A :: r) w) : St W (A :: (l₁ ++ r)) w := h.perm List.perm_middle
theorem St.push (l₁ : List Asn) (h : St W (A :: (l₁ ++ r)) w) : St W (l₁ ++ A :: r) w := h.perm List.perm_middle.symm
theorem St.of_sep (h : St W (sepA l :: r) w) : St W (l ++ r) w := ⟨h.1, h.2.of_sep⟩
theorem St.to_sep (h : St W (l ++ r) w) : St W (sepA l :: r) w := ⟨h.1, h.2.to_sep⟩
theorem St.of_ex {α : Type} {F : α → Asn} (h : St W (exA F :: r) w) : ∃ x, St W (F x :: r) w := by
  obtain ⟨h0, g, h1, ⟨x, h2⟩, h3⟩ := h
  exact ⟨x, h0, g, h1, h2, h3⟩
theorem St.to_ex {α : Type} {F : α → Asn} (x : α) (h : St W (F x :: r) w) : St W (exA F :: r) w := h.imp fun _ h => ⟨x, h⟩
theorem St.of_pr {p : Prop} (h : St W (prA p :: r) w) : p ∧ St W r w := by
  obtain ⟨h0, g, h1, h2, h3⟩ := h
  exact ⟨h2, h0, Own.mono (HSub.cut _ _) h3⟩
theorem St.to_pr {p : Prop} (hp : p) (h : St W r w) : St W (prA p :: r) w := ⟨h.1, fun _ => none, fun b o hb => by (cases hb), hp, h.2⟩
theorem St.drew (h : St W l w) : St W l { w with drawn := w.drawn + 1 } := ⟨⟨h.1.os, h.1.tape, h.1.output, h.1.size⟩, h.2⟩
theorem St.refl (W : World) : St W [] W := ⟨⟨rfl, rfl, rfl, Nat.le_refl _⟩, trivial⟩
end

/-! ### Blocks -/
/-- Block b is this. -/
def Pt (b : Nat) (o : Obj) : Asn := fun h => h b = some o
/-- Block b is a row of these cells; none of them is barred. -/
def Row (b : Nat) (t : TypeId) (cs : List Value) : Asn := fun h => ∃ (c : Array Value) (fz : Nat × Nat), h b = some (.cells c t fz) ∧ c.toList = cs ∧ ∀ i, i < cs.length → ¬ (fz.1 ≤ i ∧ i < fz.2)

theorem heap_alloc_old (w : World) (o : Obj) (b : Nat) (h : b < w.heap.size) : (w.alloc o).heap[b]? = w.heap[b]? := by
  show (w.heap.push o)[b]? = _
  rw [Array.getElem?_push, if_neg (by omega)]
theorem heap_alloc_at (w : World) (o : Obj) : (w.alloc o).heap[w.heap.size]? = some o := by
  show (w.heap.push o)[w.heap.size]? = _
  simp
theorem lt_of_heap {w : World} {b : Nat} {o : Obj} (h : w.heap[b]? = some o) : b < w.heap.size := by
  rcases Nat.lt_or_ge b w.heap.size with hlt | hge
  · exact hlt
  · rw [Array.getElem?_eq_none hge] at h; cases h

theorem St.alloc {W w : World} {l : List Asn} (h : St W l w) (o : Obj) : St W (Pt w.heap.size o :: l) (w.alloc o) := by
  refine ⟨⟨h.1.os, h.1.tape, h.1.output, by have := h.1.size; simp; omega⟩, fun b => if b = w.heap.size then some o else none, fun b u hb => ?_, by simp [Pt], Own.mono (fun b u hb => ?_) h.2⟩
  · simp only at hb
    split at hb
    · rename_i e; subst e; cases hb; exact heap_alloc_at w o
    · cases hb
  · have hlt := lt_of_heap hb
    unfold cutH
    simp only [if_neg (show ¬ b = w.heap.size by omega)]
    exact (heap_alloc_old w o b hlt).trans hb
theorem Pt.row {b : Nat} {t : TypeId} {c : Array Value} : ∀ h, Pt b (.cells c t) h → Row b t c.toList h := fun h hb => ⟨c, (0, 0), hb, rfl, fun i _ => by omega⟩
theorem St.allocRow {W w : World} {l : List Asn} (h : St W l w) (c : Array Value) (t : TypeId) : St W (Row w.heap.size t c.toList :: l) (w.alloc (.cells c t)) := (h.alloc _).imp Pt.row

def cellH (H : Hp) (a : Addr) : Option Value := match H a.block with
  | some (.cells c _ _) => if a.spot.isSome then none else c[a.off]?
  | _ => none
theorem cellH_of (w : World) (a : Addr) : cellH (hpOf w) a = w.cell? a := rfl
theorem cellH_mono {h H : Hp} (hs : HSub h H) {a : Addr} {v : Value} (hc : cellH h a = some v) : cellH H a = some v := by
  unfold cellH at *
  split at hc
  · rename_i hb; rw [hs _ _ hb]; exact hc
  · cases hc

theorem Row.cell {b : Nat} {t : TypeId} {cs : List Value} {h : Hp} (hr : Row b t cs h) {i : Nat} {v : Value} (hi : cs[i]? = some v) : cellH h ⟨b, i, none⟩ = some v := by
  obtain ⟨c, fz, hb, rfl, _⟩ := hr
  unfold cellH
  simp only [hb]
  simpa using hi
theorem St.ld {W w : World} {r : List Asn} {b : Nat} {t : TypeId} {cs : List Value} (h : St W (Row b t cs :: r) w) {i : Nat} {v : Value} (hi : cs[i]? = some v) : w.cell? ⟨b, i, none⟩ = some v := by
  obtain ⟨_, g, h1, h2, _⟩ := h
  exact cellH_mono h1 (h2.cell hi)

theorem St.st {W w : World} {r : List Asn} {b : Nat} {t : TypeId} {cs : List Value} (h : St W (Row b t cs :: r) w) {i : Nat} (hi : i < cs.length) (v : Value) :
    ((∃ u, w.cell? ⟨b, i, none⟩ = some u) ∧ w.frozen? ⟨b, i, none⟩ = false) ∧ St W (Row b t (cs.set i v) :: r) (w.setCell ⟨b, i, none⟩ v) := by
  have hc := h.ld (List.getElem?_eq_getElem hi)
  obtain ⟨h0, g, h1, ⟨c, fz, hb, hl, hz⟩, h3⟩ := h
  have hw : w.heap[b]? = some (.cells c t fz) := h1 b _ hb
  refine ⟨⟨⟨_, hc⟩, ?_⟩, ⟨h0.os, h0.tape, h0.output, by simpa [World.setCell] using h0.size⟩, fun x => if x = b then some (.cells (c.setIfInBounds i v) t fz) else g x, fun x o hx => ?_, ⟨c.setIfInBounds i v, fz, by simp, by simp [hl], by simpa using hz⟩, Own.mono (fun x o hx => ?_) h3⟩
  · unfold World.frozen?
    simp only [hw]
    have := hz i hi
    simp only [Bool.and_eq_false_iff, decide_eq_false_iff_not]
    omega
  · simp only at hx
    unfold hpOf World.setCell
    simp only [Array.getElem?_modify]
    split at hx
    · rename_i e; subst e; cases hx; simp [hw]
    · rename_i e; rw [if_neg (fun h => e h.symm)]; exact h1 x o hx
  · unfold cutH at hx ⊢
    cases hg : g x with
    | some u => simp [hg] at hx
    | none =>
      simp only [hg] at hx
      have hxb : ¬ x = b := fun e => by subst e; rw [hb] at hg; cases hg
      simp only [if_neg hxb, hg]
      unfold hpOf World.setCell
      simp only [Array.getElem?_modify]
      rw [if_neg (fun h => hxb h.symm)]
      exact hx

/-! ### What was there when the law began -/
def Base (W : World) : Asn := fun h => ∀ b o, W.heap[b]? = some o → h b = some o
theorem St.base (W : World) : St W [Base W] W := ⟨⟨rfl, rfl, rfl, Nat.le_refl _⟩, hpOf W, HSub.refl _, fun _ _ h => h, trivial⟩
theorem St.below {W w : World} {r : List Asn} (h : St W (Base W :: r) w) : RowKit.Below W.heap.size W w := by
  obtain ⟨h0, g, h1, h2, _⟩ := h
  refine ⟨h0.os, h0.tape, h0.output, h0.size, fun k hk => ?_⟩
  have e : W.heap[k]? = some W.heap[k] := Array.getElem?_eq_getElem hk
  rw [e]
  exact h1 k _ (h2 k _ e)

/-! ### Rows that can be read -/
/-- In each heap of this kind the slice holds these cells. -/
def Rd (F : List Asn) (p : Option Addr) (cs : List Value) : Prop := ∀ H, Own F H → ∀ i v, cs[i]? = some v → ∃ a, p = some a ∧ cellH H (a.add i) = some v
theorem Rd.nil (F : List Asn) (p : Option Addr) : Rd F p [] := fun H _ i v h => by simp at h
theorem Rd.cons {F : List Asn} {p : Option Addr} {cs : List Value} (h : Rd F p cs) (A : Asn) : Rd (A :: F) p cs := fun H hH i v hi => by
  obtain ⟨g, _, _, h3⟩ := hH
  obtain ⟨a, ha, hc⟩ := h _ h3 i v hi
  exact ⟨a, ha, cellH_mono (HSub.cut _ _) hc⟩
theorem Rd.perm {F G : List Asn} {p : Option Addr} {cs : List Value} (h : Rd F p cs) (hp : G.Perm F) : Rd G p cs := fun H hH => h H (hH.perm hp)
theorem Rd.app {F : List Asn} {p : Option Addr} {cs : List Value} (h : Rd F p cs) (G : List Asn) : Rd (F ++ G) p cs := by
  have : Rd (G ++ F) p cs := by
    induction G with
    | nil => exact h
    | cons A r ih => exact ih.cons A
  exact this.perm List.perm_append_comm
theorem Rd.of {W w : World} {F : List Asn} {p : Option Addr} {cs : List Value} (h : Rd F p cs) (hS : St W F w) {i : Nat} {v : Value} (hi : cs[i]? = some v) : ∃ a, p = some a ∧ w.cell? (a.add i) = some v := h _ hS.2 i v hi
theorem add_at (b o i : Nat) : Addr.add ⟨b, o, none⟩ i = ⟨b, o + i, none⟩ := by
  unfold Addr.add
  split
  · rename_i h; subst h; rfl
  · rfl
theorem Rd.row {F : List Asn} {b : Nat} {t : TypeId} {all : List Value} (o : Nat) {cs : List Value} (h : ∀ i v, cs[i]? = some v → all[o + i]? = some v) : Rd (Row b t all :: F) (some ⟨b, o, none⟩) cs := fun H hH i v hi => by
  obtain ⟨g, h1, h2, _⟩ := hH
  exact ⟨_, rfl, by rw [add_at]; exact cellH_mono h1 (h2.cell (h i v hi))⟩

/-! ### Classes -/
def pts (G : List (Nat × Obj)) : List Asn := G.map fun x => Pt x.1 x.2
def StC (W : World) (l : List Asn) : Cls where
  p := fun G w => St W (l ++ pts G) w
  drew := fun G w h => St.drew h
  new := fun G w o h => (St.alloc h o).push l
  perm := fun hp h => h.perm ((hp.map _).append_left l)
theorem StC.pushed {W w : World} {l : List Asn} {x : Nat × Obj} {G : List (Nat × Obj)} (h : ((StC W l).push x).p G w) : St W (Pt x.1 x.2 :: (l ++ pts G)) w := St.pull l h
theorem isR0 : isR [] (.tuple #[]) := ⟨[], trivial, rfl⟩
theorem isR2 {a b : Ty} {x y : Value} (h1 : isT a x) (h2 : isT b y) : isR [a, b] (.tuple #[x, y]) := ⟨[x, y], ⟨h1, h2, trivial⟩, rfl⟩
theorem isR3 {a b c : Ty} {x y z : Value} (h1 : isT a x) (h2 : isT b y) (h3 : isT c z) : isR [a, b, c] (.tuple #[x, y, z]) := ⟨[x, y, z], ⟨h1, h2, h3, trivial⟩, rfl⟩
/-- A class where this holds, too. -/
def Cls.only (φ : Prop) (C : Cls) : Cls where
  p := fun G w => φ ∧ C.p G w
  drew := fun G w h => ⟨h.1, C.drew G w h.2⟩
  new := fun G w o h => ⟨h.1, C.new G w o h.2⟩
  perm := fun hp h => ⟨h.1, C.perm hp h.2⟩
/-- A class for one of these. -/
def Cls.some {α : Type} (C : α → Cls) : Cls where
  p := fun G w => ∃ a, (C a).p G w
  drew := fun G w h => h.imp fun a h => (C a).drew G w h
  new := fun G w o h => h.imp fun a h => (C a).new G w o h
  perm := fun hp h => h.imp fun a h => (C a).perm hp h
theorem StC.start {W w : World} {l : List Asn} (h : St W l w) : (StC W l).p [] w := by
  show St W (l ++ []) w
  rw [List.append_nil]; exact h
theorem StC.ends {W w : World} {l : List Asn} {G : List (Nat × Obj)} (h : (StC W l).p G w) : St W l w := by
  have h' : St W (pts G ++ l) w := St.perm h List.perm_append_comm
  generalize pts G = k at h'
  induction k with
  | nil => exact h'
  | cons A r ih => exact ih h'.drop

/-! ### Places in a list of parts -/
def nth : List Asn → Nat → Option Asn
  | [], _ => none
  | A :: _, 0 => some A
  | _ :: r, n + 1 => nth r n
def del : List Asn → Nat → List Asn
  | [], _ => []
  | _ :: r, 0 => r
  | A :: r, n + 1 => A :: del r n
/-- These in place of the one. -/
def put : List Asn → Nat → List Asn → List Asn
  | [], _, _ => []
  | _ :: r, 0, B => B ++ r
  | A :: r, n + 1, B => A :: put r n B
theorem nth_perm : ∀ {l : List Asn} {n : Nat} {A : Asn}, nth l n = some A → l.Perm (A :: del l n)
  | B :: r, 0, A, h => by simp [nth] at h; subst h; exact .refl _
  | B :: r, n + 1, A, h => ((nth_perm (l := r) (n := n) h).cons B).trans (List.Perm.swap A B _)
theorem put_perm : ∀ {l : List Asn} {n : Nat} {A : Asn} (B : List Asn), nth l n = some A → (B ++ del l n).Perm (put l n B)
  | C :: r, 0, A, B, h => .refl _
  | C :: r, n + 1, A, B, h => (List.perm_middle).trans ((put_perm (l := r) (n := n) B h).cons C)
theorem nth_app : ∀ {l : List Asn} {n : Nat} {A : Asn} (k : List Asn), nth l n = some A → nth (l ++ k) n = some A ∧ del (l ++ k) n = del l n ++ k ∧ ∀ B, put (l ++ k) n B = put l n B ++ k
  | C :: r, 0, A, k, h => ⟨h, rfl, fun B => by simp [put]⟩
  | C :: r, n + 1, A, k, h => by
    obtain ⟨h1, h2, h3⟩ := nth_app (l := r) (n := n) k h
    exact ⟨h1, by simp [del, h2], fun B => by simp [put, h3]⟩
section
variable {W w : World} {l : List Asn} {A : Asn}
theorem St.at (n : Nat) (h : St W l w) (hn : nth l n = some A) : St W (A :: del l n) w := h.perm (nth_perm hn)
theorem St.back (n : Nat) (hn : nth l n = some A) {B : List Asn} {w' : World} (h : St W (B ++ del l n) w') : St W (put l n B) w' := h.perm (put_perm B hn)
/-- One goes. -/
theorem St.del (n : Nat) (h : St W l w) (hn : nth l n = some A) : St W (del l n) w := (h.at n hn).drop
end

def ins : Nat → Asn → List Asn → List Asn
  | 0, A, l => A :: l
  | _ + 1, A, [] => [A]
  | n + 1, A, B :: r => B :: ins n A r
theorem ins_perm : ∀ (n : Nat) (A : Asn) (l : List Asn), (A :: l).Perm (ins n A l)
  | 0, A, l => .refl _
  | _ + 1, A, [] => .refl _
  | n + 1, A, B :: r => (List.Perm.swap B A r).trans ((ins_perm n A r).cons B)
/-- One goes to another place. -/
theorem St.mv {W w : World} {l : List Asn} {A : Asn} (i j : Nat) (h : St W l w) (hn : nth l i = some A) : St W (ins j A (Go.Proofs.Ytbfccpbijimjmaa.del l i)) w := (h.at i hn).perm (ins_perm j A _)

/-! ### Classes that are a list of parts -/
/-- The class is this list of parts. -/
def Is (W : World) (C : Cls) (l : List Asn) : Prop := ∀ G w, C.p G w ↔ St W (l ++ pts G) w
theorem Is.refl (W : World) (l : List Asn) : Is W (StC W l) l := fun _ _ => .rfl
theorem Is.push {W : World} {C : Cls} {l : List Asn} (h : Is W C l) (b : Nat) (o : Obj) : Is W (C.push (b, o)) (Pt b o :: l) := fun G w =>
  (h _ w).trans ⟨fun h => St.pull l h, fun h => St.push l h⟩
end Go.Proofs.Ytbfccpbijimjmaa
