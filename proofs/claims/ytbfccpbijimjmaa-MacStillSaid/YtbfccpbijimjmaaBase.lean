/-
  The lifted form of a function's code: slots become variables, operations become first-order conditions; and that the lifted form is enough for the call.
-/
import Derived.WalkKit
import Derived.Deep.Quiet
import Derived.KernelRfl
namespace Go.Proofs.Ytbfccpbijimjmaa
open Go

/-! ### Slots -/
abbrev Env := List (Nat × Value)

def eget : Env → Nat → Option Value
  | [], _ => none
  | (s, v) :: r, t => cond (Nat.beq s t) (some v) (eget r t)

def emem : List Nat → Nat → Bool
  | [], _ => false
  | a :: r, t => cond (Nat.beq a t) true (emem r t)

def edrop (ws : List Nat) : Env → Env
  | [] => []
  | (s, v) :: r => cond (emem ws s) (edrop ws r) ((s, v) :: edrop ws r)

structure Agree (n : Nat) (e : Env) (a : Act) : Prop where
  defers : a.defers = []
  size : a.tmps.size = n
  val : ∀ t v, eget e t = some v → a.tmps.getD t undef = v

def Kept (ws : List Nat) (a a' : Act) : Prop := ∀ t, emem ws t = false → a'.tmps.getD t undef = a.tmps.getD t undef

theorem emem_append (x y : List Nat) (t : Nat) : emem (x ++ y) t = (emem x t || emem y t) := by
  induction x with
  | nil => simp [emem]
  | cons a r ih => simp only [List.cons_append, emem, ih]; cases Nat.beq a t <;> simp

theorem Kept.refl (ws : List Nat) (a : Act) : Kept ws a a := fun _ _ => rfl
theorem Kept.trans {x y : List Nat} {a b c : Act} (h : Kept x a b) (k : Kept y b c) : Kept (x ++ y) a c := fun t ht => by
  rw [emem_append, Bool.or_eq_false_iff] at ht
  exact (k t ht.2).trans (h t ht.1)
theorem Kept.mono {x y : List Nat} {a b : Act} (h : Kept x a b) (hs : ∀ t, emem y t = false → emem x t = false) : Kept y a b := fun t ht => h t (hs t ht)

theorem eget_edrop {ws : List Nat} {e : Env} {t : Nat} {v : Value} (h : eget (edrop ws e) t = some v) : eget e t = some v ∧ emem ws t = false := by
  induction e with
  | nil => simp [edrop, eget] at h
  | cons p r ih =>
    obtain ⟨s, u⟩ := p
    simp only [edrop] at h
    cases hm : emem ws s with
    | true =>
      simp only [hm, cond_true] at h
      obtain ⟨h1, h2⟩ := ih h
      refine ⟨?_, h2⟩
      simp only [eget]
      cases hb : Nat.beq s t with
      | true => rw [Nat.eq_of_beq_eq_true hb] at hm; rw [hm] at h2; cases h2
      | false => simpa using h1
    | false =>
      simp only [hm, cond_false, eget] at h
      simp only [eget]
      cases hb : Nat.beq s t with
      | true => simp only [hb, cond_true] at h ⊢; exact ⟨h, by rw [← Nat.eq_of_beq_eq_true hb]; exact hm⟩
      | false => simp only [hb, cond_false] at h ⊢; exact ih h

theorem Agree.drop {n : Nat} {e : Env} {a a' : Act} {ws : List Nat} (h : Agree n e a) (hk : Kept ws a a') (hd : a'.defers = []) (hs : a'.tmps.size = n) : Agree n (edrop ws e) a' :=
  ⟨hd, hs, fun t v ht => by obtain ⟨h1, h2⟩ := eget_edrop ht; rw [hk t h2]; exact h.val t v h1⟩

theorem Act.put_defers' (a : Act) (d : Option Nat) (v : Value) : (a.put d v).defers = a.defers := by cases d <;> rfl
theorem Act.put_size (a : Act) (d : Option Nat) (v : Value) : (a.put d v).tmps.size = a.tmps.size := by cases d <;> simp [Act.put]

theorem getD_put (a : Act) (d : Nat) (v : Value) (t : Nat) (hd : d < a.tmps.size) : (a.put (some d) v).tmps.getD t undef = if d = t then v else a.tmps.getD t undef := by
  simp only [Act.put, Array.getD_eq_getD_getElem?, Array.getElem?_setIfInBounds, hd, if_true]
  split <;> rfl

/-- An operation's slot is written. -/
def eput (n : Nat) (d : Option Nat) (v : Value) (e : Env) (k : Env → Prop) : Prop :=
  match d with
  | none => k e
  | some d => match Nat.blt d n with
    | true => k ((d, v) :: e)
    | false => False

theorem eput_sound {n : Nat} {d : Option Nat} {v : Value} {e : Env} {k : Env → Prop} {a : Act} (h : eput n d v e k) (ha : Agree n e a) :
    ∃ e', k e' ∧ Agree n e' (a.put d v) ∧ Kept d.toList a (a.put d v) := by
  cases d with
  | none => exact ⟨e, h, ha, Kept.refl _ _⟩
  | some d =>
    simp only [eput] at h
    cases hb : Nat.blt d n with
    | false => simp only [hb] at h
    | true =>
      simp only [hb] at h
      have hd : d < a.tmps.size := by rw [ha.size]; exact Nat.le_of_ble_eq_true hb
      refine ⟨_, h, ⟨(Act.put_defers' ..).trans ha.defers, (Act.put_size ..).trans ha.size, fun t u ht => ?_⟩, fun t ht => ?_⟩
      · rw [getD_put a d v t hd]
        simp only [eget] at ht
        cases hbt : Nat.beq d t with
        | true => simp only [hbt, cond_true, Option.some.injEq] at ht; rw [if_pos (Nat.eq_of_beq_eq_true hbt)]; exact ht
        | false =>
          simp only [hbt, cond_false] at ht
          rw [if_neg (fun e => by subst e; simp at hbt)]
          exact ha.val t u ht
      · rw [getD_put a d v t hd]
        simp only [Option.toList, emem] at ht
        rw [if_neg (fun e => by subst e; simp at ht)]

/-! ### Operands -/
def opE (e : Env) : Operand → Option Value
  | .tmp t => eget e t
  | .const v => some v
  | .global g => some (.pointer (some ⟨g, 0, none⟩))
  | .func f => some (.func (.func f) #[] #[])

theorem opE_sound {n : Nat} {e : Env} {a : Act} {x : Operand} {v : Value} (ha : Agree n e a) (h : opE e x = some v) : a.eval x = v := by
  cases x with
  | tmp t => exact ha.val t v h
  | const u => simpa [opE, Act.eval] using h
  | global g => simpa [opE, Act.eval] using h
  | func f => simpa [opE, Act.eval] using h

def withV (e : Env) (x : Operand) (k : Value → Prop) : Prop :=
  match opE e x with
  | some v => k v
  | none => False

theorem withV_sound {n : Nat} {e : Env} {a : Act} {x : Operand} {k : Value → Prop} (h : withV e x k) (ha : Agree n e a) : k (a.eval x) := by
  unfold withV at h
  cases hx : opE e x with
  | none => simp [hx] at h
  | some v => rw [opE_sound ha hx]; simpa [hx] using h

def withL (e : Env) : List Operand → (List Value → Prop) → Prop
  | [], k => k []
  | x :: r, k => withV e x fun v => withL e r fun vs => k (v :: vs)

theorem withL_sound {n : Nat} {e : Env} {a : Act} (ha : Agree n e a) : ∀ (l : List Operand) (k : List Value → Prop), withL e l k → k (l.map a.eval)
  | [], _, h => h
  | _ :: r, _, h => withL_sound ha r _ (withV_sound h ha)

/-! ### Shapes of values -/
inductive T0 where
  | int (k : IntKind) | bool | str | ptr | slice | map | val

inductive Ty where
  | b (t : T0)
  | agg (l : List T0)
  | arr (n : Nat)

def ex0 : T0 → (Value → Prop) → Prop
  | .int k, F => ∃ x : Int, F (.int k x)
  | .bool, F => ∃ b : Bool, F (.bool b)
  | .str, F => ∃ s : ByteArray, F (.string s)
  | .ptr, F => ∃ p : Option Addr, F (.pointer p)
  | .slice, F => ∃ (a : Option Addr) (n c : Nat), F (.slice a n c)
  | .map, F => ∃ r : Option Nat, F (.map r)
  | .val, F => ∃ v : Value, F v

def al0 : T0 → (Value → Prop) → Prop
  | .int k, F => ∀ x : Int, F (.int k x)
  | .bool, F => ∀ b : Bool, F (.bool b)
  | .str, F => ∀ s : ByteArray, F (.string s)
  | .ptr, F => ∀ p : Option Addr, F (.pointer p)
  | .slice, F => ∀ (a : Option Addr) (n c : Nat), F (.slice a n c)
  | .map, F => ∀ r : Option Nat, F (.map r)
  | .val, F => ∀ v : Value, F v

def is0 : T0 → Value → Prop
  | .int k, v => ∃ x : Int, v = .int k x
  | .bool, v => ∃ b : Bool, v = .bool b
  | .str, v => ∃ s : ByteArray, v = .string s
  | .ptr, v => ∃ p : Option Addr, v = .pointer p
  | .slice, v => ∃ (a : Option Addr) (n c : Nat), v = .slice a n c
  | .map, v => ∃ r : Option Nat, v = .map r
  | .val, _ => True

theorem ex0_elim {t : T0} {F : Value → Prop} (h : ex0 t F) : ∃ v, is0 t v ∧ F v := by
  cases t <;> simp only [ex0] at h
  case slice => obtain ⟨a, n, c, h⟩ := h; exact ⟨_, ⟨a, n, c, rfl⟩, h⟩
  case val => obtain ⟨v, h⟩ := h; exact ⟨v, trivial, h⟩
  all_goals (obtain ⟨x, h⟩ := h; exact ⟨_, ⟨x, rfl⟩, h⟩)

theorem al0_elim {t : T0} {F : Value → Prop} (h : al0 t F) {v : Value} (hv : is0 t v) : F v := by
  cases t <;> simp only [al0] at h <;> simp only [is0] at hv
  case slice => obtain ⟨a, n, c, rfl⟩ := hv; exact h _ _ _
  case val => exact h _
  all_goals (obtain ⟨x, rfl⟩ := hv; exact h _)

def exL : List T0 → (List Value → Prop) → Prop
  | [], F => F []
  | t :: r, F => ex0 t fun v => exL r fun vs => F (v :: vs)
def alL : List T0 → (List Value → Prop) → Prop
  | [], F => F []
  | t :: r, F => al0 t fun v => alL r fun vs => F (v :: vs)
def isL : List T0 → List Value → Prop
  | [], [] => True
  | t :: r, v :: vs => is0 t v ∧ isL r vs
  | _, _ => False

theorem exL_elim : ∀ {l : List T0} {F : List Value → Prop}, exL l F → ∃ vs, isL l vs ∧ F vs
  | [], _, h => ⟨[], trivial, h⟩
  | _ :: _, _, h => by
    obtain ⟨v, hv, h⟩ := ex0_elim h
    obtain ⟨vs, hvs, h⟩ := exL_elim h
    exact ⟨v :: vs, ⟨hv, hvs⟩, h⟩
theorem alL_elim : ∀ {l : List T0} {F : List Value → Prop}, alL l F → ∀ {vs : List Value}, isL l vs → F vs
  | [], _, h, [], _ => h
  | [], _, _, _ :: _, hv => hv.elim
  | _ :: _, _, _, [], hv => hv.elim
  | _ :: _, _, h, _ :: _, hv => alL_elim (al0_elim h hv.1) hv.2

def exT : Ty → (Value → Prop) → Prop
  | .b t, F => ex0 t F
  | .agg l, F => exL l fun vs => F (.agg vs.toArray)
  | .arr n, F => ∃ cs : Array Value, cs.size = n ∧ F (.agg cs)
def alT : Ty → (Value → Prop) → Prop
  | .b t, F => al0 t F
  | .agg l, F => alL l fun vs => F (.agg vs.toArray)
  | .arr n, F => ∀ cs : Array Value, cs.size = n → F (.agg cs)
def isT : Ty → Value → Prop
  | .b t, v => is0 t v
  | .agg l, v => ∃ vs, isL l vs ∧ v = .agg vs.toArray
  | .arr n, v => ∃ cs : Array Value, cs.size = n ∧ v = .agg cs

theorem exT_elim {t : Ty} {F : Value → Prop} (h : exT t F) : ∃ v, isT t v ∧ F v := by
  cases t with
  | b t => exact ex0_elim h
  | agg l => obtain ⟨vs, hv, h⟩ := exL_elim h; exact ⟨_, ⟨vs, hv, rfl⟩, h⟩
  | arr n => obtain ⟨cs, hs, h⟩ := h; exact ⟨_, ⟨cs, hs, rfl⟩, h⟩
theorem alT_elim {t : Ty} {F : Value → Prop} (h : alT t F) {v : Value} (hv : isT t v) : F v := by
  cases t with
  | b t => exact al0_elim h hv
  | agg l => obtain ⟨vs, hl, rfl⟩ := hv; exact alL_elim h hl
  | arr n => obtain ⟨cs, hs, rfl⟩ := hv; exact h cs hs

def exTL : List Ty → (List Value → Prop) → Prop
  | [], F => F []
  | t :: r, F => exT t fun v => exTL r fun vs => F (v :: vs)
def alTL : List Ty → (List Value → Prop) → Prop
  | [], F => F []
  | t :: r, F => alT t fun v => alTL r fun vs => F (v :: vs)
def isTL : List Ty → List Value → Prop
  | [], [] => True
  | t :: r, v :: vs => isT t v ∧ isTL r vs
  | _, _ => False
theorem exTL_elim : ∀ {l : List Ty} {F : List Value → Prop}, exTL l F → ∃ vs, isTL l vs ∧ F vs
  | [], _, h => ⟨[], trivial, h⟩
  | _ :: _, _, h => by
    obtain ⟨v, hv, h⟩ := exT_elim h
    obtain ⟨vs, hvs, h⟩ := exTL_elim h
    exact ⟨v :: vs, ⟨hv, hvs⟩, h⟩
theorem alTL_elim : ∀ {l : List Ty} {F : List Value → Prop}, alTL l F → ∀ {vs : List Value}, isTL l vs → F vs
  | [], _, h, [], _ => h
  | [], _, _, _ :: _, hv => hv.elim
  | _ :: _, _, _, [], hv => hv.elim
  | _ :: _, _, h, _ :: _, hv => alTL_elim (alT_elim h hv.1) hv.2

/-- One cell is read. -/
def LdI (k : IntKind) (a : Addr) (w : World) (F : Int → Prop) : Prop := ∃ x : Int, w.cell? a = some (.int k x) ∧ F x
def LdB (a : Addr) (w : World) (F : Bool → Prop) : Prop := ∃ b : Bool, w.cell? a = some (.bool b) ∧ F b
def LdS (a : Addr) (w : World) (F : ByteArray → Prop) : Prop := ∃ s : ByteArray, w.cell? a = some (.string s) ∧ F s
def LdP (a : Addr) (w : World) (F : Option Addr → Prop) : Prop := ∃ p : Option Addr, w.cell? a = some (.pointer p) ∧ F p
def LdL (a : Addr) (w : World) (F : Option Addr → Nat → Nat → Prop) : Prop := ∃ (p : Option Addr) (n c : Nat), w.cell? a = some (.slice p n c) ∧ F p n c
def LdM (a : Addr) (w : World) (F : Option Nat → Prop) : Prop := ∃ r : Option Nat, w.cell? a = some (.map r) ∧ F r
def LdV (a : Addr) (w : World) (F : Value → Prop) : Prop := ∃ v : Value, w.cell? a = some v ∧ F v

def ld0 : T0 → Addr → World → (Value → Prop) → Prop
  | .int k, a, w, K => LdI k a w fun x => K (.int k x)
  | .bool, a, w, K => LdB a w fun x => K (.bool x)
  | .str, a, w, K => LdS a w fun x => K (.string x)
  | .ptr, a, w, K => LdP a w fun x => K (.pointer x)
  | .slice, a, w, K => LdL a w fun p n c => K (.slice p n c)
  | .map, a, w, K => LdM a w fun x => K (.map x)
  | .val, a, w, K => LdV a w K
theorem ld0_elim {t : T0} {a : Addr} {w : World} {K : Value → Prop} (h : ld0 t a w K) : ∃ v, is0 t v ∧ w.cell? a = some v ∧ K v := by
  cases t <;> simp only [ld0] at h
  case slice => obtain ⟨p, n, c, hc, h⟩ := h; exact ⟨_, ⟨p, n, c, rfl⟩, hc, h⟩
  case val => obtain ⟨v, hc, h⟩ := h; exact ⟨v, trivial, hc, h⟩
  all_goals (obtain ⟨x, hc, h⟩ := h; exact ⟨_, ⟨x, rfl⟩, hc, h⟩)

def ldL (a : Addr) (w : World) : List T0 → Nat → (List Value → Prop) → Prop
  | [], _, K => K []
  | t :: r, i, K => ld0 t (a.add i) w fun v => ldL a w r (i + 1) fun vs => K (v :: vs)
theorem ldL_elim {a : Addr} {w : World} : ∀ {l : List T0} {i : Nat} {K : List Value → Prop}, ldL a w l i K →
    ∃ vs, isL l vs ∧ vs.length = l.length ∧ (∀ j v, vs[j]? = some v → w.cell? (a.add (i + j)) = some v) ∧ K vs
  | [], _, _, h => ⟨[], trivial, rfl, by simp, h⟩
  | _ :: _, i, _, h => by
    obtain ⟨v, hv, hc, h⟩ := ld0_elim h
    obtain ⟨vs, hvs, hl, hcs, h⟩ := ldL_elim h
    refine ⟨v :: vs, ⟨hv, hvs⟩, by simp [hl], fun j u hu => ?_, h⟩
    cases j with
    | zero => simp at hu; subst hu; exact hc
    | succ j => rw [show i + (j + 1) = i + 1 + j by omega]; exact hcs j u (by simpa using hu)

/-- A value is of a shape. -/
def AsI (k : IntKind) (v : Value) (F : Int → Prop) : Prop := ∃ x : Int, v = .int k x ∧ F x
def AsB (v : Value) (F : Bool → Prop) : Prop := ∃ b : Bool, v = .bool b ∧ F b
def AsS (v : Value) (F : ByteArray → Prop) : Prop := ∃ s : ByteArray, v = .string s ∧ F s
def AsP (v : Value) (F : Option Addr → Prop) : Prop := ∃ p : Option Addr, v = .pointer p ∧ F p
def AsL (v : Value) (F : Option Addr → Nat → Nat → Prop) : Prop := ∃ (p : Option Addr) (n c : Nat), v = .slice p n c ∧ F p n c
def AsM (v : Value) (F : Option Nat → Prop) : Prop := ∃ r : Option Nat, v = .map r ∧ F r

def as0 : T0 → Value → (Value → Prop) → Prop
  | .int k, v, K => AsI k v fun x => K (.int k x)
  | .bool, v, K => AsB v fun x => K (.bool x)
  | .str, v, K => AsS v fun x => K (.string x)
  | .ptr, v, K => AsP v fun x => K (.pointer x)
  | .slice, v, K => AsL v fun p n c => K (.slice p n c)
  | .map, v, K => AsM v fun x => K (.map x)
  | .val, v, K => K v
theorem as0_elim {t : T0} {v : Value} {K : Value → Prop} (h : as0 t v K) : is0 t v ∧ K v := by
  cases t <;> simp only [as0] at h
  case slice => obtain ⟨p, n, c, rfl, h⟩ := h; exact ⟨⟨p, n, c, rfl⟩, h⟩
  case val => exact ⟨trivial, h⟩
  all_goals (obtain ⟨x, rfl, h⟩ := h; exact ⟨⟨x, rfl⟩, h⟩)

/-- A result, taken apart by its types: one value, or a tuple. -/
def asT : Ty → Value → (Value → Prop) → Prop
  | .b t, v, K => as0 t v K
  | t, v, K => exT t fun u => v = u ∧ K u
theorem asT_elim {t : Ty} {v : Value} {K : Value → Prop} (h : asT t v K) : isT t v ∧ K v := by
  cases t with
  | b t => exact as0_elim h
  | agg l => simp only [asT] at h; obtain ⟨u, hu, hv, hk⟩ := exT_elim h; subst hv; exact ⟨hu, hk⟩
  | arr n => simp only [asT] at h; obtain ⟨u, hu, hv, hk⟩ := exT_elim h; subst hv; exact ⟨hu, hk⟩
def asR : List Ty → Value → (Value → Prop) → Prop
  | [t], v, K => asT t v K
  | l, v, K => exTL l fun us => v = .tuple us.toArray ∧ K (.tuple us.toArray)
theorem asR_elim {l : List Ty} {v : Value} {K : Value → Prop} (h : asR l v K) : K v := by
  unfold asR at h
  split at h
  · exact (asT_elim h).2
  · obtain ⟨us, _, hv, hk⟩ := exTL_elim h; subst hv; exact hk
end Go.Proofs.Ytbfccpbijimjmaa
