/-
  What each operation asks, and that this is enough for it.
-/
import Derived.Test.YtbfccpbijimjmaaBase
set_option linter.unusedVariables false
set_option linter.unusedSimpArgs false
namespace Go.Proofs.Ytbfccpbijimjmaa
open Go

/-! ### Computations that look at the program alone -/
def evalP (P : Program) {α : Type} : Sem α → Option α
  | .pure a => some a
  | .program k => evalP P (k P)
  | .mark _ k => evalP P k
  | _ => none

theorem evalP_sound {P : Program} {α : Type} {s : Sem α} : ∀ {a : α}, evalP P s = some a → ∀ w, s.run P w = .ok a w := by
  induction s with
  | pure a => intro b h w; simp only [evalP, Option.some.injEq] at h; subst h; rfl
  | program k ih => intro b h w; simp only [evalP] at h; exact ih P h w
  | mark m k ih => intro b h w; simp only [evalP] at h; exact ih h w
  | _ => intro b h w; simp [evalP] at h

def pureS (P : Program) (s : Sem Value) (K : Value → Prop) : Prop :=
  match evalP P s with
  | some v => K v
  | none => False
theorem pureS_sound {P : Program} {s : Sem Value} {K : Value → Prop} (h : pureS P s K) : ∃ v, K v ∧ ∀ w, s.run P w = .ok v w := by
  unfold pureS at h
  cases hs : evalP P s with
  | none => simp [hs] at h
  | some v => exact ⟨v, by simpa [hs] using h, evalP_sound hs⟩

/-! ### Types -/
def ty0 : Value → Option T0
  | .int k _ => some (.int k)
  | .bool _ => some .bool
  | .string _ => some .str
  | .pointer _ => some .ptr
  | .slice _ _ _ => some .slice
  | .map _ => some .map
  | .nilFunc => some .val
  | .func _ _ _ => some .val
  | .nilIface => some .val
  | .iface _ _ => some .val
  | _ => none
def tyL : List Value → Option (List T0)
  | [] => some []
  | v :: r => match ty0 v, tyL r with
    | some t, some l => some (t :: l)
    | _, _ => none
def isAggD : TypeDesc → Bool
  | .struct _ => true
  | .array _ _ => true
  | _ => false
def tyOf (P : Program) (t : TypeId) : Option Ty :=
  match P.info? t, P.underlying t with
  | some i, some d => match i.zero with
    | some (.agg cs) => match Nat.beq i.size cs.size, d with
      | true, .array _ _ => some (.arr cs.size)
      | true, .struct _ => match tyL cs.toList with
        | some l => some (.agg l)
        | none => none
      | _, _ => none
    | some v => match Nat.beq i.size 1, isAggD d, ty0 v with
      | true, false, some t => some (.b t)
      | _, _, _ => none
    | none => none
  | _, _ => none
def tysOf (P : Program) : List TypeId → Option (List Ty)
  | [] => some []
  | t :: r => match tyOf P t, tysOf P r with
    | some a, some l => some (a :: l)
    | _, _ => none
/-- The types of an operation's result: a tuple's parts, or the one. -/
def resOf (P : Program) (t : TypeId) : Option (List Ty) :=
  match P.underlying t with
  | some (.tuple ts) => tysOf P ts.toList
  | _ => tysOf P [t]

/-- Whatever it is that the computation yields, in each world. -/
def runP (P : Program) (t : TypeId) (s : Sem Value) (K : Value → Prop) : Prop :=
  match resOf P t with
  | some l => ∃ v, (∀ w, s.run P w = .ok v w) ∧ asR l v K
  | none => False
theorem runP_sound {P : Program} {t : TypeId} {s : Sem Value} {K : Value → Prop} (h : runP P t s K) : ∃ v, K v ∧ ∀ w, s.run P w = .ok v w := by
  unfold runP at h
  split at h
  · obtain ⟨v, hv, hk⟩ := h; exact ⟨v, asR_elim hk, hv⟩
  · exact h.elim

def Run (P : Program) (s : Sem Value) (w : World) (F : Value → World → Prop) : Prop := ∃ v w', s.run P w = .ok v w' ∧ F v w'
def runW (P : Program) (t : TypeId) (s : Sem Value) (w : World) (K : Value → World → Prop) : Prop :=
  match resOf P t with
  | some l => Run P s w fun v w' => asR l v fun v => K v w'
  | none => False
theorem runW_sound {P : Program} {t : TypeId} {s : Sem Value} {w : World} {K : Value → World → Prop} (h : runW P t s w K) : ∃ v w', K v w' ∧ s.run P w = .ok v w' := by
  unfold runW at h
  split at h
  · obtain ⟨v, w', hv, hk⟩ := h; exact ⟨v, w', asR_elim hk, hv⟩
  · exact h.elim

/-! ### Operations that leave the world alone -/
def Bif (b : Bool) (A B : Prop) : Prop := match b with | true => A | false => B
theorem Bif.i {b : Bool} {A B : Prop} (ht : b = true → A) (hf : b = false → B) : Bif b A B := by
  cases b
  · exact hf rfl
  · exact ht rfl
def NilP (p : Option Addr) (F : Addr → Prop) : Prop := match p with | some a => F a | none => False
/-- A place of a row: the address, with the index in its bounds. -/
def IxP (p : Option Addr) (n : Nat) (i : Int) (size : Nat) (F : Addr → Prop) : Prop := ∃ a, p = some a ∧ (0 ≤ i ∧ i < n) ∧ F (a.add (i.toNat * size))

def nilK (v : Value) (K : Value → Prop) : Prop :=
  match v with
  | .pointer p => NilP p fun a => K (.pointer (some a))
  | .func (.func f) first captured => K (.func (.func f) first captured)
  | .func (.methodOf t n) first captured => K (.func (.methodOf t n) first captured)
  | .func (.via t p f b) first captured => K (.func (.via t p f b) first captured)
  | .iface t x => K (.iface t x)
  | _ => False

def sizeP (P : Program) (t : TypeId) (F : Nat → Prop) : Prop := match P.info? t with | some i => F i.size | none => False

def ixK (P : Program) (t : TypeId) (x ix : Value) (K : Value → Prop) : Prop :=
  match ix, P.underlying t, x with
  | .int _ i, some (.slice e), .slice p n _ => sizeP P e fun size => IxP p n i size fun a => K (.pointer (some a))
  | .int _ i, some (.array n e), .pointer p => sizeP P e fun size => IxP p n i size fun a => K (.pointer (some a))
  | _, _, _ => False

/-- A byte of a text. -/
def IxS (s : ByteArray) (i : Int) (F : UInt8 → Prop) : Prop := (0 ≤ i ∧ i < s.size) ∧ F (s.get! i.toNat)
def ixvK (P : Program) (t ty : TypeId) (x ix : Value) (K : Value → Prop) : Prop :=
  match ix, P.underlying t, x with
  | .int _ i, some .string, .string s => IxS s i fun b => K (.int .u8 b.toNat)
  | _, _, _ => runP P ty (Instr.index t x ix) K

/-- The bounds of a piece. -/
def lowI : Option Value → Option (Option Int)
  | none => some none
  | some (.int _ i) => some (some i)
  | some _ => none
def SlP (p : Option Addr) (n c : Nat) (size : Nat) (lo hi : Int) (F : Option Addr → Nat → Nat → Prop) : Prop :=
  (0 ≤ lo ∧ lo ≤ hi ∧ hi ≤ c) ∧ F (if c = lo.toNat then p else p.map (·.add (lo.toNat * size))) (hi.toNat - lo.toNat) (c - lo.toNat)
def SlS (s : ByteArray) (lo hi : Int) (F : ByteArray → Prop) : Prop := (0 ≤ lo ∧ lo ≤ hi ∧ hi ≤ s.size) ∧ F (s.extract lo.toNat hi.toNat)
def slK (P : Program) (t : TypeId) (x : Value) (lo hi mx : Option Value) (K : Value → Prop) : Prop :=
  match mx, P.underlying t, x, lowI lo, lowI hi with
  | none, some (.slice e), .slice p n c, some l, some h => sizeP P e fun size => SlP p n c size (l.getD 0) (h.getD n) fun p n c => K (.slice p n c)
  | none, some (.array n e), .pointer (some a), some l, some h => sizeP P e fun size => SlP (some a) n n size (l.getD 0) (h.getD n) fun p n c => K (.slice p n c)
  | none, some .string, .string s, some l, some h => SlS s (l.getD 0) (h.getD s.size) fun s => K (.string s)
  | _, _, _, _, _ => False

def DivK (y : Int) (A : Prop) : Prop := y ≠ 0 ∧ A
def ShK (y : Int) (A : Prop) : Prop := 0 ≤ y ∧ A
def CatK (x y : ByteArray) (A : Prop) : Prop := x.size + y.size ≤ 9223372036854775807 ∧ A

inductive Kd where | int | str | bool | ptr | slice | other
def kdOf (P : Program) (t : TypeId) : Kd :=
  match P.underlying t with
  | some (.int _) => .int
  | some .string => .str
  | some .bool => .bool
  | some (.pointer _) => .ptr
  | some (.slice _) => .slice
  | _ => .other
def isNone' {α : Type} : Option α → Bool
  | none => true
  | some _ => false

/-- Two values, held against each other or put together. -/
def binK (P : Program) (op : BinOp) (t ty : TypeId) (x y : Operand) (a b : Value) (K : Value → Prop) : Prop :=
  match kdOf P t with
  | .int => match op with
    | .quo => match a, b with
      | .int k m, .int k' n => match decide (k = k') with
        | true => DivK n (K (.int k (k.wrap (m.tdiv n))))
        | false => False
      | _, _ => False
    | .rem => match a, b with
      | .int k m, .int k' n => match decide (k = k') with
        | true => DivK n (K (.int k (m.tmod n)))
        | false => False
      | _, _ => False
    | .shl => match a, b with
      | .int k m, .int _ n => ShK n (K (.int k (k.wrap (m * 2 ^ min n.toNat k.bits))))
      | _, _ => False
    | .shr => match a, b with
      | .int k m, .int _ n => ShK n (K (.int k (m.fdiv (2 ^ min n.toNat k.bits))))
      | _, _ => False
    | _ => pureS P (do eqGuard op t x y a b; binOp op t a b) K
  | .str => match op with
    | .add => match a, b with
      | .string s, .string u => CatK s u (K (.string (s ++ u)))
      | _, _ => False
    | _ => pureS P (do eqGuard op t x y a b; binOp op t a b) K
  | .bool => pureS P (do eqGuard op t x y a b; binOp op t a b) K
  | .ptr => match op, a, b with
    | .eql, .pointer p, .pointer none => K (.bool (isNone' p))
    | .neq, .pointer p, .pointer none => K (.bool (!isNone' p))
    | _, _, _ => False
  | .slice => match op, a, b with
    | .eql, .slice p n c, .slice none _ _ => K (.bool (isNone' p))
    | .neq, .slice p n c, .slice none _ _ => K (.bool (!isNone' p))
    | _, _, _ => False
  | .other => runP P ty (do eqGuard op t x y a b; binOp op t a b) K

def withP (e : Env) : List (Nat × Operand) → (List (Nat × Value) → Prop) → Prop
  | [], k => k []
  | (i, x) :: r, k => withV e x fun v => withP e r fun vs => k ((i, v) :: vs)
theorem withP_sound {n : Nat} {e : Env} {a : Act} (ha : Agree n e a) : ∀ (l : List (Nat × Operand)) (k : List (Nat × Value) → Prop), withP e l k → k (l.map fun (i, x) => (i, a.eval x))
  | [], _, h => h
  | (_, _) :: r, _, h => withP_sound ha r _ (withV_sound h ha)

def opP (P : Program) (o : Oper) (e : Env) (K : Value → Prop) : Prop :=
  match o.op with
  | .move x | .assign x => withV e x K
  | .pick c x y => withV e c fun c => match c with
    | .bool b => Bif b (withV e x K) (withV e y K)
    | _ => False
  | .nilCheck x => withV e x fun v => nilK v K
  | .binOp op t x y _ => withV e x fun a => withV e y fun b => binK P op t o.type x y a b K
  | .unOp op _ x => withV e x fun a => pureS P (Op.unary op a) K
  | .convert s d x => withV e x fun a => pureS P (convert s d a) K
  | .fieldAddr s x f => withV e x fun v => pureS P (Instr.fieldAt s v f) K
  | .field s x f => withV e x fun v => pureS P (Instr.field s v f) K
  | .extract x i => withV e x fun v => pureS P (Instr.extract v i) K
  | .indexAddr t x i => withV e x fun v => withV e i fun i => ixK P t v i K
  | .index t x i => withV e x fun v => withV e i fun i => ixvK P t o.type v i K
  | .slice t x none none none => withV e x fun v => slK P t v none none none K
  | .slice t x (some l) none none => withV e x fun v => withV e l fun l => slK P t v (some l) none none K
  | .slice t x none (some h) none => withV e x fun v => withV e h fun h => slK P t v none (some h) none K
  | .slice t x (some l) (some h) none => withV e x fun v => withV e l fun l => withV e h fun h => slK P t v (some l) (some h) none K
  | .makeInterface t x => withV e x fun v => pureS P (Instr.makeInterface t v) K
  | .makeFunc fn first cap => withL e first.toList fun fs => withL e cap.toList fun cs => pureS P (Instr.makeFunc fn fs.toArray cs.toArray) K
  | .call { callee := .builtin .len, args, argTypes } => withL e args.toList fun vs => pureS P (Builtin.len_ argTypes o.type vs.toArray) K
  | .call { callee := .builtin .min, args, argTypes } => withL e args.toList fun vs => pureS P (Builtin.min_ argTypes o.type vs.toArray) K
  | .call { callee := .builtin .max, args, argTypes } => withL e args.toList fun vs => pureS P (Builtin.max_ argTypes o.type vs.toArray) K
  | .typeAssert x s d ok => withV e x fun v => runP P o.type (Instr.typeAssert v s d ok) K
  | .build t parts => withP e parts.toList fun ps => pureS P (Instr.build t ps.toArray) K
  | _ => False

/-! ### That this is enough -/
theorem ix_run {P : Program} {t : TypeId} {x ix : Value} {K : Value → Prop} (h : ixK P t x ix K) : ∃ v, K v ∧ ∀ w, (Instr.indexAt t x ix).run P w = .ok v w := by
  unfold ixK sizeP IxP at h
  split at h
  · rename_i k i e p n c hu
    split at h
    · rename_i inf hi
      obtain ⟨a, rfl, hb, hk⟩ := h
      refine ⟨_, hk, fun w => ?_⟩
      simp [Instr.indexAt, asIntOf, run_underlying hu, sizeOf, typeInfo, hi, hb.1, hb.2]
    · exact h.elim
  · rename_i k i n e p hu
    split at h
    · rename_i inf hi
      obtain ⟨a, rfl, hb, hk⟩ := h
      refine ⟨_, hk, fun w => ?_⟩
      simp [Instr.indexAt, asIntOf, Instr.sureAddr, run_underlying hu, sizeOf, typeInfo, hi, hb.1, hb.2]
    · exact h.elim
  · exact h.elim

theorem nil_run {n : Nat} {e : Env} {o : Oper} {x : Operand} {v : Value} {K : Value → Prop} {a : Act} (ha : Agree n e a) (ho : o.op = .nilCheck x) (hx : a.eval x = v) (h : nilK v K) {P : Program} :
    ∃ v, K v ∧ ∀ w, (execOp a.eval o).run P w = .ok (.value v) w := by
  subst hx
  unfold nilK at h
  split at h
  · rename_i p hp
    unfold NilP at h
    split at h
    · refine ⟨_, h, fun w => ?_⟩; simp [execOp, ho, hp]
    · exact h.elim
  · rename_i hp; refine ⟨_, h, fun w => ?_⟩; simp [execOp, ho, hp]
  · rename_i hp; refine ⟨_, h, fun w => ?_⟩; simp [execOp, ho, hp]
  · rename_i hp; refine ⟨_, h, fun w => ?_⟩; simp [execOp, ho, hp]
  · rename_i hp; refine ⟨_, h, fun w => ?_⟩; simp [execOp, ho, hp]
  · exact h.elim

theorem get!_eq {s : ByteArray} {i : Nat} (h : i < s.size) : s[i]? = some (s.get! i) := by
  have h' : i < s.data.size := h
  rw [getElem?_pos s i h]
  congr 1
  show s.data[i] = s.data[i]!
  rw [getElem!_pos s.data i h']

theorem ixv_run {P : Program} {t ty : TypeId} {x ix : Value} {K : Value → Prop} (h : ixvK P t ty x ix K) : ∃ v, K v ∧ ∀ w, (Instr.index t x ix).run P w = .ok v w := by
  unfold ixvK at h
  split at h
  · rename_i k i s hu
    obtain ⟨hb, hk⟩ := h
    have hi : i.toNat < s.size := by omega
    refine ⟨_, hk, fun w => ?_⟩
    simp [Instr.index, asIntOf, run_underlying hu, hb.1, get!_eq hi]
  · exact runP_sound h

theorem lowI_some {v : Option Value} {l : Option Int} (h : lowI v = some l) : (v = none ∧ l = none) ∨ ∃ k i, v = some (.int k i) ∧ l = some i := by
  unfold lowI at h
  split at h
  · left; simp_all
  · right; simp at h; subst h; exact ⟨_, _, rfl, rfl⟩
  · cases h

theorem run_bounds {P : Program} {isSlice : Bool} {n c : Nat} {lo hi : Option Value} {l h : Option Int} (hl : lowI lo = some l) (hh : lowI hi = some h)
    (hb : 0 ≤ l.getD 0 ∧ l.getD 0 ≤ h.getD n ∧ h.getD n ≤ c) (w : World) :
    (Instr.sliceBounds isSlice n c lo hi none).run P w = .ok ((l.getD 0).toNat, (h.getD n).toNat, c) w := by
  obtain ⟨h1, h2, h3⟩ := hb
  rcases lowI_some hl with ⟨rfl, rfl⟩ | ⟨k, i, rfl, rfl⟩ <;> rcases lowI_some hh with ⟨rfl, rfl⟩ | ⟨k', j, rfl, rfl⟩ <;> simp only [Option.getD] at h1 h2 h3 ⊢
  · simp [Instr.sliceBounds]
  · simp [Instr.sliceBounds, Instr.sliceBound, asIntOf, show 0 ≤ j by omega, h3]
  · simp [Instr.sliceBounds, Instr.sliceBound, asIntOf, h1, h2]
  · have : (0 ≤ i ∧ i ≤ (j.toNat : Int)) := by omega
    simp [Instr.sliceBounds, Instr.sliceBound, asIntOf, show 0 ≤ j by omega, h3, this.1, this.2]
    omega

theorem sl_run {P : Program} {t : TypeId} {x : Value} {lo hi mx : Option Value} {K : Value → Prop} (h : slK P t x lo hi mx K) : ∃ v, K v ∧ ∀ w, (Instr.sliceAt t x lo hi mx).run P w = .ok v w := by
  unfold slK sizeP SlP SlS at h
  split at h
  · rename_i e p n c l h' hu hl hh
    split at h
    · rename_i inf hi'
      obtain ⟨hb, hk⟩ := h
      refine ⟨_, hk, fun w => ?_⟩
      simp [Instr.sliceAt, Instr.slice, run_underlying hu, run_bounds hl hh hb, sizeOf, typeInfo, hi']
    · exact h.elim
  · rename_i n e a l h' hu hl hh
    split at h
    · rename_i inf hi'
      obtain ⟨hb, hk⟩ := h
      refine ⟨_, hk, fun w => ?_⟩
      simp [Instr.sliceAt, Instr.sureAddr, run_underlying hu, run_bounds hl hh hb, sizeOf, typeInfo, hi']
      split <;> rfl
    · exact h.elim
  · rename_i s l h' hu hl hh
    obtain ⟨hb, hk⟩ := h
    refine ⟨_, hk, fun w => ?_⟩
    simp [Instr.sliceAt, Instr.slice, run_underlying hu, run_bounds hl hh hb]
  · exact h.elim

theorem equalIn_nil {P : Program} {t e : TypeId} (hu : P.underlying t = some (.pointer e)) (d : Nat) (p : Option Addr) (w : World) :
    (Op.equalIn (d + 1) t (.pointer p) (.pointer none)).run P w = .ok (isNone' p) w := by
  cases p <;> simp [Op.equalIn, run_underlying hu, isNone']
theorem equal_nil {P : Program} {t e : TypeId} (hu : P.underlying t = some (.pointer e)) (p : Option Addr) (w : World) :
    (Op.equal t (.pointer p) (.pointer none)).run P w = .ok (isNone' p) w := equalIn_nil hu 9999 p w
theorem eqGuard_ptr {P : Program} (op : BinOp) (t : TypeId) (x y : Operand) (p q : Option Addr) (w : World) : (eqGuard op t x y (.pointer p) (.pointer q)).run P w = .ok () w := by
  cases op <;> rfl
theorem run_shl {P : Program} (t : TypeId) (k k' : IntKind) (m n : Int) (h : 0 ≤ n) (x y : Operand) (w : World) :
    (do eqGuard .shl t x y (.int k m) (.int k' n); binOp .shl t (.int k m) (.int k' n) : Sem Value).run P w = .ok (.int k (k.wrap (m * 2 ^ min n.toNat k.bits))) w := by
  have e : binOp .shl t (.int k m) (.int k' n) = Op.shift .shl k m k' n := rfl
  rw [e, Op.shift, if_neg (Int.not_lt.2 h)]
  rfl
theorem run_shr {P : Program} (t : TypeId) (k k' : IntKind) (m n : Int) (h : 0 ≤ n) (x y : Operand) (w : World) :
    (do eqGuard .shr t x y (.int k m) (.int k' n); binOp .shr t (.int k m) (.int k' n) : Sem Value).run P w = .ok (.int k (m.fdiv (2 ^ min n.toNat k.bits))) w := by
  have e : binOp .shr t (.int k m) (.int k' n) = Op.shift .shr k m k' n := rfl
  rw [e, Op.shift, if_neg (Int.not_lt.2 h)]
  rfl
theorem run_quo {P : Program} (t : TypeId) (k : IntKind) (m n : Int) (h : n ≠ 0) (x y : Operand) (w : World) :
    (do eqGuard .quo t x y (.int k m) (.int k n); binOp .quo t (.int k m) (.int k n) : Sem Value).run P w = .ok (.int k (k.wrap (m.tdiv n))) w := by
  have e : binOp .quo t (.int k m) (.int k n) = Op.intDiv .quo k m n := by simp [binOp]
  rw [e, Op.intDiv, if_neg h]
  rfl
theorem run_rem {P : Program} (t : TypeId) (k : IntKind) (m n : Int) (h : n ≠ 0) (x y : Operand) (w : World) :
    (do eqGuard .rem t x y (.int k m) (.int k n); binOp .rem t (.int k m) (.int k n) : Sem Value).run P w = .ok (.int k (m.tmod n)) w := by
  have e : binOp .rem t (.int k m) (.int k n) = Op.intDiv .rem k m n := by simp [binOp]
  rw [e, Op.intDiv, if_neg h]
  rfl
theorem run_cat {P : Program} (t : TypeId) (s u : ByteArray) (h : s.size + u.size ≤ 9223372036854775807) (x y : Operand) (w : World) :
    (do eqGuard .add t x y (.string s) (.string u); binOp .add t (.string s) (.string u) : Sem Value).run P w = .ok (.string (s ++ u)) w := by
  have e : binOp .add t (.string s) (.string u) = Op.stringOp .add s u := rfl
  have h' : ¬ (((s.size + u.size : Nat) : Int) > IntKind.i64.max) := by
    have e : IntKind.i64.max = 9223372036854775807 := rfl
    rw [e]; omega
  rw [e, Op.stringOp, if_neg h']
  rfl
theorem run_eqnil {P : Program} {t e : TypeId} (hu : P.underlying t = some (.pointer e)) (p : Option Addr) (x y : Operand) (w : World) :
    (do eqGuard .eql t x y (.pointer p) (.pointer none); binOp .eql t (.pointer p) (.pointer none) : Sem Value).run P w = .ok (.bool (isNone' p)) w := by
  have e : binOp .eql t (.pointer p) (.pointer none) = (do pure (.bool (← Op.equal t (.pointer p) (.pointer none)))) := rfl
  rw [e]
  simp only [Sem.run_bind, eqGuard_ptr, Result.andThen_ok, equal_nil hu]
  rfl
theorem run_nenil {P : Program} {t e : TypeId} (hu : P.underlying t = some (.pointer e)) (p : Option Addr) (x y : Operand) (w : World) :
    (do eqGuard .neq t x y (.pointer p) (.pointer none); binOp .neq t (.pointer p) (.pointer none) : Sem Value).run P w = .ok (.bool (!isNone' p)) w := by
  have e : binOp .neq t (.pointer p) (.pointer none) = (do pure (.bool (!(← Op.equal t (.pointer p) (.pointer none))))) := rfl
  rw [e]
  simp only [Sem.run_bind, eqGuard_ptr, Result.andThen_ok, equal_nil hu]
  rfl

theorem equalIn_nilS {P : Program} {t e : TypeId} (hu : P.underlying t = some (.slice e)) (d : Nat) (p : Option Addr) (n c n' c' : Nat) (w : World) :
    (Op.equalIn (d + 1) t (.slice p n c) (.slice none n' c')).run P w = .ok (isNone' p) w := by
  cases p <;> simp [Op.equalIn, run_underlying hu, isNone']
theorem equal_nilS {P : Program} {t e : TypeId} (hu : P.underlying t = some (.slice e)) (p : Option Addr) (n c n' c' : Nat) (w : World) :
    (Op.equal t (.slice p n c) (.slice none n' c')).run P w = .ok (isNone' p) w := equalIn_nilS hu 9999 p n c n' c' w
theorem run_eqnilS {P : Program} {t e : TypeId} (hu : P.underlying t = some (.slice e)) (p : Option Addr) (n c n' c' : Nat) (x y : Operand) (w : World) :
    (do eqGuard .eql t x y (.slice p n c) (.slice none n' c'); binOp .eql t (.slice p n c) (.slice none n' c') : Sem Value).run P w = .ok (.bool (isNone' p)) w := by
  have e : binOp .eql t (.slice p n c) (.slice none n' c') = (do pure (.bool (← Op.equal t (.slice p n c) (.slice none n' c')))) := rfl
  have g : (eqGuard .eql t x y (.slice p n c) (.slice none n' c')).run P w = .ok () w := rfl
  rw [e]
  simp only [Sem.run_bind, g, Result.andThen_ok, equal_nilS hu]
  rfl
theorem run_nenilS {P : Program} {t e : TypeId} (hu : P.underlying t = some (.slice e)) (p : Option Addr) (n c n' c' : Nat) (x y : Operand) (w : World) :
    (do eqGuard .neq t x y (.slice p n c) (.slice none n' c'); binOp .neq t (.slice p n c) (.slice none n' c') : Sem Value).run P w = .ok (.bool (!isNone' p)) w := by
  have e : binOp .neq t (.slice p n c) (.slice none n' c') = (do pure (.bool (!(← Op.equal t (.slice p n c) (.slice none n' c'))))) := rfl
  have g : (eqGuard .neq t x y (.slice p n c) (.slice none n' c')).run P w = .ok () w := rfl
  rw [e]
  simp only [Sem.run_bind, g, Result.andThen_ok, equal_nilS hu]
  rfl

theorem bin_run {P : Program} {op : BinOp} {t ty : TypeId} {x y : Operand} {a b : Value} {K : Value → Prop} (h : binK P op t ty x y a b K) :
    ∃ v, K v ∧ ∀ w, (do eqGuard op t x y a b; binOp op t a b : Sem Value).run P w = .ok v w := by
  unfold binK at h
  split at h
  · split at h
    · split at h
      · split at h
        · rename_i k m k' n hd
          have hk := of_decide_eq_true hd
          obtain ⟨hn, hk'⟩ := h
          subst hk
          exact ⟨_, hk', fun w => run_quo t _ _ _ hn x y w⟩
        · exact h.elim
      · exact h.elim
    · split at h
      · split at h
        · rename_i k m k' n hd
          have hk := of_decide_eq_true hd
          obtain ⟨hn, hk'⟩ := h
          subst hk
          exact ⟨_, hk', fun w => run_rem t _ _ _ hn x y w⟩
        · exact h.elim
      · exact h.elim
    · split at h
      · exact ⟨_, h.2, fun w => run_shl t _ _ _ _ h.1 x y w⟩
      · exact h.elim
    · split at h
      · exact ⟨_, h.2, fun w => run_shr t _ _ _ _ h.1 x y w⟩
      · exact h.elim
    · exact pureS_sound h
  · split at h
    · split at h
      · exact ⟨_, h.2, fun w => run_cat t _ _ h.1 x y w⟩
      · exact h.elim
    · exact pureS_sound h
  · exact pureS_sound h
  · rename_i hkd
    unfold kdOf at hkd
    split at hkd <;> cases hkd
    rename_i hu
    split at h
    · exact ⟨_, h, fun w => run_eqnil hu _ x y w⟩
    · exact ⟨_, h, fun w => run_nenil hu _ x y w⟩
    · exact h.elim
  · rename_i hkd
    unfold kdOf at hkd
    split at hkd <;> cases hkd
    rename_i hu
    split at h
    · exact ⟨_, h, fun w => run_eqnilS hu _ _ _ _ _ x y w⟩
    · exact ⟨_, h, fun w => run_nenilS hu _ _ _ _ _ x y w⟩
    · exact h.elim
  · exact runP_sound h


theorem opP_sound {P : Program} {n : Nat} {o : Oper} {e : Env} {K : Value → Prop} {a : Act} (h : opP P o e K) (ha : Agree n e a) :
    ∃ v, K v ∧ ∀ w, (execOp a.eval o).run P w = .ok (.value v) w := by
  unfold opP at h
  split at h
  · rename_i x ho; exact ⟨_, withV_sound h ha, fun w => by simp [execOp, ho]⟩
  · rename_i x ho; exact ⟨_, withV_sound h ha, fun w => by simp [execOp, ho]⟩
  · rename_i c x y ho
    have h := withV_sound h ha
    split at h
    · rename_i b hb
      cases b with
      | true => exact ⟨_, withV_sound h ha, fun w => by simp [execOp, ho, hb, asBool]⟩
      | false => exact ⟨_, withV_sound h ha, fun w => by simp [execOp, ho, hb, asBool]⟩
    · exact h.elim
  · rename_i x ho; exact nil_run ha ho rfl (withV_sound h ha)
  · rename_i op t x y _ ho
    obtain ⟨v, hk, hv⟩ := bin_run (withV_sound (withV_sound h ha) ha)
    exact ⟨v, hk, fun w => by have := hv w; simp only [execOp, ho, Sem.run_bind] at this ⊢; rw [this]; rfl⟩
  · rename_i op t x ho
    obtain ⟨v, hk, hv⟩ := pureS_sound (withV_sound h ha)
    exact ⟨v, hk, fun w => by simp [execOp, ho, hv w]⟩
  · rename_i s d x ho
    obtain ⟨v, hk, hv⟩ := pureS_sound (withV_sound h ha)
    exact ⟨v, hk, fun w => by simp only [execOp, ho, Sem.run_bind, hv w]; rfl⟩
  · rename_i s x f ho
    obtain ⟨v, hk, hv⟩ := pureS_sound (withV_sound h ha)
    exact ⟨v, hk, fun w => by simp only [execOp, ho, Sem.run_bind, hv w]; rfl⟩
  · rename_i s x f ho
    obtain ⟨v, hk, hv⟩ := pureS_sound (withV_sound h ha)
    exact ⟨v, hk, fun w => by simp only [execOp, ho, Sem.run_bind, hv w]; rfl⟩
  · rename_i x i ho
    obtain ⟨v, hk, hv⟩ := pureS_sound (withV_sound h ha)
    exact ⟨v, hk, fun w => by simp only [execOp, ho, Sem.run_bind, hv w]; rfl⟩
  · rename_i t x i ho
    obtain ⟨v, hk, hv⟩ := ix_run (withV_sound (withV_sound h ha) ha)
    exact ⟨v, hk, fun w => by simp only [execOp, ho, Sem.run_bind, hv w]; rfl⟩
  · rename_i t x i ho
    obtain ⟨v, hk, hv⟩ := ixv_run (withV_sound (withV_sound h ha) ha)
    exact ⟨v, hk, fun w => by simp only [execOp, ho, Sem.run_bind, hv w]; rfl⟩
  · rename_i t x ho
    obtain ⟨v, hk, hv⟩ := sl_run (withV_sound h ha)
    exact ⟨v, hk, fun w => by simp only [execOp, ho, Sem.run_bind, Option.map_none, hv w]; rfl⟩
  · rename_i t x l ho
    obtain ⟨v, hk, hv⟩ := sl_run (withV_sound (withV_sound h ha) ha)
    exact ⟨v, hk, fun w => by simp only [execOp, ho, Sem.run_bind, Option.map_none, Option.map_some, hv w]; rfl⟩
  · rename_i t x l ho
    obtain ⟨v, hk, hv⟩ := sl_run (withV_sound (withV_sound h ha) ha)
    exact ⟨v, hk, fun w => by simp only [execOp, ho, Sem.run_bind, Option.map_none, Option.map_some, hv w]; rfl⟩
  · rename_i t x l u ho
    obtain ⟨v, hk, hv⟩ := sl_run (withV_sound (withV_sound (withV_sound h ha) ha) ha)
    exact ⟨v, hk, fun w => by simp only [execOp, ho, Sem.run_bind, Option.map_none, Option.map_some, hv w]; rfl⟩
  · rename_i t x ho
    obtain ⟨v, hk, hv⟩ := pureS_sound (withV_sound h ha)
    exact ⟨v, hk, fun w => by simp only [execOp, ho, Sem.run_bind, hv w]; rfl⟩
  · rename_i fn first cap ho
    obtain ⟨v, hk, hv⟩ := pureS_sound (withL_sound ha _ _ (withL_sound ha _ _ h))
    exact ⟨v, hk, fun w => by
      have := hv w
      simp only [List.map_toArray, ← Array.toList_map, Array.toArray_toList] at this
      simp only [execOp, ho, Sem.run_bind, this]; rfl⟩
  · rename_i args tys ho
    obtain ⟨v, hk, hv⟩ := pureS_sound (withL_sound ha _ _ h)
    exact ⟨v, hk, fun w => by
      have := hv w
      simp only [← Array.toList_map, Array.toArray_toList] at this
      simp only [execOp, ho, resolve, invoke, builtin, Sem.run_bind, Sem.run_pure, Result.andThen_ok, this]⟩
  · rename_i args tys ho
    obtain ⟨v, hk, hv⟩ := pureS_sound (withL_sound ha _ _ h)
    exact ⟨v, hk, fun w => by
      have := hv w
      simp only [← Array.toList_map, Array.toArray_toList] at this
      simp only [execOp, ho, resolve, invoke, builtin, Sem.run_bind, Sem.run_pure, Result.andThen_ok, this]⟩
  · rename_i args tys ho
    obtain ⟨v, hk, hv⟩ := pureS_sound (withL_sound ha _ _ h)
    exact ⟨v, hk, fun w => by
      have := hv w
      simp only [← Array.toList_map, Array.toArray_toList] at this
      simp only [execOp, ho, resolve, invoke, builtin, Sem.run_bind, Sem.run_pure, Result.andThen_ok, this]⟩
  · rename_i x s d ok ho
    obtain ⟨v, hk, hv⟩ := runP_sound (withV_sound h ha)
    exact ⟨v, hk, fun w => by simp only [execOp, ho, Sem.run_bind, hv w]; rfl⟩
  · rename_i t parts ho
    obtain ⟨v, hk, hv⟩ := pureS_sound (withP_sound ha _ _ h)
    refine ⟨v, hk, fun w => ?_⟩
    have := hv w
    simp only [← Array.toList_map, Array.toArray_toList] at this
    simp only [execOp, ho, Sem.run_bind, this]; rfl
  · exact h.elim

end Go.Proofs.Ytbfccpbijimjmaa
