/-
  Operations that look into memory, make it or write it; calls.
-/
import Derived.Test.YtbfccpbijimjmaaOps
set_option linter.unusedVariables false
set_option linter.unusedSimpArgs false
namespace Go.Proofs.Ytbfccpbijimjmaa
open Go

/-- A call that returns. -/
def CallR (P : Program) (f : FuncId) (args : Array Value) (w : World) (R : Value → World → Prop) : Prop :=
  Calls P f args w fun e w' => ∃ v, e = .returned v ∧ R v w'
theorem CallR.mono {P : Program} {f : FuncId} {args : Array Value} {w : World} {R R' : Value → World → Prop} (h : CallR P f args w R) (hr : ∀ v w', R v w' → R' v w') : CallR P f args w R' :=
  Calls.mono h fun e w' ⟨v, he, hv⟩ => ⟨v, he, hr v w' hv⟩

def bodyOk (P : Program) (f : FuncId) : Bool :=
  match P.funcs[f]? with
  | some fn => !(fn.name == "runtime.NumGoroutine") && fn.body.isSome
  | none => false
theorem callFunc_run {P : Program} {f : FuncId} (hf : bodyOk P f = true) (args : Array Value) (w : World) : (callFunc f args).run P w = .ok (.enter f args) w := by
  unfold bodyOk at hf
  unfold callFunc
  simp only [Sem.run_bind, run_program, Result.andThen_ok]
  split at hf
  · rename_i fn hfn
    simp only [Bool.and_eq_true, Bool.not_eq_true'] at hf
    have h2 : fn.body.isNone = false := by cases hb : fn.body <;> simp_all
    simp [hfn, hf.1, h2]
  · cases hf

def resF (P : Program) (f : FuncId) : Option (List Ty) :=
  match P.funcs[f]? with
  | some fn => tysOf P fn.resultTypes.toList
  | none => none
/-- A call of a function that is known, its result taken apart. -/
def callK (P : Program) (f : FuncId) (args : List Value) (w : World) (K : Value → World → Prop) : Prop :=
  match bodyOk P f, resF P f with
  | true, some l => CallR P f args.toArray w fun v w' => asR l v fun v => K v w'
  | _, _ => False
/-- A call of a value: a function that has captured some. -/
def CallV (P : Program) (t : TypeId) (v : Value) (args : List Value) (w : World) (K : Value → World → Prop) : Prop :=
  ∃ f first cap, v = .func (.func f) first cap ∧ bodyOk P f = true ∧ CallR P f (first ++ args.toArray ++ cap) w K
def callV (P : Program) (t : TypeId) (v : Value) (args : List Value) (w : World) (K : Value → World → Prop) : Prop :=
  match v with
  | .func (.func f) first cap => callK P f (first ++ args.toArray ++ cap).toList w K
  | _ => match resOf P t with
    | some l => CallV P t v args w fun v w' => asR l v fun v => K v w'
    | none => False

def NewC (cs : Array Value) (t : TypeId) (w : World) (F : Nat → World → Prop) : Prop := F w.heap.size (w.alloc (.cells cs t))
def NotAgg (v : Value) : Prop := match v with | .agg _ => False | .tuple _ => False | _ => True
def St1 (a : Addr) (v : Value) (w : World) (K : World → Prop) : Prop := ((∃ u, w.cell? a = some u) ∧ w.frozen? a = false) ∧ K (w.setCell a v)
def isB0 : T0 → Value → Bool
  | .int _, .int _ _ => true
  | .bool, .bool _ => true
  | .str, .string _ => true
  | .ptr, .pointer _ => true
  | .slice, .slice _ _ _ => true
  | .map, .map _ => true
  | _, _ => false
def st0 (t : T0) (a : Addr) (v : Value) (w : World) (K : World → Prop) : Prop :=
  match t with
  | .val => NotAgg v ∧ St1 a v w K
  | t => match isB0 t v with
    | true => St1 a v w K
    | false => False
def stL (a : Addr) : List T0 → List Value → Nat → World → (World → Prop) → Prop
  | [], [], _, w, K => K w
  | t :: l, v :: r, i, w, K => st0 t (a.add i) v w fun w' => stL a l r (i + 1) w' K
  | _, _, _, _, _ => False
/-- An array is written whole. -/
def StA (P : Program) (a : Addr) (cs : Array Value) (w : World) (K : World → Prop) : Prop := ∃ w', (storeCells a cs.toList).run P w = .ok () w' ∧ K w'
def LdA (P : Program) (n : Nat) (a : Addr) (w : World) (K : Array Value → Prop) : Prop := ∃ cs : Array Value, cs.size = n ∧ (loadCells a n).run P w = .ok cs w ∧ K cs

def ldK (P : Program) (t : TypeId) (v : Value) (w : World) (K : Value → World → Prop) : Prop :=
  match v with
  | .pointer p => NilP p fun a => match tyOf P t with
    | some (.b t) => ld0 t a w fun v => K v w
    | some (.agg l) => ldL a w l 0 fun vs => K (.agg vs.toArray) w
    | some (.arr n) => LdA P n a w fun cs => K (.agg cs) w
    | none => False
  | _ => False
def stK (P : Program) (t : TypeId) (v x : Value) (w : World) (K : World → Prop) : Prop :=
  match v with
  | .pointer p => NilP p fun a => match tyOf P t with
    | some (.b t) => st0 t a x w K
    | some (.agg l) => match x with
      | .agg cs => stL a l cs.toList 0 w K
      | _ => False
    | some (.arr n) => match x with
      | .agg cs => cs.size = n ∧ StA P a cs w K
      | _ => False
    | none => False
  | _ => False

def zeroK (P : Program) (t : TypeId) (F : Value → Prop) : Prop :=
  match P.info? t with
  | some i => match i.zero with
    | some z => F z
    | none => False
  | none => False

def rowK (P : Program) (t : TypeId) (len : Nat) (parts : List (Nat × Value)) (w : World) (K : Value → World → Prop) : Prop :=
  match P.underlying t with
  | some (.slice e) => match P.info? e with
    | some i => match i.zero, Nat.ble (len * i.size) 4096 with
      | some z, true => match Instr.fill (fun j => some (j * i.size, i.size)) ((Array.range (len * i.size)).map (z.cells[· % z.cells.size]!)) parts with
        | some cells => NewC cells e w fun b w' => K (.slice (some ⟨b, 0, none⟩) len len) w'
        | none => False
      | _, _ => False
    | none => False
  | _ => False

/-- make of a slice. -/
def mkCells (z : Array Value) (n : Nat) : Array Value := (Array.range n).map (z[· % z.size]!)
def MkS (z : Array Value) (size bytes : Nat) (e : TypeId) (l c : Int) (w : World) (F : Nat → World → Prop) : Prop :=
  (0 ≤ l ∧ l ≤ c ∧ c < 9223372036854775808 ∧ bytes * c ≤ 281474976710656) ∧ NewC (mkCells z (c.toNat * size)) e w F
def makeK (P : Program) (t : TypeId) (l c : Value) (w : World) (K : Value → World → Prop) : Prop :=
  match P.underlying t, l, c with
  | some (.slice e), .int _ l, .int _ c => match P.info? e with
    | some i => match i.zero, Nat.blt 0 i.size with
      | some z, true => MkS z.cells i.size i.bytes e l c w fun b w' => K (.slice (some ⟨b, 0, none⟩) l.toNat c.toNat) w'
      | _, _ => False
    | none => False
  | _, _, _ => False

/-- A step of a walk over a map: there is none; or a key and what stands by it. -/
def NextK (P : Program) (s : Sem Value) (w : World) (A : World → Prop) (B : Value → Value → World → Prop) : Prop :=
  Run P s w fun v w' => (v = .tuple #[.bool false] ∧ A w') ∨ ∃ k x, v = .tuple #[.bool true, k, x] ∧ B k x w'
theorem NextK.elim {P : Program} {s : Sem Value} {w : World} {K : Value → World → Prop} (h : NextK P s w (K (.tuple #[.bool false])) fun k x => K (.tuple #[.bool true, k, x])) : ∃ v w', K v w' ∧ s.run P w = .ok v w' := by
  obtain ⟨v, w', hr, h⟩ := h
  rcases h with ⟨rfl, h⟩ | ⟨k, x, rfl, h⟩
  · exact ⟨_, w', h, hr⟩
  · exact ⟨_, w', h, hr⟩
def exO : Option Ty → (Value → Prop) → Prop
  | none, F => ∃ v, F v
  | some t, F => exT t F
theorem exO_elim {t : Option Ty} {F : Value → Prop} (h : exO t F) : ∃ v, F v := by
  cases t with
  | none => exact h
  | some t => obtain ⟨v, _, h⟩ := exT_elim h; exact ⟨v, h⟩
/-- The round's key, and what stands by it. -/
def EntK (P : Program) (t0 t1 : Option Ty) (v : Value) (w : World) (K : Value → World → Prop) : Prop :=
  Run P (Instr.entry v) w fun u w' => exO t0 fun k => exO t1 fun x => u = .tuple #[k, x] ∧ K (.tuple #[k, x]) w'
theorem EntK.elim {P : Program} {t0 t1 : Option Ty} {v : Value} {w : World} {K : Value → World → Prop} (h : EntK P t0 t1 v w K) : ∃ u w', K u w' ∧ (Instr.entry v).run P w = .ok u w' := by
  obtain ⟨u, w', hr, h⟩ := h
  obtain ⟨k, h⟩ := exO_elim h
  obtain ⟨x, hx⟩ := exO_elim h
  obtain ⟨hu, hk⟩ := hx
  subst hu
  exact ⟨_, w', hk, hr⟩
/-- A method of what an interface holds. -/
def InvK (P : Program) (name : String) (v : Value) (vs : List Value) (w : World) (K : Value → World → Prop) : Prop :=
  ∃ f as, (invoke (.fn (.method name) #[]) (#[v] ++ vs.toArray)).run P w = .ok (.enter f as) w ∧ CallR P f as w K
def invK (P : Program) (t : TypeId) (name : String) (v : Value) (vs : List Value) (w : World) (K : Value → World → Prop) : Prop :=
  match resOf P t with
  | some l => InvK P name v vs w fun v w' => asR l v fun v => K v w'
  | none => False
/-- A map that is made. -/
def NewM (w : World) (F : Nat → World → Prop) : Prop := F w.heap.size (w.alloc (.map #[] 0))
def RunU (P : Program) (s : Sem Unit) (w : World) (K : World → Prop) : Prop := ∃ w', s.run P w = .ok () w' ∧ K w'

/-- A conversion that looks into memory, or makes some. -/
def memConv (P : Program) (s d : TypeId) : Bool :=
  match P.underlying s, P.underlying d with
  | some (.slice _), _ => true
  | some .string, some (.slice _) => true
  | _, _ => false

def opW (P : Program) (o : Oper) (e : Env) (w : World) (K : Value → World → Prop) : Prop :=
  match o.op with
  | .load t x => withV e x fun v => ldK P t v w K
  | .store t x y => withV e x fun v => withV e y fun u => stK P t v u w fun w' => K undef w'
  | .alloc t => zeroK P t fun z => NewC z.cells t w fun b w' => K (.pointer (some ⟨b, 0, none⟩)) w'
  | .box t x => withV e x fun v => NewC v.cells t w fun b w' => K (.pointer (some ⟨b, 0, none⟩)) w'
  | .buildSlice t len parts => withP e parts.toList fun ps => rowK P t len ps w K
  | .makeSlice t l c => withV e l fun l => withV e c fun c => makeK P t l c w K
  | .call { callee := .value (.func f), args, .. } => withL e args.toList fun vs => callK P f vs w K
  | .call { callee := .value (.tmp t), args, .. } => withV e (.tmp t) fun v => withL e args.toList fun vs => callV P o.type v vs w K
  | .call { callee := .builtin .append, args, argTypes } => withL e args.toList fun vs => runW P o.type (Builtin.append_ argTypes o.type vs.toArray) w K
  | .call { callee := .builtin .copy, args, argTypes } => withL e args.toList fun vs => runW P o.type (Builtin.copy_ argTypes o.type vs.toArray) w K
  | .call { callee := .builtin .delete, args, argTypes } => withL e args.toList fun vs => Run P (Builtin.delete_ argTypes o.type vs.toArray) w K
  | .call { callee := .builtin .clear, args, argTypes } => withL e args.toList fun vs => Run P (Builtin.clear_ argTypes o.type vs.toArray) w K
  | .convert s d x => withV e x fun v => match memConv P s d with
    | true => runW P o.type (convert s d v) w K
    | false => pureS P (convert s d v) fun v => K v w
  | .makeMap t none => NewM w fun b w' => K (.map (some b)) w'
  | .lookup t x i ok => withV e x fun v => withV e i fun i => runW P o.type (Instr.lookup t v i ok) w K
  | .mapUpdate t m k x => withV e m fun m => withV e k fun k => withV e x fun x => RunU P (Instr.mapUpdate t m k x) w fun w' => K undef w'
  | .range t x => withV e x fun v => Run P (Instr.range t v) w K
  | .next it b => withV e it fun v => NextK P (Instr.next v b o.type) w (K (.tuple #[.bool false])) fun k x => K (.tuple #[.bool true, k, x])
  | .call { callee := .invoke recv name, args, .. } => withV e recv fun v => withL e args.toList fun vs => invK P o.type name v vs w K
  | _ => opP P o e fun v => K v w

/-! ### That this is enough -/
/-- What the operation does: it yields a value, in a world. -/
def Does (P : Program) (o : Oper) (a : Act) (w : World) (R : Value → World → Prop) : Prop :=
  match (execOp a.eval o).run P w with
  | .ok (.value v) w' => R v w'
  | .ok .skip w' => R undef w'
  | .ok (.enter f args) w' => Calls P f args w' fun e w'' => ∃ v, e = .returned v ∧ R v w''
  | _ => False
theorem Does.mono {P : Program} {o : Oper} {a : Act} {w : World} {R R' : Value → World → Prop} (h : ∀ v w', R v w' → R' v w') (hd : Does P o a w R) : Does P o a w R' := by
  unfold Does at *
  split at hd
  · exact h _ _ hd
  · exact h _ _ hd
  · exact Calls.mono hd fun e w'' ⟨v, he, hv⟩ => ⟨v, he, h _ _ hv⟩
  · exact hd.elim
theorem Does.wp {P : Program} {o : Oper} {a : Act} {w : World} {R : Value → World → Prop} {next : Act → World → Prop} {Q : Exit → Act → World → Prop} (hd : Does P o a w R) (h : ∀ v w', R v w' → next (a.put o.dst v) w') : o.wp P a w next Q := by
  unfold Does at hd
  unfold Oper.wp
  split at hd
  · rename_i hr; rw [hr]; exact h _ _ hd
  · rename_i hr; rw [hr]; exact h _ _ hd
  · rename_i hr; rw [hr]; exact Calls.mono hd fun e w'' ⟨v, he, hv⟩ => by subst he; exact h _ _ hv
  · exact hd.elim
theorem opW_value {P : Program} {o : Oper} {a : Act} {w w' : World} {v : Value} {K : Value → World → Prop}
    (hr : (execOp a.eval o).run P w = .ok (.value v) w') (hk : K v w') : Does P o a w K := by
  unfold Does; rw [hr]; exact hk
theorem opW_skip {P : Program} {o : Oper} {a : Act} {w w' : World} {K : Value → World → Prop}
    (hr : (execOp a.eval o).run P w = .ok .skip w') (hk : K undef w') : Does P o a w K := by
  unfold Does; rw [hr]; exact hk
theorem opW_enter {P : Program} {o : Oper} {a : Act} {w : World} {f : FuncId} {args : Array Value} {K : Value → World → Prop}
    (hr : (execOp a.eval o).run P w = .ok (.enter f args) w) (hk : CallR P f args w K) : Does P o a w K := by
  unfold Does; rw [hr]
  exact hk

theorem run_newVar {P : Program} (t : TypeId) (v : Value) (w : World) : (newVar t v).run P w = .ok ⟨w.heap.size, 0, none⟩ (w.alloc (.cells v.cells t)) := rfl

theorem tyOf_b {P : Program} {t : TypeId} {t0 : T0} (h : tyOf P t = some (.b t0)) : ∃ d, P.underlying t = some d ∧ isAggD d = false ∧ ∃ i, P.info? t = some i ∧ i.size = 1 := by
  unfold tyOf at h
  split at h
  · rename_i i d hi hd
    split at h
    · split at h
      · cases h
      · split at h <;> cases h
      · cases h
    · split at h
      · rename_i h1 h2 _
        exact ⟨d, hd, h2, i, hi, Nat.eq_of_beq_eq_true h1⟩
      · cases h
    · cases h
  · cases h
theorem tyOf_agg {P : Program} {t : TypeId} {l : List T0} (h : tyOf P t = some (.agg l)) : ∃ d, P.underlying t = some d ∧ isAggD d = true ∧ ∃ i, P.info? t = some i ∧ i.size = l.length := by
  have tl : ∀ (vs : List Value) (l : List T0), tyL vs = some l → vs.length = l.length := by
    intro vs
    induction vs with
    | nil => intro l h; simp [tyL] at h; subst h; rfl
    | cons v r ih =>
      intro l h
      simp only [tyL] at h
      split at h
      · rename_i hl; simp only [Option.some.injEq] at h; subst h; simp [ih _ hl]
      · cases h
  unfold tyOf at h
  split at h
  · rename_i i d hi hd
    split at h
    · rename_i cs hz
      split at h
      · cases h
      · rename_i h1
        split at h
        · rename_i l' hl
          simp only [Option.some.injEq, Ty.agg.injEq] at h
          subst h
          exact ⟨_, hd, rfl, i, hi, by rw [Nat.eq_of_beq_eq_true h1, ← tl _ _ hl]; simp⟩
        · cases h
      · cases h
    · split at h <;> cases h
    · cases h
  · cases h
theorem tyOf_arr {P : Program} {t : TypeId} {n : Nat} (h : tyOf P t = some (.arr n)) : ∃ d, P.underlying t = some d ∧ isAggD d = true ∧ ∃ i, P.info? t = some i ∧ i.size = n := by
  unfold tyOf at h
  split at h
  · rename_i i d hi hd
    split at h
    · rename_i cs hz
      split at h
      · rename_i h1
        simp only [Option.some.injEq, Ty.arr.injEq] at h
        subst h
        exact ⟨_, hd, rfl, i, hi, Nat.eq_of_beq_eq_true h1⟩
      · split at h <;> cases h
      · cases h
    · split at h <;> cases h
    · cases h
  · cases h

theorem run_isAgg {P : Program} {t : TypeId} {d : TypeDesc} (h : P.underlying t = some d) (w : World) : (isAgg t).run P w = .ok (isAggD d) w := by
  unfold isAgg
  simp only [Sem.run_bind, run_underlying h, Result.andThen_ok]
  cases d <;> rfl
theorem run_sizeOf' {P : Program} {t : TypeId} {i : TypeInfo} (h : P.info? t = some i) (w : World) : (sizeOf t).run P w = .ok i.size w := by
  simp [sizeOf, typeInfo, h]

theorem ld_run {P : Program} {t : TypeId} {v : Value} {w : World} {K : Value → World → Prop} (h : ldK P t v w K) : ∃ u, K u w ∧ (Instr.loadAt t v).run P w = .ok u w := by
  unfold ldK NilP at h
  split at h
  · split at h
    · rename_i p a
      split at h
      · rename_i t0 ht
        obtain ⟨d, hd, hb, _⟩ := tyOf_b ht
        obtain ⟨u, _, hc, hk⟩ := ld0_elim h
        refine ⟨u, hk, ?_⟩
        simp [Instr.loadAt, Instr.sureAddr, loadVar, run_isAgg hd, hb, hc]
      · rename_i l ht
        obtain ⟨d, hd, hb, i, hi, hs⟩ := tyOf_agg ht
        obtain ⟨vs, _, hl, hc, hk⟩ := ldL_elim h
        refine ⟨_, hk, ?_⟩
        have hc' : ∀ j v, vs[j]? = some v → w.cell? (a.add j) = some v := fun j v hj => by have := hc j v hj; rwa [Nat.zero_add] at this
        have := run_loadCells_list (P := P) w a vs hc'
        rw [hl, ← hs] at this
        simp [Instr.loadAt, Instr.sureAddr, loadVar, run_isAgg hd, hb, run_sizeOf' hi, this]
      · rename_i n ht
        obtain ⟨d, hd, hb, i, hi, hs⟩ := tyOf_arr ht
        obtain ⟨cs, hn, hc, hk⟩ := h
        refine ⟨_, hk, ?_⟩
        simp [Instr.loadAt, Instr.sureAddr, loadVar, run_isAgg hd, hb, run_sizeOf' hi, hs, hc]
      · exact h.elim
    · exact h.elim
  · exact h.elim

theorem St1_run {P : Program} {a : Addr} {v : Value} {w : World} {K : World → Prop} (hv : NotAgg v) (h : St1 a v w K) : ∃ w', K w' ∧ (store a v).run P w = .ok () w' := by
  obtain ⟨⟨⟨u, hu⟩, hf⟩, hk⟩ := h
  refine ⟨_, hk, ?_⟩
  unfold store
  cases v <;> first | exact hv.elim | simp [Sem.run, hu, hf]
theorem NotAgg_of {t : T0} {v : Value} (h : isB0 t v = true) : NotAgg v := by
  cases t <;> cases v <;> first | trivial | cases h
theorem st0_run {P : Program} {t : T0} {a : Addr} {v : Value} {w : World} {K : World → Prop} (h : st0 t a v w K) : NotAgg v ∧ ∃ w', K w' ∧ (store a v).run P w = .ok () w' := by
  unfold st0 at h
  split at h
  · exact ⟨h.1, St1_run h.1 h.2⟩
  · split at h
    · rename_i hb; exact ⟨NotAgg_of hb, St1_run (NotAgg_of hb) h⟩
    · exact h.elim
theorem stL_run {P : Program} {a : Addr} : ∀ {l : List T0} {vs : List Value} {i : Nat} {w : World} {K : World → Prop}, stL a l vs i w K → l.length = vs.length ∧ ∃ w', K w' ∧ (storeCells a vs i).run P w = .ok () w'
  | [], [], _, w, _, h => ⟨rfl, w, h, rfl⟩
  | t :: l, v :: r, i, w, K, h => by
    obtain ⟨_, w1, h1, hr⟩ := st0_run (P := P) h
    obtain ⟨hl, w2, h2, hr2⟩ := stL_run (P := P) h1
    refine ⟨by simp [hl], w2, h2, ?_⟩
    simp [storeCells, hr, hr2]
  | [], _ :: _, _, _, _, h => h.elim
  | _ :: _, [], _, _, _, h => h.elim

theorem cells_size_notAgg {v : Value} (h : NotAgg v) : v.cells = #[v] := by
  cases v <;> first | exact h.elim | rfl

theorem st_run {P : Program} {t : TypeId} {v x : Value} {w : World} {K : World → Prop} (h : stK P t v x w K) : ∃ w', K w' ∧ (Instr.storeAt t v x).run P w = .ok () w' := by
  unfold stK NilP at h
  split at h
  · split at h
    · rename_i p a
      split at h
      · rename_i t0 ht
        obtain ⟨d, hd, hb, i, hi, hs⟩ := tyOf_b ht
        obtain ⟨hv, w', hk, hr⟩ := st0_run (P := P) h
        refine ⟨w', hk, ?_⟩
        simp [Instr.storeAt, Instr.sureAddr, storeVar, run_sizeOf' hi, hs, cells_size_notAgg hv, storeCells, Addr.add, hr]
      · rename_i l ht
        obtain ⟨d, hd, hb, i, hi, hs⟩ := tyOf_agg ht
        split at h
        · rename_i cs
          obtain ⟨hl, w', hk, hr⟩ := stL_run (P := P) h
          refine ⟨w', hk, ?_⟩
          have e : cs.size = i.size := by rw [hs, hl]; simp
          simp [Instr.storeAt, Instr.sureAddr, storeVar, run_sizeOf' hi, Value.cells, e, hr]
        · exact h.elim
      · rename_i n ht
        obtain ⟨d, hd, hb, i, hi, hs⟩ := tyOf_arr ht
        split at h
        · rename_i cs
          obtain ⟨hn, w', hr, hk⟩ := h
          refine ⟨w', hk, ?_⟩
          simp [Instr.storeAt, Instr.sureAddr, storeVar, run_sizeOf' hi, Value.cells, hn, hs, hr]
        · exact h.elim
      · exact h.elim
    · exact h.elim
  · exact h.elim

theorem map_range0 (f : Nat → Value) : (Array.range 0).map f = #[] := by
  have h : Array.range 0 = #[] := by simp
  rw [h]; simp
theorem row_run {P : Program} {t : TypeId} {len : Nat} {parts : List (Nat × Value)} {w : World} {K : Value → World → Prop} (h : rowK P t len parts w K) :
    ∃ v w', K v w' ∧ (Instr.buildSlice t len parts.toArray).run P w = .ok v w' := by
  unfold rowK NewC at h
  split at h
  · rename_i e hu
    split at h
    · rename_i i hi
      split at h
      · rename_i z hz hle
        have hle := Nat.le_of_ble_eq_true hle
        split at h
        · rename_i cells hc
          refine ⟨_, _, h, ?_⟩
          have h24 : ¬ (len * i.size > 2 ^ 24) := by
            have : (2 : Nat) ^ 24 = 16777216 := rfl
            rw [this]; omega
          simp only [Instr.buildSlice, Sem.run_bind, run_underlying hu, Result.andThen_ok, run_sizeOf' hi, if_neg h24]
          by_cases h0 : len * i.size = 0
          · simp only [h0, map_range0] at hc
            simp only [h0, if_true, Sem.run_pure, Result.andThen_ok, map_range0, hc]
            rfl
          · simp only [h0, if_false, Sem.run_bind, zeroValue, typeInfo, run_program, Result.andThen_ok, hi, Sem.run_pure, hz]
            simp [hc]
            rfl
        · exact h.elim
      · exact h.elim
    · exact h.elim
  · exact h.elim

theorem make_run {P : Program} {t : TypeId} {l c : Value} {w : World} {K : Value → World → Prop} (h : makeK P t l c w K) :
    ∃ v w', K v w' ∧ (Instr.makeSlice t l c).run P w = .ok v w' := by
  unfold makeK MkS NewC at h
  split at h
  · rename_i e k l k' c hu
    split at h
    · rename_i i hi
      split at h
      · rename_i z hz hs
        have hs := Nat.le_of_ble_eq_true hs
        obtain ⟨⟨h0, h1, h2, h3⟩, hk⟩ := h
        refine ⟨_, _, hk, ?_⟩
        have wl : IntKind.i64.wrap l = l := IntWalk.i64_in _ ⟨by omega, by omega⟩
        have wc : IntKind.i64.wrap c = c := IntWalk.i64_in _ ⟨by omega, by omega⟩
        have e48 : (2 : Int) ^ 48 = 281474976710656 := rfl
        simp only [Instr.makeSlice, Sem.run_bind, run_underlying hu, Result.andThen_ok, asInt, asIntOf, Sem.run_pure, typeInfo, run_program, hi, wl, wc, e48]
        have t1 : (decide (c < 0) || decide ((i.bytes : Int) * c > 281474976710656)) = false := by simp; omega
        have t2 : (decide (l < 0)) = false := by simp; omega
        have t3 : decide (l > c) = false := by simp; omega
        simp only [t1, t2, t3, Bool.or_false, Bool.false_eq_true, if_false, Sem.run_bind]
        have ha : (askRoom (c.toNat * i.bytes)).run P w = .ok () w := by unfold askRoom; split <;> rfl
        simp only [ha, Result.andThen_ok, run_sizeOf' hi]
        by_cases hz0 : c.toNat * i.size = 0
        · simp only [hz0, if_true, Sem.run_pure, Result.andThen_ok]
          simp only [newRow, mkCells, hz0, map_range0]
          rfl
        · simp only [hz0, if_false, Sem.run_bind, zeroValue, typeInfo, run_program, Result.andThen_ok, hi, Sem.run_pure, hz]
          rfl
      · exact h.elim
    · exact h.elim
  · exact h.elim

theorem call_run {P : Program} {f : FuncId} {vs : List Value} {w : World} {K : Value → World → Prop} (h : callK P f vs w K) :
    bodyOk P f = true ∧ CallR P f vs.toArray w K := by
  unfold callK at h
  split at h
  · rename_i hb hr
    exact ⟨hb, h.mono fun v w' hv => asR_elim hv⟩
  · exact h.elim
theorem callV_run {P : Program} {t : TypeId} {v : Value} {vs : List Value} {w : World} {K : Value → World → Prop} (h : callV P t v vs w K) :
    ∃ f first cap, v = .func (.func f) first cap ∧ bodyOk P f = true ∧ CallR P f (first ++ vs.toArray ++ cap) w K := by
  unfold callV at h
  split at h
  · rename_i f first cap
    obtain ⟨hb, hc⟩ := call_run h
    exact ⟨f, first, cap, rfl, hb, by rw [Array.toArray_toList] at hc; exact hc⟩
  · split at h
    · obtain ⟨f, first, cap, hv, hb, hc⟩ := h
      exact ⟨f, first, cap, hv, hb, hc.mono fun v w' hv => asR_elim hv⟩
    · exact h.elim

theorem opW_does {P : Program} {n : Nat} {o : Oper} {e : Env} {w : World} {K : Value → World → Prop} {a : Act}
    (h : opW P o e w K) (ha : Agree n e a) : Does P o a w K := by
  unfold opW at h
  split at h
  · rename_i t x ho
    obtain ⟨u, hk, hr⟩ := ld_run (withV_sound h ha)
    exact opW_value (by simp only [execOp, ho, Sem.run_bind, hr]; rfl) hk
  · rename_i t x y ho
    obtain ⟨w', hk, hr⟩ := st_run (withV_sound (withV_sound h ha) ha)
    exact opW_skip (by simp only [execOp, ho, Sem.run_bind, hr]; rfl) hk
  · rename_i t ho
    unfold zeroK at h
    split at h
    · rename_i i hi
      split at h
      · rename_i z hz
        exact opW_value (by simp [execOp, ho, Instr.alloc, zeroValue, typeInfo, hi, hz, run_newVar]) h
      · exact h.elim
    · exact h.elim
  · rename_i t x ho
    exact opW_value (by simp [execOp, ho, Instr.box, run_newVar]) (withV_sound h ha)
  · rename_i t len parts ho
    obtain ⟨v, w', hk, hv⟩ := row_run (withP_sound ha _ _ h)
    refine opW_value ?_ hk
    simp only [← Array.toList_map, Array.toArray_toList] at hv
    simp only [execOp, ho, Sem.run_bind, hv]; rfl
  · rename_i t l c ho
    obtain ⟨v, w', hk, hv⟩ := make_run (withV_sound (withV_sound h ha) ha)
    exact opW_value (by simp only [execOp, ho, Sem.run_bind, hv]; rfl) hk
  · rename_i f args tys ho
    obtain ⟨hb, hc⟩ := call_run (withL_sound ha _ _ h)
    rw [← Array.toList_map, Array.toArray_toList] at hc
    refine opW_enter ?_ hc
    simp [execOp, ho, resolve, invoke, Act.eval, Deferred.ofValue, callFunc_run hb]
  · rename_i t args tys ho
    obtain ⟨f, first, cap, hv, hb, hc⟩ := callV_run (withL_sound ha _ _ (withV_sound h ha))
    rw [← Array.toList_map, Array.toArray_toList] at hc
    refine opW_enter ?_ hc
    simp [execOp, ho, resolve, invoke, hv, Deferred.ofValue, callFunc_run hb]
  · rename_i args tys ho
    obtain ⟨v, w', hk, hv⟩ := runW_sound (withL_sound ha _ _ h)
    refine opW_value ?_ hk
    simp only [← Array.toList_map, Array.toArray_toList] at hv
    simp only [execOp, ho, resolve, invoke, builtin, Sem.run_bind, Sem.run_pure, Result.andThen_ok, hv]
  · rename_i args tys ho
    obtain ⟨v, w', hk, hv⟩ := runW_sound (withL_sound ha _ _ h)
    refine opW_value ?_ hk
    simp only [← Array.toList_map, Array.toArray_toList] at hv
    simp only [execOp, ho, resolve, invoke, builtin, Sem.run_bind, Sem.run_pure, Result.andThen_ok, hv]
  · rename_i args tys ho
    obtain ⟨v, w', hv, hk⟩ := (withL_sound ha _ _ h)
    refine opW_value ?_ hk
    simp only [← Array.toList_map, Array.toArray_toList] at hv
    simp only [execOp, ho, resolve, invoke, builtin, Sem.run_bind, Sem.run_pure, Result.andThen_ok, hv]
  · rename_i args tys ho
    obtain ⟨v, w', hv, hk⟩ := (withL_sound ha _ _ h)
    refine opW_value ?_ hk
    simp only [← Array.toList_map, Array.toArray_toList] at hv
    simp only [execOp, ho, resolve, invoke, builtin, Sem.run_bind, Sem.run_pure, Result.andThen_ok, hv]
  · rename_i s d x ho
    have h := withV_sound h ha
    split at h
    · obtain ⟨v, w', hk, hv⟩ := runW_sound h
      exact opW_value (by simp only [execOp, ho, Sem.run_bind, hv]; rfl) hk
    · obtain ⟨v, hk, hv⟩ := pureS_sound h
      exact opW_value (by simp only [execOp, ho, Sem.run_bind, hv w]; rfl) hk
  · rename_i t ho
    exact opW_value (by simp [execOp, ho, Instr.makeMap]) h
  · rename_i t x i ok ho
    obtain ⟨v, w', hk, hv⟩ := runW_sound (withV_sound (withV_sound h ha) ha)
    exact opW_value (by simp only [execOp, ho, Sem.run_bind, hv]; rfl) hk
  · rename_i t m k x ho
    obtain ⟨w', hv, hk⟩ := withV_sound (withV_sound (withV_sound h ha) ha) ha
    exact opW_skip (by simp only [execOp, ho, Sem.run_bind, hv]; rfl) hk
  · rename_i t x ho
    obtain ⟨v, w', hv, hk⟩ := withV_sound h ha
    exact opW_value (by simp only [execOp, ho, Sem.run_bind, hv]; rfl) hk
  · rename_i it b ho
    obtain ⟨v, w', hk, hv⟩ := NextK.elim (withV_sound h ha)
    exact opW_value (by simp only [execOp, ho, Sem.run_bind, hv]; rfl) hk
  · rename_i recv name args tys ho
    have h := withL_sound ha _ _ (withV_sound h ha)
    unfold invK at h
    split at h
    · obtain ⟨f, as, hr, hc⟩ := h
      rw [← Array.toList_map, Array.toArray_toList] at hr
      refine opW_enter ?_ (hc.mono fun v w' hv => asR_elim hv)
      simp [execOp, ho, resolve, hr]
    · exact h.elim
  · obtain ⟨v, hk, hv⟩ := opP_sound h ha
    exact opW_value (hv w) hk
def entTy (P : Program) (d i : Nat) : List Oper → Option Ty
  | [] => none
  | o :: r => match o.op with
    | .extract (.tmp t) j => match Nat.beq t d && Nat.beq j i with
      | true => tyOf P o.type
      | false => entTy P d i r
    | _ => entTy P d i r
/-- An operation, with those behind it: they say what a map's key and value are. -/
def opX (P : Program) (r : List Oper) (o : Oper) (e : Env) (w : World) (K : Value → World → Prop) : Prop :=
  match o.op, o.dst with
  | .entry it, some d => withV e it fun v => EntK P (entTy P d 0 r) (entTy P d 1 r) v w K
  | _, _ => opW P o e w K
theorem opX_does {P : Program} {n : Nat} {r : List Oper} {o : Oper} {e : Env} {w : World} {K : Value → World → Prop} {a : Act}
    (h : opX P r o e w K) (ha : Agree n e a) : Does P o a w K := by
  unfold opX at h
  split at h
  · rename_i it d ho _
    obtain ⟨v, w', hk, hv⟩ := EntK.elim (withV_sound h ha)
    exact opW_value (by simp only [execOp, ho, Sem.run_bind, hv]; rfl) hk
  · exact opW_does h ha
theorem opX_sound {P : Program} {n : Nat} {r : List Oper} {o : Oper} {e : Env} {w : World} {K : Value → World → Prop} {a : Act} {next : Act → World → Prop} {Q : Exit → Act → World → Prop}
    (h : opX P r o e w K) (ha : Agree n e a) (hn : ∀ v w', K v w' → next (a.put o.dst v) w') : o.wp P a w next Q := (opX_does h ha).wp hn
theorem opW_sound {P : Program} {n : Nat} {o : Oper} {e : Env} {w : World} {K : Value → World → Prop} {a : Act} {next : Act → World → Prop} {Q : Exit → Act → World → Prop}
    (h : opW P o e w K) (ha : Agree n e a) (hn : ∀ v w', K v w' → next (a.put o.dst v) w') : o.wp P a w next Q := (opW_does h ha).wp hn
end Go.Proofs.Ytbfccpbijimjmaa
