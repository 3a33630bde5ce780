/-
  Regions whose order is drawn: one walk in one order serves every order. The world is known by classes; what is made new lies in a list beside.
-/
import Derived.Test.YtbfccpbijimjmaaMem
set_option linter.unusedVariables false
set_option linter.unusedSimpArgs false
namespace Go.Proofs.Ytbfccpbijimjmaa
open Go

/-- A class of worlds, with new blocks beside. -/
structure Cls where
  p : List (Nat × Obj) → World → Prop
  drew : ∀ G w, p G w → p G { w with drawn := w.drawn + 1 }
  new : ∀ G w o, p G w → p ((w.heap.size, o) :: G) (w.alloc o)
  perm : ∀ {G G' w}, G.Perm G' → p G w → p G' w

def Cls.push (C : Cls) (x : Nat × Obj) : Cls where
  p := fun G w => C.p (x :: G) w
  drew := fun G w h => C.drew _ w h
  new := fun G w o h => C.perm (List.Perm.swap _ _ _) (C.new _ w o h)
  perm := fun hp h => C.perm (hp.cons x) h

def Cls.le (C D : Cls) : Prop := ∀ G w, C.p G w → D.p G w
theorem Cls.le_push {C D : Cls} (h : C.le D) (x : Nat × Obj) : (C.push x).le (D.push x) := fun G w hw => h _ w hw
theorem Cls.push_swap (C : Cls) (x y : Nat × Obj) : ((C.push x).push y).le ((C.push y).push x) := fun G w hw => C.perm (List.Perm.swap _ _ _) hw

/-- Kinds of operations: that make a new block; that look at slots alone; all other ones. -/
inductive Kd3 where | new | pure | gen
def kd (P : Program) : Op → Kd3
  | .alloc _ => .new
  | .box _ _ => .new
  | .buildSlice _ _ _ => .new
  | .makeMap _ none => .new
  | .load _ _ => .gen
  | .store _ _ _ => .gen
  | .call { callee := .builtin .len, .. } => .pure
  | .call { callee := .builtin .min, .. } => .pure
  | .call { callee := .builtin .max, .. } => .pure
  | .call _ => .gen
  | .convert s d _ => match memConv P s d with | true => .gen | false => .pure
  | .makeSlice _ _ _ => .gen
  | .lookup _ _ _ _ => .gen
  | .mapUpdate _ _ _ _ => .gen
  | .range _ _ => .gen
  | .next _ _ => .gen
  | .entry _ => .gen
  | .makeMap _ _ => .gen
  | _ => .pure

/-- What is made, and the value that tells where. -/
def newOf (P : Program) (ρ : Operand → Value) : Op → Option (Obj × (Nat → Value))
  | .alloc t => match P.info? t with
    | some i => match i.zero with
      | some z => some (.cells z.cells t, fun b => .pointer (some ⟨b, 0, none⟩))
      | none => none
    | none => none
  | .box t x => some (.cells (ρ x).cells t, fun b => .pointer (some ⟨b, 0, none⟩))
  | .buildSlice t len parts => match P.underlying t with
    | some (.slice e) => match P.info? e with
      | some i => match i.zero, Nat.ble (len * i.size) 4096 with
        | some z, true => match Instr.fill (fun j => some (j * i.size, i.size)) ((Array.range (len * i.size)).map (z.cells[· % z.cells.size]!)) (parts.toList.map fun x => (x.1, ρ x.2)) with
          | some cells => some (.cells cells e, fun b => .slice (some ⟨b, 0, none⟩) len len)
          | none => none
        | _, _ => none
      | none => none
    | _ => none
  | .makeMap _ none => some (.map #[] 0, fun b => .map (some b))
  | _ => none

theorem newOf_run {P : Program} {o : Oper} {a : Act} {obj : Obj} {mk : Nat → Value} (h : newOf P a.eval o.op = some (obj, mk)) (w : World) : (execOp a.eval o).run P w = .ok (.value (mk w.heap.size)) (w.alloc obj) := by
  unfold newOf at h
  split at h
  · rename_i t ho
    split at h
    · rename_i i hi
      split at h
      · rename_i z hz
        cases h
        simp [execOp, ho, Instr.alloc, zeroValue, typeInfo, hi, hz, run_newVar]
      · cases h
    · cases h
  · rename_i t x ho
    cases h
    simp [execOp, ho, Instr.box, run_newVar]
  · rename_i t len parts ho
    have key : rowK P t len (parts.toList.map fun x => (x.1, a.eval x.2)) w (fun v w' => v = mk w.heap.size ∧ w' = w.alloc obj) := by
      unfold rowK
      split at h
      · rename_i e hu
        split at h
        · rename_i i hi
          split at h
          · rename_i z hz hb
            split at h
            · rename_i cells hc
              cases h
              simp only [hu, hi, hz, hb, hc]
              exact ⟨rfl, rfl⟩
            · cases h
          · cases h
        · cases h
      · cases h
    obtain ⟨v, w', ⟨hv, hw⟩, hr⟩ := row_run key
    subst hv; subst hw
    rw [← Array.toList_map, Array.toArray_toList] at hr
    simp only [execOp, ho, Sem.run_bind, hr]; rfl
  · rename_i t ho
    cases h
    simp [execOp, ho, Instr.makeMap]
  · cases h
theorem newOf_congr {P : Program} {ρ ρ' : Operand → Value} (o : Op) (h : ∀ x ∈ o.operands, ρ x = ρ' x) : newOf P ρ o = newOf P ρ' o := by
  cases o with
  | box t x => simp only [newOf]; rw [h x (by simp [Op.operands])]
  | buildSlice t len parts =>
    have hp : parts.toList.map (fun x => (x.1, ρ x.2)) = parts.toList.map (fun x => (x.1, ρ' x.2)) := by
      refine List.map_congr_left fun x hx => ?_
      rw [h x.2 (by simp only [Op.operands]; exact List.mem_toArray.2 (List.mem_map.2 ⟨x, hx, rfl⟩))]
    simp only [newOf, hp]
  | makeMap t r => cases r <;> rfl
  | _ => rfl
theorem newOf_put {P : Program} {ops : Array Oper} (o : Oper) (a : Act) (dst : Option Tmp) (v : Value) (h : ∀ d, dst = some d → d ∉ o.looksAt ops) : newOf P (a.put dst v).eval o.op = newOf P a.eval o.op :=
  newOf_congr o.op fun x hx => Act.eval_put fun d hd hxd => h d hd (by
    subst hxd
    exact List.mem_append_left _ (List.mem_filterMap.2 ⟨.tmp d, by simpa using hx, rfl⟩))

abbrev Pend := List (Nat × (Cls → Prop))

/-- Which operations stand ahead of which: a number a row, its bits. -/
def befs : List Oper → List Nat → List Nat
  | [], acc => acc
  | o :: r, acc => befs r (acc ++ [o.after.foldl (fun s e => cond (Region.binds .any e) (s ||| 2 ^ e.on ||| acc.getD e.on 0) s) 0])
def waits (b : List Nat) (j i : Nat) : Bool := (b.getD j 0).testBit i

section
variable (P : Program) (ops : Array Oper) (b : List Nat)

def trim (j : Nat) (pend : Pend) : Pend := pend.filter fun x => !waits b j x.1
def PendOk (pend : Pend) (j : Nat) (C : Cls) : Prop := ∀ k S, (k, S) ∈ trim b j pend → S C

def OpC (pend : Pend) (i : Nat) (a : Act) (C : Cls) (K : Act → Cls → Prop) : Prop :=
  match ops[i]? with
  | none => K a C
  | some o => match Region.wanted o (yielded ops a.tmps) with
    | false => K (a.put o.dst undef) C
    | true => match kd P o.op with
      | .new => ∃ (obj : Obj) (mk : Nat → Value), newOf P a.eval o.op = some (obj, mk) ∧ ∀ b, K (a.put o.dst (mk b)) (C.push (b, obj))
      | .pure => ∃ v, (∀ w, (execOp a.eval o).run P w = .ok (.value v) w) ∧ K (a.put o.dst v) C
      | .gen => ∃ X : Value → Cls → Prop, (∀ G w, C.p G w → Does P o a w fun v w' => ∃ C', X v C' ∧ C'.p G w') ∧ ∀ v C', X v C' → PendOk b pend i C' ∧ K (a.put o.dst v) C'

def AnyC (Q : Act → World → Prop) (pend : Pend) : Nat → Array Bool → Act → Cls → Prop
  | 0, listed, a, C => Region.ready .any ops listed = [] ∧ ∀ G w, C.p G w → Q a w
  | f + 1, listed, a, C => (Region.ready .any ops listed = [] → ∀ G w, C.p G w → Q a w) ∧
    ∀ j ∈ Region.ready .any ops listed, OpC P ops b pend j a C fun a' C' => AnyC Q (trim b j pend) f (listed.setIfInBounds j true) a' C'
end

section
variable {P : Program} {ops : Array Oper} {b : List Nat} {Q : Act → World → Prop} {pend : Pend}

theorem OpC.mono {i : Nat} {a : Act} {C : Cls} {pend' : Pend} {K K' : Act → Cls → Prop} (hp : ∀ C, PendOk b pend i C → PendOk b pend' i C) (h : ∀ a C, K a C → K' a C) (hh : OpC P ops b pend i a C K) : OpC P ops b pend' i a C K' := by
  unfold OpC at *
  split
  · rename_i ho; simp only [ho] at hh; exact h _ _ hh
  · rename_i o ho
    simp only [ho] at hh
    split
    · rename_i hw; simp only [hw] at hh; exact h _ _ hh
    · rename_i hw
      simp only [hw] at hh
      split
      · rename_i hn; simp only [hn] at hh; obtain ⟨obj, mk, h1, h2⟩ := hh; exact ⟨obj, mk, h1, fun b => h _ _ (h2 b)⟩
      · rename_i hn; simp only [hn] at hh; obtain ⟨v, h1, h2⟩ := hh; exact ⟨v, h1, h _ _ h2⟩
      · rename_i hn; simp only [hn] at hh; obtain ⟨X, h1, h2⟩ := hh; exact ⟨X, h1, fun v C' hx => ⟨hp _ (h2 v C' hx).1, h _ _ (h2 v C' hx).2⟩⟩

def Sub (pend' pend : Pend) : Prop := ∀ x, x ∈ pend' → x ∈ pend
theorem Sub.trim {pend' pend : Pend} (h : Sub pend' pend) (j : Nat) : Sub (trim b j pend') (trim b j pend) := fun x hx => by
  unfold Go.Proofs.Ytbfccpbijimjmaa.trim at hx ⊢
  rw [List.mem_filter] at hx ⊢
  exact ⟨h x hx.1, hx.2⟩
theorem Sub.of_trim (j : Nat) (pend : Pend) : Sub (Go.Proofs.Ytbfccpbijimjmaa.trim b j pend) pend := fun x hx => (List.mem_filter.1 hx).1
theorem AnyC.weaken : ∀ {f : Nat} {pend pend' : Pend} {listed : Array Bool} {a : Act} {C : Cls}, Sub pend' pend → AnyC P ops b Q pend f listed a C → AnyC P ops b Q pend' f listed a C
  | 0, _, _, _, _, _, _, h => h
  | _ + 1, _, _, _, _, _, hs, h => ⟨h.1, fun j hj => OpC.mono (fun C hp k S hk => hp k S (hs.trim j _ hk)) (fun _ _ h => AnyC.weaken (hs.trim j) h) (h.2 j hj)⟩

/-- A smaller class serves. -/
theorem OpC.le {i : Nat} {a : Act} {C D : Cls} {K : Act → Cls → Prop} (hCD : C.le D) (hK : ∀ a C D, C.le D → K a D → K a C) (hh : OpC P ops b pend i a D K) : OpC P ops b pend i a C K := by
  unfold OpC at *
  split
  · rename_i ho; simp only [ho] at hh; exact hK _ _ _ hCD hh
  · rename_i o ho
    simp only [ho] at hh
    split
    · rename_i hw; simp only [hw] at hh; exact hK _ _ _ hCD hh
    · rename_i hw
      simp only [hw] at hh
      split
      · rename_i hn; simp only [hn] at hh; obtain ⟨obj, mk, h1, h2⟩ := hh; exact ⟨obj, mk, h1, fun b => hK _ _ _ (Cls.le_push hCD _) (h2 b)⟩
      · rename_i hn; simp only [hn] at hh; obtain ⟨v, h1, h2⟩ := hh; exact ⟨v, h1, hK _ _ _ hCD h2⟩
      · rename_i hn; simp only [hn] at hh; obtain ⟨X, h1, h2⟩ := hh; exact ⟨X, fun G w hw => h1 G w (hCD G w hw), h2⟩
theorem AnyC.le : ∀ {f : Nat} {pend : Pend} {listed : Array Bool} {a : Act} {C D : Cls}, C.le D → AnyC P ops b Q pend f listed a D → AnyC P ops b Q pend f listed a C
  | 0, _, _, _, _, _, hCD, h => ⟨h.1, fun G w hw => h.2 G w (hCD G w hw)⟩
  | _ + 1, _, _, _, _, _, hCD, h => ⟨fun h0 G w hw => h.1 h0 G w (hCD G w hw), fun j hj => OpC.le hCD (fun _ _ _ hl hk => AnyC.le hl hk) (h.2 j hj)⟩

/-- It is enough for every order. -/
theorem wpAny_of_AnyC {Q' : Exit → Act → World → Prop} (hQ : ∀ a w, Q a w → Q' .normal a w) : ∀ (f : Nat) (pend : Pend) (listed : Array Bool) (a : Act) (C : Cls) (G : List (Nat × Obj)) (w : World), C.p G w → AnyC P ops b Q pend f listed a C → wpAny P .any ops Q' f listed a w
  | 0, _, _, _, _, G, w, hw, h => ⟨h.1, hQ _ _ (h.2 G w hw)⟩
  | f + 1, pend, listed, a, C, G, w, hw, h => ⟨fun h0 => hQ _ _ (h.1 h0 G w hw), fun j hj => by
    have h2 := h.2 j hj
    unfold OpC at h2
    unfold wpOp
    split
    · rename_i ho; simp only [ho] at h2; exact wpAny_of_AnyC hQ f _ _ _ C G w hw h2
    · rename_i o ho
      simp only [ho] at h2
      cases hwt : Region.wanted o (yielded ops a.tmps) with
      | false =>
        simp only [hwt] at h2
        rw [if_neg (by simp)]
        exact wpAny_of_AnyC hQ f _ _ _ C G w hw h2
      | true =>
        simp only [hwt] at h2
        rw [if_pos rfl]
        refine .inl ?_
        split at h2
        · obtain ⟨obj, mk, h3, h4⟩ := h2
          have hd : Does P o a w fun v w' => v = mk w.heap.size ∧ w' = w.alloc obj := by unfold Does; rw [newOf_run h3 w]; exact ⟨rfl, rfl⟩
          refine hd.wp fun v w' ⟨hv, hw'⟩ => ?_
          subst hv; subst hw'
          exact wpAny_of_AnyC hQ f _ _ _ _ G _ (C.new G w obj hw) (h4 w.heap.size)
        · obtain ⟨v, h3, h4⟩ := h2
          have hd : Does P o a w fun v' w' => v' = v ∧ w' = w := by unfold Does; rw [h3 w]; exact ⟨rfl, rfl⟩
          refine hd.wp fun v' w' ⟨hv, hw'⟩ => ?_
          subst hv; subst hw'
          exact wpAny_of_AnyC hQ f _ _ _ C G _ hw h4
        · obtain ⟨X, h3, h4⟩ := h2
          refine (h3 G w hw).wp fun v w' ⟨C', hx, hw'⟩ => ?_
          exact wpAny_of_AnyC hQ f _ _ _ C' G w' hw' (h4 v C' hx).2⟩

theorem does_put {oi oj : Oper} (hap : oi.apart ops oj = true) (hsj : ∀ cs b, oj.op ≠ .select cs b) (a : Act) (v : Value) (w : World) (R : Value → World → Prop) : Does P oj (a.put oi.dst v) w R = Does P oj a w R := by
  obtain ⟨h1, h2, h3⟩ := Oper.apart_spec hap
  unfold Does
  rw [execOp_put oj hsj a oi.dst v h1]
theorem does_put' {oi oj : Oper} (hap : oi.apart ops oj = true) (hsi : ∀ cs b, oi.op ≠ .select cs b) (a : Act) (v : Value) (w : World) (R : Value → World → Prop) : Does P oi (a.put oj.dst v) w R = Does P oi a w R := by
  obtain ⟨h1, h2, h3⟩ := Oper.apart_spec hap
  unfold Does
  rw [execOp_put oi hsi a oj.dst v h3]

/-! ### What has been listed -/
def Closed (ops : Array Oper) (listed : Array Bool) : Prop := ∀ j o, ops[j]? = some o → listed.getD j false = true → ∀ e ∈ o.after, Region.binds .any e = true → listed.getD e.on false = true
theorem Closed.set {listed : Array Bool} {j : Nat} (h : Closed ops listed) (hj : j ∈ Region.ready .any ops listed) : Closed ops (listed.setIfInBounds j true) := by
  intro k o ho hk e he hb
  by_cases hjk : j = k
  · subst hjk
    obtain ⟨_, o', ho', hall⟩ := mem_ready.1 hj
    rw [ho] at ho'; cases ho'
    exact getD_set_true (hall e he hb)
  · rw [getD_set_ne false hjk] at hk
    exact getD_set_true (h k o ho hk e he hb)
inductive Reach (ops : Array Oper) : Nat → Nat → Prop
  | one {j i : Nat} {o : Oper} {e : Edge} (ho : ops[j]? = some o) (he : e ∈ o.after) (hb : Region.binds .any e = true) (hi : e.on = i) : Reach ops j i
  | more {j k i : Nat} {o : Oper} {e : Edge} (ho : ops[j]? = some o) (he : e ∈ o.after) (hb : Region.binds .any e = true) (hk : e.on = k) (h : Reach ops k i) : Reach ops j i
theorem Reach.listed {listed : Array Bool} (hc : Closed ops listed) {j i : Nat} (h : Reach ops j i) : listed.getD j false = true → listed.getD i false = true := by
  induction h with
  | one ho he hb hi => intro hj; subst hi; exact hc _ _ ho hj _ he hb
  | more ho he hb hk _ ih => intro hj; subst hk; exact ih (hc _ _ ho hj _ he hb)
theorem Reach.ready {listed : Array Bool} (hc : Closed ops listed) {j i : Nat} (hr : j ∈ Region.ready .any ops listed) (h : Reach ops j i) : listed.getD i false = true := by
  obtain ⟨_, o', ho', hall⟩ := mem_ready.1 hr
  cases h with
  | one ho he hb hi => rw [ho] at ho'; cases ho'; subst hi; exact hall _ he hb
  | more ho he hb hk h => rw [ho] at ho'; cases ho'; subst hk; exact h.listed hc (hall _ he hb)

theorem bits_fold (acc : List Nat) (i : Nat) : ∀ (l : List Edge) (s : Nat), (l.foldl (fun s e => cond (Region.binds .any e) (s ||| 2 ^ e.on ||| acc.getD e.on 0) s) s).testBit i = true →
    s.testBit i = true ∨ ∃ e ∈ l, Region.binds .any e = true ∧ (e.on = i ∨ (acc.getD e.on 0).testBit i = true)
  | [], s, h => .inl h
  | e :: l, s, h => by
    simp only [List.foldl_cons] at h
    rcases bits_fold acc i l _ h with h | ⟨e', he', hb', h⟩
    · cases hb : Region.binds .any e with
      | false => simp only [hb, cond_false] at h; exact .inl h
      | true =>
        simp only [hb, cond_true, Nat.testBit_or, Bool.or_eq_true, Nat.testBit_two_pow, decide_eq_true_eq] at h
        rcases h with (h | h) | h
        · exact .inl h
        · exact .inr ⟨e, List.mem_cons_self, hb, .inl h⟩
        · exact .inr ⟨e, List.mem_cons_self, hb, .inr h⟩
    · exact .inr ⟨e', List.mem_cons_of_mem _ he', hb', h⟩
theorem befs_sound (hops : ∀ (k : Nat), ops.toList[k]? = ops[k]?) : ∀ (l : List Oper) (acc : List Nat), (∀ k, l[k]? = ops[acc.length + k]?) → (∀ j i, (acc.getD j 0).testBit i = true → Reach ops j i) →
    ∀ j i, ((befs l acc).getD j 0).testBit i = true → Reach ops j i
  | [], acc, _, h => h
  | o :: r, acc, hl, h => by
    refine befs_sound hops r _ (fun k => by have := hl (k + 1); simpa [Nat.add_assoc, Nat.add_comm 1 k] using this) fun j i hji => ?_
    rcases Nat.lt_trichotomy j acc.length with hj | hj | hj
    · refine h j i ?_
      simp only [List.getD_eq_getElem?_getD] at hji ⊢
      rwa [List.getElem?_append_left hj] at hji
    · subst hj
      have ho : ops[acc.length]? = some o := by simpa using (hl 0).symm
      simp only [List.getD_eq_getElem?_getD, List.getElem?_concat_length, Option.getD_some] at hji
      rw [← Array.foldl_toList] at hji
      rcases bits_fold acc i _ _ hji with h0 | ⟨e, he, hb, h1⟩
      · simp at h0
      · rcases h1 with h1 | h1
        · exact .one ho (Array.mem_toList_iff.1 he) hb h1
        · exact .more ho (Array.mem_toList_iff.1 he) hb rfl (h _ _ h1)
    · simp only [List.getD_eq_getElem?_getD] at hji
      rw [List.getElem?_eq_none (by simp; omega)] at hji
      simp at hji

def Waits (ops : Array Oper) (b : List Nat) : Prop := ∀ j i, waits b j i = true → Reach ops j i
theorem waits_sound : Waits ops (befs ops.toList []) := fun j i h => befs_sound (fun k => by simp) ops.toList [] (fun k => by simp) (fun j i h => by simp at h) j i h

/-! ### An operation that may be taken first -/
/-- In this class the operation yields v and leaves the class; or it is passed over. -/
def Sil (P : Program) (ops : Array Oper) (o : Oper) (a : Act) (v : Value) (C : Cls) : Prop :=
  match Region.wanted o (yielded ops a.tmps) with
  | true => match kd P o.op with
    | .pure => ∀ w, (execOp a.eval o).run P w = .ok (.value v) w
    | .new => False
    | .gen => ∀ G w, C.p G w → Does P o a w fun v' w' => v' = v ∧ C.p G w'
  | false => v = undef
theorem Sil.push {o : Oper} {a : Act} {v : Value} {C : Cls} (h : Sil P ops o a v C) (x : Nat × Obj) : Sil P ops o a v (C.push x) := by
  unfold Sil at *
  split
  · rename_i hw; simp only [hw] at h
    split
    · rename_i hk; simp only [hk] at h; exact h
    · rename_i hk; simp only [hk] at h
    · rename_i hk; simp only [hk] at h; exact fun G w hw' => h _ w hw'
  · rename_i hw; simp only [hw] at h; exact h
theorem Sil_put {oi oj : Oper} (hap : oi.apart ops oj = true) (hsi : ∀ cs b, oi.op ≠ .select cs b) (a : Act) (v u : Value) : Sil P ops oi (a.put oj.dst u) v = Sil P ops oi a v := by
  funext C
  unfold Sil
  rw [wanted_put oi a oj.dst u (Oper.apart_spec hap).2.2, execOp_put oi hsi a oj.dst u (Oper.apart_spec hap).2.2]
  have : (∀ G w, C.p G w → Does P oi (a.put oj.dst u) w fun v' w' => v' = v ∧ C.p G w') = (∀ G w, C.p G w → Does P oi a w fun v' w' => v' = v ∧ C.p G w') := by
    simp only [does_put' hap hsi]
  rw [this]

theorem OpC_put {j : Nat} {oi oj : Oper} {v : Value} (hj : ops[j]? = some oj) (hap : oi.apart ops oj = true)
    (hsj : ∀ cs b, oj.op ≠ .select cs b) {K : Act → Cls → Prop} {a : Act} {C : Cls}
    (h : OpC P ops b pend j (a.put oi.dst v) C K) : OpC P ops b pend j a C fun a' C' => K (a'.put oi.dst v) C' := by
  obtain ⟨h1, h2, h3⟩ := Oper.apart_spec hap
  have comm : ∀ u, (a.put oi.dst v).put oj.dst u = (a.put oj.dst u).put oi.dst v := fun u => Act.put_comm a v u h2
  unfold OpC at *
  simp only [hj] at *
  rw [wanted_put oj a oi.dst v h1] at h
  split
  · rename_i hw; simp only [hw] at h; rw [comm] at h; exact h
  · rename_i hw
    simp only [hw] at h
    split
    · rename_i hn; simp only [hn] at h
      obtain ⟨obj, mk, h4, h5⟩ := h
      refine ⟨obj, mk, by rwa [newOf_put oj a oi.dst v h1] at h4, fun b => ?_⟩
      have := h5 b; rwa [comm] at this
    · rename_i hn; simp only [hn] at h
      obtain ⟨u, h4, h5⟩ := h
      refine ⟨u, by rwa [execOp_put oj hsj a oi.dst v h1] at h4, ?_⟩
      rwa [comm] at h5
    · rename_i hn; simp only [hn] at h
      obtain ⟨X, h4, h5⟩ := h
      refine ⟨X, fun G w hw => ?_, fun u C' hx => ?_⟩
      · have := h4 G w hw; rwa [does_put hap hsj] at this
      · have := h5 u C' hx; rwa [comm] at this

def Stable (pend : Pend) : Prop := ∀ x, x ∈ pend → ∀ (C : Cls) y, x.2 C → x.2 (C.push y)
theorem Stable.sub {pend pend' : Pend} (h : Stable pend) (hs : Sub pend' pend) : Stable pend' := fun x hx => h x (hs x hx)
def Now (pend : Pend) (C : Cls) : Prop := ∀ x, x ∈ pend → x.2 C
theorem Now.sub {pend pend' : Pend} {C : Cls} (h : Now pend C) (hs : Sub pend' pend) : Now pend' C := fun x hx => h x (hs x hx)

theorem unlisted {i : Nat} {listed : Array Bool} (hr : i ∈ Region.ready .any ops listed) (h1 : listed.getD i false = true) : False := by
  have h0 := (mem_ready.1 hr).1
  rcases Nat.lt_or_ge i listed.size with h' | h'
  · simp [h'] at h0 h1; rw [h0] at h1; cases h1
  · simp [Array.getElem?_eq_none h'] at h1

/-- The operation itself, where it is silent. -/
theorem OpC_sil {i : Nat} {oi : Oper} {v : Value} {a : Act} {C : Cls} {pend : Pend} {K : Act → Cls → Prop} (hi : ops[i]? = some oi) (hy : Sil P ops oi a v C) (hp : Now pend C) (hk : K (a.put oi.dst v) C) : OpC P ops b pend i a C K := by
  unfold OpC; simp only [hi]
  unfold Sil at hy
  split
  · rename_i hw; simp only [hw] at hy; subst hy; exact hk
  · rename_i hw
    simp only [hw] at hy
    split
    · rename_i hn; simp only [hn] at hy
    · rename_i hn; simp only [hn] at hy; exact ⟨v, hy, hk⟩
    · rename_i hn; simp only [hn] at hy
      exact ⟨fun v' C' => v' = v ∧ C' = C, fun G w hw => (hy G w hw).mono fun v' w' ⟨e, h⟩ => ⟨C, ⟨e, rfl⟩, h⟩, fun v' C' ⟨e1, e2⟩ => by subst e1; subst e2; exact ⟨fun k S hk => hp (k, S) (Sub.of_trim _ _ _ hk), hk⟩⟩

structure At (P : Program) (ops : Array Oper) (i : Nat) (oi : Oper) (listed : Array Bool) : Prop where
  op : ops[i]? = some oi
  closed : Closed ops listed
  free : ∀ j oj, ops[j]? = some oj → j ≠ i → listed.getD j true = false → (∀ e ∈ oj.after, Region.binds .any e = true → e.on ≠ i) → oi.apart ops oj = true
  ready : i ∈ Region.ready .any ops listed
  sel : ∀ (j : Nat) (o : Oper) cs b, ops[j]? = some o → o.op ≠ .select cs b

theorem At.other {i : Nat} {oi : Oper} {listed : Array Bool} (h : At P ops i oi listed) (hwt : Waits ops b) {j : Nat} (hj : j ∈ Region.ready .any ops listed) (hji : ¬ j = i) :
    ∃ oj, ops[j]? = some oj ∧ oi.apart ops oj = true ∧ waits b j i = false ∧ At P ops i oi (listed.setIfInBounds j true) ∧ j ∈ Region.ready .any ops (listed.setIfInBounds i true) ∧ listed.getD j true = false := by
  obtain ⟨hjun, oj, hoj, hall⟩ := mem_ready.1 hj
  have hnot : ∀ e ∈ oj.after, Region.binds .any e = true → e.on ≠ i := fun e he hb heq => by
    have h1 := hall e he hb
    rw [heq] at h1
    exact unlisted h.ready h1
  refine ⟨oj, hoj, h.free j oj hoj hji hjun hnot, ?_, ⟨h.op, h.closed.set hj, fun k ok hk hki hun hno => ?_, ready_mono h.ready (Ne.symm hji), h.sel⟩, ready_mono hj hji, hjun⟩
  · cases hwji : waits b j i with
    | false => rfl
    | true => exact (unlisted h.ready ((hwt j i hwji).ready h.closed hj)).elim
  · refine h.free k ok hk hki ?_ hno
    by_cases hjk : j = k
    · subst hjk; exact hjun
    · rw [getD_set_ne true hjk] at hun; exact hun

/-- **A silent operation that may come up now may be taken first.** -/
theorem take_sil (hwt : Waits ops b) {i : Nat} {oi : Oper} {v : Value} :
    ∀ (f : Nat) (pend : Pend) (listed : Array Bool) (a : Act) (C : Cls), At P ops i oi listed → Sil P ops oi a v C → Now pend C → Stable pend →
      AnyC P ops b Q ((i, Sil P ops oi a v) :: pend) f (listed.setIfInBounds i true) (a.put oi.dst v) C → AnyC P ops b Q pend (f + 1) listed a C := by
  intro f
  induction f with
  | zero =>
    intro pend listed a C hA hy hp hst H
    refine ⟨fun h => (by have := hA.ready; rw [h] at this; cases this), fun j hj => ?_⟩
    by_cases hji : j = i
    · subst hji
      exact OpC_sil hA.op hy hp ⟨H.1, H.2⟩
    · have := ready_mono hj hji
      rw [H.1] at this
      cases this
  | succ f ih =>
    intro pend listed a C hA hy hp hst H
    refine ⟨fun h => (by have := hA.ready; rw [h] at this; cases this), fun j hj => ?_⟩
    by_cases hji : j = i
    · subst hji
      exact OpC_sil hA.op hy hp (AnyC.weaken (fun x hx => List.mem_cons_of_mem _ (Sub.of_trim _ _ x hx)) H)
    · obtain ⟨oj, hoj, hap, hwno, hA', hrj, _⟩ := hA.other hwt hj hji
      have h1 := H.2 j hrj
      have htrim : trim b j ((i, Sil P ops oi a v) :: pend) = (i, Sil P ops oi a v) :: trim b j pend := by simp [trim, hwno]
      have h2 := OpC_put hoj hap (fun cs b => hA.sel j oj cs b hoj) h1
      have fin : ∀ (u : Value) (C' : Cls), Sil P ops oi a v C' → Now (trim b j pend) C' → AnyC P ops b Q (trim b j ((i, Sil P ops oi a v) :: pend)) f ((listed.setIfInBounds i true).setIfInBounds j true) ((a.put oj.dst u).put oi.dst v) C' →
          AnyC P ops b Q (trim b j pend) (f + 1) (listed.setIfInBounds j true) (a.put oj.dst u) C' := fun u C' hs hp' h3 => by
        have hsilf : Sil P ops oi (a.put oj.dst u) v = Sil P ops oi a v := Sil_put hap (fun cs b => hA.sel i oi cs b hA.op) a v u
        refine ih (trim b j pend) (listed.setIfInBounds j true) (a.put oj.dst u) C' hA' (by rw [hsilf]; exact hs) hp' (hst.sub (Sub.of_trim _ _)) ?_
        rw [hsilf, Array.setIfInBounds_comm _ _ hji, ← htrim]
        exact h3
      unfold OpC at h2 ⊢
      simp only [hoj] at h2 ⊢
      split
      · rename_i hw; simp only [hw] at h2; exact fin undef C hy (hp.sub (Sub.of_trim _ _)) h2
      · rename_i hw
        simp only [hw] at h2
        split
        · rename_i hn; simp only [hn] at h2
          obtain ⟨obj, mk, h3, h4⟩ := h2
          exact ⟨obj, mk, h3, fun b => fin (mk b) _ (hy.push _) (fun x hx => (hst x (Sub.of_trim _ _ x hx)) _ _ (hp x (Sub.of_trim _ _ x hx))) (h4 b)⟩
        · rename_i hn; simp only [hn] at h2
          obtain ⟨u, h3, h4⟩ := h2
          exact ⟨u, h3, fin u C hy (hp.sub (Sub.of_trim _ _)) h4⟩
        · rename_i hn; simp only [hn] at h2
          obtain ⟨X, h3, h4⟩ := h2
          refine ⟨X, h3, fun u C' hx => ?_⟩
          obtain ⟨h5, h6⟩ := h4 u C' hx
          have hnow : Now (trim b j ((i, Sil P ops oi a v) :: pend)) C' := fun x hx => h5 x.1 x.2 hx
          rw [htrim] at hnow
          exact ⟨fun k S hk => hnow (k, S) (List.mem_cons_of_mem _ hk), fin u C' (hnow _ List.mem_cons_self) (fun x hx => hnow x (List.mem_cons_of_mem _ hx)) h6⟩

theorem trim_comm (j k : Nat) (pend : Pend) : trim b j (trim b k pend) = trim b k (trim b j pend) := by
  simp only [trim, List.filter_filter]
  congr 1
  funext x
  exact Bool.and_comm _ _

/-- No more is pending of an operation that looks at slots alone. -/
theorem AnyC.also {i : Nat} {S : Cls → Prop} (hS : ∀ C, S C) : ∀ {f : Nat} {pend : Pend} {listed : Array Bool} {a : Act} {C : Cls}, AnyC P ops b Q pend f listed a C → AnyC P ops b Q ((i, S) :: pend) f listed a C
  | 0, _, _, _, _, h => h
  | f + 1, pend, _, _, _, h => ⟨h.1, fun j hj => OpC.mono (fun C hp k T hk => by
      have : (k, T) ∈ (i, S) :: trim b j pend := by
        unfold trim at hk ⊢
        rw [List.filter_cons] at hk
        split at hk
        · exact hk
        · exact List.mem_cons_of_mem _ hk
      rcases List.mem_cons.1 this with h | h
      · cases h; exact hS C
      · exact hp k T h) (fun a C h => AnyC.weaken (fun x hx => by
        unfold trim at hx ⊢
        rw [List.filter_cons] at hx
        split at hx
        · exact hx
        · exact List.mem_cons_of_mem _ hx) (AnyC.also hS h)) (h.2 j hj)⟩

/-- Only operations that make a block, or look at slots alone, may come ahead of this one, or behind it. -/
def Alone (P : Program) (ops : Array Oper) (b : List Nat) (i : Nat) (listed : Array Bool) : Prop :=
  ∀ k ok, ops[k]? = some ok → k ≠ i → listed.getD k true = false → waits b k i = false → kd P ok.op = .new ∨ kd P ok.op = .pure
theorem Alone.set {i : Nat} {listed : Array Bool} (h : Alone P ops b i listed) (j : Nat) : Alone P ops b i (listed.setIfInBounds j true) := fun k ok hk hki hun hw => h k ok hk hki (by
    by_cases hjk : j = k
    · subst hjk
      rcases Nat.lt_or_ge j listed.size with h' | h'
      · simp [h'] at hun
      · simp [Array.setIfInBounds, Nat.not_lt.2 h'] at hun
    · rw [getD_set_ne true hjk] at hun; exact hun) hw

/-- **What makes a new block, where nothing else may come but such, may be taken first.** -/
theorem take_new (hwt : Waits ops b) {i : Nat} {oi : Oper} (hk : kd P oi.op = .new) {obj : Obj} {mk : Nat → Value} :
    ∀ (f : Nat) (pend : Pend) (listed : Array Bool) (a : Act) (C : Cls), At P ops i oi listed → Alone P ops b i listed → Region.wanted oi (yielded ops a.tmps) = true → newOf P a.eval oi.op = some (obj, mk) → Stable pend →
      (∀ bl, AnyC P ops b Q (trim b i pend) f (listed.setIfInBounds i true) (a.put oi.dst (mk bl)) (C.push (bl, obj))) → AnyC P ops b Q pend (f + 1) listed a C := by
  have self : ∀ (f : Nat) (pend : Pend) (listed : Array Bool) (a : Act) (C : Cls), At P ops i oi listed → Region.wanted oi (yielded ops a.tmps) = true → newOf P a.eval oi.op = some (obj, mk) →
      (∀ bl, AnyC P ops b Q (trim b i pend) f (listed.setIfInBounds i true) (a.put oi.dst (mk bl)) (C.push (bl, obj))) → OpC P ops b pend i a C fun a' C' => AnyC P ops b Q (trim b i pend) f (listed.setIfInBounds i true) a' C' := by
    intro f pend listed a C hA hw hn H
    unfold OpC
    simp only [hA.op, hw, hk]
    exact ⟨obj, mk, hn, H⟩
  intro f
  induction f with
  | zero =>
    intro pend listed a C hA hal hw hn hst H
    refine ⟨fun h => (by have := hA.ready; rw [h] at this; cases this), fun j hj => ?_⟩
    by_cases hji : j = i
    · subst hji; exact self 0 pend listed a C hA hw hn H
    · have := ready_mono hj hji
      rw [(H 0).1] at this
      cases this
  | succ f ih =>
    intro pend listed a C hA hal hw hn hst H
    refine ⟨fun h => (by have := hA.ready; rw [h] at this; cases this), fun j hj => ?_⟩
    by_cases hji : j = i
    · subst hji; exact self (f + 1) pend listed a C hA hw hn H
    · obtain ⟨oj, hoj, hap, hwno, hA', hrj, hun⟩ := hA.other hwt hj hji
      obtain ⟨a1, a2, a3⟩ := Oper.apart_spec hap
      have hsj : ∀ cs b, oj.op ≠ .select cs b := fun cs b => hA.sel j oj cs b hoj
      have hsi : ∀ cs b, oi.op ≠ .select cs b := fun cs b => hA.sel i oi cs b hA.op
      have h2 := fun bl => OpC_put (v := mk bl) hoj hap hsj ((H bl).2 j hrj)
      have fin : ∀ (u : Value) (D : Cls), (∀ bl, AnyC P ops b Q (trim b j (trim b i pend)) f ((listed.setIfInBounds i true).setIfInBounds j true) ((a.put oj.dst u).put oi.dst (mk bl)) (D.push (bl, obj))) →
          AnyC P ops b Q (trim b j pend) (f + 1) (listed.setIfInBounds j true) (a.put oj.dst u) D := fun u D h3 => by
        refine ih (trim b j pend) (listed.setIfInBounds j true) (a.put oj.dst u) D hA' (hal.set j) (by rwa [wanted_put oi a oj.dst u a3]) (by rwa [newOf_put oi a oj.dst u a3]) (hst.sub (Sub.of_trim _ _)) fun bl => ?_
        rw [Array.setIfInBounds_comm _ _ hji, trim_comm]
        exact h3 bl
      unfold OpC at h2 ⊢
      simp only [hoj] at h2 ⊢
      split
      · rename_i hwj; simp only [hwj] at h2; exact fin undef C h2
      · rename_i hwj
        simp only [hwj] at h2
        rcases hal j oj hoj hji hun hwno with hkj | hkj
        · simp only [hkj] at h2 ⊢
          obtain ⟨obj', mk', h3, _⟩ := h2 0
          refine ⟨obj', mk', h3, fun bl' => fin (mk' bl') _ fun bl => ?_⟩
          obtain ⟨obj2, mk2, h5, h6⟩ := h2 bl
          rw [h3] at h5
          cases h5
          exact AnyC.le (Cls.push_swap C (bl', obj') (bl, obj)) (h6 bl')
        · simp only [hkj] at h2 ⊢
          obtain ⟨u, h3, _⟩ := h2 0
          refine ⟨u, h3, fin u C fun bl => ?_⟩
          obtain ⟨u2, h5, h6⟩ := h2 bl
          have e := (h3 default).symm.trans (h5 default)
          simp only [Result.ok.injEq, Next.value.injEq, and_true] at e
          subst e
          exact h6

/-- **What turns the class, where nothing else may come but blocks that are made, may be taken first.** -/
theorem take_eff (hwt : Waits ops b) {i : Nat} {oi : Oper} (hk : kd P oi.op = .gen) {α : Type} (x0 : α) {V : α → Value} :
    ∀ (f : Nat) (pend : Pend) (listed : Array Bool) (a : Act) (C : Cls) (D : α → Cls), At P ops i oi listed → Alone P ops b i listed → Region.wanted oi (yielded ops a.tmps) = true → Stable pend →
      (∀ G w, C.p G w → Does P oi a w fun v w' => ∃ x, v = V x ∧ (D x).p G w') → (∀ x, Now (trim b i pend) (D x)) →
      (∀ x, AnyC P ops b Q (trim b i pend) f (listed.setIfInBounds i true) (a.put oi.dst (V x)) (D x)) → AnyC P ops b Q pend (f + 1) listed a C := by
  have self : ∀ (f : Nat) (pend : Pend) (listed : Array Bool) (a : Act) (C : Cls) (D : α → Cls), At P ops i oi listed → Region.wanted oi (yielded ops a.tmps) = true →
      (∀ G w, C.p G w → Does P oi a w fun v w' => ∃ x, v = V x ∧ (D x).p G w') → (∀ x, Now (trim b i pend) (D x)) →
      (∀ x, AnyC P ops b Q (trim b i pend) f (listed.setIfInBounds i true) (a.put oi.dst (V x)) (D x)) → OpC P ops b pend i a C fun a' C' => AnyC P ops b Q (trim b i pend) f (listed.setIfInBounds i true) a' C' := by
    intro f pend listed a C D hA hw hd hp H
    unfold OpC
    simp only [hA.op, hw, hk]
    exact ⟨fun v C' => ∃ x, v = V x ∧ C' = D x, fun G w hg => (hd G w hg).mono fun v w' ⟨x, e, h⟩ => ⟨D x, ⟨x, e, rfl⟩, h⟩, fun v C' ⟨x, e1, e2⟩ => by subst e1; subst e2; exact ⟨fun k S hk => hp x (k, S) hk, H x⟩⟩
  intro f
  induction f with
  | zero =>
    intro pend listed a C D hA hal hw hst hd hp H
    refine ⟨fun h => (by have := hA.ready; rw [h] at this; cases this), fun j hj => ?_⟩
    by_cases hji : j = i
    · subst hji; exact self 0 pend listed a C D hA hw hd hp H
    · have := ready_mono hj hji
      rw [(H x0).1] at this
      cases this
  | succ f ih =>
    intro pend listed a C D hA hal hw hst hd hp H
    refine ⟨fun h => (by have := hA.ready; rw [h] at this; cases this), fun j hj => ?_⟩
    by_cases hji : j = i
    · subst hji; exact self (f + 1) pend listed a C D hA hw hd hp H
    · obtain ⟨oj, hoj, hap, hwno, hA', hrj, hun⟩ := hA.other hwt hj hji
      obtain ⟨a1, a2, a3⟩ := Oper.apart_spec hap
      have hsj : ∀ cs b, oj.op ≠ .select cs b := fun cs b => hA.sel j oj cs b hoj
      have hsi : ∀ cs b, oi.op ≠ .select cs b := fun cs b => hA.sel i oi cs b hA.op
      have h2 := fun x => OpC_put (v := V x) hoj hap hsj ((H x).2 j hrj)
      have fin : ∀ (u : Value) (C' : Cls) (D' : α → Cls), (∀ G w, C'.p G w → Does P oi a w fun v w' => ∃ x, v = V x ∧ (D' x).p G w') → (∀ x, Now (trim b i (trim b j pend)) (D' x)) →
          (∀ x, AnyC P ops b Q (trim b j (trim b i pend)) f ((listed.setIfInBounds i true).setIfInBounds j true) ((a.put oj.dst u).put oi.dst (V x)) (D' x)) →
          AnyC P ops b Q (trim b j pend) (f + 1) (listed.setIfInBounds j true) (a.put oj.dst u) C' := fun u C' D' hd' hp' h3 => by
        refine ih (trim b j pend) (listed.setIfInBounds j true) (a.put oj.dst u) C' D' hA' (hal.set j) (by rwa [wanted_put oi a oj.dst u a3]) (hst.sub (Sub.of_trim _ _)) (fun G w hg => by rw [does_put' hap hsi]; exact hd' G w hg) hp' fun x => ?_
        rw [Array.setIfInBounds_comm _ _ hji, trim_comm]
        exact h3 x
      have hp1 : ∀ x, Now (trim b i (trim b j pend)) (D x) := fun x y hx => by rw [trim_comm] at hx; exact hp x y (Sub.of_trim _ _ y hx)
      unfold OpC at h2 ⊢
      simp only [hoj] at h2 ⊢
      split
      · rename_i hwj; simp only [hwj] at h2; exact fin undef C D hd hp1 h2
      · rename_i hwj
        simp only [hwj] at h2
        rcases hal j oj hoj hji hun hwno with hkj | hkj
        · simp only [hkj] at h2 ⊢
          obtain ⟨obj', mk', h3, _⟩ := h2 x0
          refine ⟨obj', mk', h3, fun bl => fin (mk' bl) (C.push (bl, obj')) (fun x => (D x).push (bl, obj')) (fun G w hg => hd _ w hg) (fun x y hx => (hst y (Sub.of_trim _ _ y (Sub.of_trim _ _ y hx))) _ _ (hp1 x y hx)) fun x => ?_⟩
          obtain ⟨obj2, mk2, h5, h6⟩ := h2 x
          rw [h3] at h5
          cases h5
          exact h6 bl
        · simp only [hkj] at h2 ⊢
          obtain ⟨u, h3, _⟩ := h2 x0
          refine ⟨u, h3, fin u C D hd hp1 fun x => ?_⟩
          obtain ⟨u2, h5, h6⟩ := h2 x
          have e := (h3 default).symm.trans (h5 default)
          simp only [Result.ok.injEq, Next.value.injEq, and_true] at e
          subst e
          exact h6
end

def gslot (ops : Array Oper) (j : Nat) : Option Nat := match ops[j]? with | some o => o.dst | none => none

theorem emem_mono_l {x y : List Nat} {t : Nat} (h : emem (x ++ y) t = false) : emem x t = false := by rw [emem_append, Bool.or_eq_false_iff] at h; exact h.1
theorem emem_mono_r {x y : List Nat} {t : Nat} (h : emem (x ++ y) t = false) : emem y t = false := by rw [emem_append, Bool.or_eq_false_iff] at h; exact h.2

theorem agree_lit {n : Nat} {e : Env} {a : Act} {s : Nat} {b : Bool} (ha : Agree n e a) (h : eget e s = some (.bool b)) (c : Bool) (hc : b = c) : Agree n ((s, .bool c) :: e) a :=
  ⟨ha.defers, ha.size, fun t v ht => by
    simp only [eget] at ht
    cases hb : Nat.beq s t with
    | true =>
      simp only [hb, cond_true, Option.some.injEq] at ht
      have := Nat.eq_of_beq_eq_true hb
      subst this; subst ht; subst hc
      exact ha.val _ _ h
    | false => simp only [hb, cond_false] at ht; exact ha.val t v ht⟩

theorem yielded_of {n : Nat} {e : Env} {a : Act} {ops : Array Oper} {j s : Nat} {b : Bool} (ha : Agree n e a) (hs : gslot ops j = some s) (h : eget e s = some (.bool b)) : yielded ops a.tmps j = some b := by
  have hv := ha.val _ _ h
  unfold gslot at hs
  split at hs
  · rename_i o ho
    unfold yielded
    have hlt : s < a.tmps.size := by
      rcases Nat.lt_or_ge s a.tmps.size with h | h
      · exact h
      · rw [Array.getD_eq_getD_getElem?, Array.getElem?_eq_none h] at hv
        simp [undef] at hv
    have hg : a.tmps[s]? = some (.bool b) := by
      rw [Array.getD_eq_getD_getElem?] at hv
      rw [Array.getElem?_eq_getElem hlt] at hv ⊢
      simpa using hv
    simp [ho, hs, hg]
  · cases hs

/-- What a place holds whose operation is passed over. -/
def eskip (d : Option Nat) (e : Env) : Env := match d with | none => e | some d => (d, undef) :: e
theorem skip_agree {n : Nat} {e : Env} {a : Act} {d : Option Nat} (ha : Agree n e a) : Agree n (eskip d e) (a.put d undef) ∧ Kept d.toList a (a.put d undef) := by
  have hk : Kept d.toList a (a.put d undef) := by
    cases d with
    | none => exact Kept.refl _ _
    | some d =>
      intro t ht
      rcases Nat.lt_or_ge d a.tmps.size with hd | hd
      · rw [getD_put a d _ t hd]
        simp only [Option.toList, emem] at ht
        rw [if_neg (fun e => by subst e; simp at ht)]
      · simp [Act.put, Array.setIfInBounds, Nat.not_lt.2 hd]
  refine ⟨⟨(Act.put_defers' ..).trans ha.defers, (Act.put_size ..).trans ha.size, fun t v ht => ?_⟩, hk⟩
  cases d with
  | none => exact ha.val t v ht
  | some d =>
    simp only [eskip, eget] at ht
    cases hbt : Nat.beq d t with
    | true =>
      have e1 := Nat.eq_of_beq_eq_true hbt
      subst e1
      simp only [hbt, cond_true, Option.some.injEq] at ht
      subst ht
      rcases Nat.lt_or_ge d a.tmps.size with hd | hd
      · rw [getD_put a d undef d hd, if_pos rfl]
      · rw [Array.getD_eq_getD_getElem?, Array.getElem?_eq_none (by rw [Act.put_size]; exact hd)]; rfl
    | false =>
      simp only [hbt, cond_false] at ht
      rw [hk t (by simp only [Option.toList, emem, hbt]; rfl)]
      exact ha.val t v ht
theorem yielded_undef {n : Nat} {e : Env} {a : Act} {ops : Array Oper} {j s : Nat} {us : Array Value} (ha : Agree n e a) (hs : gslot ops j = some s) (h : eget e s = some (.tuple us)) : yielded ops a.tmps j = none := by
  have hv := ha.val _ _ h
  unfold gslot at hs
  split at hs
  · rename_i o ho
    unfold yielded
    simp only [ho, Option.bind_some, hs]
    rcases Nat.lt_or_ge s a.tmps.size with h | h
    · rw [Array.getD_eq_getD_getElem?, Array.getElem?_eq_getElem h] at hv
      simp only [Option.getD_some] at hv
      rw [Array.getElem?_eq_getElem h, hv]
    · rw [Array.getElem?_eq_none h]
  · cases hs

/-! ### The walk of one order, as a condition -/
def exR : List Ty → (Value → Prop) → Prop
  | [t], F => exT t F
  | l, F => exTL l fun us => F (.tuple us.toArray)
def alR : List Ty → (Value → Prop) → Prop
  | [t], F => alT t F
  | l, F => alTL l fun us => F (.tuple us.toArray)
def isR : List Ty → Value → Prop
  | [t], v => isT t v
  | l, v => ∃ us, isTL l us ∧ v = .tuple us.toArray
theorem exR_elim {l : List Ty} {F : Value → Prop} (h : exR l F) : ∃ v, F v := by
  unfold exR at h
  split at h
  · obtain ⟨v, _, h⟩ := exT_elim h; exact ⟨v, h⟩
  · obtain ⟨v, _, h⟩ := exTL_elim h; exact ⟨_, h⟩
theorem alR_elim {l : List Ty} {F : Value → Prop} (h : alR l F) {v : Value} (hv : isR l v) : F v := by
  unfold alR at h
  unfold isR at hv
  split at h
  · exact alT_elim h hv
  · rename_i hl
    split at hv
    · rename_i t; exact (hl t rfl).elim
    · obtain ⟨us, hu, rfl⟩ := hv; exact alTL_elim h hu
theorem is0_some (t : T0) : ∃ v, is0 t v := by
  cases t with
  | int k => exact ⟨.int k 0, 0, rfl⟩
  | bool => exact ⟨.bool true, true, rfl⟩
  | str => exact ⟨.string .empty, _, rfl⟩
  | ptr => exact ⟨.pointer none, _, rfl⟩
  | slice => exact ⟨.slice none 0 0, _, _, _, rfl⟩
  | map => exact ⟨.map none, _, rfl⟩
  | val => exact ⟨undef, trivial⟩
theorem isL_some : ∀ l : List T0, ∃ vs, isL l vs
  | [] => ⟨[], trivial⟩
  | t :: r => by
    obtain ⟨v, hv⟩ := is0_some t
    obtain ⟨vs, hvs⟩ := isL_some r
    exact ⟨v :: vs, hv, hvs⟩
theorem isT_some (t : Ty) : ∃ v, isT t v := by
  cases t with
  | b t => exact is0_some t
  | agg l => obtain ⟨vs, h⟩ := isL_some l; exact ⟨_, vs, h, rfl⟩
  | arr n => exact ⟨_, Array.replicate n undef, by simp, rfl⟩
theorem isTL_some : ∀ l : List Ty, ∃ vs, isTL l vs
  | [] => ⟨[], trivial⟩
  | t :: r => by
    obtain ⟨v, hv⟩ := isT_some t
    obtain ⟨vs, hvs⟩ := isTL_some r
    exact ⟨v :: vs, hv, hvs⟩
theorem isR_some (l : List Ty) : ∃ v, isR l v := by
  match l with
  | [] => exact ⟨_, [], trivial, rfl⟩
  | [t] => exact isT_some t
  | t :: u :: r => obtain ⟨us, h⟩ := isTL_some (t :: u :: r); exact ⟨_, us, h, rfl⟩

def conjP : Pend → Cls → Prop
  | [], _ => True
  | [(_, S)], C => S C
  | (_, S) :: r, C => S C ∧ conjP r C
theorem conjP_now : ∀ {p : Pend} {C : Cls}, conjP p C → Now p C
  | [], _, _ => fun x hx => by cases hx
  | [(i, S)], C, h => fun x hx => by rcases List.mem_cons.1 hx with rfl | hx; exact h; cases hx
  | (i, S) :: y :: r, C, h => fun x hx => by
    rcases List.mem_cons.1 hx with rfl | hx
    · exact h.1
    · exact conjP_now h.2 x hx

/-- Quiet: one value in each world of the class. -/
def Qt (C : Cls) (v : Value) (F : World → (Value → World → Prop) → Prop) : Prop := ∀ G w, C.p G w → F w fun v' w' => v' = v ∧ C.p G w'

/-- What turns the class: to one of some. -/
def Ef (C : Cls) (F : World → (Value → World → Prop) → Prop) (K : Value → Cls → Prop) : Prop :=
  ∃ (α : Type) (_ : α) (V : α → Value) (D : α → Cls), (∀ G w, C.p G w → F w fun v w' => ∃ x, v = V x ∧ (D x).p G w') ∧ ∀ x, K (V x) (D x)

def alB (P : Program) (ops : Array Oper) (b : List Nat) (i : Nat) (listed : Array Bool) : Bool :=
  (List.range ops.size).all fun k => Nat.beq k i || listed.getD k true || waits b k i || match ops[k]? with
    | some ok => (match kd P ok.op with | .gen => false | _ => true)
    | none => true
theorem alB_sound {P : Program} {ops : Array Oper} {b : List Nat} {i : Nat} {listed : Array Bool} (h : alB P ops b i listed = true) : Alone P ops b i listed := by
  intro k ok hk hki hun hw
  simp only [alB, List.all_eq_true, List.mem_range] at h
  have h1 := h k (Array.getElem?_eq_some_iff.1 hk).1
  have hb : Nat.beq k i = false := by
    cases hb : Nat.beq k i with
    | false => rfl
    | true => exact (hki (Nat.eq_of_beq_eq_true hb)).elim
  simp only [hb, hun, hw, hk, Bool.false_or] at h1
  split at h1
  · cases h1
  · rename_i hne
    cases hkd : kd P ok.op with
    | new => exact .inl rfl
    | pure => exact .inr rfl
    | gen => exact (hne hkd).elim

def newE (P : Program) (o : Oper) (e : Env) (F : Obj → (Nat → Value) → Prop) : Prop :=
  match o.op with
  | .alloc t => zeroK P t fun z => F (.cells z.cells t) fun b => .pointer (some ⟨b, 0, none⟩)
  | .box t x => withV e x fun v => F (.cells v.cells t) fun b => .pointer (some ⟨b, 0, none⟩)
  | .buildSlice t len parts => withP e parts.toList fun ps => match P.underlying t with
    | some (.slice el) => match P.info? el with
      | some i => match i.zero, Nat.ble (len * i.size) 4096 with
        | some z, true => match Instr.fill (fun j => some (j * i.size, i.size)) ((Array.range (len * i.size)).map (z.cells[· % z.cells.size]!)) ps with
          | some cells => F (.cells cells el) fun b => .slice (some ⟨b, 0, none⟩) len len
          | none => False
        | _, _ => False
      | none => False
    | _ => False
  | .makeMap _ none => F (.map #[] 0) fun b => .map (some b)
  | _ => False
theorem newE_sound {P : Program} {n : Nat} {o : Oper} {e : Env} {F : Obj → (Nat → Value) → Prop} {a : Act} (h : newE P o e F) (ha : Agree n e a) : ∃ obj mk, newOf P a.eval o.op = some (obj, mk) ∧ F obj mk := by
  unfold newE at h
  split at h
  · rename_i t ho
    unfold zeroK at h
    split at h
    · rename_i i hi
      split at h
      · rename_i z hz
        exact ⟨_, _, by simp [newOf, ho, hi, hz], h⟩
      · exact h.elim
    · exact h.elim
  · rename_i t x ho
    exact ⟨_, _, by simp [newOf, ho], withV_sound h ha⟩
  · rename_i t len parts ho
    have h := withP_sound ha _ _ h
    split at h
    · rename_i el hu
      split at h
      · rename_i i hi
        split at h
        · rename_i z hz hb
          split at h
          · rename_i cells hc
            exact ⟨_, _, by simp only [newOf, ho, hu, hi, hz, hb, hc], h⟩
          · exact h.elim
        · exact h.elim
      · exact h.elim
    · exact h.elim
  · rename_i t ho
    exact ⟨_, _, by simp [newOf, ho], h⟩
  · exact h.elim

/-- One operation of the walk. -/
def stepC (P : Program) (n : Nat) (ops : Array Oper) (b : List Nat) (i : Nat) (eff : Bool) (o : Oper) (listed : Array Bool) (pend : Pend) (C : Cls) (next : Pend → Env → Cls → Prop) (e : Env) : Prop :=
  match kd P o.op with
  | .pure => opP P o e fun v => eput n o.dst v e fun e' => next pend e' C
  | .new => match alB P ops b i listed with
    | true => newE P o e fun obj mk => ∀ bl : Nat, eput n o.dst (mk bl) e fun e' => next (trim b i pend) e' (C.push (bl, obj))
    | false => False
  | .gen => match resOf P o.type with
    | some l => match eff with
      | false => exR l fun v => Qt C v (opW P o e) ∧ eput n o.dst v e fun e' => next ((i, fun C => Qt C v (opW P o e)) :: pend) e' C
      | true => match alB P ops b i listed with
        | true => Ef C (opW P o e) fun v D => asR l v fun v => conjP (trim b i pend) D ∧ eput n o.dst v e fun e' => next (trim b i pend) e' D
        | false => False
    | none => False

def drawC (P : Program) (n : Nat) (ops : Array Oper) (b : List Nat) (K : Env → World → Prop) : List (Nat × Bool) → Array Bool → Pend → Env → Cls → Prop
  | [], listed, _, e, C => match Region.ready .any ops listed with
    | [] => ∀ G w, C.p G w → K e w
    | _ => False
  | (i, eff) :: r, listed, pend, e, C =>
    match ops[i]?, (Region.ready .any ops listed).contains i && Region.free .any ops listed i with
    | some o, true =>
      match o.guard with
      | none => stepC P n ops b i eff o listed pend C (drawC P n ops b K r (listed.setIfInBounds i true)) e
      | some (j, want) => match gslot ops j with
        | none => False
        | some s => match eget e s with
          | some (.bool t) => Bif t
              (match want with
                | true => stepC P n ops b i eff o listed pend C (drawC P n ops b K r (listed.setIfInBounds i true)) ((s, .bool true) :: e)
                | false => drawC P n ops b K r (listed.setIfInBounds i true) pend (eskip o.dst ((s, .bool true) :: e)) C)
              (match want with
                | false => stepC P n ops b i eff o listed pend C (drawC P n ops b K r (listed.setIfInBounds i true)) ((s, .bool false) :: e)
                | true => drawC P n ops b K r (listed.setIfInBounds i true) pend (eskip o.dst ((s, .bool false) :: e)) C)
          | some (.tuple _) => drawC P n ops b K r (listed.setIfInBounds i true) pend (eskip o.dst e) C
          | _ => False
    | _, _ => False

/-- What is pending in the condition, and what is in the run. -/
def PR : Pend → Pend → Prop
  | [], [] => True
  | (i, S) :: r, (j, T) :: q => i = j ∧ (∀ C, S C → T C) ∧ PR r q
  | _, _ => False
theorem PR.trim (b : List Nat) (j : Nat) : ∀ {p q : Pend}, PR p q → PR (Go.Proofs.Ytbfccpbijimjmaa.trim b j p) (Go.Proofs.Ytbfccpbijimjmaa.trim b j q)
  | [], [], _ => trivial
  | (i, S) :: r, (k, T) :: q, h => by
    obtain ⟨h1, h2, h3⟩ := h
    subst h1
    have ih := PR.trim b j h3
    unfold Go.Proofs.Ytbfccpbijimjmaa.trim at ih ⊢
    rw [List.filter_cons, List.filter_cons]
    cases waits b j i
    · exact ⟨rfl, h2, ih⟩
    · exact ih
  | [], _ :: _, h => h.elim
  | _ :: _, [], h => h.elim
theorem PR.now : ∀ {p q : Pend} {C : Cls}, PR p q → Now p C → Now q C
  | [], [], _, _, _ => fun x hx => by cases hx
  | (i, S) :: r, (k, T) :: q, C, h, hn => fun x hx => by
    obtain ⟨h1, h2, h3⟩ := h
    rcases List.mem_cons.1 hx with rfl | hx
    · exact h2 C (hn (i, S) List.mem_cons_self)
    · exact PR.now h3 (fun y hy => hn y (List.mem_cons_of_mem _ hy)) x hx
  | [], _ :: _, _, h, _ => h.elim
  | _ :: _, [], _, h, _ => h.elim

theorem dsts_nil {a b : Act} (h : Kept [] a b) : ∀ ws, Kept ws a b := fun ws t ht => h t rfl

theorem drawC_sound {P : Program} {n : Nat} {ops : Array Oper} {b : List Nat} {K : Env → World → Prop} {Q : Act → World → Prop} (hwt : Waits ops b) (hsel : Region.noSelect ops = true) (ws : List Nat) (a0 : Act)
    (hws : ∀ (i : Nat) (o : Oper), ops[i]? = some o → ∀ t, emem ws t = false → emem o.dst.toList t = false)
    (hK : ∀ e a w, K e w → Agree n e a → Kept ws a0 a → Q a w) :
    ∀ (r : List (Nat × Bool)) (m : Nat) (listed : Array Bool) (pe pend : Pend) (e : Env) (C : Cls) (a : Act), drawC P n ops b K r listed pe e C → Agree n e a → Kept ws a0 a → Closed ops listed → PR pe pend → Now pend C → Stable pend →
      AnyC P ops b Q pend (r.length + m) listed a C
  | [], m, listed, pe, pend, e, C, a, h, ha, hk, hcl, hpr, hn, hst => by
    unfold drawC at h
    split at h
    · rename_i hr
      cases m with
      | zero => exact ⟨hr, fun G w hw => hK e a w (h G w hw) ha hk⟩
      | succ m => exact ⟨fun _ G w hw => hK e a w (h G w hw) ha hk, fun j hj => by rw [hr] at hj; cases hj⟩
    · exact h.elim
  | (i, eff) :: r, m, listed, pe, pend, e, C, a, h, ha, hk, hcl, hpr, hn, hst => by
    have ih := drawC_sound (P := P) hwt hsel ws a0 hws hK r m
    unfold drawC at h
    split at h
    · rename_i o ho hchk
      simp only [Bool.and_eq_true] at hchk
      have hready : i ∈ Region.ready .any ops listed := by simpa using hchk.1
      have hA : At P ops i o listed := ⟨ho, hcl, Region.free_spec ho hchk.2, hready, Region.noSelect_spec hsel⟩
      have hcl' : Closed ops (listed.setIfInBounds i true) := hcl.set hready
      have keep : ∀ v, Kept o.dst.toList a (a.put o.dst v) → Kept ws a0 (a.put o.dst v) := fun v hkv t ht => (hkv t (hws i o ho t ht)).trans (hk t ht)
      have lenE : (List.length ((i, eff) :: r) + m) = (r.length + m) + 1 := by simp; omega
      rw [lenE]
      -- passed over
      have skip : ∀ e1, Agree n e1 a → Region.wanted o (yielded ops a.tmps) = false → drawC P n ops b K r (listed.setIfInBounds i true) pe (eskip o.dst e1) C → AnyC P ops b Q pend (r.length + m + 1) listed a C := by
        intro e1 ha1 hw h1
        obtain ⟨ha2, hk2⟩ := skip_agree (d := o.dst) ha1
        have hS : ∀ D, Sil P ops o a undef D := fun D => by unfold Sil; rw [hw]
        exact take_sil hwt (v := undef) _ pend listed a C hA (hS C) hn hst (AnyC.also hS (ih _ pe pend _ C _ h1 ha2 (keep _ hk2) hcl' hpr hn hst))
      -- carried out
      have go : ∀ e1, Agree n e1 a → Region.wanted o (yielded ops a.tmps) = true → stepC P n ops b i eff o listed pe C (drawC P n ops b K r (listed.setIfInBounds i true)) e1 → AnyC P ops b Q pend (r.length + m + 1) listed a C := by
        intro e1 ha1 hw h1
        unfold stepC at h1
        split at h1
        · rename_i hkd
          obtain ⟨v, h2, hv⟩ := opP_sound h1 ha1
          obtain ⟨e2, h3, ha2, hk2⟩ := eput_sound h2 ha1
          have hS : ∀ D, Sil P ops o a v D := fun D => by unfold Sil; rw [hw]; simp only [hkd]; exact hv
          exact take_sil hwt _ pend listed a C hA (hS C) hn hst (AnyC.also hS (ih _ pe pend e2 C _ h3 ha2 (keep _ hk2) hcl' hpr hn hst))
        · rename_i hkd
          split at h1
          · rename_i hal
            obtain ⟨obj, mk, hnew, h2⟩ := newE_sound h1 ha1
            refine take_new hwt hkd _ pend listed a C hA (alB_sound hal) hw hnew hst fun bl => ?_
            obtain ⟨e2, h3, ha2, hk2⟩ := eput_sound (h2 bl) ha1
            exact ih _ _ _ e2 _ _ h3 ha2 (keep _ hk2) hcl' (hpr.trim b i) (fun x hx => hst x (Sub.of_trim _ _ x hx) _ _ (hn x (Sub.of_trim _ _ x hx))) (hst.sub (Sub.of_trim _ _))
          · exact h1.elim
        · rename_i hkd
          split at h1
          case h_2 => exact h1.elim
          rename_i l hres
          split at h1
          · obtain ⟨v, hq, h2⟩ := exR_elim h1
            obtain ⟨e2, h3, ha2, hk2⟩ := eput_sound h2 ha1
            have hS : ∀ D, Qt D v (opW P o e1) → Sil P ops o a v D := fun D hq => by
              unfold Sil; rw [hw]; simp only [hkd]
              exact fun G w hg => opW_does (hq G w hg) ha1
            exact take_sil hwt _ pend listed a C hA (hS C hq) hn hst (ih _ _ _ e2 C _ h3 ha2 (keep _ hk2) hcl' (by exact ⟨rfl, hS, hpr⟩) (fun x hx => by
              rcases List.mem_cons.1 hx with rfl | hx
              · exact hS C hq
              · exact hn x hx) (fun x hx D y => by
              rcases List.mem_cons.1 hx with rfl | hx
              · exact fun h => Sil.push h y
              · exact hst x hx D y))
          · split at h1
            case h_2 => exact h1.elim
            rename_i hal
            obtain ⟨α, x0, V, D, hd, h2⟩ := h1
            refine take_eff hwt hkd x0 _ pend listed a C D hA (alB_sound hal) hw hst (fun G w hg => opW_does (hd G w hg) ha1) (fun x => (hpr.trim b i).now (conjP_now (asR_elim (h2 x)).1)) fun x => ?_
            obtain ⟨e2, h3, ha2, hk2⟩ := eput_sound (asR_elim (h2 x)).2 ha1
            exact ih _ _ _ e2 _ _ h3 ha2 (keep _ hk2) hcl' (hpr.trim b i) ((hpr.trim b i).now (conjP_now (asR_elim (h2 x)).1)) (hst.sub (Sub.of_trim _ _))
      split at h
      · rename_i hg
        exact go e ha (by simp [Region.wanted, hg]) h
      · rename_i j want hg
        split at h
        · exact h.elim
        · rename_i s hs
          split at h
          · rename_i t hb
            have hy := yielded_of ha hs hb
            cases t with
            | true =>
              have ha1 := agree_lit ha hb true rfl
              simp only [Bif] at h
              cases want with
              | true => exact go _ ha1 (by simp [Region.wanted, hg, hy]) h
              | false => exact skip _ ha1 (by simp [Region.wanted, hg, hy]) h
            | false =>
              have ha1 := agree_lit ha hb false rfl
              simp only [Bif] at h
              cases want with
              | false => exact go _ ha1 (by simp [Region.wanted, hg, hy]) h
              | true => exact skip _ ha1 (by simp [Region.wanted, hg, hy]) h
          · rename_i us hb
            have hy := yielded_undef ha hs hb
            exact skip _ ha (by simp [Region.wanted, hg, hy]) h
          · exact h.elim
    · exact h.elim
end Go.Proofs.Ytbfccpbijimjmaa
