/-
  A function's code, lifted: what it asks of the world, and that this is enough for the call.
-/
import Derived.Test.YtbfccpbijimjmaaDraw2
set_option linter.unusedVariables false
set_option linter.unusedSimpArgs false
namespace Go.Proofs.Ytbfccpbijimjmaa
open Go

inductive Ann where
  | nil
  | step (a b rest : Ann)
  | join (k : Nat) (sl : List (Nat × Ty)) (fst rest : Ann)
  | loop (sl : List (Nat × Ty)) (body : Ann)
  | draw (ord : List (Nat × Bool)) (rest : Ann)
  | draw2 (ord : List (Nat × Bool)) (rest : Ann)

def Ann.a : Ann → Ann | .step a _ _ => a | .loop _ a => a | _ => .nil
def Ann.b : Ann → Ann | .step _ b _ => b | _ => .nil
def Ann.rest : Ann → Ann | .step _ _ r => r | .draw _ r => r | .draw2 _ r => r | _ => .nil
def Ann.ord : Ann → List (Nat × Bool) | .draw o _ => o | .draw2 o _ => o | _ => []
def Ann.two : Ann → Bool | .draw2 _ _ => true | _ => false
def Ann.slots : Ann → List (Nat × Ty) | .loop sl _ => sl | _ => []

mutual
def wr : Code → List Nat
  | .region _ ops _ => dsts ops.toList
  | .seq a b => wr a ++ wr b
  | .cond _ a b => wr a ++ wr b
  | .block _ a => wr a
  | .loop a => wr a
  | .scope a => wr a
  | _ => []
def dsts : List Oper → List Nat
  | [] => []
  | o :: r => o.dst.toList ++ dsts r
end
def wrs : List Code → List Nat
  | [] => []
  | c :: r => wr c ++ wrs r

def LCont := Exit → Env → World → Prop

def slotsAs : List (Nat × Ty) → Env → (List Value → Prop) → Prop
  | [], _, K => K []
  | (s, t) :: r, e, K => match eget e s with
    | some v => asT' t v fun v => slotsAs r e fun vs => K (v :: vs)
    | none => False
where
  /-- Nothing is asked of a value whose shape is to be seen. -/
  asT' : Ty → Value → (Value → Prop) → Prop
    | .b (.int k), .int k' x, K => match decide (k' = k) with | true => K (.int k' x) | false => False
    | .b .bool, .bool b, K => K (.bool b)
    | .b .str, .string b, K => K (.string b)
    | .b .ptr, .pointer b, K => K (.pointer b)
    | .b .slice, .slice a n c, K => K (.slice a n c)
    | .b .map, .map r, K => K (.map r)
    | .b .val, v, K => K v
    | t, v, K => asT t v K

theorem asT'_elim {t : Ty} {v : Value} {K : Value → Prop} (h : slotsAs.asT' t v K) : isT t v ∧ K v := by
  unfold slotsAs.asT' at h
  split at h
  · split at h
    · rename_i k k' x _ hd
      have := of_decide_eq_true hd
      subst this
      exact ⟨⟨_, rfl⟩, h⟩
    · exact h.elim
  · exact ⟨⟨_, rfl⟩, h⟩
  · exact ⟨⟨_, rfl⟩, h⟩
  · exact ⟨⟨_, rfl⟩, h⟩
  · exact ⟨⟨_, _, _, rfl⟩, h⟩
  · exact ⟨⟨_, rfl⟩, h⟩
  · exact ⟨trivial, h⟩
  · exact asT_elim h

def bind : List (Nat × Ty) → List Value → Env → Env
  | (s, _) :: r, v :: vs, e => (s, v) :: bind r vs e
  | _, _, e => e
def tys : List (Nat × Ty) → List Ty
  | [] => []
  | (_, t) :: r => t :: tys r

/-- The operations of a region, one behind the other. -/
def ops1 (P : Program) (n : Nat) (ops : Array Oper) : List Oper → Env → World → (Env → World → Prop) → Prop
  | [], e, w, K => K e w
  | o :: r, e, w, K =>
    match o.guard with
    | none => opX P r o e w fun v w' => eput n o.dst v e fun e' => ops1 P n ops r e' w' K
    | some (j, want) => match gslot ops j with
      | none => False
      | some s => match eget e s with
        | some (.bool b) => Bif b
            (match want with
              | true => opX P r o ((s, .bool true) :: e) w fun v w' => eput n o.dst v ((s, .bool true) :: e) fun e' => ops1 P n ops r e' w' K
              | false => ops1 P n ops r (eskip o.dst ((s, .bool true) :: e)) w K)
            (match want with
              | false => opX P r o ((s, .bool false) :: e) w fun v w' => eput n o.dst v ((s, .bool false) :: e) fun e' => ops1 P n ops r e' w' K
              | true => ops1 P n ops r (eskip o.dst ((s, .bool false) :: e)) w K)
        | some (.tuple _) => ops1 P n ops r (eskip o.dst e) w K
        | _ => False

def Lp (F : (List Value → World → Prop) → (List Value → World → Nat) → Prop) : Prop := ∃ I μ, F I μ
def Jn (F : (List Value → World → Prop) → Prop) : Prop := ∃ J, F J

def thenQ (k : Env → World → Prop) (Q : LCont) : LCont := fun x e w => match x with | .normal => k e w | _ => Q x e w
def blockQ (id : Nat) (k : Env → World → Prop) (Q : LCont) : LCont := fun x e w => match x with
  | .normal => k e w
  | .exit i => match Nat.beq i id with
    | true => k e w
    | false => Q (.exit i) e w
  | _ => Q x e w

/-- A code's statements. -/
def flat : Code → List Code
  | .seq a b => flat a ++ flat b
  | c => [c]

abbrev Rec := List Code → Ann → LCont → Env → World → Prop
/-- The first statement; 'rec': what is asked of shorter ones. -/
def lift1 (P : Program) (n : Nat) (rec : Rec) (c : Code) (r : List Code) (an : Ann) (Q : LCont) (e : Env) (w : World) : Prop :=
  match c with
  | .skip => rec r an.rest Q e w
  | .region _ ops draw => match draw with
    | false => ops1 P n ops ops.toList e w fun e' w' => rec r an.rest Q e' w'
    | true => match P.follows .mixedOrders && Region.noSelect ops && Nat.ble an.ord.length ops.size with
      | true => ∃ C : Cls, C.p [] w ∧ match an.two with
        | false => drawC P n ops (befs ops.toList []) (fun e' w' => rec r an.rest Q e' w') an.ord (Array.replicate ops.size false) [] e C
        | true => Two.drawC P n ops (befs ops.toList []) (fun e' w' => rec r an.rest Q e' w') an.ord (Array.replicate ops.size false) [] e C
      | false => False
  | .cond c x y => withV e c fun v => match v with
    | .bool b => Bif b
        (rec (flat x) an.a (thenQ (fun e' w' => rec r an.rest Q e' w') Q) e w)
        (rec (flat y) an.b (thenQ (fun e' w' => rec r an.rest Q e' w') Q) e w)
    | _ => False
  | .block id b => rec (flat b) an.a (blockQ id (fun e' w' => rec r an.rest Q e' w') Q) e w
  | .loop b => Lp fun I μ =>
      (slotsAs an.slots e fun vs => I vs w) ∧
      alTL (tys an.slots) fun vs => ∀ w', I vs w' →
        rec (flat b) an.a (thenQ (fun e'' w'' => slotsAs an.slots e'' fun vs' => I vs' w'' ∧ μ vs' w'' < μ vs w') Q) (bind an.slots vs (edrop (wr b) e)) w'
  | .exit id => Q (.exit id) e w
  | .ret => Q .ret e w
  | _ => False

def lift (P : Program) (n : Nat) : Nat → List Code → Ann → LCont → Env → World → Prop
  | 0, _, _, _, _, _ => False
  | _ + 1, [], _, Q, e, w => Q .normal e w
  | f + 1, c :: r, an, Q, e, w => match an with
    | .join k sl a1 a2 => Jn fun J =>
      lift P n f (List.take k (c :: r)) a1 (thenQ (fun e' w' => slotsAs sl e' fun vs => J vs w') Q) e w ∧
      alTL (tys sl) fun vs => ∀ w', J vs w' → lift P n f (List.drop k (c :: r)) a2 Q (bind sl vs (edrop (wrs (List.take k (c :: r))) e)) w'
    | an => lift1 P n (lift P n f) c r an Q e w

/-! ### That this is enough -/
def wpL (P : Program) : List Code → (Exit → Act → World → Prop) → Act → World → Prop
  | [], Q, a, w => Q .normal a w
  | c :: r, Q, a, w => c.wp P (Exit.then (wpL P r Q) Q) a w

/-- How the run may leave: with an environment that fits, and nothing turned but these slots. -/
def Out (n : Nat) (ws : List Nat) (a : Act) (Q : LCont) : Exit → Act → World → Prop
  | .panic _, _, _ => False
  | .outgrown, _, _ => False
  | x, a', w' => ∃ e', Q x e' w' ∧ Agree n e' a' ∧ Kept ws a a'

theorem Out.mono {n : Nat} {ws ws' : List Nat} {a : Act} {Q Q' : LCont} (hs : ∀ t, emem ws' t = false → emem ws t = false) (hq : ∀ x e w, Q x e w → Q' x e w) : ∀ x a' w', Out n ws a Q x a' w' → Out n ws' a Q' x a' w' := by
  intro x a' w' h
  cases x <;> first | exact h.elim | (obtain ⟨e', h1, h2, h3⟩ := h; exact ⟨e', hq _ _ _ h1, h2, h3.mono hs⟩)

/-- A step of slots ahead. -/
theorem Out.ahead {n : Nat} {ws ws' : List Nat} {a b : Act} {Q : LCont} (hk : Kept ws a b) : ∀ x a' w', Out n ws' b Q x a' w' → Out n (ws ++ ws') a Q x a' w' := by
  intro x a' w' h
  cases x <;> first | exact h.elim | (obtain ⟨e', h1, h2, h3⟩ := h; exact ⟨e', h1, h2, hk.trans h3⟩)

theorem ops1_sound {P : Program} {n : Nat} {ops : Array Oper} {Q : Exit → Act → World → Prop} :
    ∀ (l : List Oper) (e : Env) (w : World) (K : Env → World → Prop) (a a0 : Act), ops1 P n ops l e w K → Agree n e a →
      (∀ e' a' w', K e' w' → Agree n e' a' → Kept (dsts l) a a' → Q .normal a' w') → wpList P ops Q l a w
  | [], e, w, K, a, _, h, ha, hq => hq e a w h ha (Kept.refl _ _)
  | o :: r, e, w, K, a, a0, h, ha, hq => by
    have step : ∀ (e1 : Env), Agree n e1 a → opX P r o e1 w (fun v w' => eput n o.dst v e1 fun e' => ops1 P n ops r e' w' K) → o.wp P a w (wpList P ops Q r) Q := by
      intro e1 ha1 h1
      refine opX_sound h1 ha1 fun v w' hv => ?_
      obtain ⟨e2, h2, ha2, hk2⟩ := eput_sound hv ha1
      exact ops1_sound r e2 w' K _ a h2 ha2 fun e' a' w'' hk ha' hkept => hq e' a' w'' hk ha' (hk2.trans hkept)
    have skip : ∀ (e1 : Env), Agree n e1 a → ops1 P n ops r (eskip o.dst e1) w K → wpList P ops Q r (a.put o.dst undef) w := by
      intro e1 ha1 h1
      obtain ⟨ha2, hk2⟩ := skip_agree (d := o.dst) ha1
      exact ops1_sound r _ w K _ a h1 ha2 fun e' a' w'' hk ha' hkept => hq e' a' w'' hk ha' (hk2.trans hkept)
    unfold wpList
    simp only [ops1] at h
    split at h
    · rename_i hg
      simp only [Region.wanted, hg, if_true]
      exact .inl (step e ha h)
    · rename_i j want hg
      split at h
      · exact h.elim
      · rename_i s hs
        split at h
        · rename_i b hb
          have hy := yielded_of ha hs hb
          simp only [Region.wanted, hg, hy]
          cases b with
          | true =>
            have ha1 := agree_lit ha hb true rfl
            simp only [Bif] at h
            cases want with
            | true => simp only [beq_self_eq_true, if_true]; exact .inl (step _ ha1 h)
            | false => simp only [show (some true == some false) = false from rfl, Bool.false_eq_true, if_false]; exact skip _ ha1 h
          | false =>
            have ha1 := agree_lit ha hb false rfl
            simp only [Bif] at h
            cases want with
            | false => simp only [beq_self_eq_true, if_true]; exact .inl (step _ ha1 h)
            | true => simp only [show (some false == some true) = false from rfl, Bool.false_eq_true, if_false]; exact skip _ ha1 h
        · rename_i us hb
          have hy := yielded_undef ha hs hb
          simp only [Region.wanted, hg, hy, show (none == some want) = false from rfl, Bool.false_eq_true, if_false]
          exact skip _ ha h
        · exact h.elim

theorem wpL_cons {P : Program} {c : Code} {r : List Code} {Q : Exit → Act → World → Prop} {a : Act} {w : World} (h : c.wp P (Exit.then (wpL P r Q) Q) a w) : wpL P (c :: r) Q a w := h
theorem wpL_mono {P : Program} : ∀ {l : List Code} {Q Q' : Exit → Act → World → Prop} {a : Act} {w : World}, (∀ x a w, Q x a w → Q' x a w) → wpL P l Q a w → wpL P l Q' a w
  | [], _, _, _, _, hq, h => hq _ _ _ h
  | c :: r, Q, Q', _, _, hq, h => by
    refine Code.wp_mono (fun x a w hx => ?_) h
    cases x <;> first | exact hq _ _ _ hx | exact wpL_mono hq hx
theorem wpL_append {P : Program} : ∀ {l m : List Code} {Q : Exit → Act → World → Prop} {a : Act} {w : World}, wpL P l (Exit.then (wpL P m Q) Q) a w → wpL P (l ++ m) Q a w
  | [], _, _, _, _, h => h
  | c :: r, m, Q, _, _, h => by
    refine Code.wp_mono (fun x a w hx => ?_) h
    cases x <;> first | exact hx | exact wpL_append hx

theorem wpL_take {P : Program} {l : List Code} (k : Nat) {Q : Exit → Act → World → Prop} {a : Act} {w : World} (h : wpL P (List.take k l) (Exit.then (wpL P (List.drop k l) Q) Q) a w) : wpL P l Q a w := by
  have := wpL_append h
  rwa [List.take_append_drop] at this

theorem slotsAs_elim : ∀ {sl : List (Nat × Ty)} {e : Env} {K : List Value → Prop}, slotsAs sl e K → ∃ vs, isTL (tys sl) vs ∧ K vs ∧ vs.length = sl.length ∧ (∀ (i s : Nat) (t : Ty), sl[i]? = some (s, t) → ∃ v, vs[i]? = some v ∧ eget e s = some v)
  | [], _, _, h => ⟨[], trivial, h, rfl, by simp⟩
  | (s, t) :: r, e, K, h => by
    simp only [slotsAs] at h
    split at h
    · rename_i v hv
      obtain ⟨ht, h⟩ := asT'_elim h
      obtain ⟨vs, hvs, hk, hl, hg⟩ := slotsAs_elim h
      refine ⟨v :: vs, ⟨ht, hvs⟩, hk, by simp [hl], fun i s' t' hi => ?_⟩
      cases i with
      | zero => simp at hi; obtain ⟨rfl, rfl⟩ := hi; exact ⟨v, rfl, hv⟩
      | succ i => exact hg i s' t' (by simpa using hi)
    · exact h.elim

theorem agree_bind {n : Nat} {a : Act} : ∀ {sl : List (Nat × Ty)} {vs : List Value} {e : Env}, Agree n e a → (∀ (i s : Nat) (t : Ty) (v : Value), sl[i]? = some (s, t) → vs[i]? = some v → a.tmps.getD s undef = v) → Agree n (bind sl vs e) a
  | [], _, _, ha, _ => by simpa [bind] using ha
  | _ :: _, [], _, ha, _ => by simpa [bind] using ha
  | (s, t) :: r, v :: vs, e, ha, h => by
    have ih := agree_bind (sl := r) (vs := vs) ha (fun i s' t' v' h1 h2 => h (i + 1) s' t' v' (by simpa using h1) (by simpa using h2))
    refine ⟨ih.defers, ih.size, fun t' v' ht => ?_⟩
    simp only [bind, eget] at ht
    cases hb : Nat.beq s t' with
    | true =>
      simp only [hb, cond_true, Option.some.injEq] at ht
      have := Nat.eq_of_beq_eq_true hb
      subst this; subst ht
      exact h 0 s t v rfl rfl
    | false => simp only [hb, cond_false] at ht; exact ih.val t' v' ht

theorem wrs_append (l m : List Code) : wrs (l ++ m) = wrs l ++ wrs m := by
  induction l with
  | nil => rfl
  | cons c r ih => simp [wrs, ih]

theorem Kept_nil {x : List Nat} {a b : Act} (h : Kept [] a b) : Kept x a b := fun t _ => h t rfl

def Sound (P : Program) (n : Nat) (rec : Rec) : Prop := ∀ (l : List Code) (an : Ann) (Q : LCont) (e : Env) (w : World) (a : Act),
    rec l an Q e w → Agree n e a → wpL P l (Out n (wrs l) a Q) a w

theorem emem_flat (c : Code) (t : Nat) : emem (wrs (flat c)) t = emem (wr c) t := by
  induction c with
  | seq a b iha ihb => simp only [flat, wrs_append, wr, emem_append, iha, ihb]
  | _ => simp [flat, wrs, emem_append, emem]
theorem wpL_flat {P : Program} (c : Code) : ∀ {Q : Exit → Act → World → Prop} {a : Act} {w : World}, wpL P (flat c) Q a w → c.wp P Q a w := by
  induction c with
  | seq x y ihx ihy =>
    intro Q a w h
    have split : ∀ (l m : List Code) (a : Act) (w : World), wpL P (l ++ m) Q a w → wpL P l (Exit.then (wpL P m Q) Q) a w := by
      intro l m
      induction l with
      | nil => intro a w h; exact h
      | cons c r ih =>
        intro a w h
        refine Code.wp_mono (fun x a w hx => ?_) h
        cases x <;> first | exact hx | exact ih _ _ hx
    refine wp_seq (Code.wp_mono (fun x a w hx => ?_) (ihx (split _ _ _ _ h)))
    cases x <;> first | exact hx | exact ihy hx
  | _ => intro Q a w h; exact Code.wp_mono (fun x a' w' hx => by cases x <;> exact hx) h

theorem wpL_one {P : Program} {c : Code} {Q : Exit → Act → World → Prop} {a : Act} {w : World} (h : wpL P [c] Q a w) : c.wp P Q a w :=
  Code.wp_mono (fun x a' w' hx => by cases x <;> exact hx) h

theorem Out.leave {n : Nat} {ws ws' : List Nat} {a : Act} {Q : LCont} (x : Exit) {a' : Act} {w' : World} (hs : ∀ t, emem ws' t = false → emem ws t = false) (h : Out n ws a Q x a' w') : Out n ws' a Q x a' w' :=
  Out.mono hs (fun _ _ _ h => h) x a' w' h

theorem lift1_sound {P : Program} {n : Nat} {rec : Rec} (ih : Sound P n rec) {c : Code} {r : List Code} {an : Ann} {Q : LCont} {e : Env} {w : World} {a : Act}
    (h : lift1 P n rec c r an Q e w) (ha : Agree n e a) : wpL P (c :: r) (Out n (wrs (c :: r)) a Q) a w := by
  -- what stands behind the first statement
  have behind : ∀ (ws : List Nat) (an' : Ann) (e' : Env) (a' : Act) (w' : World), rec r an' Q e' w' → Agree n e' a' → Kept ws a a' → wpL P r (Out n (ws ++ wrs r) a Q) a' w' :=
    fun ws an' e' a' w' h' ha' hk => wpL_mono (Out.ahead hk) (ih r an' Q e' w' a' h' ha')
  -- how a part's ways out become the whole's
  have ways : ∀ (ws : List Nat) (an' : Ann) (x : Exit) (a' : Act) (w' : World), Out n ws a (thenQ (fun e' w' => rec r an' Q e' w') Q) x a' w' → Exit.then (wpL P r (Out n (ws ++ wrs r) a Q)) (Out n (ws ++ wrs r) a Q) x a' w' := by
    intro ws an' x a' w' hx
    cases x with
    | normal => obtain ⟨e', h1, h2, h3⟩ := hx; exact behind ws an' e' a' w' h1 h2 h3
    | panic _ => exact hx.elim
    | outgrown => exact hx.elim
    | exit i => obtain ⟨e', h1, h2, h3⟩ := hx; exact ⟨e', h1, h2, h3.mono fun t ht => emem_mono_l ht⟩
    | goto i => obtain ⟨e', h1, h2, h3⟩ := hx; exact ⟨e', h1, h2, h3.mono fun t ht => emem_mono_l ht⟩
    | ret => obtain ⟨e', h1, h2, h3⟩ := hx; exact ⟨e', h1, h2, h3.mono fun t ht => emem_mono_l ht⟩
  refine wpL_cons ?_
  cases c with
  | skip => exact wp_skip (behind [] _ e a w h ha (Kept.refl _ _))
  | region id ops draw =>
    cases draw with
    | false =>
      refine wp_region_list ?_
      exact ops1_sound ops.toList e w _ a a h ha fun e' a' w' hk ha' hkept => behind _ _ e' a' w' hk ha' hkept
    | true =>
      simp only [lift1] at h
      split at h
      · rename_i hc
        simp only [Bool.and_eq_true] at hc
        obtain ⟨⟨hm, hs⟩, hl⟩ := hc
        have hl := Nat.le_of_ble_eq_true hl
        obtain ⟨C, hC, hd⟩ := h
        have hdst : ∀ (l : List Oper) (i : Nat) (o : Oper), l[i]? = some o → ∀ t, emem (dsts l) t = false → emem o.dst.toList t = false := by
          intro l
          induction l with
          | nil => intro i o h; simp at h
          | cons x r ih =>
            intro i o h t ht
            simp only [dsts] at ht
            cases i with
            | zero => simp at h; subst h; exact emem_mono_l ht
            | succ i => exact ih i o (by simpa using h) t (emem_mono_r ht)
        have hcl : Closed ops (Array.replicate ops.size false) := fun j o ho hj => by
          rcases Nat.lt_or_ge j ops.size with h' | h'
          · simp [h'] at hj
          · simp [Array.getElem?_eq_none h'] at ho
        cases h2 : an.two with
        | false =>
            simp only [h2] at hd
            have key := drawC_sound (Q := fun a' w' => wpL P r (Out n (wrs (.region id ops true :: r)) a Q) a' w') waits_sound hs (dsts ops.toList) a (fun i o ho => hdst ops.toList i o (by simpa using ho))
              (fun e' a' w' hk ha' hkept => behind _ _ e' a' w' hk ha' hkept) an.ord (ops.size - an.ord.length) _ [] [] e C a hd ha (Kept.refl _ _) hcl trivial (fun x hx => by cases hx) (fun x hx => by cases hx)
            rw [show an.ord.length + (ops.size - an.ord.length) = ops.size by omega] at key
            exact wp_region_any hm (wpAny_of_AnyC (fun a w h => h) _ _ _ _ C [] _ (C.drew _ _ hC) key)
        | true =>
            simp only [h2] at hd
            have key := Two.drawC_sound (Q := fun a' w' => wpL P r (Out n (wrs (.region id ops true :: r)) a Q) a' w') waits_sound hs (dsts ops.toList) a (fun i o ho => hdst ops.toList i o (by simpa using ho))
              (fun e' a' w' hk ha' hkept => behind _ _ e' a' w' hk ha' hkept) an.ord (ops.size - an.ord.length) _ [] [] e C a hd ha (Kept.refl _ _) hcl trivial (fun x hx => by cases hx) (fun x hx => by cases hx)
            rw [show an.ord.length + (ops.size - an.ord.length) = ops.size by omega] at key
            exact wp_region_any hm (Two.wpAny_of_AnyC (fun a w h => h) _ _ _ _ C [] _ (C.drew _ _ hC) key)
      · exact h.elim
  | cond c x y =>
    have h := withV_sound h ha
    split at h
    · rename_i b hb
      refine wp_cond hb ?_
      cases b with
      | true =>
        refine Code.wp_mono (fun x a' w' hx => ?_) (wpL_flat _ (ih _ _ _ _ _ _ h ha))
        refine ways (wr (.cond c _ y)) _ x a' w' (Out.leave x (fun t ht => ?_) hx)
        simp only [wr] at ht
        rw [emem_flat]
        exact emem_mono_l ht
      | false =>
        refine Code.wp_mono (fun x a' w' hx => ?_) (wpL_flat _ (ih _ _ _ _ _ _ h ha))
        refine ways (wr (.cond c _ y)) _ x a' w' (Out.leave x (fun t ht => ?_) hx)
        simp only [wr] at ht
        rw [emem_flat]
        exact emem_mono_r ht
    · exact h.elim
  | block id b =>
    refine wp_block ?_
    refine Code.wp_mono (fun x a' w' hx => ?_) (wpL_flat _ (ih _ _ _ _ _ _ h ha))
    have hx : Out n (wr (.block id b)) a _ x a' w' := Out.leave x (fun t ht => by rw [emem_flat]; simpa [wr] using ht) hx
    cases x with
    | normal => obtain ⟨e', h1, h2, h3⟩ := hx; exact behind _ _ e' a' w' h1 h2 h3
    | panic _ => exact hx.elim
    | outgrown => exact hx.elim
    | exit i =>
      obtain ⟨e', h1, h2, h3⟩ := hx
      simp only [Exit.inBlock]
      simp only [blockQ] at h1
      split at h1
      · rename_i hb
        rw [if_pos (Nat.eq_of_beq_eq_true hb)]
        exact behind _ _ e' a' w' h1 h2 h3
      · rename_i hb
        rw [if_neg (fun e => by subst e; simp at hb)]
        exact ⟨e', h1, h2, h3.mono fun t ht => emem_mono_l ht⟩
    | goto i => obtain ⟨e', h1, h2, h3⟩ := hx; exact ⟨e', h1, h2, h3.mono fun t ht => emem_mono_l ht⟩
    | ret => obtain ⟨e', h1, h2, h3⟩ := hx; exact ⟨e', h1, h2, h3.mono fun t ht => emem_mono_l ht⟩
  | loop b =>
    obtain ⟨I, μ, h0, hr⟩ := h
    let vals : Act → List Value := fun a' => an.slots.map fun s => a'.tmps.getD s.1 undef
    have vals_of : ∀ (a' : Act) (e' : Env) (vs : List Value), Agree n e' a' → vs.length = an.slots.length → (∀ (i s : Nat) (t : Ty), an.slots[i]? = some (s, t) → ∃ v, vs[i]? = some v ∧ eget e' s = some v) → vs = vals a' := by
      intro a' e' vs hag hl hg
      refine List.ext_getElem? fun i => ?_
      rcases Nat.lt_or_ge i an.slots.length with hi | hi
      · obtain ⟨v, hv, hgv⟩ := hg i an.slots[i].1 an.slots[i].2 (by rw [List.getElem?_eq_getElem hi])
        have hu := hag.val _ _ hgv
        rw [hv, List.getElem?_map, List.getElem?_eq_getElem hi]
        exact congrArg some hu.symm
      · rw [List.getElem?_eq_none (by omega), List.getElem?_eq_none (by simpa [vals] using hi)]
    refine wp_loop (fun a' w' => isTL (tys an.slots) (vals a') ∧ I (vals a') w' ∧ Kept (wr b) a a' ∧ a'.defers = [] ∧ a'.tmps.size = n) (fun a' w' => μ (vals a') w') ?_ ?_
    · obtain ⟨vs, h1, h2, h3, h4⟩ := slotsAs_elim h0
      have := vals_of a e vs ha h3 h4
      subst this
      exact ⟨h1, h2, Kept.refl _ _, ha.defers, ha.size⟩
    · intro a1 w1 ⟨ht, hI, hk, hd, hs⟩
      have hag : Agree n (bind an.slots (vals a1) (edrop (wr b) e)) a1 := agree_bind (ha.drop hk hd hs) fun i s t v hi hv => by
        simp only [vals, List.getElem?_map, hi, Option.map_some, Option.some.injEq] at hv
        exact hv
      have hb := ih _ _ _ _ _ _ (alTL_elim hr ht w1 hI) hag
      refine Code.wp_mono (fun x a' w' hx => ?_) (wpL_flat _ hb)
      have hx : Out n (wr b) a1 _ x a' w' := Out.leave x (fun t ht => by rw [emem_flat]; exact ht) hx
      have kk : ∀ {a' : Act}, Kept (wr b) a1 a' → Kept (wr b) a a' := fun h => (hk.trans h).mono fun t ht => by rw [emem_append, ht]; rfl
      cases x with
      | normal =>
        obtain ⟨e', h1, h2, h3⟩ := hx
        obtain ⟨vs, g1, g2, g3, g4⟩ := slotsAs_elim h1
        have := vals_of a' e' vs h2 g3 g4
        subst this
        exact ⟨⟨g1, g2.1, kk h3, h2.defers, h2.size⟩, g2.2⟩
      | panic _ => exact hx.elim
      | outgrown => exact hx.elim
      | exit i => obtain ⟨e', h1, h2, h3⟩ := hx; exact ⟨e', h1, h2, (kk h3).mono fun t ht => by have := emem_mono_l ht; simpa [wr] using this⟩
      | goto i => obtain ⟨e', h1, h2, h3⟩ := hx; exact ⟨e', h1, h2, (kk h3).mono fun t ht => by have := emem_mono_l ht; simpa [wr] using this⟩
      | ret => obtain ⟨e', h1, h2, h3⟩ := hx; exact ⟨e', h1, h2, (kk h3).mono fun t ht => by have := emem_mono_l ht; simpa [wr] using this⟩
  | exit id => exact wp_exit ⟨e, h, ha, Kept.refl _ _⟩
  | ret => exact wp_ret ⟨e, h, ha, Kept.refl _ _⟩
  | _ => exact h.elim

theorem lift_sound {P : Program} {n : Nat} : ∀ (f : Nat), Sound P n (lift P n f) := by
  intro f
  induction f with
  | zero => intro l an Q e w a h; exact h.elim
  | succ f ih =>
    intro l an Q e w a h ha
    cases l with
    | nil => exact ⟨e, h, ha, Kept.refl _ _⟩
    | cons c r =>
      have plain : ∀ an, lift1 P n (lift P n f) c r an Q e w → wpL P (c :: r) (Out n (wrs (c :: r)) a Q) a w := fun an h => lift1_sound ih h ha
      cases an with
      | join k sl a1 a2 =>
        obtain ⟨J, h1, h2⟩ := h
        have h1 := ih _ _ _ _ _ _ h1 ha
        have e0 : wrs (c :: r) = wrs (List.take k (c :: r)) ++ wrs (List.drop k (c :: r)) := by rw [← wrs_append, List.take_append_drop]
        rw [e0]
        refine wpL_take k (wpL_mono (fun x a' w' hx => ?_) h1)
        cases x with
        | normal =>
          obtain ⟨e', hJ, hae', hk⟩ := hx
          obtain ⟨vs, hvs, hJ, hlen, hg⟩ := slotsAs_elim hJ
          have h3 := alTL_elim h2 hvs w' hJ
          have hd : Agree n (edrop (wrs (List.take k (c :: r))) e) a' := ha.drop hk hae'.defers hae'.size
          have hb : Agree n (bind sl vs (edrop (wrs (List.take k (c :: r))) e)) a' := agree_bind hd fun i s t v hi hv => by
            obtain ⟨u, hu, hgu⟩ := hg i s t hi
            rw [hv] at hu; cases hu
            exact hae'.val _ _ hgu
          exact wpL_mono (Out.ahead hk) (ih _ _ _ _ _ _ h3 hb)
        | panic _ => exact hx.elim
        | outgrown => exact hx.elim
        | exit i => obtain ⟨e', h1, h2, h3⟩ := hx; exact ⟨e', h1, h2, h3.mono fun t ht => emem_mono_l ht⟩
        | goto i => obtain ⟨e', h1, h2, h3⟩ := hx; exact ⟨e', h1, h2, h3.mono fun t ht => emem_mono_l ht⟩
        | ret => obtain ⟨e', h1, h2, h3⟩ := hx; exact ⟨e', h1, h2, h3.mono fun t ht => emem_mono_l ht⟩
      | nil => exact plain _ h
      | step a b r => exact plain _ h
      | loop sl b => exact plain _ h
      | draw o b => exact plain _ h
      | draw2 o b => exact plain _ h

/-! ### A function -/
def resL (P : Program) : List ResultVar → Env → World → (List Value → Prop) → Prop
  | [], _, _, K => K []
  | .tmp t :: r, e, w, K => withV e (.tmp t) fun v => resL P r e w fun vs => K (v :: vs)
  | .cell a t :: r, e, w, K => withV e (.tmp a) fun p => ldK P t p w fun v _ => resL P r e w fun vs => K (v :: vs)
def tup : List Value → Value
  | [v] => v
  | vs => .tuple vs.toArray
def finalQ (P : Program) (fn : Func) (R : Value → World → Prop) : LCont := fun x e w =>
  match x with
  | .normal => resL P fn.results.toList e w fun vs => R (tup vs) w
  | .ret => resL P fn.results.toList e w fun vs => R (tup vs) w
  | _ => False
def argEnv : Nat → List Value → Env
  | _, [] => []
  | i, v :: r => (i, v) :: argEnv (i + 1) r

def liftF (P : Program) (f : FuncId) (an : Ann) (args : List Value) (w : World) (R : Value → World → Prop) : Prop :=
  match P.funcs[f]? with
  | some fn => match fn.body, Nat.ble args.length fn.ntmps with
    | some c, true => lift P fn.ntmps 3000 (flat c) an (finalQ P fn R) (argEnv 0 args) w
    | _, _ => False
  | none => False

theorem argEnv_get : ∀ (l : List Value) (i t : Nat) (v : Value), eget (argEnv i l) t = some v → i ≤ t ∧ l[t - i]? = some v
  | [], _, _, _, h => by simp [argEnv, eget] at h
  | u :: r, i, t, v, h => by
    simp only [argEnv, eget] at h
    cases hb : Nat.beq i t with
    | true =>
      have := Nat.eq_of_beq_eq_true hb
      subst this
      simp only [hb, cond_true, Option.some.injEq] at h
      simp [h]
    | false =>
      simp only [hb, cond_false] at h
      obtain ⟨h1, h2⟩ := argEnv_get r (i + 1) t v h
      refine ⟨by omega, ?_⟩
      rw [show t - i = (t - (i + 1)) + 1 by omega]
      simpa using h2

def oneRes (tmps : Array Value) : ResultVar → Sem Value
  | .tmp t => pure (tmps.getD t undef)
  | .cell c t => do loadVar t (← asAddr (tmps.getD c undef))
theorem results_eq (fn : Func) (tmps : Array Value) : results fn tmps = (do let vs ← fn.results.mapM (oneRes tmps); pure (if h : vs.size = 1 then vs[0] else .tuple vs)) := rfl
theorem resL_sound {P : Program} {n : Nat} {a : Act} {w : World} : ∀ {l : List ResultVar} {e : Env} {K : List Value → Prop}, resL P l e w K → Agree n e a →
    ∃ vs, K vs ∧ (l.mapM (oneRes a.tmps)).run P w = .ok vs w
  | [], _, _, h, _ => ⟨[], h, rfl⟩
  | .tmp t :: r, e, K, h, ha => by
    have h1 := withV_sound h ha
    obtain ⟨vs, hk, hr⟩ := resL_sound h1 ha
    refine ⟨_, hk, ?_⟩
    simp only [List.mapM_cons, oneRes, Sem.run_bind, Sem.run_pure, Result.andThen_ok, hr]
    rfl
  | .cell c t :: r, e, K, h, ha => by
    have h1 := withV_sound h ha
    obtain ⟨u, hk, hu⟩ := ld_run h1
    obtain ⟨vs, hk, hr⟩ := resL_sound hk ha
    refine ⟨_, hk, ?_⟩
    have hl : (do loadVar t (← asAddr (a.tmps.getD c undef)) : Sem Value).run P w = .ok u w := by
      simp only [Instr.loadAt, Sem.run_bind] at hu ⊢
      have he : a.eval (.tmp c) = a.tmps.getD c undef := rfl
      rw [he] at hu
      generalize a.tmps.getD c undef = p at *
      cases p with
      | pointer p => cases p with
        | some ad => simpa [asAddr, Instr.sureAddr] using hu
        | none => simp [Instr.sureAddr, stuck] at hu
      | _ => simp [Instr.sureAddr, stuck] at hu
    have ho : (oneRes a.tmps (.cell c t)).run P w = .ok u w := hl
    simp only [List.mapM_cons, Sem.run_bind, ho, Result.andThen_ok, hr]
    rfl

theorem results_run {P : Program} {n : Nat} {fn : Func} {a : Act} {e : Env} {w : World} {R : Value → World → Prop} (h : resL P fn.results.toList e w fun vs => R (tup vs) w) (ha : Agree n e a) :
    ∃ v, (results fn a.tmps).run P w = .ok v w ∧ R v w := by
  obtain ⟨vs, hk, hr⟩ := resL_sound h ha
  refine ⟨_, ?_, hk⟩
  rw [results_eq, Array.mapM_eq_mapM_toList]
  simp only [Sem.run_bind, Sem.run_map, hr, Result.andThen_ok, Sem.run_pure]
  congr 1
  match vs with
  | [] => rfl
  | [v] => rfl
  | v :: u :: r => rfl

theorem callR_of_lift {P : Program} {f : FuncId} (an : Ann) {args : List Value} {w : World} {R : Value → World → Prop} (h : liftF P f an args w R) : CallR P f args.toArray w R := by
  unfold liftF at h
  split at h
  · rename_i fn hf
    split at h
    · rename_i c hb hle
      have hle := Nat.le_of_ble_eq_true hle
      refine calls_of_wp hf hb ?_
      have ha : Agree fn.ntmps (argEnv 0 args) { tmps := args.toArray ++ Array.replicate (fn.ntmps - args.toArray.size) undef, defers := [] } := by
        refine ⟨rfl, by simp; omega, fun t v ht => ?_⟩
        obtain ⟨_, h2⟩ := argEnv_get _ _ _ _ ht
        have hlt : t < args.length := by
          rcases Nat.lt_or_ge t args.length with h | h
          · exact h
          · rw [Nat.sub_zero, List.getElem?_eq_none h] at h2; cases h2
        rw [Array.getD_eq_getD_getElem?, Array.getElem?_append_left (by simpa using hlt)]
        simpa using congrArg (Option.getD · undef) h2
      refine wpL_flat c (wpL_mono (fun x a' w' hx => ?_) (lift_sound 3000 _ _ _ _ _ _ h ha))
      cases x with
      | normal =>
        obtain ⟨e', h1, h2, _⟩ := hx
        obtain ⟨v, hv, hR⟩ := results_run h1 h2
        exact ⟨h2.defers, v, hv, v, rfl, hR⟩
      | ret =>
        obtain ⟨e', h1, h2, _⟩ := hx
        obtain ⟨v, hv, hR⟩ := results_run h1 h2
        exact ⟨h2.defers, v, hv, v, rfl, hR⟩
      | panic _ => exact hx.elim
      | outgrown => exact hx.elim
      | exit i => obtain ⟨e', h1, _⟩ := hx; exact h1.elim
      | goto i => obtain ⟨e', h1, _⟩ := hx; exact h1.elim
    · exact h.elim
  · exact h.elim
end Go.Proofs.Ytbfccpbijimjmaa
