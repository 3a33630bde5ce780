/-
  Regions whose order is drawn, once more: here bytes of a string are made as any new block is, of whatever room.
-/
import Derived.Test.YtbfccpbijimjmaaDraw
import Derived.Laws.IdiomStrings
set_option linter.unusedVariables false
set_option linter.unusedSimpArgs false
namespace Go.Proofs.Ytbfccpbijimjmaa.Two
open Go Go.Proofs.Ytbfccpbijimjmaa

def strB8 (P : Program) (s d : TypeId) : Option TypeId :=
  match P.underlying s, P.underlying d with
  | some .string, some (.slice e) => match P.underlying e with
    | some (.int .u8) => some e
    | _ => none
  | _, _ => none
def kd (P : Program) : Op → Kd3
  | .convert s d _ => match memConv P s d with
    | true => match strB8 P s d with | some _ => .new | none => .gen
    | false => .pure
  | o => Go.Proofs.Ytbfccpbijimjmaa.kd P o
abbrev Mk := (Nat → Obj) × (Nat → Nat → Value)
def rowB (y : ByteArray) (e : TypeId) : Mk := (fun k => .cells (bytesRow y (y.size + k)) e ((bytesRow y (y.size + k)).size, (bytesRow y (y.size + k)).size + 1), fun k b => .slice (some ⟨b, 0, none⟩) y.size (y.size + k))
/-- What is made, and the value that tells where; the first number tells how much room there is. -/
def newOf (P : Program) (ρ : Operand → Value) : Op → Option Mk
  | .convert s d x => match strB8 P s d, ρ x with
    | some e, .string y => some (rowB y e)
    | _, _ => none
  | o => match Go.Proofs.Ytbfccpbijimjmaa.newOf P ρ o with
    | some (obj, mk) => some (fun _ => obj, fun _ => mk)
    | none => none
theorem newOf_run {P : Program} {o : Oper} {a : Act} {m : Mk} (h : newOf P a.eval o.op = some m) (w : World) : ∃ k w1, (w1 = w ∨ w1 = w.drew) ∧ (execOp a.eval o).run P w = .ok (.value (m.2 k w1.heap.size)) (w1.alloc (m.1 k)) := by
  unfold newOf at h
  split at h
  · rename_i s d x ho
    split at h
    · rename_i e y he hy
      cases h
      unfold strB8 at he
      split at he
      · rename_i e' hs hd
        split at he
        · rename_i hu
          cases he
          have h1 := run_bytes_of_string (P := P) w s d e y hs hd hu
          have hle : y.size ≤ grownCap w y.size 0 e := grownCap_ge _ _ _ _
          refine ⟨grownCap w y.size 0 e - y.size, w.drew, .inr rfl, ?_⟩
          simp only [execOp, ho, hy, Sem.run_bind, h1, rowB]
          rw [show y.size + (grownCap w y.size 0 e - y.size) = grownCap w y.size 0 e by omega]
          rfl
        · cases he
      · cases he
    · cases h
  · split at h
    · rename_i obj mk hn
      cases h
      exact ⟨0, w, .inl rfl, Go.Proofs.Ytbfccpbijimjmaa.newOf_run hn w⟩
    · cases h
theorem newOf_congr {P : Program} {ρ ρ' : Operand → Value} (o : Op) (h : ∀ x ∈ o.operands, ρ x = ρ' x) : newOf P ρ o = newOf P ρ' o := by
  cases o with
  | convert s d x => simp only [newOf]; rw [h x (by simp [Op.operands])]
  | _ => simp only [newOf]; rw [Go.Proofs.Ytbfccpbijimjmaa.newOf_congr _ h]

theorem newOf_put {P : Program} {ops : Array Oper} (o : Oper) (a : Act) (dst : Option Tmp) (v : Value) (h : ∀ d, dst = some d → d ∉ o.looksAt ops) : newOf P (a.put dst v).eval o.op = newOf P a.eval o.op :=
  newOf_congr o.op fun x hx => Act.eval_put fun d hd hxd => h d hd (by
    subst hxd
    exact List.mem_append_left _ (List.mem_filterMap.2 ⟨.tmp d, by simpa using hx, rfl⟩))

section
variable (P : Program) (ops : Array Oper) (b : List Nat)

def OpC (pend : Pend) (i : Nat) (a : Act) (C : Cls) (K : Act → Cls → Prop) : Prop :=
  match ops[i]? with
  | none => K a C
  | some o => match Region.wanted o (yielded ops a.tmps) with
    | false => K (a.put o.dst undef) C
    | true => match kd P o.op with
      | .new => ∃ m : Mk, newOf P a.eval o.op = some m ∧ ∀ k b, K (a.put o.dst (m.2 k b)) (C.push (b, m.1 k))
      | .pure => ∃ v, (∀ w, (execOp a.eval o).run P w = .ok (.value v) w) ∧ K (a.put o.dst v) C
      | .gen => ∃ X : Value → Cls → Prop, (∀ G w, C.p G w → Does P o a w fun v w' => ∃ C', X v C' ∧ C'.p G w') ∧ ∀ v C', X v C' → PendOk b pend i C' ∧ K (a.put o.dst v) C'

def AnyC (Q : Act → World → Prop) (pend : Pend) : Nat → Array Bool → Act → Cls → Prop
  | 0, listed, a, C => Region.ready .any ops listed = [] ∧ ∀ G w, C.p G w → Q a w
  | f + 1, listed, a, C => (Region.ready .any ops listed = [] → ∀ G w, C.p G w → Q a w) ∧
    ∀ j ∈ Region.ready .any ops listed, OpC P ops b pend j a C fun a' C' => AnyC Q (trim b j pend) f (listed.setIfInBounds j true) a' C'
end

section
variable {P : Program} {ops : Array Oper} {b : List Nat} {Q : Act → World → Prop} {pend : Pend}

theorem OpC.mono {i : Nat} {a : Act} {C : Cls} {pend' : Pend} {K K' : Act → Cls → Prop} (hp : ∀ C, PendOk b pend i C → PendOk b pend' i C) (h : ∀ a C, K a C → K' a C) (hh : OpC P ops b pend i a C K) : OpC P ops b pend' i a C K' := by
  unfold OpC at *
  split
  · rename_i ho; simp only [ho] at hh; exact h _ _ hh
  · rename_i o ho
    simp only [ho] at hh
    split
    · rename_i hw; simp only [hw] at hh; exact h _ _ hh
    · rename_i hw
      simp only [hw] at hh
      split
      · rename_i hn; simp only [hn] at hh; obtain ⟨m, h1, h2⟩ := hh; exact ⟨m, h1, fun k b => h _ _ (h2 k b)⟩
      · rename_i hn; simp only [hn] at hh; obtain ⟨v, h1, h2⟩ := hh; exact ⟨v, h1, h _ _ h2⟩
      · rename_i hn; simp only [hn] at hh; obtain ⟨X, h1, h2⟩ := hh; exact ⟨X, h1, fun v C' hx => ⟨hp _ (h2 v C' hx).1, h _ _ (h2 v C' hx).2⟩⟩

theorem AnyC.weaken : ∀ {f : Nat} {pend pend' : Pend} {listed : Array Bool} {a : Act} {C : Cls}, Sub pend' pend → AnyC P ops b Q pend f listed a C → AnyC P ops b Q pend' f listed a C
  | 0, _, _, _, _, _, _, h => h
  | _ + 1, _, _, _, _, _, hs, h => ⟨h.1, fun j hj => OpC.mono (fun C hp k S hk => hp k S (hs.trim j _ hk)) (fun _ _ h => AnyC.weaken (hs.trim j) h) (h.2 j hj)⟩

theorem OpC.le {i : Nat} {a : Act} {C D : Cls} {K : Act → Cls → Prop} (hCD : C.le D) (hK : ∀ a C D, C.le D → K a D → K a C) (hh : OpC P ops b pend i a D K) : OpC P ops b pend i a C K := by
  unfold OpC at *
  split
  · rename_i ho; simp only [ho] at hh; exact hK _ _ _ hCD hh
  · rename_i o ho
    simp only [ho] at hh
    split
    · rename_i hw; simp only [hw] at hh; exact hK _ _ _ hCD hh
    · rename_i hw
      simp only [hw] at hh
      split
      · rename_i hn; simp only [hn] at hh; obtain ⟨m, h1, h2⟩ := hh; exact ⟨m, h1, fun k b => hK _ _ _ (Cls.le_push hCD _) (h2 k b)⟩
      · rename_i hn; simp only [hn] at hh; obtain ⟨v, h1, h2⟩ := hh; exact ⟨v, h1, hK _ _ _ hCD h2⟩
      · rename_i hn; simp only [hn] at hh; obtain ⟨X, h1, h2⟩ := hh; exact ⟨X, fun G w hw => h1 G w (hCD G w hw), h2⟩
theorem AnyC.le : ∀ {f : Nat} {pend : Pend} {listed : Array Bool} {a : Act} {C D : Cls}, C.le D → AnyC P ops b Q pend f listed a D → AnyC P ops b Q pend f listed a C
  | 0, _, _, _, _, _, hCD, h => ⟨h.1, fun G w hw => h.2 G w (hCD G w hw)⟩
  | _ + 1, _, _, _, _, _, hCD, h => ⟨fun h0 G w hw => h.1 h0 G w (hCD G w hw), fun j hj => OpC.le hCD (fun _ _ _ hl hk => AnyC.le hl hk) (h.2 j hj)⟩

theorem wpAny_of_AnyC {Q' : Exit → Act → World → Prop} (hQ : ∀ a w, Q a w → Q' .normal a w) : ∀ (f : Nat) (pend : Pend) (listed : Array Bool) (a : Act) (C : Cls) (G : List (Nat × Obj)) (w : World), C.p G w → AnyC P ops b Q pend f listed a C → wpAny P .any ops Q' f listed a w
  | 0, _, _, _, _, G, w, hw, h => ⟨h.1, hQ _ _ (h.2 G w hw)⟩
  | f + 1, pend, listed, a, C, G, w, hw, h => ⟨fun h0 => hQ _ _ (h.1 h0 G w hw), fun j hj => by
    have h2 := h.2 j hj
    unfold OpC at h2
    unfold wpOp
    split
    · rename_i ho; simp only [ho] at h2; exact wpAny_of_AnyC hQ f _ _ _ C G w hw h2
    · rename_i o ho
      simp only [ho] at h2
      cases hwt : Region.wanted o (yielded ops a.tmps) with
      | false =>
        simp only [hwt] at h2
        rw [if_neg (by simp)]
        exact wpAny_of_AnyC hQ f _ _ _ C G w hw h2
      | true =>
        simp only [hwt] at h2
        rw [if_pos rfl]
        refine .inl ?_
        split at h2
        · obtain ⟨m, h3, h4⟩ := h2
          obtain ⟨k, w1, hw1, hr⟩ := newOf_run h3 w
          have hd : Does P o a w fun v w' => v = m.2 k w1.heap.size ∧ w' = w1.alloc (m.1 k) := by unfold Does; rw [hr]; exact ⟨rfl, rfl⟩
          have hp : C.p G w1 := by rcases hw1 with rfl | rfl; exact hw; exact C.drew _ _ hw
          refine hd.wp fun v w' ⟨hv, hw'⟩ => ?_
          subst hv; subst hw'
          exact wpAny_of_AnyC hQ f _ _ _ _ G _ (C.new G w1 (m.1 k) hp) (h4 k w1.heap.size)
        · obtain ⟨v, h3, h4⟩ := h2
          have hd : Does P o a w fun v' w' => v' = v ∧ w' = w := by unfold Does; rw [h3 w]; exact ⟨rfl, rfl⟩
          refine hd.wp fun v' w' ⟨hv, hw'⟩ => ?_
          subst hv; subst hw'
          exact wpAny_of_AnyC hQ f _ _ _ C G _ hw h4
        · obtain ⟨X, h3, h4⟩ := h2
          refine (h3 G w hw).wp fun v w' ⟨C', hx, hw'⟩ => ?_
          exact wpAny_of_AnyC hQ f _ _ _ C' G w' hw' (h4 v C' hx).2⟩

def Sil (P : Program) (ops : Array Oper) (o : Oper) (a : Act) (v : Value) (C : Cls) : Prop :=
  match Region.wanted o (yielded ops a.tmps) with
  | true => match kd P o.op with
    | .pure => ∀ w, (execOp a.eval o).run P w = .ok (.value v) w
    | .new => False
    | .gen => ∀ G w, C.p G w → Does P o a w fun v' w' => v' = v ∧ C.p G w'
  | false => v = undef
theorem Sil.push {o : Oper} {a : Act} {v : Value} {C : Cls} (h : Sil P ops o a v C) (x : Nat × Obj) : Sil P ops o a v (C.push x) := by
  unfold Sil at *
  split
  · rename_i hw; simp only [hw] at h
    split
    · rename_i hk; simp only [hk] at h; exact h
    · rename_i hk; simp only [hk] at h
    · rename_i hk; simp only [hk] at h; exact fun G w hw' => h _ w hw'
  · rename_i hw; simp only [hw] at h; exact h
theorem Sil_put {oi oj : Oper} (hap : oi.apart ops oj = true) (hsi : ∀ cs b, oi.op ≠ .select cs b) (a : Act) (v u : Value) : Sil P ops oi (a.put oj.dst u) v = Sil P ops oi a v := by
  funext C
  unfold Sil
  rw [wanted_put oi a oj.dst u (Oper.apart_spec hap).2.2, execOp_put oi hsi a oj.dst u (Oper.apart_spec hap).2.2]
  have : (∀ G w, C.p G w → Does P oi (a.put oj.dst u) w fun v' w' => v' = v ∧ C.p G w') = (∀ G w, C.p G w → Does P oi a w fun v' w' => v' = v ∧ C.p G w') := by
    simp only [does_put' hap hsi]
  rw [this]

theorem OpC_put {j : Nat} {oi oj : Oper} {v : Value} (hj : ops[j]? = some oj) (hap : oi.apart ops oj = true)
    (hsj : ∀ cs b, oj.op ≠ .select cs b) {K : Act → Cls → Prop} {a : Act} {C : Cls}
    (h : OpC P ops b pend j (a.put oi.dst v) C K) : OpC P ops b pend j a C fun a' C' => K (a'.put oi.dst v) C' := by
  obtain ⟨h1, h2, h3⟩ := Oper.apart_spec hap
  have comm : ∀ u, (a.put oi.dst v).put oj.dst u = (a.put oj.dst u).put oi.dst v := fun u => Act.put_comm a v u h2
  unfold OpC at *
  simp only [hj] at *
  rw [wanted_put oj a oi.dst v h1] at h
  split
  · rename_i hw; simp only [hw] at h; rw [comm] at h; exact h
  · rename_i hw
    simp only [hw] at h
    split
    · rename_i hn; simp only [hn] at h
      obtain ⟨m, h4, h5⟩ := h
      refine ⟨m, by rwa [newOf_put oj a oi.dst v h1] at h4, fun k b => ?_⟩
      have := h5 k b; rwa [comm] at this
    · rename_i hn; simp only [hn] at h
      obtain ⟨u, h4, h5⟩ := h
      refine ⟨u, by rwa [execOp_put oj hsj a oi.dst v h1] at h4, ?_⟩
      rwa [comm] at h5
    · rename_i hn; simp only [hn] at h
      obtain ⟨X, h4, h5⟩ := h
      refine ⟨X, fun G w hw => ?_, fun u C' hx => ?_⟩
      · have := h4 G w hw; rwa [does_put hap hsj] at this
      · have := h5 u C' hx; rwa [comm] at this

theorem OpC_sil {i : Nat} {oi : Oper} {v : Value} {a : Act} {C : Cls} {pend : Pend} {K : Act → Cls → Prop} (hi : ops[i]? = some oi) (hy : Sil P ops oi a v C) (hp : Now pend C) (hk : K (a.put oi.dst v) C) : OpC P ops b pend i a C K := by
  unfold OpC; simp only [hi]
  unfold Sil at hy
  split
  · rename_i hw; simp only [hw] at hy; subst hy; exact hk
  · rename_i hw
    simp only [hw] at hy
    split
    · rename_i hn; simp only [hn] at hy
    · rename_i hn; simp only [hn] at hy; exact ⟨v, hy, hk⟩
    · rename_i hn; simp only [hn] at hy
      exact ⟨fun v' C' => v' = v ∧ C' = C, fun G w hw => (hy G w hw).mono fun v' w' ⟨e, h⟩ => ⟨C, ⟨e, rfl⟩, h⟩, fun v' C' ⟨e1, e2⟩ => by subst e1; subst e2; exact ⟨fun k S hk => hp (k, S) (Sub.of_trim _ _ _ hk), hk⟩⟩

theorem take_sil (hwt : Waits ops b) {i : Nat} {oi : Oper} {v : Value} :
    ∀ (f : Nat) (pend : Pend) (listed : Array Bool) (a : Act) (C : Cls), At P ops i oi listed → Sil P ops oi a v C → Now pend C → Stable pend →
      AnyC P ops b Q ((i, Sil P ops oi a v) :: pend) f (listed.setIfInBounds i true) (a.put oi.dst v) C → AnyC P ops b Q pend (f + 1) listed a C := by
  intro f
  induction f with
  | zero =>
    intro pend listed a C hA hy hp hst H
    refine ⟨fun h => (by have := hA.ready; rw [h] at this; cases this), fun j hj => ?_⟩
    by_cases hji : j = i
    · subst hji
      exact OpC_sil hA.op hy hp ⟨H.1, H.2⟩
    · have := ready_mono hj hji
      rw [H.1] at this
      cases this
  | succ f ih =>
    intro pend listed a C hA hy hp hst H
    refine ⟨fun h => (by have := hA.ready; rw [h] at this; cases this), fun j hj => ?_⟩
    by_cases hji : j = i
    · subst hji
      exact OpC_sil hA.op hy hp (AnyC.weaken (fun x hx => List.mem_cons_of_mem _ (Sub.of_trim _ _ x hx)) H)
    · obtain ⟨oj, hoj, hap, hwno, hA', hrj, _⟩ := hA.other hwt hj hji
      have h1 := H.2 j hrj
      have htrim : trim b j ((i, Sil P ops oi a v) :: pend) = (i, Sil P ops oi a v) :: trim b j pend := by simp [trim, hwno]
      have h2 := OpC_put hoj hap (fun cs b => hA.sel j oj cs b hoj) h1
      have fin : ∀ (u : Value) (C' : Cls), Sil P ops oi a v C' → Now (trim b j pend) C' → AnyC P ops b Q (trim b j ((i, Sil P ops oi a v) :: pend)) f ((listed.setIfInBounds i true).setIfInBounds j true) ((a.put oj.dst u).put oi.dst v) C' →
          AnyC P ops b Q (trim b j pend) (f + 1) (listed.setIfInBounds j true) (a.put oj.dst u) C' := fun u C' hs hp' h3 => by
        have hsilf : Sil P ops oi (a.put oj.dst u) v = Sil P ops oi a v := Sil_put hap (fun cs b => hA.sel i oi cs b hA.op) a v u
        refine ih (trim b j pend) (listed.setIfInBounds j true) (a.put oj.dst u) C' hA' (by rw [hsilf]; exact hs) hp' (hst.sub (Sub.of_trim _ _)) ?_
        rw [hsilf, Array.setIfInBounds_comm _ _ hji, ← htrim]
        exact h3
      unfold OpC at h2 ⊢
      simp only [hoj] at h2 ⊢
      split
      · rename_i hw; simp only [hw] at h2; exact fin undef C hy (hp.sub (Sub.of_trim _ _)) h2
      · rename_i hw
        simp only [hw] at h2
        split
        · rename_i hn; simp only [hn] at h2
          obtain ⟨m, h3, h4⟩ := h2
          exact ⟨m, h3, fun k b => fin (m.2 k b) _ (hy.push _) (fun x hx => (hst x (Sub.of_trim _ _ x hx)) _ _ (hp x (Sub.of_trim _ _ x hx))) (h4 k b)⟩
        · rename_i hn; simp only [hn] at h2
          obtain ⟨u, h3, h4⟩ := h2
          exact ⟨u, h3, fin u C hy (hp.sub (Sub.of_trim _ _)) h4⟩
        · rename_i hn; simp only [hn] at h2
          obtain ⟨X, h3, h4⟩ := h2
          refine ⟨X, h3, fun u C' hx => ?_⟩
          obtain ⟨h5, h6⟩ := h4 u C' hx
          have hnow : Now (trim b j ((i, Sil P ops oi a v) :: pend)) C' := fun x hx => h5 x.1 x.2 hx
          rw [htrim] at hnow
          exact ⟨fun k S hk => hnow (k, S) (List.mem_cons_of_mem _ hk), fin u C' (hnow _ List.mem_cons_self) (fun x hx => hnow x (List.mem_cons_of_mem _ hx)) h6⟩

theorem AnyC.also {i : Nat} {S : Cls → Prop} (hS : ∀ C, S C) : ∀ {f : Nat} {pend : Pend} {listed : Array Bool} {a : Act} {C : Cls}, AnyC P ops b Q pend f listed a C → AnyC P ops b Q ((i, S) :: pend) f listed a C
  | 0, _, _, _, _, h => h
  | f + 1, pend, _, _, _, h => ⟨h.1, fun j hj => OpC.mono (fun C hp k T hk => by
      have : (k, T) ∈ (i, S) :: trim b j pend := by
        unfold trim at hk ⊢
        rw [List.filter_cons] at hk
        split at hk
        · exact hk
        · exact List.mem_cons_of_mem _ hk
      rcases List.mem_cons.1 this with h | h
      · cases h; exact hS C
      · exact hp k T h) (fun a C h => AnyC.weaken (fun x hx => by
        unfold trim at hx ⊢
        rw [List.filter_cons] at hx
        split at hx
        · exact hx
        · exact List.mem_cons_of_mem _ hx) (AnyC.also hS h)) (h.2 j hj)⟩

def Alone (P : Program) (ops : Array Oper) (b : List Nat) (i : Nat) (listed : Array Bool) : Prop :=
  ∀ k ok, ops[k]? = some ok → k ≠ i → listed.getD k true = false → waits b k i = false → kd P ok.op = .new ∨ kd P ok.op = .pure
theorem Alone.set {i : Nat} {listed : Array Bool} (h : Alone P ops b i listed) (j : Nat) : Alone P ops b i (listed.setIfInBounds j true) := fun k ok hk hki hun hw => h k ok hk hki (by
    by_cases hjk : j = k
    · subst hjk
      rcases Nat.lt_or_ge j listed.size with h' | h'
      · simp [h'] at hun
      · simp [Array.setIfInBounds, Nat.not_lt.2 h'] at hun
    · rw [getD_set_ne true hjk] at hun; exact hun) hw

theorem take_new (hwt : Waits ops b) {i : Nat} {oi : Oper} (hk : kd P oi.op = .new) {m : Mk} :
    ∀ (f : Nat) (pend : Pend) (listed : Array Bool) (a : Act) (C : Cls), At P ops i oi listed → Alone P ops b i listed → Region.wanted oi (yielded ops a.tmps) = true → newOf P a.eval oi.op = some m → Stable pend →
      (∀ k bl, AnyC P ops b Q (trim b i pend) f (listed.setIfInBounds i true) (a.put oi.dst (m.2 k bl)) (C.push (bl, m.1 k))) → AnyC P ops b Q pend (f + 1) listed a C := by
  have self : ∀ (f : Nat) (pend : Pend) (listed : Array Bool) (a : Act) (C : Cls), At P ops i oi listed → Region.wanted oi (yielded ops a.tmps) = true → newOf P a.eval oi.op = some m →
      (∀ k bl, AnyC P ops b Q (trim b i pend) f (listed.setIfInBounds i true) (a.put oi.dst (m.2 k bl)) (C.push (bl, m.1 k))) → OpC P ops b pend i a C fun a' C' => AnyC P ops b Q (trim b i pend) f (listed.setIfInBounds i true) a' C' := by
    intro f pend listed a C hA hw hn H
    unfold OpC
    simp only [hA.op, hw, hk]
    exact ⟨m, hn, H⟩
  intro f
  induction f with
  | zero =>
    intro pend listed a C hA hal hw hn hst H
    refine ⟨fun h => (by have := hA.ready; rw [h] at this; cases this), fun j hj => ?_⟩
    by_cases hji : j = i
    · subst hji; exact self 0 pend listed a C hA hw hn H
    · have := ready_mono hj hji
      rw [(H 0 0).1] at this
      cases this
  | succ f ih =>
    intro pend listed a C hA hal hw hn hst H
    refine ⟨fun h => (by have := hA.ready; rw [h] at this; cases this), fun j hj => ?_⟩
    by_cases hji : j = i
    · subst hji; exact self (f + 1) pend listed a C hA hw hn H
    · obtain ⟨oj, hoj, hap, hwno, hA', hrj, hun⟩ := hA.other hwt hj hji
      obtain ⟨a1, a2, a3⟩ := Oper.apart_spec hap
      have hsj : ∀ cs b, oj.op ≠ .select cs b := fun cs b => hA.sel j oj cs b hoj
      have hsi : ∀ cs b, oi.op ≠ .select cs b := fun cs b => hA.sel i oi cs b hA.op
      have h2 := fun k bl => OpC_put (v := m.2 k bl) hoj hap hsj ((H k bl).2 j hrj)
      have fin : ∀ (u : Value) (D : Cls), (∀ k bl, AnyC P ops b Q (trim b j (trim b i pend)) f ((listed.setIfInBounds i true).setIfInBounds j true) ((a.put oj.dst u).put oi.dst (m.2 k bl)) (D.push (bl, m.1 k))) →
          AnyC P ops b Q (trim b j pend) (f + 1) (listed.setIfInBounds j true) (a.put oj.dst u) D := fun u D h3 => by
        refine ih (trim b j pend) (listed.setIfInBounds j true) (a.put oj.dst u) D hA' (hal.set j) (by rwa [wanted_put oi a oj.dst u a3]) (by rwa [newOf_put oi a oj.dst u a3]) (hst.sub (Sub.of_trim _ _)) fun k bl => ?_
        rw [Array.setIfInBounds_comm _ _ hji, trim_comm]
        exact h3 k bl
      unfold OpC at h2 ⊢
      simp only [hoj] at h2 ⊢
      split
      · rename_i hwj; simp only [hwj] at h2; exact fin undef C h2
      · rename_i hwj
        simp only [hwj] at h2
        rcases hal j oj hoj hji hun hwno with hkj | hkj
        · simp only [hkj] at h2 ⊢
          obtain ⟨m', h3, _⟩ := h2 0 0
          refine ⟨m', h3, fun k' bl' => fin (m'.2 k' bl') _ fun k bl => ?_⟩
          obtain ⟨m2, h5, h6⟩ := h2 k bl
          rw [h3] at h5
          cases h5
          exact AnyC.le (Cls.push_swap C (bl', m'.1 k') (bl, m.1 k)) (h6 k' bl')
        · simp only [hkj] at h2 ⊢
          obtain ⟨u, h3, _⟩ := h2 0 0
          refine ⟨u, h3, fin u C fun k bl => ?_⟩
          obtain ⟨u2, h5, h6⟩ := h2 k bl
          have e := (h3 default).symm.trans (h5 default)
          simp only [Result.ok.injEq, Next.value.injEq, and_true] at e
          subst e
          exact h6

theorem take_eff (hwt : Waits ops b) {i : Nat} {oi : Oper} (hk : kd P oi.op = .gen) {α : Type} (x0 : α) {V : α → Value} :
    ∀ (f : Nat) (pend : Pend) (listed : Array Bool) (a : Act) (C : Cls) (D : α → Cls), At P ops i oi listed → Alone P ops b i listed → Region.wanted oi (yielded ops a.tmps) = true → Stable pend →
      (∀ G w, C.p G w → Does P oi a w fun v w' => ∃ x, v = V x ∧ (D x).p G w') → (∀ x, Now (trim b i pend) (D x)) →
      (∀ x, AnyC P ops b Q (trim b i pend) f (listed.setIfInBounds i true) (a.put oi.dst (V x)) (D x)) → AnyC P ops b Q pend (f + 1) listed a C := by
  have self : ∀ (f : Nat) (pend : Pend) (listed : Array Bool) (a : Act) (C : Cls) (D : α → Cls), At P ops i oi listed → Region.wanted oi (yielded ops a.tmps) = true →
      (∀ G w, C.p G w → Does P oi a w fun v w' => ∃ x, v = V x ∧ (D x).p G w') → (∀ x, Now (trim b i pend) (D x)) →
      (∀ x, AnyC P ops b Q (trim b i pend) f (listed.setIfInBounds i true) (a.put oi.dst (V x)) (D x)) → OpC P ops b pend i a C fun a' C' => AnyC P ops b Q (trim b i pend) f (listed.setIfInBounds i true) a' C' := by
    intro f pend listed a C D hA hw hd hp H
    unfold OpC
    simp only [hA.op, hw, hk]
    exact ⟨fun v C' => ∃ x, v = V x ∧ C' = D x, fun G w hg => (hd G w hg).mono fun v w' ⟨x, e, h⟩ => ⟨D x, ⟨x, e, rfl⟩, h⟩, fun v C' ⟨x, e1, e2⟩ => by subst e1; subst e2; exact ⟨fun k S hk => hp x (k, S) hk, H x⟩⟩
  intro f
  induction f with
  | zero =>
    intro pend listed a C D hA hal hw hst hd hp H
    refine ⟨fun h => (by have := hA.ready; rw [h] at this; cases this), fun j hj => ?_⟩
    by_cases hji : j = i
    · subst hji; exact self 0 pend listed a C D hA hw hd hp H
    · have := ready_mono hj hji
      rw [(H x0).1] at this
      cases this
  | succ f ih =>
    intro pend listed a C D hA hal hw hst hd hp H
    refine ⟨fun h => (by have := hA.ready; rw [h] at this; cases this), fun j hj => ?_⟩
    by_cases hji : j = i
    · subst hji; exact self (f + 1) pend listed a C D hA hw hd hp H
    · obtain ⟨oj, hoj, hap, hwno, hA', hrj, hun⟩ := hA.other hwt hj hji
      obtain ⟨a1, a2, a3⟩ := Oper.apart_spec hap
      have hsj : ∀ cs b, oj.op ≠ .select cs b := fun cs b => hA.sel j oj cs b hoj
      have hsi : ∀ cs b, oi.op ≠ .select cs b := fun cs b => hA.sel i oi cs b hA.op
      have h2 := fun x => OpC_put (v := V x) hoj hap hsj ((H x).2 j hrj)
      have fin : ∀ (u : Value) (C' : Cls) (D' : α → Cls), (∀ G w, C'.p G w → Does P oi a w fun v w' => ∃ x, v = V x ∧ (D' x).p G w') → (∀ x, Now (trim b i (trim b j pend)) (D' x)) →
          (∀ x, AnyC P ops b Q (trim b j (trim b i pend)) f ((listed.setIfInBounds i true).setIfInBounds j true) ((a.put oj.dst u).put oi.dst (V x)) (D' x)) →
          AnyC P ops b Q (trim b j pend) (f + 1) (listed.setIfInBounds j true) (a.put oj.dst u) C' := fun u C' D' hd' hp' h3 => by
        refine ih (trim b j pend) (listed.setIfInBounds j true) (a.put oj.dst u) C' D' hA' (hal.set j) (by rwa [wanted_put oi a oj.dst u a3]) (hst.sub (Sub.of_trim _ _)) (fun G w hg => by rw [does_put' hap hsi]; exact hd' G w hg) hp' fun x => ?_
        rw [Array.setIfInBounds_comm _ _ hji, trim_comm]
        exact h3 x
      have hp1 : ∀ x, Now (trim b i (trim b j pend)) (D x) := fun x y hx => by rw [trim_comm] at hx; exact hp x y (Sub.of_trim _ _ y hx)
      unfold OpC at h2 ⊢
      simp only [hoj] at h2 ⊢
      split
      · rename_i hwj; simp only [hwj] at h2; exact fin undef C D hd hp1 h2
      · rename_i hwj
        simp only [hwj] at h2
        rcases hal j oj hoj hji hun hwno with hkj | hkj
        · simp only [hkj] at h2 ⊢
          obtain ⟨m', h3, _⟩ := h2 x0
          refine ⟨m', h3, fun k bl => fin (m'.2 k bl) (C.push (bl, m'.1 k)) (fun x => (D x).push (bl, m'.1 k)) (fun G w hg => hd _ w hg) (fun x y hx => (hst y (Sub.of_trim _ _ y (Sub.of_trim _ _ y hx))) _ _ (hp1 x y hx)) fun x => ?_⟩
          obtain ⟨m2, h5, h6⟩ := h2 x
          rw [h3] at h5
          cases h5
          exact h6 k bl
        · simp only [hkj] at h2 ⊢
          obtain ⟨u, h3, _⟩ := h2 x0
          refine ⟨u, h3, fin u C D hd hp1 fun x => ?_⟩
          obtain ⟨u2, h5, h6⟩ := h2 x
          have e := (h3 default).symm.trans (h5 default)
          simp only [Result.ok.injEq, Next.value.injEq, and_true] at e
          subst e
          exact h6
end

def alB (P : Program) (ops : Array Oper) (b : List Nat) (i : Nat) (listed : Array Bool) : Bool :=
  (List.range ops.size).all fun k => Nat.beq k i || listed.getD k true || waits b k i || match ops[k]? with
    | some ok => (match kd P ok.op with | .gen => false | _ => true)
    | none => true
theorem alB_sound {P : Program} {ops : Array Oper} {b : List Nat} {i : Nat} {listed : Array Bool} (h : alB P ops b i listed = true) : Alone P ops b i listed := by
  intro k ok hk hki hun hw
  simp only [alB, List.all_eq_true, List.mem_range] at h
  have h1 := h k (Array.getElem?_eq_some_iff.1 hk).1
  have hb : Nat.beq k i = false := by
    cases hb : Nat.beq k i with
    | false => rfl
    | true => exact (hki (Nat.eq_of_beq_eq_true hb)).elim
  simp only [hb, hun, hw, hk, Bool.false_or] at h1
  split at h1
  · cases h1
  · rename_i hne
    cases hkd : kd P ok.op with
    | new => exact .inl rfl
    | pure => exact .inr rfl
    | gen => exact (hne hkd).elim

def newE (P : Program) (o : Oper) (e : Env) (F : Mk → Prop) : Prop :=
  match o.op with
  | .convert s d x => match strB8 P s d with
    | some t => withV e x fun v => match v with
      | .string y => F (rowB y t)
      | _ => False
    | none => False
  | _ => Go.Proofs.Ytbfccpbijimjmaa.newE P o e fun obj mk => F (fun _ => obj, fun _ => mk)
theorem newE_sound {P : Program} {n : Nat} {o : Oper} {e : Env} {F : Mk → Prop} {a : Act} (h : newE P o e F) (ha : Agree n e a) : ∃ m, newOf P a.eval o.op = some m ∧ F m := by
  unfold newE at h
  split at h
  · rename_i s d x ho
    split at h
    · rename_i t ht
      have h1 := withV_sound h ha
      split at h1
      · rename_i y hy
        exact ⟨_, by simp only [newOf, ho, ht, hy], h1⟩
      · exact h1.elim
    · exact h.elim
  · rename_i hne
    obtain ⟨obj, mk, h1, h2⟩ := Go.Proofs.Ytbfccpbijimjmaa.newE_sound h ha
    refine ⟨_, ?_, h2⟩
    unfold newOf
    split
    · rename_i s d x ho; exact (hne s d x ho).elim
    · simp only [h1]

def stepC (P : Program) (n : Nat) (ops : Array Oper) (b : List Nat) (i : Nat) (eff : Bool) (o : Oper) (listed : Array Bool) (pend : Pend) (C : Cls) (next : Pend → Env → Cls → Prop) (e : Env) : Prop :=
  match kd P o.op with
  | .pure => opP P o e fun v => eput n o.dst v e fun e' => next pend e' C
  | .new => match alB P ops b i listed with
    | true => newE P o e fun m => ∀ k bl : Nat, eput n o.dst (m.2 k bl) e fun e' => next (trim b i pend) e' (C.push (bl, m.1 k))
    | false => False
  | .gen => match resOf P o.type with
    | some l => match eff with
      | false => exR l fun v => Qt C v (opW P o e) ∧ eput n o.dst v e fun e' => next ((i, fun C => Qt C v (opW P o e)) :: pend) e' C
      | true => match alB P ops b i listed with
        | true => Ef C (opW P o e) fun v D => asR l v fun v => conjP (trim b i pend) D ∧ eput n o.dst v e fun e' => next (trim b i pend) e' D
        | false => False
    | none => False

def drawC (P : Program) (n : Nat) (ops : Array Oper) (b : List Nat) (K : Env → World → Prop) : List (Nat × Bool) → Array Bool → Pend → Env → Cls → Prop
  | [], listed, _, e, C => match Region.ready .any ops listed with
    | [] => ∀ G w, C.p G w → K e w
    | _ => False
  | (i, eff) :: r, listed, pend, e, C =>
    match ops[i]?, (Region.ready .any ops listed).contains i && Region.free .any ops listed i with
    | some o, true =>
      match o.guard with
      | none => stepC P n ops b i eff o listed pend C (drawC P n ops b K r (listed.setIfInBounds i true)) e
      | some (j, want) => match gslot ops j with
        | none => False
        | some s => match eget e s with
          | some (.bool t) => Bif t
              (match want with
                | true => stepC P n ops b i eff o listed pend C (drawC P n ops b K r (listed.setIfInBounds i true)) ((s, .bool true) :: e)
                | false => drawC P n ops b K r (listed.setIfInBounds i true) pend (eskip o.dst ((s, .bool true) :: e)) C)
              (match want with
                | false => stepC P n ops b i eff o listed pend C (drawC P n ops b K r (listed.setIfInBounds i true)) ((s, .bool false) :: e)
                | true => drawC P n ops b K r (listed.setIfInBounds i true) pend (eskip o.dst ((s, .bool false) :: e)) C)
          | some (.tuple _) => drawC P n ops b K r (listed.setIfInBounds i true) pend (eskip o.dst e) C
          | _ => False
    | _, _ => False

theorem drawC_sound {P : Program} {n : Nat} {ops : Array Oper} {b : List Nat} {K : Env → World → Prop} {Q : Act → World → Prop} (hwt : Waits ops b) (hsel : Region.noSelect ops = true) (ws : List Nat) (a0 : Act)
    (hws : ∀ (i : Nat) (o : Oper), ops[i]? = some o → ∀ t, emem ws t = false → emem o.dst.toList t = false)
    (hK : ∀ e a w, K e w → Agree n e a → Kept ws a0 a → Q a w) :
    ∀ (r : List (Nat × Bool)) (m : Nat) (listed : Array Bool) (pe pend : Pend) (e : Env) (C : Cls) (a : Act), drawC P n ops b K r listed pe e C → Agree n e a → Kept ws a0 a → Closed ops listed → PR pe pend → Now pend C → Stable pend →
      AnyC P ops b Q pend (r.length + m) listed a C
  | [], m, listed, pe, pend, e, C, a, h, ha, hk, hcl, hpr, hn, hst => by
    unfold drawC at h
    split at h
    · rename_i hr
      cases m with
      | zero => exact ⟨hr, fun G w hw => hK e a w (h G w hw) ha hk⟩
      | succ m => exact ⟨fun _ G w hw => hK e a w (h G w hw) ha hk, fun j hj => by rw [hr] at hj; cases hj⟩
    · exact h.elim
  | (i, eff) :: r, m, listed, pe, pend, e, C, a, h, ha, hk, hcl, hpr, hn, hst => by
    have ih := drawC_sound (P := P) hwt hsel ws a0 hws hK r m
    unfold drawC at h
    split at h
    · rename_i o ho hchk
      simp only [Bool.and_eq_true] at hchk
      have hready : i ∈ Region.ready .any ops listed := by simpa using hchk.1
      have hA : At P ops i o listed := ⟨ho, hcl, Region.free_spec ho hchk.2, hready, Region.noSelect_spec hsel⟩
      have hcl' : Closed ops (listed.setIfInBounds i true) := hcl.set hready
      have keep : ∀ v, Kept o.dst.toList a (a.put o.dst v) → Kept ws a0 (a.put o.dst v) := fun v hkv t ht => (hkv t (hws i o ho t ht)).trans (hk t ht)
      have lenE : (List.length ((i, eff) :: r) + m) = (r.length + m) + 1 := by simp; omega
      rw [lenE]
      -- passed over
      have skip : ∀ e1, Agree n e1 a → Region.wanted o (yielded ops a.tmps) = false → drawC P n ops b K r (listed.setIfInBounds i true) pe (eskip o.dst e1) C → AnyC P ops b Q pend (r.length + m + 1) listed a C := by
        intro e1 ha1 hw h1
        obtain ⟨ha2, hk2⟩ := skip_agree (d := o.dst) ha1
        have hS : ∀ D, Sil P ops o a undef D := fun D => by unfold Sil; rw [hw]
        exact take_sil hwt (v := undef) _ pend listed a C hA (hS C) hn hst (AnyC.also hS (ih _ pe pend _ C _ h1 ha2 (keep _ hk2) hcl' hpr hn hst))
      -- carried out
      have go : ∀ e1, Agree n e1 a → Region.wanted o (yielded ops a.tmps) = true → stepC P n ops b i eff o listed pe C (drawC P n ops b K r (listed.setIfInBounds i true)) e1 → AnyC P ops b Q pend (r.length + m + 1) listed a C := by
        intro e1 ha1 hw h1
        unfold stepC at h1
        split at h1
        · rename_i hkd
          obtain ⟨v, h2, hv⟩ := opP_sound h1 ha1
          obtain ⟨e2, h3, ha2, hk2⟩ := eput_sound h2 ha1
          have hS : ∀ D, Sil P ops o a v D := fun D => by unfold Sil; rw [hw]; simp only [hkd]; exact hv
          exact take_sil hwt _ pend listed a C hA (hS C) hn hst (AnyC.also hS (ih _ pe pend e2 C _ h3 ha2 (keep _ hk2) hcl' hpr hn hst))
        · rename_i hkd
          split at h1
          · rename_i hal
            obtain ⟨m1, hnew, h2⟩ := newE_sound h1 ha1
            refine take_new hwt hkd _ pend listed a C hA (alB_sound hal) hw hnew hst fun k bl => ?_
            obtain ⟨e2, h3, ha2, hk2⟩ := eput_sound (h2 k bl) ha1
            exact ih _ _ _ e2 _ _ h3 ha2 (keep _ hk2) hcl' (hpr.trim b i) (fun x hx => hst x (Sub.of_trim _ _ x hx) _ _ (hn x (Sub.of_trim _ _ x hx))) (hst.sub (Sub.of_trim _ _))
          · exact h1.elim
        · rename_i hkd
          split at h1
          case h_2 => exact h1.elim
          rename_i l hres
          split at h1
          · obtain ⟨v, hq, h2⟩ := exR_elim h1
            obtain ⟨e2, h3, ha2, hk2⟩ := eput_sound h2 ha1
            have hS : ∀ D, Qt D v (opW P o e1) → Sil P ops o a v D := fun D hq => by
              unfold Sil; rw [hw]; simp only [hkd]
              exact fun G w hg => opW_does (hq G w hg) ha1
            exact take_sil hwt _ pend listed a C hA (hS C hq) hn hst (ih _ _ _ e2 C _ h3 ha2 (keep _ hk2) hcl' (by exact ⟨rfl, hS, hpr⟩) (fun x hx => by
              rcases List.mem_cons.1 hx with rfl | hx
              · exact hS C hq
              · exact hn x hx) (fun x hx D y => by
              rcases List.mem_cons.1 hx with rfl | hx
              · exact fun h => Sil.push h y
              · exact hst x hx D y))
          · split at h1
            case h_2 => exact h1.elim
            rename_i hal
            obtain ⟨α, x0, V, D, hd, h2⟩ := h1
            refine take_eff hwt hkd x0 _ pend listed a C D hA (alB_sound hal) hw hst (fun G w hg => opW_does (hd G w hg) ha1) (fun x => (hpr.trim b i).now (conjP_now (asR_elim (h2 x)).1)) fun x => ?_
            obtain ⟨e2, h3, ha2, hk2⟩ := eput_sound (asR_elim (h2 x)).2 ha1
            exact ih _ _ _ e2 _ _ h3 ha2 (keep _ hk2) hcl' (hpr.trim b i) ((hpr.trim b i).now (conjP_now (asR_elim (h2 x)).1)) (hst.sub (Sub.of_trim _ _))
      split at h
      · rename_i hg
        exact go e ha (by simp [Region.wanted, hg]) h
      · rename_i j want hg
        split at h
        · exact h.elim
        · rename_i s hs
          split at h
          · rename_i t hb
            have hy := yielded_of ha hs hb
            cases t with
            | true =>
              have ha1 := agree_lit ha hb true rfl
              simp only [Bif] at h
              cases want with
              | true => exact go _ ha1 (by simp [Region.wanted, hg, hy]) h
              | false => exact skip _ ha1 (by simp [Region.wanted, hg, hy]) h
            | false =>
              have ha1 := agree_lit ha hb false rfl
              simp only [Bif] at h
              cases want with
              | false => exact go _ ha1 (by simp [Region.wanted, hg, hy]) h
              | true => exact skip _ ha1 (by simp [Region.wanted, hg, hy]) h
          · rename_i us hb
            have hy := yielded_undef ha hs hb
            exact skip _ ha (by simp [Region.wanted, hg, hy]) h
          · exact h.elim
    · exact h.elim
end Go.Proofs.Ytbfccpbijimjmaa.Two
