/-
  The contract of frame.Cut: its iterator walks, and calls its rounds.
-/
import Derived.Test.YtgjehbhjgogmfaaFrameX
import Derived.Test.YtgjehbhjgogmfaaFrameD
set_option linter.unusedVariables false
set_option linter.unusedSimpArgs false
set_option maxRecDepth 100000
namespace Go.Proofs.Ytgjehbhjgogmfaa
open Go
theorem mem_of_eget : ∀ {e : Env} {t : Nat} {v : Value}, eget e t = some v → (t, v) ∈ e
  | (s, u) :: r, t, v, h => by
    simp only [eget] at h
    cases hb : Nat.beq s t with
    | true =>
      rw [hb] at h
      simp only [cond_true, Option.some.injEq] at h
      have := Nat.eq_of_beq_eq_true hb
      subst this; subst h
      exact List.mem_cons_self
    | false => rw [hb] at h; exact List.mem_cons_of_mem _ (mem_of_eget h)
theorem Agree.pick {n : Nat} {e e' : Env} {a : Act} (ha : Agree n e a) (h : ∀ x ∈ e', eget e x.1 = some x.2) : Agree n e' a :=
  ⟨ha.defers, ha.size, fun t v ht => ha.val t v (h (t, v) (mem_of_eget ht))⟩
theorem Agree.put1 {n d : Nat} {e : Env} {a : Act} (v : Value) (ha : Agree n e a) (hd : d < n) : Agree n ((d, v) :: e) (a.put (some d) v) := by
  obtain ⟨e', h1, h2, _⟩ := eput_sound (n := n) (d := some d) (v := v) (e := e) (k := fun e' => e' = (d, v) :: e) (by
    have hb : Nat.blt d n = true := Nat.ble_eq_true_of_le hd
    simp only [eput, hb]) ha
  rw [h1] at h2; exact h2
/-- The loop's record. -/
noncomputable def recC (fn : FuncId) (tmps : Array Value) (D : Nat) (s : LoopState) : Loop := { state := s, pending := none, fn := fn, tmps := tmps, params := #[12, 13], assign := cutA, body := cutB, defers := D }
abbrev CutL (r : Loop) (l D b5 b6 b7 ce cb : Nat) (p : Option Addr) (n c : Nat) (p' : Option Addr) (c' : Nat) (L : List SD) (m e : Int) (F : List Asn) : List Asn :=
  Pt l (.loop r) :: Pt D (.deferred (some [])) :: Row b5 27 [.slice p' L.length c'] :: Row b6 3 [.int .i64 m] :: Row b7 24 [.int .i64 e] :: SlA 22 1 slV p' c' L :: ctsA L :: Row ce 38 [.pointer (some ⟨b7, 0, none⟩)] :: Row cb 22 [.slice p n c] :: F
theorem fold_two (tmps : Array Value) (a b : Value) : (Array.zip (#[12, 13] : Array Tmp) [a, b].toArray).foldl (fun tmps (t, a) => tmps.setIfInBounds t a) tmps = (tmps.setIfInBounds 12 a).setIfInBounds 13 b := by simp
section
variable {W w : World} {F : List Asn} {p p' : Option Addr} {n c c' : Nat} {bs : List UInt8} {fn : FuncId} {tmps : Array Value} {l D b5 b6 b7 ce cb : Nat} {L : List SD} {m e : Int}
theorem round_spec {q : Option Addr} {d : Nat} {x : List UInt8} (m' : Int) (ht : Agree 22 [(6, .pointer (some ⟨b6, 0, none⟩)), (5, .pointer (some ⟨b5, 0, none⟩))] { tmps := tmps, defers := [] }) (hLl : L.length ≤ 1000000)
    (hS : St W (OwnB q d x :: CutL (recC fn tmps D .ready) l D b5 b6 b7 ce cb p n c p' c' L m e F) w) :
    RoundIn Fence.wide 0 Try.prog l fn ((tmps.setIfInBounds 12 (.int .i64 m')).setIfInBounds 13 (.slice q x.length d)) cutA cutB w fun e1 w' =>
      ∃ v, e1 = .returned v ∧ v = .bool true ∧ ∃ p2 c2, St W (CutL (recC fn tmps D .ready) l D b5 b6 b7 ce cb p n c p2 c2 (L ++ [⟨q, d, x⟩]) m' e F) w' := by
  refine roundIn_of_wpIn trivial ?_
  have hW : Wide (Fence.wide.inRound l) := .inr ⟨l, rfl⟩
  have ha : Agree 22 [(13, .slice q x.length d), (12, .int .i64 m'), (6, .pointer (some ⟨b6, 0, none⟩)), (5, .pointer (some ⟨b5, 0, none⟩))] { tmps := (tmps.setIfInBounds 12 (.int .i64 m')).setIfInBounds 13 (.slice q x.length d), defers := [] } :=
    (ht.put1 (d := 12) (.int .i64 m') (by decide)).put1 (d := 13) (.slice q x.length d) (by decide)
  rw [cutA_eq]
  refine wpIn_seq (reg_in hW tame4 (K := fun e' w' => e' = [(8, .int .i64 m'), (13, .slice q x.length d), (12, .int .i64 m'), (6, .pointer (some ⟨b6, 0, none⟩)), (5, .pointer (some ⟨b5, 0, none⟩))] ∧ w' = w) (by rw [ops_4]; exact ⟨rfl, rfl⟩) ha ?_)
  rintro e1 a1 w1 ⟨rfl, rfl⟩ ha1
  refine reg_in hW tame5 (K := fun e' w' => e' = [(9, .slice q x.length d), (8, .int .i64 m'), (13, .slice q x.length d), (12, .int .i64 m'), (6, .pointer (some ⟨b6, 0, none⟩)), (5, .pointer (some ⟨b5, 0, none⟩))] ∧ w' = w1) (by rw [ops_5]; exact ⟨rfl, rfl⟩) ha1 ?_
  rintro e2 a2 w2 ⟨rfl, rfl⟩ ha2
  have ha3 : Agree 22 [(9, .slice q x.length d), (8, .int .i64 m'), (6, .pointer (some ⟨b6, 0, none⟩)), (5, .pointer (some ⟨b5, 0, none⟩))] a2 := ha2.pick fun y hy => by
    simp only [List.mem_cons, List.not_mem_nil, or_false] at hy
    rcases hy with rfl | rfl | rfl | rfl <;> rfl
  clear ha ha1 ha2
  obtain ⟨hl, hS⟩ := (St.p1 hS).turn (o' := .loop (recC fn tmps D .busy))
  refine ⟨_, run_beginRound hl rfl, ?_⟩
  rw [cutB_eq]
  refine wpIn_block (reg_in hW tame6 (K := fun e' w' => ∃ p2 c2, St W (CutL (recC fn tmps D .busy) l D b5 b6 b7 ce cb p n c p2 c2 (L ++ [⟨q, d, x⟩]) m' e F) w') ?_ ha3 ?_)
  · rw [ops_6]
    refine LdL.n 3 hS rfl rfl (NewC.i hS fun b w hS => ?_)
    have hS : St W (Row b 22 (List.flatMap slV [⟨q, d, x⟩]) :: Pt l (.loop (recC fn tmps D .busy)) :: OwnB q d x :: Pt D (.deferred (some [])) :: Row b5 27 [.slice p' L.length c'] :: Row b6 3 [.int .i64 m] :: Row b7 24 [.int .i64 e] :: SlA 22 1 slV p' c' L :: ctsA L :: Row ce 38 [.pointer (some ⟨b7, 0, none⟩)] :: Row cb 22 [.slice p n c] :: F) w := hS
    refine append_el (os := L) (xs := [⟨q, d, x⟩]) slV1 uBs (.inr ⟨_, uBs⟩) iB sB zB rfl 7 hS rfl (Rd.n 0 rfl fun F => Rd.all) rfl slVn (by rw [bB]; simp only [List.length_cons, List.length_nil]; omega) (by simp only [List.length_cons, List.length_nil]; omega) fun p3 c3 w hS => ⟨_, _, _, rfl, ?_⟩
    refine St1.n 4 hS rfl (by simp) fun w hS => St1.n 5 hS rfl (by simp) fun w hS => ⟨p3, c3, ?_⟩
    have hS : St W (Row b 22 (List.flatMap slV [⟨q, d, x⟩]) :: Pt l (.loop (recC fn tmps D .busy)) :: OwnB q d x :: Pt D (.deferred (some [])) :: Row b5 27 [.slice p3 (L ++ [(⟨q, d, x⟩ : SD)]).length c3] :: Row b6 3 [.int .i64 m'] :: Row b7 24 [.int .i64 e] :: SlA 22 1 slV p3 c3 (L ++ [⟨q, d, x⟩]) :: ctsA L :: Row ce 38 [.pointer (some ⟨b7, 0, none⟩)] :: Row cb 22 [.slice p n c] :: F) w := hS
    have hS := St.mv 2 0 (St.mv 7 0 hS.drop rfl) rfl
    have hS := ctsA.add (L := L) (d := ⟨q, d, x⟩) hS
    exact St.mv 0 6 hS rfl
  · rintro e3 a3 w3 ⟨p2, c2, hS⟩ _
    obtain ⟨hl, hS⟩ := hS.turn (o' := .loop (recC fn tmps D .ready))
    exact ⟨_, _, run_endRound none hl, _, rfl, rfl, p2, c2, hS⟩
theorem it_spec (ht : Agree 22 [(6, .pointer (some ⟨b6, 0, none⟩)), (5, .pointer (some ⟨b5, 0, none⟩))] { tmps := tmps, defers := [] }) (hr : Rd F p (bs.map byteV)) (hl : bs.length = n) (hc : n ≤ c) (hn : n ≤ 1000000)
    (hS : St W (CutL (recC fn tmps D .ready) l D b5 b6 b7 ce cb p n c none 0 [] 0 0 F) w) :
    CallR Try.prog 20 #[.func (.yield l) #[] #[], .pointer (some ⟨cb, 0, none⟩), .pointer (some ⟨ce, 0, none⟩)] w fun v w' => v = .tuple #[] ∧
      ∃ p' c' L, ∃ m : Nat, ∃ e, CutIs bs (L.map (·.bs)) m e ∧ St W (CutL (recC fn tmps D .ready) l D b5 b6 b7 ce cb p n c p' c' L m e F) w' := by
  refine F20_of ⟨fun vs w => ∃ p' c' L e, vs = [.int .i64 (encs (List.map SD.bs L)).length] ∧ (∀ x ∈ L.map (·.bs), Fine x) ∧ bs = encs (L.map (·.bs)) ++ bs.drop (encs (L.map (·.bs))).length ∧ St W (CutL (recC fn tmps D .ready) l D b5 b6 b7 ce cb p n c p' c' L (encs (L.map (·.bs))).length e F) w, leftN (n + 1), ⟨none, 0, [], 0, rfl, by simp, rfl, hS⟩, fun at_ w hI => ?_⟩
  clear hS
  obtain ⟨p', c', L, e, he, hfine, hb, hS⟩ := hI
  cases he
  have hle : (encs (L.map (·.bs))).length ≤ n := by
    have := congrArg List.length hb
    rw [List.length_append] at this
    omega
  have hLl : L.length ≤ n := by
    have := encs_len_ge hfine
    rw [List.length_map] at this
    omega
  have hr2 : Rd (CutL (recC fn tmps D .ready) l D b5 b6 b7 ce cb p n c p' c' L (encs (L.map (·.bs))).length e F) p (bs.map byteV) := ((((((((hr.cons _).cons _).cons _).cons _).cons _).cons _).cons _).cons _).cons _
  refine NilP.i (LdL.n 8 hS rfl rfl (SlP.from hr2 hl hc rfl rfl hle fun q hq => ?_))
  refine (First_spec hq (by rw [List.length_drop, hl]) (by omega) (by omega) hS).of fun v w ⟨q, d, hv, hS⟩ => ⟨_, _, _, _, _, hv, ?_⟩
  have hE := first_e (bs.drop (encs (L.map (·.bs))).length)
  have hF0 : firstP (bs.drop (encs (L.map (·.bs))).length) = ((firstP (bs.drop (encs (L.map (·.bs))).length)).1, (firstP (bs.drop (encs (L.map (·.bs))).length)).2.1, (firstP (bs.drop (encs (L.map (·.bs))).length)).2.2) := rfl
  have hbl := (first_le (bs.drop (encs (L.map (·.bs))).length)).2.1
  rw [List.length_drop, hl] at hbl
  generalize (firstP (bs.drop (encs (L.map (·.bs))).length)).2.2 = e2 at hE hF0 ⊢
  generalize (firstP (bs.drop (encs (L.map (·.bs))).length)).1 = x at hF0 hS ⊢
  generalize (firstP (bs.drop (encs (L.map (·.bs))).length)).2.1 = m at hF0 hE hbl ⊢
  refine NilP.i (LdP.n 8 hS rfl rfl (NilP.i (St1.n 5 hS rfl (by simp) fun w hS => ?_)))
  have hS : St W (OwnB q d x :: CutL (recC fn tmps D .ready) l D b5 b6 b7 ce cb p n c p' c' L (encs (L.map (·.bs))).length e2 F) w := hS
  refine Bif.i (fun h2 => ?_) fun h2 => ?_
  · have h2 : m = 0 := by have : (m : Int) = 0 := by simpa using h2
                          omega
    exact ⟨rfl, p', c', L, _, e2, cut_stop hfine hb (by rw [hF0, h2]), hS.drop⟩
  · have h2 : m ≠ 0 := by have : ¬ (m : Int) = 0 := by simpa using h2
                          omega
    have he2 : e2 = 0 := by
      rcases hE with h | h
      · exact h
      · rw [hF0] at h
        simp only [Prod.mk.injEq] at h
        exact absurd h.1 h2
    subst he2
    obtain ⟨g1, g2, g3⟩ := cut_more hb hF0 h2
    have em : (L ++ [(⟨q, d, x⟩ : SD)]).map (·.bs) = L.map (·.bs) ++ [x] := by rw [List.map_append]; rfl
    have ew : IntKind.wrap .i64 (((encs (L.map (·.bs))).length : Int) + (m : Int)) = ((encs ((L ++ [(⟨q, d, x⟩ : SD)]).map (·.bs))).length : Int) := by
      rw [w64 (by omega) (by omega), em, g3]
      push_cast; rfl
    rw [ew]
    refine .inr ⟨l, recC fn tmps D .ready, rfl, (hS.at 1 rfl).pt, rfl, ?_⟩
    have key := round_spec (((encs ((L ++ [(⟨q, d, x⟩ : SD)]).map (·.bs))).length : Nat) : Int) ht (by omega) hS
    rw [← fold_two] at key
    refine RoundIn.mono key fun e1 w' ⟨v, h1, h3, p2, c2, hS⟩ => ⟨v, h1, ?_⟩
    subst h3
    refine ⟨_, rfl, Bif.no rfl ⟨⟨p2, c2, L ++ [⟨q, d, x⟩], 0, rfl, ?_, ?_, hS⟩, ?_⟩⟩
    · rw [em]
      intro y hy
      rcases List.mem_append.1 hy with hy | hy
      · exact hfine y hy
      · simp at hy; subst hy; exact g1
    · rw [em]; exact g2
    · show n + 1 - (encs ((L ++ [(⟨q, d, x⟩ : SD)]).map (·.bs))).length < n + 1 - (encs (L.map (·.bs))).length
      rw [em, g3]; omega
end
end Go.Proofs.Ytgjehbhjgogmfaa
