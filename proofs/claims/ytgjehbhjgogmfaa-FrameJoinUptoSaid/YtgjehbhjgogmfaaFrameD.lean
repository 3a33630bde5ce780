/-
  Rows of rows of bytes: alike; the document's cut.
-/
import Derived.Test.YtgjehbhjgogmfaaFrameC
set_option linter.unusedVariables false
set_option linter.unusedSimpArgs false
namespace Go.Proofs.Ytgjehbhjgogmfaa
open Go
theorem uBs : Try.prog.underlying 27 = some (.slice 22) := Try.underlying27
theorem iB : Try.prog.info? 22 = some Try.t22 := by kernel_rfl
theorem sB : Try.t22.size = 1 := rfl
theorem zB : Try.t22.zero = some (.slice none 0 0) := rfl
theorem bB : Try.t22.bytes = 24 := rfl
/-- A slice of bytes, as it lies. -/
structure SD where
  p : Option Addr
  c : Nat
  bs : List UInt8
deriving Inhabited
def slV (d : SD) : List Value := [.slice d.p d.bs.length d.c]
theorem slV1 (d : SD) : (slV d).length = 1 := rfl
theorem slVn (d : SD) : ∀ v ∈ slV d, NotAgg v := fun v hv => by simp [slV] at hv; subst hv; trivial
def ctsA (L : List SD) : Asn := sepA (L.map fun d => OwnB d.p d.c d.bs)
section
variable {W w : World} {F : List Asn} {p : Option Addr} {n c : Nat} {bs : List UInt8}
theorem ctsA.nil (h : St W F w) : St W (ctsA [] :: F) w := St.to_sep (l := []) h
theorem ctsA.add {L : List SD} {d : SD} (h : St W (OwnB d.p d.c d.bs :: ctsA L :: F) w) : St W (ctsA (L ++ [d]) :: F) w := by
  have h1 : St W (L.map (fun d => OwnB d.p d.c d.bs) ++ (OwnB d.p d.c d.bs :: F)) w := St.of_sep h.p1
  refine St.to_sep ?_
  rw [List.map_append, List.append_assoc]
  exact h1
theorem ctsA.app {L M : List SD} (h : St W (ctsA L :: ctsA M :: F) w) : St W (ctsA (L ++ M) :: F) w := by
  have h1 : St W (L.map (fun d => OwnB d.p d.c d.bs) ++ (ctsA M :: F)) w := St.of_sep h
  have h2 : St W (ctsA M :: (L.map (fun d => OwnB d.p d.c d.bs) ++ F)) w := h1.perm List.perm_middle
  have h3 : St W (M.map (fun d => OwnB d.p d.c d.bs) ++ (L.map (fun d => OwnB d.p d.c d.bs) ++ F)) w := St.of_sep h2
  refine St.to_sep ?_
  rw [List.map_append, List.append_assoc]
  refine h3.perm ?_
  rw [← List.append_assoc, ← List.append_assoc]
  exact List.perm_append_comm.append_right F
theorem ctsA.rd {L : List SD} {d : SD} (hd : d ∈ L) (F : List Asn) : Rd (ctsA L :: F) d.p (d.bs.map byteV) := fun H hH => by
  have h1 : Own (L.map (fun d => OwnB d.p d.c d.bs) ++ F) H := Own.of_sep hH
  have h2 : Rd (L.map (fun d => OwnB d.p d.c d.bs) ++ F) d.p (d.bs.map byteV) := Rd.mono_mem (OwnS.rd []) (List.mem_append_left _ (List.mem_map.2 ⟨d, hd, rfl⟩))
  exact h2 H h1
/-- Element k of a row of slices. -/
theorem sl_at {L : List SD} {k : Nat} {d : SD} (h : L[k]? = some d) : (L.flatMap slV)[k]? = some (.slice d.p d.bs.length d.c) := by
  have := flat_at slV1 (i := k) (j := 0) h (v := .slice d.p d.bs.length d.c) rfl
  simpa using this
theorem QtL.at {C : Cls} {a : Addr} {p : Option Addr} {n c : Nat} (h : ∀ G w, C.p G w → w.cell? a = some (.slice p n c)) : Qt C (.slice p n c) fun w K => LdL a w fun p n c => K (.slice p n c) w := fun G w hw => LdL.at (h G w hw) ⟨rfl, hw⟩
theorem QtStr {C : Cls} {l : List Asn} (hC : Is W C l) (hr : Rd l p (bs.map byteV)) (hl : bs.length = n) :
    Qt C (.string (mkS bs)) (fun w K => Run Try.prog (convert 22 9 (Value.slice p n c)) w fun v w' => AsS v fun x => K (.string x) w') := fun G w hw =>
  str_rd uB uU8 uS ((hC G w).1 hw) (hr.app (pts G)) hl ⟨_, rfl, rfl, hw⟩
theorem mkS_inj {a b : List UInt8} : mkS a = mkS b ↔ a = b := ⟨fun h => by
  have := congrArg (fun x : ByteArray => x.data.toList) h
  simpa [mkS] using this, fun h => by rw [h]⟩
theorem str_beq (a b : List UInt8) : ((mkS a).toList == (mkS b).toList) = decide (a = b) := by
  rw [bytes_beq, decide_eq_decide, mkS_inj]
theorem Same_spec {q : Option Addr} {d : Nat} {A B : List SD} (hr : Rd F p (A.flatMap slV)) (hrb : Rd F q (B.flatMap slV)) (ha : ∀ d ∈ A, Rd F d.p (d.bs.map byteV)) (hb : ∀ d ∈ B, Rd F d.p (d.bs.map byteV)) (hn : A.length ≤ 1000000) (hS : St W F w) :
    CallR Try.prog 16 #[.slice p A.length c, .slice q B.length d] w fun v w' => v = .bool (decide (A.map (·.bs) = B.map (·.bs))) ∧ St W F w' := by
  refine F16_of (Bif.i (fun h => ⟨?_, hS⟩) fun h => ?_)
  · have h : (A.length : Int) ≠ B.length := by simpa using h
    rw [decide_eq_false (fun e => h (by have := congrArg List.length e; rw [List.length_map, List.length_map] at this; omega))]
  have hl : A.length = B.length := by
    have : ¬ (A.length : Int) ≠ B.length := by simpa using h
    omega
  refine ⟨fun vs w => ∃ i : Nat, vs = [.int .i64 i] ∧ i ≤ A.length ∧ (A.take i).map (·.bs) = (B.take i).map (·.bs) ∧ St W F w, leftN A.length, ⟨0, rfl, by omega, by simp, hS⟩, fun x w hI => ?_⟩
  obtain ⟨i, he, hi, hu, hS⟩ := hI
  cases he
  refine Bif.i (fun hlt => ?_) fun hge => ⟨?_, hS⟩
  · have hlt : i < A.length := by have := of_decide_eq_true hlt; omega
    have hx : A[i]? = some (A[i]'hlt) := List.getElem?_eq_getElem _
    have hy : B[i]? = some (B[i]'(by omega)) := List.getElem?_eq_getElem _
    generalize A[i]'hlt = x at hx
    generalize B[i]'(by omega) = y at hy
    have hC := Is.refl W F
    refine ⟨StC W _, StC.start hS, IxP.oneC hC hr hS rfl hlt (sl_at hx) fun a10 h10 => IxP.oneC hC hrb hS rfl (by omega) (sl_at hy) fun a11 h11 => ?_⟩
    refine ⟨_, _, _, QtL.at h10, _, QtStr hC (ha x (List.mem_of_getElem? hx)) rfl, _, _, _, QtL.at h11, _, QtStr hC (hb y (List.mem_of_getElem? hy)) rfl, fun G w h => ?_⟩
    rw [str_beq]
    refine Bif.i (fun hne => ⟨?_, StC.ends h⟩) fun heq => ?_
    · have hne : ¬ x.bs = y.bs := by simpa using hne
      rw [decide_eq_false]
      intro e
      have := congrArg (fun l : List (List UInt8) => l[i]?) e
      simp only [List.getElem?_map, hx, hy, Option.map_some, Option.some.injEq] at this
      exact hne this
    · have heq : x.bs = y.bs := by simpa using heq
      rw [up hlt (by omega)]
      refine ⟨⟨i + 1, rfl, by omega, ?_, StC.ends h⟩, by show A.length - (i + 1) < A.length - i; omega⟩
      rw [take_one hx, take_one hy, List.map_append, List.map_append, hu]
      simp [heq]
  · have hi2 : i = A.length := by have := of_decide_eq_false hge; omega
    subst hi2
    rw [List.take_length, hl, List.take_length] at hu
    rw [decide_eq_true hu]
theorem frames_spec {e : Option Addr} (hS : St W F w) : CallR Try.prog 19 #[.slice p n c, .pointer e] w fun v w' =>
    ∃ cb ce, v = .func (.func 20) #[] #[.pointer (some ⟨cb, 0, none⟩), .pointer (some ⟨ce, 0, none⟩)] ∧ St W (Row ce 38 [.pointer e] :: Row cb 22 [.slice p n c] :: F) w' :=
  F19_of (NewC.i hS fun cb w hS => NewC.i hS fun ce w hS => ⟨cb, ce, rfl, hS⟩)
/-- The bytes behind a place. -/
theorem SlP.from {K : Option Addr → Nat → Nat → Prop} {a : Nat} {lo hi : Int} (hr : Rd F p (bs.map byteV)) (hl : bs.length = n) (hc : n ≤ c) (hlo : lo = (a : Int)) (hhi : hi = (n : Int)) (ha : a ≤ n) (hK : ∀ p', Rd F p' ((bs.drop a).map byteV) → K p' (n - a) (c - a)) : SlP p n c 1 lo hi K := by
  subst hl
  refine SlP.i (a := a) (b := bs.length) hr (by simp) hc hlo hhi ha (Nat.le_refl _) fun p' hr' => hK p' ?_
  rw [Nat.mul_one, Nat.mul_one, List.take_of_length_le (by simp)] at hr'
  rwa [List.map_drop]
theorem RCut_spec (hr : Rd F p (bs.map byteV)) (hl : bs.length = n) (hc : n ≤ c) (hn : n ≤ 1000000) (hS : St W F w) :
    CallR Try.prog 13 #[.slice p n c] w fun v w' => ∃ p' c' L, ∃ m : Nat, ∃ e, v = .tuple #[.slice p' (List.length L) c', .int .i64 (m : Int), .int .i64 e] ∧ CutIs bs (L.map (·.bs)) m e ∧ St W (SlA 22 1 slV p' c' L :: ctsA L :: F) w' := by
  refine F13_of ⟨fun vs w => ∃ p' c' L, vs = [.slice p' (List.length L) c', .int .i64 (encs (L.map (·.bs))).length] ∧ (∀ x ∈ L.map (·.bs), Fine x) ∧ bs = encs (L.map (·.bs)) ++ bs.drop (encs (L.map (·.bs))).length ∧ St W (SlA 22 1 slV p' c' L :: ctsA L :: F) w, leftN (n + 1), ⟨none, 0, [], rfl, by simp, rfl, SlA.nil (ctsA.nil hS)⟩, fun op on oc at_ w hI => ?_⟩
  clear hS
  obtain ⟨p', c', L, he, hfine, hb, hS⟩ := hI
  cases he
  have hle : (encs (L.map (·.bs))).length ≤ n := by
    have := congrArg List.length hb
    rw [List.length_append] at this
    omega
  have hLl : L.length ≤ n := by
    have := encs_len_ge hfine
    rw [List.length_map] at this
    omega
  have hr2 : Rd (SlA 22 1 slV op oc L :: ctsA L :: F) p (bs.map byteV) := (hr.cons _).cons _
  refine SlP.from hr2 hl hc rfl rfl hle fun q hq => ?_
  refine (RFirst_spec hq (by rw [List.length_drop, hl]) (by omega) (by omega) hS).of fun v w ⟨q, d, hv, hS⟩ => ⟨_, _, _, _, _, hv, ?_⟩
  have hE := first_e (bs.drop (encs (L.map (·.bs))).length)
  have hF0 : firstP (bs.drop (encs (L.map (·.bs))).length) = ((firstP (bs.drop (encs (L.map (·.bs))).length)).1, (firstP (bs.drop (encs (L.map (·.bs))).length)).2.1, (firstP (bs.drop (encs (L.map (·.bs))).length)).2.2) := rfl
  have hbl := (first_le (bs.drop (encs (L.map (·.bs))).length)).2.1
  rw [List.length_drop, hl] at hbl
  generalize (firstP (bs.drop (encs (L.map (·.bs))).length)).2.2 = e at hE hF0 ⊢
  generalize hx : (firstP (bs.drop (encs (L.map (·.bs))).length)).1 = x at hF0 hS ⊢
  generalize hm : (firstP (bs.drop (encs (L.map (·.bs))).length)).2.1 = m at hF0 hE hbl ⊢
  refine Bif.i (fun h1 => ?_) fun h1 => Bif.i (fun h2 => ?_) fun h2 => ?_
  · have h1 : e ≠ 0 := by simpa using h1
    refine ⟨op, oc, L, _, _, rfl, cut_stop hfine hb ?_, hS.drop⟩
    rcases hE with h | h
    · exact absurd h h1
    · rw [hF0] at h ⊢
      simp only [Prod.mk.injEq] at h
      rw [h.1]
  · have h2 : m = 0 := by have : (m : Int) = 0 := by simpa using h2
                          omega
    exact ⟨op, oc, L, _, _, rfl, cut_stop hfine hb (by rw [hF0, h2]), hS.drop⟩
  · have h1 : e = 0 := by simpa using h1
    have h2 : m ≠ 0 := by have : ¬ (m : Int) = 0 := by simpa using h2
                          omega
    subst h1
    obtain ⟨g1, g2, g3⟩ := cut_more hb hF0 h2
    refine NewC.i hS fun b w hS => ?_
    have hS : St W (Row b 22 (List.flatMap slV [⟨q, d, x⟩]) :: OwnB q d x :: SlA 22 1 slV op oc L :: ctsA L :: F) w := hS
    refine append_el (os := L) (xs := [⟨q, d, x⟩]) slV1 uBs (.inr ⟨_, uBs⟩) iB sB zB rfl 2 hS rfl (Rd.n 0 rfl fun F => Rd.all) rfl slVn (by rw [bB]; simp only [List.length_cons, List.length_nil]; omega) (by simp only [List.length_cons, List.length_nil]; omega) fun p3 c3 w hS => ⟨_, _, _, rfl, ?_⟩
    have hS : St W (Row b 22 (List.flatMap slV [⟨q, d, x⟩]) :: OwnB q d x :: SlA 22 1 slV p3 c3 (L ++ [⟨q, d, x⟩]) :: ctsA L :: F) w := hS
    have hS : St W (OwnB q d x :: ctsA L :: SlA 22 1 slV p3 c3 (L ++ [⟨q, d, x⟩]) :: F) w := St.mv 2 1 hS.drop rfl
    have hS : St W (ctsA (L ++ [⟨q, d, x⟩]) :: SlA 22 1 slV p3 c3 (L ++ [⟨q, d, x⟩]) :: F) w := ctsA.add (d := ⟨q, d, x⟩) hS
    have em : (L ++ [(⟨q, d, x⟩ : SD)]).map (·.bs) = L.map (·.bs) ++ [x] := by rw [List.map_append]; rfl
    have ew : IntKind.wrap .i64 (((encs (L.map (·.bs))).length : Int) + (m : Int)) = ((encs ((L ++ [(⟨q, d, x⟩ : SD)]).map (·.bs))).length : Int) := by
      rw [w64 (by omega) (by omega), em, g3]
      push_cast; rfl
    rw [ew]
    refine ⟨⟨p3, c3, L ++ [⟨q, d, x⟩], rfl, ?_, ?_, hS.p1⟩, ?_⟩
    · rw [em]
      intro y hy
      rcases List.mem_append.1 hy with hy | hy
      · exact hfine y hy
      · simp at hy; subst hy; exact g1
    · rw [em]; exact g2
    · show n + 1 - (encs ((L ++ [(⟨q, d, x⟩ : SD)]).map (·.bs))).length < n + 1 - (encs (L.map (·.bs))).length
      rw [em, g3]; omega
end
end Go.Proofs.Ytgjehbhjgogmfaa
