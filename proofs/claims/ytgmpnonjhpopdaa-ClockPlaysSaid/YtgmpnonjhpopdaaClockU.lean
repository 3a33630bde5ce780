/-
  Contracts of a heap of alarms: what rises, what sinks.
-/
import Derived.Test.YtgmpnonjhpopdaaClockH
set_option linter.unusedVariables false
set_option linter.unusedSimpArgs false
namespace Go.Proofs.Ytgmpnonjhpopdaa
open Go
def fK (l : List AD) (i : Nat) : Al := ((l[i]?).map keyD).getD (0, 0)
theorem fK_at {l : List AD} {i : Nat} {d : AD} (h : l[i]? = some d) : fK l i = keyD d := by unfold fK; rw [h]; rfl
structure HOk (l : List AD) : Prop where
  pl : ∀ (i : Nat) d, l[i]? = some d → d.pl = (i : Int)
  nd : (l.map (·.id)).Nodup
  small : l.length ≤ 2000
structure HRel (N : Nat) (l l' : List AD) : Prop where
  len : l'.length = l.length
  core : (l'.map coreD).Perm (l.map coreD)
  tail : ∀ k, N ≤ k → l'[k]? = l[k]?
theorem HRel.refl (N : Nat) (l : List AD) : HRel N l l := ⟨rfl, .refl _, fun _ _ => rfl⟩
theorem HRel.trans {N : Nat} {a b c : List AD} (h : HRel N a b) (k : HRel N b c) : HRel N a c := ⟨k.len.trans h.len, k.core.trans h.core, fun j hj => (k.tail j hj).trans (h.tail j hj)⟩
theorem swap_perm {α : Type} {l : List α} {i k : Nat} {x y : α} (hx : l[i]? = some x) (hy : l[k]? = some y) (hne : i ≠ k) : ((l.set i y).set k x).Perm l := by
  have hi := (List.getElem?_eq_some_iff.1 hx).1
  have hk := (List.getElem?_eq_some_iff.1 hy).1
  have a2 : ((l.set i y).set k x).Perm (x :: (l.set i y).eraseIdx k) := set_erase _ _ _ (by simpa using hk)
  have b2 : (y :: (l.set i y).eraseIdx k).Perm (y :: l.eraseIdx i) := (erase_perm (l.set i y) k (by rw [List.getElem?_set, if_neg hne, hy])).symm.trans (set_erase l i y hi)
  exact a2.trans ((b2.cons_inv.cons x).trans (erase_perm l i hx).symm)
section
variable {l : List AD} {i k N : Nat} {x y : AD}
theorem swL_get (hx : l[i]? = some x) (hy : l[k]? = some y) (hne : i ≠ k) (j : Nat) : (swL l i k x y)[j]? = if j = i then some { y with pl := i } else if j = k then some { x with pl := k } else l[j]? := by
  have hi := (List.getElem?_eq_some_iff.1 hx).1
  have hk := (List.getElem?_eq_some_iff.1 hy).1
  unfold swL
  rw [List.getElem?_set, List.getElem?_set]
  by_cases e1 : j = i
  · subst e1
    rw [if_neg (Ne.symm hne), if_pos rfl, if_pos hi, if_pos rfl]
  · by_cases e2 : j = k
    · subst e2
      rw [if_pos rfl, if_pos (by simpa using hk), if_neg e1, if_pos rfl]
    · rw [if_neg (Ne.symm e2), if_neg (Ne.symm e1), if_neg e1, if_neg e2]
theorem swL_fK (hx : l[i]? = some x) (hy : l[k]? = some y) (hne : i ≠ k) : fK (swL l i k x y) = sw (fK l) i k := by
  funext j
  unfold sw
  rw [fK_at hx, fK_at hy]
  unfold fK
  rw [swL_get hx hy hne]
  by_cases e1 : j = i
  · rw [if_pos e1, if_pos e1]; rfl
  · by_cases e2 : j = k
    · rw [if_neg e1, if_pos e2, if_neg e1, if_pos e2]; rfl
    · rw [if_neg e1, if_neg e2, if_neg e1, if_neg e2]
theorem swL_rel (hx : l[i]? = some x) (hy : l[k]? = some y) (hne : i ≠ k) (hi : i < N) (hk : k < N) : HRel N l (swL l i k x y) := by
  refine ⟨swL_len _ _ _ _ _, ?_, fun j hj => ?_⟩
  · unfold swL
    rw [List.map_set, List.map_set]
    exact swap_perm (by rw [List.getElem?_map, hx]; rfl) (by rw [List.getElem?_map, hy]; rfl) hne
  · rw [swL_get hx hy hne, if_neg (by omega), if_neg (by omega)]
theorem ids_core (l : List AD) : l.map (·.id) = (l.map coreD).map (fun c => c.2.1) := by rw [List.map_map]; rfl
theorem HOk.sw (h : HOk l) (hx : l[i]? = some x) (hy : l[k]? = some y) (hne : i ≠ k) : HOk (swL l i k x y) := by
  refine ⟨fun j d hj => ?_, ?_, by rw [swL_len]; exact h.small⟩
  · rw [swL_get hx hy hne] at hj
    by_cases e1 : j = i
    · rw [if_pos e1] at hj; cases hj; rw [e1]
    · by_cases e2 : j = k
      · rw [if_neg e1, if_pos e2] at hj; cases hj; rw [e2]
      · rw [if_neg e1, if_neg e2] at hj; exact h.pl j d hj
  · have hr := (swL_rel (N := i + k + 1) hx hy hne (by omega) (by omega)).core
    rw [ids_core, (hr.map _).nodup_iff, ← ids_core]
    exact h.nd
theorem HOk.ne (h : HOk l) (hx : l[i]? = some x) (hy : l[k]? = some y) (hne : i ≠ k) : x.id ≠ y.id := fun e => by
  have h1 : (l.map (·.id))[i]? = some x.id := by rw [List.getElem?_map, hx]; rfl
  have h2 : (l.map (·.id))[k]? = some y.id := by rw [List.getElem?_map, hy]; rfl
  have hlt := (List.getElem?_eq_some_iff.1 h1).1
  exact hne ((List.getElem?_inj hlt h.nd).1 (by rw [h1, h2, e]))
end
theorem bLess : bodyOk Try.prog 49 = true := by kernel_rfl
theorem bSwap : bodyOk Try.prog 50 = true := by kernel_rfl
theorem bLen : bodyOk Try.prog 48 = true := by kernel_rfl
abbrev hV (c : Nat) : Value := .iface 64 (.pointer (some ⟨c, 1, none⟩))
section
variable {W w : World} {F : List Asn} {c : Nat} {now : Int} {m : Option Nat} {p : Option Addr} {cap : Nat} {l : List AD}
theorem iLen {K : Value → World → Prop} (hS : St W (HL c now m p cap l F) w) (hK : K (.int .i64 (l.length : Int)) w) : InvK Try.prog "Len" (hV c) [] w K :=
  inv_val mLen bLen (HL.cell hS) (F48_of hK)
theorem iLess {i k : Nat} {x y : AD} {K : Value → World → Prop} {a b : Int} (ha : a = (i : Int)) (hb : b = (k : Int)) (hx : l[i]? = some x) (hy : l[k]? = some y) (ho : HOk l) (hS : St W (HL c now m p cap l F) w)
    (hK : ∀ w', St W (HL c now m p cap l F) w' → K (.bool (ltD x y)) w') : InvK Try.prog "Less" (hV c) [.int .i64 a, .int .i64 b] w K := by
  subst ha; subst hb
  exact inv_val mLess bLess (HL.cell hS) ((Less_spec hx hy (fun e => ho.ne hx hy e) hS).of fun v w' ⟨hv, h⟩ => by subst hv; exact hK w' h)
theorem iSwap {i k : Nat} {x y : AD} {K : Value → World → Prop} {a b : Int} (ha : a = (i : Int)) (hb : b = (k : Int)) (hx : l[i]? = some x) (hy : l[k]? = some y) (hS : St W (HL c now m p cap l F) w)
    (hK : ∀ w', St W (HL c now m p cap (swL l i k x y) F) w' → K (.tuple #[]) w') : InvK Try.prog "Swap" (hV c) [.int .i64 a, .int .i64 b] w K := by
  subst ha; subst hb
  exact inv_val mSwap bSwap (HL.cell hS) ((Swap_spec hx hy hS).of fun v w' ⟨hv, h⟩ => by subst hv; exact hK w' h)
theorem get_of {l : List AD} {i : Nat} (h : i < l.length) : ∃ x, l[i]? = some x := ⟨l[i], List.getElem?_eq_getElem h⟩
theorem lt_le {x y : AD} : ltD x y = false ↔ leA (keyD y) (keyD x) := by unfold ltD; simp
theorem up_spec {j N : Nat} (hj : j < N) (hN : N ≤ l.length) (ho : HOk l) (hu : UpI leA N (fK l) j) (hS : St W (HL c now m p cap l F) w) :
    CallR Try.prog 30 #[hV c, .int .i64 j] w fun v w' => v = .tuple #[] ∧ ∃ l', HOk l' ∧ HRel N l l' ∧ HeapF leA N (fK l') ∧ St W (HL c now m p cap l' F) w' := by
  refine F30_of ⟨fun vs w => ∃ (j : Nat) (l' : List AD), vs = [.int .i64 j] ∧ j < N ∧ HOk l' ∧ HRel N l l' ∧ UpI leA N (fK l') j ∧ St W (HL c now m p cap l' F) w, fun vs _ => match vs with | [.int _ i] => i.toNat | _ => 0, ⟨j, l, rfl, hj, ho, HRel.refl _ _, hu, hS⟩, fun x w hI => ?_⟩
  obtain ⟨j, l', he, hj, ho', hr, hu, hS⟩ := hI
  cases he
  have hsm := ho'.small
  have hl := hr.len
  refine ⟨by decide, ?_⟩
  rcases Nat.eq_zero_or_pos j with rfl | h0
  · refine Bif.yes (by decide) ⟨rfl, l', ho', hr, hu.done0, hS⟩
  have ei : IntKind.wrap .i64 (Int.tdiv (IntKind.wrap .i64 ((j : Int) - 1)) 2) = ((par j : Nat) : Int) := by
    unfold par
    rw [w64 (n := (j : Int) - 1) (by omega) (by omega), Int.tdiv_eq_ediv_of_nonneg (by omega), w64 (by omega) (by omega)]; omega
  have hpj := par_lt h0
  rw [ei]
  refine Bif.no ?_ ?_
  · have : ((par j : Nat) : Int) ≠ (j : Int) := by omega
    simpa using this
  obtain ⟨x, hx⟩ := get_of (l := l') (i := par j) (by omega)
  obtain ⟨y, hy⟩ := get_of (l := l') (i := j) (by omega)
  refine iLess rfl rfl hy hx ho' hS fun w hS => ⟨_, rfl, Bif.i (fun hlt => ?_) fun hlt => ?_⟩
  · have hlt : ltD y x = false := by simpa using hlt
    have hle := lt_le.1 hlt
    refine ⟨rfl, l', ho', hr, hu.done ?_, hS⟩
    rw [fK_at hx, fK_at hy]; exact hle
  · have hlt : ltD y x = true := by simpa using hlt
    have hle : ¬ leA (fK l' (par j)) (fK l' j) := by
      rw [fK_at hx, fK_at hy]
      intro h
      rw [lt_le.2 h] at hlt; cases hlt
    refine iSwap rfl rfl hx hy hS fun w hS => ⟨rfl, ⟨par j, _, rfl, by omega, ho'.sw hx hy (by omega), hr.trans (swL_rel hx hy (by omega) (by omega) hj), ?_, hS⟩, by show (((par j : Nat) : Int)).toNat < ((j : Int)).toNat; omega⟩
    rw [swL_fK hx hy (by omega)]
    exact hu.step leA_ord h0 hj hle
theorem down_spec {i0 n : Nat} (hn : n ≤ l.length) (ho : HOk l) (hh : HoleI leA n (fK l) i0) (hi0 : i0 ≤ n) (hS : St W (HL c now m p cap l F) w) :
    CallR Try.prog 29 #[hV c, .int .i64 i0, .int .i64 n] w fun v w' => ∃ b l', v = .bool b ∧ HOk l' ∧ HRel n l l' ∧ (b = true → HeapF leA n (fK l')) ∧ (b = false → l' = l ∧ ∀ k, 0 < k → k < n → par k = i0 → leA (fK l i0) (fK l k)) ∧ St W (HL c now m p cap l' F) w' := by
  refine F29_of ⟨fun vs w => ∃ (i : Nat) (l' : List AD), vs = [.int .i64 i] ∧ i0 ≤ i ∧ i ≤ n ∧ HOk l' ∧ HRel n l l' ∧ HoleI leA n (fK l') i ∧ (i = i0 → l' = l) ∧ (i0 < i → DnI leA n (fK l') i) ∧ St W (HL c now m p cap l' F) w, fun vs _ => match vs with | [.int _ i] => n - i.toNat | _ => 0, ⟨i0, l, rfl, Nat.le_refl _, hi0, ho, HRel.refl _ _, hh, fun _ => rfl, fun h => absurd h (by omega), hS⟩, fun x w hI => ?_⟩
  obtain ⟨i, l', he, hi0', hin, ho', hr, hH, hsame, hD, hS⟩ := hI
  cases he
  have hsm := ho'.small
  have hl := hr.len
  have e1 : IntKind.wrap .i64 ((IntKind.wrap .i64 (2 * (i : Int))) + 1) = ((2 * i + 1 : Nat) : Int) := by rw [w64 (n := 2 * (i : Int)) (by omega) (by omega), w64 (by omega) (by omega)]; omega
  have e2 : IntKind.wrap .i64 (((2 * i + 1 : Nat) : Int) + 1) = ((2 * i + 2 : Nat) : Int) := by rw [w64 (by omega) (by omega)]; omega
  rw [e1, e2]
  have hpar : ∀ k, 0 < k → par k = i → k = 2 * i + 1 ∨ k = 2 * i + 2 := fun k h0 h => by unfold par at h; omega
  have fin : ∀ w, St W (HL c now m p cap l' F) w → (∀ k, 0 < k → k < n → par k = i → leA (fK l' i) (fK l' k)) → ∃ b l'', Value.bool (decide ((i : Int) > (i0 : Int))) = .bool b ∧ HOk l'' ∧ HRel n l l'' ∧ (b = true → HeapF leA n (fK l'')) ∧ (b = false → l'' = l ∧ ∀ k, 0 < k → k < n → par k = i0 → leA (fK l i0) (fK l k)) ∧ St W (HL c now m p cap l'' F) w := fun w hS hc => by
    refine ⟨_, l', rfl, ho', hr, fun h => ?_, fun h => ?_, hS⟩
    · have h := of_decide_eq_true h
      exact (hD (by omega)).done hc
    · have h := of_decide_eq_false h
      have hie : i = i0 := by omega
      have hle := hsame hie
      subst hie
      subst hle
      exact ⟨rfl, hc⟩
  refine Bif.i (fun hge => ?_) fun hlt => ?_
  · have hge := of_decide_eq_true hge
    exact fin w hS fun k h0 h1 hk => by have := hpar k h0 hk; omega
  have hlt : 2 * i + 1 < n := by have := of_decide_eq_false hlt; omega
  refine Bif.no (decide_eq_false (by omega)) ?_
  obtain ⟨x, hx⟩ := get_of (l := l') (i := i) (by omega)
  obtain ⟨y1, hy1⟩ := get_of (l := l') (i := 2 * i + 1) (by omega)
  refine ⟨fun vs w => ∃ (j : Nat) (y : AD), vs = [.int .i64 j] ∧ (j = 2 * i + 1 ∨ j = 2 * i + 2) ∧ j < n ∧ l'[j]? = some y ∧ (∀ k, 0 < k → k < n → par k = i → leA (fK l' j) (fK l' k)) ∧ St W (HL c now m p cap l' F) w, Bif.i (fun h2 => ?_) fun h2 => ?_, fun j w hJ => ?_⟩
  · have h2 : 2 * i + 2 < n := by have := of_decide_eq_true h2; omega
    obtain ⟨y2, hy2⟩ := get_of (l := l') (i := 2 * i + 2) (by omega)
    refine iLess rfl rfl hy2 hy1 ho' hS fun w hS => ⟨_, rfl, Bif.i (fun hl2 => ?_) fun hl2 => ?_⟩
    · refine ⟨2 * i + 2, y2, rfl, .inr rfl, h2, hy2, fun k h0 h1 hk => ?_, hS⟩
      have hnl : ¬ leA (keyD y1) (keyD y2) := fun h => by rw [lt_le.2 h] at hl2; cases hl2
      rcases hpar k h0 hk with rfl | rfl
      · rw [fK_at hy2, fK_at hy1]; exact (leA_ord.total _ _).resolve_right hnl
      · exact (leA_ord.total _ _).elim id id
    · refine ⟨2 * i + 1, y1, rfl, .inl rfl, hlt, hy1, fun k h0 h1 hk => ?_, hS⟩
      have hle := lt_le.1 hl2
      rcases hpar k h0 hk with rfl | rfl
      · exact (leA_ord.total _ _).elim id id
      · rw [fK_at hy2, fK_at hy1]; exact hle
  · have h2 : ¬ 2 * i + 2 < n := by have := of_decide_eq_false h2; omega
    refine ⟨2 * i + 1, y1, rfl, .inl rfl, hlt, hy1, fun k h0 h1 hk => ?_, hS⟩
    rcases hpar k h0 hk with rfl | rfl
    · exact (leA_ord.total _ _).elim id id
    · omega
  obtain ⟨j, y, he, hj12, hjn, hy, hmin, hS⟩ := hJ
  cases he
  refine iLess rfl rfl hy hx ho' hS fun w hS => ⟨_, rfl, Bif.i (fun hl2 => ?_) fun hl2 => ?_⟩
  · have hl2 : ltD y x = false := by simpa using hl2
    have hle := lt_le.1 hl2
    refine fin w hS fun k h0 h1 hk => leA_ord.trans _ _ _ ?_ (hmin k h0 h1 hk)
    rw [fK_at hx, fK_at hy]; exact hle
  · have hl2 : ltD y x = true := by simpa using hl2
    have hnle : ¬ leA (fK l' i) (fK l' j) := by
      rw [fK_at hx, fK_at hy]
      intro h
      rw [lt_le.2 h] at hl2; cases hl2
    have hpj : par j = i := by unfold par; omega
    have hstep := hH.step leA_ord hpj (by omega) hjn hmin hnle
    rw [← swL_fK hx hy (by omega)] at hstep
    refine iSwap rfl rfl hx hy hS fun w hS => ⟨rfl, ⟨j, _, rfl, by omega, by omega, ho'.sw hx hy (by omega), hr.trans (swL_rel hx hy (by omega) (by omega) hjn), hstep.hole, fun h => absurd h (by omega), fun _ => hstep, hS⟩, by show n - ((j : Int)).toNat < n - ((i : Int)).toNat; omega⟩
end
end Go.Proofs.Ytgmpnonjhpopdaa
