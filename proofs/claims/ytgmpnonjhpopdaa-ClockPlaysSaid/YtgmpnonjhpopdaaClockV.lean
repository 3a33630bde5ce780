/-
  Contracts of a heap of alarms: push, pop, fix, remove.
-/
import Derived.Test.YtgmpnonjhpopdaaClockU
set_option linter.unusedVariables false
set_option linter.unusedSimpArgs false
namespace Go.Proofs.Ytgmpnonjhpopdaa
open Go
theorem uPt : Try.prog.underlying 61 = some (.pointer 66) := Try.underlying61
theorem bPop : bodyOk Try.prog 51 = true := by kernel_rfl
theorem bPush : bodyOk Try.prog 52 = true := by kernel_rfl
theorem assert_pt (v : Value) (w : World) : Sem.run Try.prog (Instr.typeAssert (.iface 61 v) 20 61 false) w = .ok v w := by
  simp [Instr.typeAssert, run_underlying uPt]
section
variable {W w : World} {F : List Asn} {c : Nat} {now : Int} {m : Option Nat} {p : Option Addr} {cap : Nat} {l : List AD} {d : AD}
theorem alsA.snoc (h : St W (rowD d :: alsA l :: F) w) : St W (alsA (l ++ [d]) :: F) w := by
  have h1 : St W (l.map rowD ++ (rowD d :: F)) w := St.of_sep h.p1
  refine St.to_sep (St.perm h1 ?_)
  rw [List.map_append, List.append_assoc]; exact .refl _
theorem alsA.pop (h : St W (alsA (l ++ [d]) :: F) w) : St W (rowD d :: alsA l :: F) w := by
  have h1 : St W ((l ++ [d]).map rowD ++ F) w := h.of_sep
  rw [List.map_append, List.append_assoc] at h1
  exact (St.to_sep (l := l.map rowD) h1).p1
theorem SlA.shrink (h : St W (SlA 61 1 ptD p cap (l ++ [d]) :: F) w) : ∃ q, p = some ⟨q, 0, none⟩ ∧ 0 < cap ∧ St W (SlA 61 1 ptD p cap l :: F) w := by
  obtain ⟨h0, g, h1, ⟨h2, h3, h4⟩, h5⟩ := h
  have hl : (l ++ [d]).length = l.length + 1 := by simp
  rcases h4 with rfl | ⟨q, all, rfl, hc, ht, hr⟩
  · omega
  · refine ⟨q, rfl, by omega, OwnS.of_row hc (by omega) ?_ (show St W (Row q 61 all :: F) w from ⟨h0, g, h1, hr, h5⟩)⟩
    have hf := flat_length ptD 1 pt1 l
    have e1 : (l ++ [d]).flatMap ptD = l.flatMap ptD ++ ptD d := by simp
    rw [e1] at ht
    have := congrArg (List.take (l.length * 1)) ht
    rw [List.take_take, List.take_append_of_le_length (by omega), List.take_of_length_le (show (l.flatMap ptD).length ≤ l.length * 1 by omega), Nat.min_eq_left (by rw [hl]; omega)] at this
    exact this
theorem PopM_spec (hs : l.length ≤ 2000) (hS : St W (HL c now m p cap (l ++ [d]) F) w) :
    CallR Try.prog 51 #[.pointer (some ⟨c, 1, none⟩)] w fun v w' => v = .iface 61 (.pointer (some ⟨d.b, 0, none⟩)) ∧ St W (rowD d :: HL c now m p cap l F) w' := by
  have hl : (l ++ [d]).length = l.length + 1 := by simp
  have hd : (l ++ [d])[l.length]? = some d := by simp
  have hcell := HL.cell hS
  obtain ⟨q, hq, hcap, hS2⟩ := SlA.shrink hS.p1
  have en : IntKind.wrap .i64 ((((l ++ [d]).length : Nat) : Int) - 1) = ((l.length : Nat) : Int) := by rw [w64 (by omega) (by omega)]; omega
  refine F51_of (NilP.i (LdL.at hcell (NilP.i (LdL.at hcell ?_))))
  rw [en]
  refine IxP.el pt1 (by decide) HL.rd hS rfl (by omega) hd fun a ha => LdP.at (ha 0 _ rfl) (NilP.i (LdL.at hcell ⟨⟨by omega, by omega, by have := SlA.le hS.p1; omega⟩, NilP.i ?_⟩))
  have ep : (if cap = Int.toNat 0 then p else p.map (·.add (Int.toNat 0 * 1))) = p := by
    subst hq; split <;> rfl
  have hS3 : St W (Row c 60 [.int .i64 now, .slice p (l ++ [d]).length cap, .map m] :: SlA 61 1 ptD p cap l :: alsA (l ++ [d]) :: F) w := hS2.p1
  refine St1.n (k0 := 1) 0 hS3 rfl (by simp) fun w hS => ⟨rfl, ?_⟩
  have hS : St W (Row c 60 [.int .i64 now, .slice (if cap = Int.toNat 0 then p else p.map (·.add (Int.toNat 0 * 1))) ((Int.toNat (l.length : Int)) - Int.toNat 0) (cap - Int.toNat 0), .map m] :: SlA 61 1 ptD p cap l :: alsA (l ++ [d]) :: F) w := hS
  rw [ep, Int.toNat_natCast, show Int.toNat 0 = 0 from rfl, Nat.sub_zero, Nat.sub_zero] at hS
  exact (alsA.pop hS.p2).perm (List.Perm.cons _ ((List.perm_middle (l₁ := [_, _]) (a := alsA l) (l₂ := F)).symm))
theorem PushM_spec (hs : l.length ≤ 2000) (hS : St W (rowD d :: HL c now m p cap l F) w) :
    CallR Try.prog 52 #[.pointer (some ⟨c, 1, none⟩), .iface 61 (.pointer (some ⟨d.b, 0, none⟩))] w fun v w' => v = .tuple #[] ∧ ∃ p' cap', St W (HL c now m p' cap' (l ++ [{ d with pl := l.length }]) F) w' := by
  have hcell := HL.cell hS.drop
  refine F52_of ⟨_, assert_pt _, _, rfl, NilP.i (LdL.at hcell (NilP.i ?_))⟩
  refine St1.n (k0 := 2) 0 hS rfl (by simp [cellsD]) fun w hS => ?_
  have hS : St W (rowD { d with pl := l.length } :: HL c now m p cap l F) w := hS
  refine NilP.i (LdL.at (HL.cell hS.drop) (NewC.i hS fun b12 w hS => ?_))
  have hS : St W (Row b12 61 (List.flatMap ptD [{ d with pl := l.length }]) :: rowD { d with pl := l.length } :: HL c now m p cap l F) w := hS
  refine append_el (os := l) (xs := [{ d with pl := (l.length : Int) }]) pt1 Try.underlying58 (.inr ⟨_, Try.underlying58⟩) iPt sPt zPt rfl 3 hS rfl (Rd.all) rfl ptn (by rw [bPt]; simp; omega) (by simp; omega) fun p' c' w hS => ⟨_, _, _, rfl, NilP.i ?_⟩
  have hS : St W (Row b12 61 (List.flatMap ptD [{ d with pl := (l.length : Int) }]) :: rowD { d with pl := l.length } :: Row c 60 [.int .i64 now, .slice p l.length cap, .map m] :: SlA 61 1 ptD p' c' (l ++ [{ d with pl := (l.length : Int) }]) :: alsA l :: F) w := hS
  refine St1.n (k0 := 1) 2 hS rfl (by simp) fun w hS => ⟨rfl, p', c', ?_⟩
  have hS : St W (Row b12 61 (List.flatMap ptD [{ d with pl := (l.length : Int) }]) :: rowD { d with pl := l.length } :: Row c 60 [.int .i64 now, .slice p' (l ++ [{ d with pl := (l.length : Int) }]).length c', .map m] :: SlA 61 1 ptD p' c' (l ++ [{ d with pl := (l.length : Int) }]) :: alsA l :: F) w := hS
  have h2 := hS.drop
  have h3 : St W (rowD { d with pl := l.length } :: alsA l :: Row c 60 [.int .i64 now, .slice p' (l ++ [{ d with pl := (l.length : Int) }]).length c', .map m] :: SlA 61 1 ptD p' c' (l ++ [{ d with pl := (l.length : Int) }]) :: F) w := h2.perm (List.Perm.cons _ (List.perm_middle (l₁ := [_, _]) (a := alsA l) (l₂ := F)))
  exact (alsA.snoc h3).perm ((List.perm_middle (l₁ := [_, _]) (a := alsA _) (l₂ := F)).symm)
end
theorem HoleI.congr {α : Type} {le : α → α → Prop} {n i : Nat} {f g : Nat → α} (h : HoleI le n f i) (hg : ∀ k, k < n → g k = f k) : HoleI le n g i := ⟨fun k h0 h1 h2 h3 => by
  have := par_lt h0
  rw [hg _ (by omega), hg _ h1]; exact h.1 k h0 h1 h2 h3, fun k h0 h1 h2 h3 => by
  have := par_lt h0
  have := par_lt h3
  rw [hg _ (by omega), hg _ h1]; exact h.2 k h0 h1 h2 h3⟩
theorem UpI.congr {α : Type} {le : α → α → Prop} {n i : Nat} {f g : Nat → α} (h : UpI le n f i) (hg : ∀ k, k < n → g k = f k) : UpI le n g i := ⟨fun k h0 h1 h2 => by
  have := par_lt h0
  rw [hg _ (by omega), hg _ h1]; exact h.1 k h0 h1 h2, fun k h0 h1 h2 h3 => by
  have := par_lt h0
  have := par_lt h3
  rw [hg _ (by omega), hg _ h1]; exact h.2 k h0 h1 h2 h3⟩
theorem fK_app {l : List AD} {d : AD} {k : Nat} (h : k < l.length) : fK (l ++ [d]) k = fK l k := by unfold fK; rw [List.getElem?_append_left h]
theorem snoc_of {l : List AD} {n : Nat} {d : AD} (hl : l.length = n + 1) (hd : l[n]? = some d) : ∃ l0, l = l0 ++ [d] ∧ l0.length = n := by
  refine ⟨l.dropLast, ?_, by simp [hl]⟩
  have hne : l ≠ [] := fun e => by subst e; simp at hl
  have h1 := List.dropLast_concat_getLast hne
  have h2 : l.getLast hne = d := by
    rw [List.getLast_eq_getElem]
    rw [List.getElem?_eq_getElem (by omega)] at hd
    have : l.length - 1 = n := by omega
    simp only [this]
    exact Option.some.inj hd
  rw [h2] at h1
  exact h1.symm
theorem HOk.init {l : List AD} {d : AD} (h : HOk (l ++ [d])) : HOk l := ⟨fun i x hx => h.pl i x (by rw [List.getElem?_append_left (List.getElem?_eq_some_iff.1 hx).1]; exact hx), h.nd.sublist ((List.sublist_append_left l [d]).map _), by have := h.small; simp at this; omega⟩
section
variable {W w : World} {F : List Asn} {c : Nat} {now : Int} {m : Option Nat} {p : Option Addr} {cap : Nat} {l : List AD} {d : AD}
theorem Push_spec (ho : HOk l) (hh : HeapF leA l.length (fK l)) (hid : ∀ x ∈ l, x.id ≠ d.id) (hs : l.length < 1500) (hS : St W (rowD d :: HL c now m p cap l F) w) :
    CallR Try.prog 28 #[hV c, .iface 61 (.pointer (some ⟨d.b, 0, none⟩))] w fun v w' => v = .tuple #[] ∧ ∃ p' cap' l', HOk l' ∧ HeapF leA l'.length (fK l') ∧ (l'.map coreD).Perm (coreD d :: l.map coreD) ∧ St W (HL c now m p' cap' l' F) w' := by
  refine F28_of (inv_ptr mPush bPush ((PushM_spec (by omega) hS).of fun v w ⟨hv, p1, c1, hS⟩ => ⟨hv, iLen hS ⟨_, rfl, ?_⟩⟩))
  have hl : (l ++ [{ d with pl := (l.length : Int) }]).length = l.length + 1 := by simp
  have ho' : HOk (l ++ [{ d with pl := (l.length : Int) }]) := by
    refine ⟨fun i x hx => ?_, ?_, by omega⟩
    · rcases Nat.lt_or_ge i l.length with h | h
      · rw [List.getElem?_append_left h] at hx; exact ho.pl i x hx
      · rw [List.getElem?_append_right h] at hx
        have : i = l.length := by
          rcases Nat.lt_or_ge (i - l.length) 1 with h' | h'
          · omega
          · rw [List.getElem?_eq_none (by simpa using h')] at hx; cases hx
        subst this
        simp at hx
        rw [← hx]
    · rw [List.map_append]
      refine List.nodup_append.2 ⟨ho.nd, by simp, fun a ha b hb e => ?_⟩
      obtain ⟨x, hx, rfl⟩ := List.mem_map.1 ha
      simp at hb
      exact hid x hx (by rw [e, hb])
  have hu : UpI leA (l.length + 1) (fK (l ++ [{ d with pl := (l.length : Int) }])) l.length := hh.push fun k hk => fK_app hk
  have ej : IntKind.wrap .i64 ((((l ++ [{ d with pl := (l.length : Int) }]).length : Nat) : Int) - 1) = ((l.length : Nat) : Int) := by rw [w64 (by omega) (by omega)]; omega
  dsimp only
  rw [ej]
  refine (up_spec (by omega) (by omega) ho' hu hS).of fun v w ⟨hv, l', ho2, hr, hh2, hS⟩ => ⟨hv, rfl, p1, c1, l', ho2, ?_, ?_, hS⟩
  · rw [hr.len, hl]; exact hh2
  · refine hr.core.trans ?_
    rw [List.map_append]
    exact List.perm_append_comm
/-- What has sunk or risen is a heap again. -/
theorem fix_spec {i n : Nat} {K : World → Prop} (hn : n ≤ l.length) (ho : HOk l) (hh : HoleI leA n (fK l) i) (hi : i < n) (hS : St W (HL c now m p cap l F) w)
    (hK : ∀ l' w', HOk l' → HRel n l l' → HeapF leA n (fK l') → St W (HL c now m p cap l' F) w' → K w') :
    CallR Try.prog 29 #[hV c, .int .i64 i, .int .i64 n] w fun v w' => AsB v fun x => Bif (!x) (CallR Try.prog 30 #[hV c, .int .i64 i] w' fun v12 w13 => v12 = (Value.tuple #[]) ∧ K w13) (K w') := by
  refine (down_spec hn ho hh (by omega) hS).of fun v w1 ⟨b, l1, hv, ho1, hr1, hb1, hb0, hS2⟩ => ⟨b, hv, Bif.i (fun h => ?_) fun h => ?_⟩
  · have h : b = false := by simpa using h
    obtain ⟨rfl, hc⟩ := hb0 h
    refine (up_spec hi hn ho1 (hh.up hc) hS2).of fun v w2 hx => ?_
    obtain ⟨hv, l2, ho2, hr2, hh2, hS⟩ := hx
    exact ⟨hv, hK l2 w2 ho2 hr2 hh2 hS⟩
  · have h : b = true := by simpa using h
    exact hK l1 w1 ho1 hr1 (hb1 h) hS2
theorem Fix_spec {i : Nat} (ho : HOk l) (hh : HoleI leA l.length (fK l) i) (hi : i < l.length) (hS : St W (HL c now m p cap l F) w) :
    CallR Try.prog 27 #[hV c, .int .i64 i] w fun v w' => v = .tuple #[] ∧ ∃ l', HOk l' ∧ HeapF leA l'.length (fK l') ∧ (l'.map coreD).Perm (l.map coreD) ∧ St W (HL c now m p cap l' F) w' := by
  refine F27_of (iLen hS ⟨_, rfl, ?_⟩)
  exact fix_spec (Nat.le_refl _) ho hh hi hS fun l' w' ho' hr' hh' hS => ⟨rfl, l', ho', by rw [hr'.len]; exact hh', hr'.core, hS⟩
/-- The last one goes. -/
theorem iPop {n : Nat} {K : Value → World → Prop} (hl : l.length = n + 1) (hd : l[n]? = some d) (ho : HOk l) (hh : HeapF leA n (fK l)) (hS : St W (HL c now m p cap l F) w)
    (hK : ∀ l' w', HOk l' → HeapF leA l'.length (fK l') → l = l' ++ [d] → St W (rowD d :: HL c now m p cap l' F) w' → K (.iface 61 (.pointer (some ⟨d.b, 0, none⟩))) w') :
    InvK Try.prog "Pop" (hV c) [] w K := by
  obtain ⟨l0, rfl, h0⟩ := snoc_of hl hd
  have hsm := ho.small
  refine inv_ptr mPop bPop ((PopM_spec (by omega) hS).of fun v w' ⟨hv, h⟩ => ?_)
  subst hv
  refine hK l0 w' ho.init ?_ rfl h
  rw [h0]
  exact hh.congr fun k hk => (fK_app (by omega)).symm
theorem Remove_spec {i : Nat} (ho : HOk l) (hh : HeapF leA l.length (fK l)) (hi : l[i]? = some d) (hS : St W (HL c now m p cap l F) w) :
    CallR Try.prog 24 #[hV c, .int .i64 i] w fun v w' => ∃ d' l', coreD d' = coreD d ∧ v = .iface 61 (.pointer (some ⟨d.b, 0, none⟩)) ∧ HOk l' ∧ HeapF leA l'.length (fK l') ∧ (l.map coreD).Perm (coreD d :: l'.map coreD) ∧ St W (rowD d' :: HL c now m p cap l' F) w' := by
  have hlt := (List.getElem?_eq_some_iff.1 hi).1
  have hsm := ho.small
  obtain ⟨n, hn⟩ : ∃ n, l.length = n + 1 := ⟨l.length - 1, by omega⟩
  obtain ⟨y, hy⟩ := get_of (l := l) (i := n) (by omega)
  refine F24_of (iLen hS ⟨_, rfl, ?_⟩)
  have en : IntKind.wrap .i64 (((l.length : Nat) : Int) - 1) = ((n : Nat) : Int) := by rw [w64 (by omega) (by omega)]; omega
  dsimp only
  rw [en]
  refine Bif.i (fun hne => ?_) fun he => ?_
  · have hne : (n : Int) ≠ (i : Int) := by simpa using hne
    have hin : i ≠ n := by omega
    refine iSwap rfl rfl hi hy hS fun w hS => ⟨rfl, ?_⟩
    have ho1 := ho.sw hi hy hin
    have hl1 : (swL l i n d y).length = n + 1 := by rw [swL_len, hn]
    have hr1 := swL_rel (N := n + 1) hi hy hin (by omega) (by omega)
    have hd1 : (swL l i n d y)[n]? = some { d with pl := n } := by rw [swL_get hi hy hin, if_neg (Ne.symm hin), if_pos rfl]
    have hfk := swL_fK hi hy hin
    have hole : HoleI leA n (fK (swL l i n d y)) i := by
      refine HoleI.congr (f := fun k => if k = i then fK l n else fK l k) ((hh.less (m := n) (by omega)).hole leA_ord (by omega) fun k hk => by rw [if_neg hk]) fun k hk => ?_
      rw [hfk]
      unfold sw
      by_cases e : k = i
      · rw [if_pos e, if_pos e]
      · rw [if_neg e, if_neg e, if_neg (by omega)]
    refine fix_spec (K := fun w => InvK Try.prog "Pop" (hV c) [] w _) (by omega) ho1 hole (by omega) hS fun l2 w' ho2 hr2 hh2 hS => ?_
    refine iPop (d := { d with pl := (n : Int) }) (by rw [hr2.len, hl1]) (by rw [hr2.tail n (Nat.le_refl _), hd1]) ho2 hh2 hS fun l3 w3 ho3 hh3 e3 hS => ⟨{ d with pl := (n : Int) }, l3, rfl, rfl, ho3, hh3, ?_, hS⟩
    have h1 := (hr2.core.trans hr1.core).symm
    rw [e3, List.map_append] at h1
    exact h1.trans List.perm_append_comm
  · have he : (n : Int) = (i : Int) := by
      have : ¬ (n : Int) ≠ (i : Int) := by simpa using he
      omega
    have hin : i = n := by omega
    subst hin
    rw [hi] at hy; cases hy
    refine iPop hn hi ho (hh.less (by omega)) hS fun l3 w3 ho3 hh3 e3 hS => ⟨d, l3, rfl, rfl, ho3, hh3, ?_, hS⟩
    rw [e3, List.map_append]
    exact List.perm_append_comm
theorem Pop_spec (ho : HOk l) (hh : HeapF leA l.length (fK l)) (hi : l[0]? = some d) (hS : St W (HL c now m p cap l F) w) :
    CallR Try.prog 26 #[hV c] w fun v w' => ∃ d' l', coreD d' = coreD d ∧ v = .iface 61 (.pointer (some ⟨d.b, 0, none⟩)) ∧ HOk l' ∧ HeapF leA l'.length (fK l') ∧ (l.map coreD).Perm (coreD d :: l'.map coreD) ∧ St W (rowD d' :: HL c now m p cap l' F) w' := by
  have hlt := (List.getElem?_eq_some_iff.1 hi).1
  have hsm := ho.small
  obtain ⟨n, hn⟩ : ∃ n, l.length = n + 1 := ⟨l.length - 1, by omega⟩
  obtain ⟨y, hy⟩ := get_of (l := l) (i := n) (by omega)
  refine F26_of (iLen hS ⟨_, rfl, ?_⟩)
  have en : IntKind.wrap .i64 (((l.length : Nat) : Int) - 1) = ((n : Nat) : Int) := by rw [w64 (by omega) (by omega)]; omega
  dsimp only
  rw [en]
  refine iSwap (i := 0) rfl rfl hi hy hS fun w hS => ⟨rfl, ?_⟩
  rcases Nat.eq_zero_or_pos n with rfl | h0
  · rw [hi] at hy; cases hy
    have e1 : swL l 0 0 d d = [{ d with pl := 0 }] := by
      match l, hn, hi with
      | [x], _, hi => simp at hi; subst hi; rfl
    have e0 : l = [d] := by
      match l, hn, hi with
      | [x], _, hi => simp at hi; subst hi; rfl
    rw [e1] at hS
    have ho1 : HOk [{ d with pl := 0 }] := ⟨fun i x hx => by
      match i, hx with
      | 0, hx => simp at hx; subst hx; rfl, by simp, by simp⟩
    refine (down_spec (n := 0) (i0 := 0) (l := [{ d with pl := 0 }]) (by simp) ho1 ⟨fun k _ h => absurd h (by omega), fun k _ h => absurd h (by omega)⟩ (Nat.le_refl _) hS).of fun v w ⟨b, l1, hv, ho2, hr2, hb1, hb0, hS⟩ => ⟨b, hv, ?_⟩
    have hl2 := hr2.len
    refine iPop (n := 0) (d := { d with pl := 0 }) hl2 (by rw [hr2.tail 0 (Nat.le_refl _)]; rfl) ho2 (fun k _ h => absurd h (by omega)) hS fun l3 w3 ho3 hh3 e3 hS => ⟨{ d with pl := 0 }, l3, rfl, rfl, ho3, hh3, ?_, hS⟩
    have hc := hr2.core.symm
    rw [e3, List.map_append] at hc
    rw [e0]
    exact hc.trans List.perm_append_comm
  · have hin : 0 ≠ n := by omega
    have ho1 := ho.sw hi hy hin
    have hl1 : (swL l 0 n d y).length = n + 1 := by rw [swL_len, hn]
    have hr1 := swL_rel (N := n + 1) hi hy hin (by omega) (by omega)
    have hd1 : (swL l 0 n d y)[n]? = some { d with pl := n } := by rw [swL_get hi hy hin, if_neg (Ne.symm hin), if_pos rfl]
    have hfk := swL_fK hi hy hin
    have hole : HoleI leA n (fK (swL l 0 n d y)) 0 := by
      refine HoleI.congr (f := fun k => if k = 0 then fK l n else fK l k) ((hh.less (m := n) (by omega)).hole leA_ord (by omega) fun k hk => by rw [if_neg hk]) fun k hk => ?_
      rw [hfk]
      unfold sw
      by_cases e : k = 0
      · rw [if_pos e, if_pos e]
      · rw [if_neg e, if_neg e, if_neg (by omega)]
    refine (down_spec (n := n) (i0 := 0) (by omega) ho1 hole (by omega) hS).of fun v w ⟨b, l2, hv, ho2, hr2, hb1, hb0, hS⟩ => ⟨b, hv, ?_⟩
    have hh2 : HeapF leA n (fK l2) := by
      cases b with
      | true => exact hb1 rfl
      | false =>
        obtain ⟨rfl, hc⟩ := hb0 rfl
        exact (hole.up hc).done0
    refine iPop (d := { d with pl := (n : Int) }) (by rw [hr2.len, hl1]) (by rw [hr2.tail n (Nat.le_refl _), hd1]) ho2 hh2 hS fun l3 w3 ho3 hh3 e3 hS => ⟨{ d with pl := (n : Int) }, l3, rfl, rfl, ho3, hh3, ?_, hS⟩
    have h1 := (hr2.core.trans hr1.core).symm
    rw [e3, List.map_append] at h1
    exact h1.trans List.perm_append_comm
end
end Go.Proofs.Ytgmpnonjhpopdaa
