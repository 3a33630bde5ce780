/-
  Contracts of sums: rounds.
-/
import Derived.Test.YtbfccpbijimjmaaDigC
set_option linter.unusedVariables false
set_option linter.unusedSimpArgs false
namespace Go.Proofs.Ytbfccpbijimjmaa
open Go
theorem uL32 : Try.prog.underlying 61 = some (.slice 45) := Try.underlying61
theorem mix_set {α : Type} (A B : List α) (i : Nat) (hA : i < A.length) (hB : i < B.length) : (A.take i ++ B.drop i).set i A[i] = A.take (i + 1) ++ B.drop (i + 1) := by
  rw [List.set_append_right _ _ (by rw [List.length_take]; omega), List.length_take, Nat.min_eq_left (by omega), Nat.sub_self, List.drop_eq_getElem_cons hB, List.set_cons_zero, List.take_succ_eq_append_getElem hA, List.append_assoc]; rfl
theorem mix_get {α : Type} (A B : List α) (i : Nat) (hA : i ≤ A.length) : (A.take i ++ B.drop i)[i]? = B[i]? := by
  rw [List.getElem?_append_right (by rw [List.length_take]; omega), List.length_take, Nat.min_eq_left hA, Nat.sub_self, List.getElem?_drop, Nat.add_zero]
theorem mix_len {α : Type} (A B : List α) (i : Nat) (h : A.length = B.length) : (A.take i ++ B.drop i).length = B.length := by simp; omega
theorem mix_0 {α : Type} (A B : List α) : A.take 0 ++ B.drop 0 = B := by simp
theorem mix_all {α : Type} (A B : List α) (i : Nat) (hA : A.length ≤ i) (hB : B.length ≤ i) : A.take i ++ B.drop i = A := by rw [List.take_of_length_le hA, List.drop_eq_nil_of_le hB, List.append_nil]
def rndK (s : S8) (K ws : List B32) (i : Nat) : S8 := rnds s ((K.zip ws).take i)
theorem rndK_next (s : S8) (K ws : List B32) (i : Nat) {k x : B32} (hk : K[i]? = some k) (hx : ws[i]? = some x) : rndK s K ws (i + 1) = rnd (rndK s K ws i) k x := by
  unfold rndK
  rw [List.take_add_one, rnds_app]
  have : (K.zip ws)[i]? = some (k, x) := by rw [List.getElem?_zip_eq_some]; exact ⟨hk, hx⟩
  rw [this]; rfl
theorem addS_get (h s : S8) (i : Nat) (hi : i < 8) : ∃ a b c, h.l[i]? = some a ∧ s.l[i]? = some b ∧ (addS h s).l[i]? = some c ∧ c = b + a := by
  have : ∀ i, i < 8 → ((addS h s).l[i]? = (h.l[i]?.bind fun a => s.l[i]?.map fun b => b + a)) ∧ (h.l[i]?).isSome ∧ (s.l[i]?).isSome := by
    intro i hi
    rcases i with _ | _ | _ | _ | _ | _ | _ | _ | i
    all_goals first | omega | exact ⟨by simp [S8.l, addS, BitVec.add_comm], rfl, rfl⟩
  obtain ⟨h1, h2, h3⟩ := this i hi
  obtain ⟨a, ha⟩ := Option.isSome_iff_exists.1 h2
  obtain ⟨b, hb⟩ := Option.isSome_iff_exists.1 h3
  rw [ha, hb] at h1
  exact ⟨a, b, _, ha, hb, h1, rfl⟩
theorem behind_spec {W w : World} {F : List Asn} (hs : S8) (ws : List B32) (hw : ws.length = 64) (hS : St W F w) :
    CallR Try.prog 31 #[.agg (arrU hs.l), .agg (arrU ws)] w fun v w' => v = .agg (arrU (addS hs (rnds hs (K64.zip ws))).l) ∧ St W F w' := by
  have hK : K64.length = 64 := rfl
  refine F31_of (NewC.i hS fun b4 w5 hS => NewC.i hS fun b6 w7 hS => NewC.i hS fun b8 w9 hS => ?_)
  have hS : St W (Row b8 53 ((List.replicate 8 (0 : B32)).map uV) :: Row b6 49 (ws.map uV) :: Row b4 53 (hs.l.map uV) :: F) w9 := hS
  have hC := Is.refl W (Row b8 53 ((List.replicate 8 (0 : B32)).map uV) :: Row b6 49 (ws.map uV) :: Row b4 53 (hs.l.map uV) :: F)
  refine ⟨StC W _, StC.start hS, arrU hs.l, rfl, QtA.r 2 hC rfl rfl, ?_⟩
  refine Ef.n0 (α := Unit) (V := fun _ => .agg (arrU K64)) (B := fun _ => Row b8 53 ((List.replicate 8 (0 : B32)).map uV) :: Row b6 49 (ws.map uV) :: Row b4 53 (hs.l.map uV) :: F) () hC (fun G w h => (roots_spec h).of fun v w' ⟨hv, h⟩ => ⟨arrU K64, rfl, hv, (), rfl, h⟩) fun _ => ⟨arrU K64, rfl, rfl, QtA.r 2 hC rfl rfl, fun b27 b28 => ?_⟩
  generalize K64 = K at hK ⊢
  refine Ef.stP 1 ((hC.push b27 _).push b28 _) rfl rfl rfl (uV_notAgg hs.l) ⟨rfl, trivial, ?_⟩
  refine Ef.stP 0 (Is.refl W _) rfl (by simp [arrU, hK]) (by rw [arrU_size, hK]; rfl) (fun v hv => uV_notAgg K v (by simpa [arrU] using hv)) ⟨rfl, trivial, fun G w h => ?_⟩
  have hS := StC.ends h
  have hS : St W (Row b28 49 (K.map uV) :: Row b27 53 ((rndK hs K ws 0).l.map uV) :: Row b8 53 ((List.replicate 8 (0 : B32)).map uV) :: Row b6 49 (ws.map uV) :: Row b4 53 (hs.l.map uV) :: F) w := hS
  clear h hC
  refine ⟨fun vs w => ∃ i : Nat, vs = [.int .i64 i] ∧ i ≤ 64 ∧ St W (Row b28 49 (K.map uV) :: Row b27 53 ((rndK hs K ws i).l.map uV) :: Row b8 53 ((List.replicate 8 (0 : B32)).map uV) :: Row b6 49 (ws.map uV) :: Row b4 53 (hs.l.map uV) :: F) w, leftN 64, ⟨0, rfl, by omega, hS⟩, fun x w hI => ?_⟩
  obtain ⟨i, he, hi, hS⟩ := hI
  cases he
  refine Bif.i (fun hlt => ?_) fun hge => ?_
  · have hlt : i < 64 := by have := of_decide_eq_true hlt; omega
    have hk : K[i]? = some (K[i]'(by omega)) := List.getElem?_eq_getElem _
    have hx : ws[i]? = some (ws[i]'(by omega)) := List.getElem?_eq_getElem _
    have hn := rndK_next hs K ws i hk hx
    generalize rndK hs K ws i = s at hS hn
    generalize K[i]'(by omega) = k at hk hn
    generalize ws[i]'(by omega) = x at hx hn
    have hk := uV_get hk
    have hx := uV_get hx
    generalize hRl : (Row b28 49 (K.map uV) :: Row b27 53 (s.l.map uV) :: Row b8 53 ((List.replicate 8 (0 : B32)).map uV) :: Row b6 49 (ws.map uV) :: Row b4 53 (hs.l.map uV) :: F) = L at hS
    have hC := Is.refl W L
    have n0 : nth L 0 = some (Row b28 49 (K.map uV)) := by rw [← hRl]; rfl
    have n1 : nth L 1 = some (Row b27 53 (s.l.map uV)) := by rw [← hRl]; rfl
    have n3 : nth L 3 = some (Row b6 49 (ws.map uV)) := by rw [← hRl]; rfl
    refine ⟨StC W L, StC.start hS, IxP.row (k := 0) rfl (by decide) (IxP.row (k := 1) rfl (by decide) (IxP.row (k := 2) rfl (by decide) (IxP.row (k := 4) rfl (by decide) ?_)))⟩
    refine ⟨nI s.a, QtI.n 1 hC n1 rfl, nI s.b, QtI.n 1 hC n1 rfl, nI s.c, QtI.n 1 hC n1 rfl, nI s.e, QtI.n 1 hC n1 rfl, fun G w h => ?_⟩
    have hS := StC.ends h
    refine ⟨StC W L, StC.start hS, IxP.row (k := 7) rfl (by decide) (IxP.row (k := 6) rfl (by decide) (IxP.row (k := 5) rfl (by decide) (IxP.row (k := 6) rfl (by decide) (IxP.row (k := i) rfl hlt (IxP.row (k := i) rfl hlt ?_)))))⟩
    refine ⟨nI s.h, QtI.n 1 hC n1 rfl, nI s.g, QtI.n 1 hC n1 rfl, nI s.f, QtI.n 1 hC n1 rfl, nI s.g, QtI.n 1 hC n1 rfl, nI k, QtI.n 0 hC n0 hk, nI x, QtI.n 3 hC n3 hx, ?_⟩
    refine Ef.n0 (α := Unit) (V := fun _ => uV (Sig1 s.e)) (B := fun _ => L) () hC (fun G w h => (mixed_spec s.e 6 11 25 false (by decide) (by decide) (by decide) h).of fun v w' ⟨hv, h⟩ => ⟨_, hv, (), rfl, h⟩) fun _ => ⟨nI (Sig1 s.e), rfl, ⟨QtI.n 3 hC n3 hx, QtI.n 0 hC n0 hk, QtI.n 1 hC n1 rfl, QtI.n 1 hC n1 rfl, QtI.n 1 hC n1 rfl, QtI.n 1 hC n1 rfl⟩, fun G w h => ?_⟩
    have hS := StC.ends h
    refine (mixed_spec s.a 2 13 22 false (by decide) (by decide) (by decide) hS).of fun v w ⟨hv, hS⟩ => ⟨nI (Sig0 s.a), hv, ?_⟩
    refine ⟨StC W L, StC.start hS, ⟨⟨by decide, by decide, by decide⟩, ⟨⟨by decide, by decide, by decide⟩, ?_⟩⟩⟩
    refine Ef.n (α := Unit) (V := fun _ => .int .i64 ((min 7 7 : Nat) : Int)) (B := fun _ => [Row b27 53 ([s.a, s.a, s.b, s.c, s.d, s.e, s.f, s.g].map uV)]) () 1 hC n1 (fun G w h => ?_) fun _ => ⟨_, rfl, trivial, fun G w h => ?_⟩
    · refine copy_i (q := b27) (o := 1) (cs := [s.a, s.b, s.c, s.d, s.e, s.f, s.g].map uV) uL32 iU32 sU32 h (Nat.le_of_ble_eq_true rfl) (fun j v hj => ⟨⟨b27, 0, none⟩, rfl, ?_⟩) rfl (uV_notAgg _) fun w' h' => ⟨_, rfl, (), rfl, Is.back 1 n1 (B := [_]) h'⟩
      rw [add_at, Nat.zero_add]
      refine h.ld ?_
      have hj7 : j < 7 := by
        rcases Nat.lt_or_ge j 7 with h | h
        · exact h
        · rw [List.getElem?_eq_none (by simpa using h)] at hj; cases hj
      have e : (List.map uV s.l) = [s.a, s.b, s.c, s.d, s.e, s.f, s.g].map uV ++ [uV s.h] := rfl
      rw [e, List.getElem?_append_left (by simpa using hj7)]; exact hj
    have hS := StC.ends h
    rw [← hRl] at hS
    have hS : St W (Row b28 49 (K.map uV) :: Row b27 53 ([s.a, s.a, s.b, s.c, s.d, s.e, s.f, s.g].map uV) :: Row b8 53 ((List.replicate 8 (0 : B32)).map uV) :: Row b6 49 (ws.map uV) :: Row b4 53 (hs.l.map uV) :: F) w := hS
    refine IxP.row (k := 4) rfl (by decide) (LdI.n (x := nI s.d) 1 hS rfl rfl (IxP.row (k := 0) rfl (by decide) (St1.n 1 hS rfl (by simp) fun w hS => IxP.row (k := 4) rfl (by decide) (St1.n 1 hS rfl (by simp) fun w hS => ?_))))
    simp only [u32_add, u32_xor, u32_and, u32_or, ch_eq, maj_eq] at hS
    have hS : St W (Row b28 49 (K.map uV) :: Row b27 53 ((rndK hs K ws (i + 1)).l.map uV) :: Row b8 53 ((List.replicate 8 (0 : B32)).map uV) :: Row b6 49 (ws.map uV) :: Row b4 53 (hs.l.map uV) :: F) w := by
      rw [hn]; exact hS
    rw [up hlt (by omega)]
    exact ⟨⟨i + 1, rfl, by omega, hS⟩, by show 64 - (i + 1) < 64 - i; omega⟩
  · have hi2 : i = 64 := by have := of_decide_eq_false hge; omega
    subst hi2
    have e : rndK hs K ws 64 = rnds hs (K.zip ws) := by unfold rndK; rw [List.take_of_length_le (by simp [hK, hw])]
    rw [e] at hS
    generalize rnds hs (K.zip ws) = s at hS ⊢
    have hS : St W (Row b28 49 (K.map uV) :: Row b27 53 (((addS hs s).l.take 0 ++ s.l.drop 0).map uV) :: Row b8 53 ((List.replicate 8 (0 : B32)).map uV) :: Row b6 49 (ws.map uV) :: Row b4 53 (hs.l.map uV) :: F) w := hS
    refine ⟨fun vs w => ∃ i : Nat, vs = [.int .i64 i] ∧ i ≤ 8 ∧ St W (Row b28 49 (K.map uV) :: Row b27 53 (((addS hs s).l.take i ++ s.l.drop i).map uV) :: Row b8 53 ((List.replicate 8 (0 : B32)).map uV) :: Row b6 49 (ws.map uV) :: Row b4 53 (hs.l.map uV) :: F) w, leftN 8, ⟨0, rfl, by omega, hS⟩, fun x w hI => ?_⟩
    obtain ⟨i, he, hi, hS⟩ := hI
    cases he
    refine Bif.i (fun hlt => ?_) fun hge => ?_
    · have hlt : i < 8 := by have := of_decide_eq_true hlt; omega
      obtain ⟨a, b, c, h1, h2, h3, h4⟩ := addS_get hs s i hlt
      have l1 : (addS hs s).l.length = 8 := rfl
      have l2 : s.l.length = 8 := rfl
      have g2 : (((addS hs s).l.take i ++ s.l.drop i).map uV)[i]? = some (.int .u32 (nI b)) := uV_get (by rw [mix_get _ _ _ (by omega), h2])
      have g1 := uV_get h1
      have em : ((addS hs s).l.take i ++ s.l.drop i).set i c = (addS hs s).l.take (i + 1) ++ s.l.drop (i + 1) := by
        rw [← mix_set _ _ i (by omega) (by omega)]
        congr 1
        rw [List.getElem?_eq_getElem (by omega)] at h3
        exact (Option.some.inj h3).symm
      have ll := mix_len (addS hs s).l s.l i rfl
      generalize (addS hs s).l.take i ++ s.l.drop i = A at hS g2 em ll
      generalize hA2 : (addS hs s).l.take (i + 1) ++ s.l.drop (i + 1) = A2 at em
      have hC := Is.refl W (Row b28 49 (K.map uV) :: Row b27 53 (A.map uV) :: Row b8 53 ((List.replicate 8 (0 : B32)).map uV) :: Row b6 49 (ws.map uV) :: Row b4 53 (hs.l.map uV) :: F)
      refine ⟨StC W _, StC.start hS, IxP.row (k := i) rfl hlt (IxP.row (k := i) rfl hlt ⟨nI b, QtI.n 1 hC rfl g2, nI a, QtI.n 4 hC rfl g1, IxP.row (k := i) rfl hlt ?_⟩)⟩
      refine Ef.st 1 hC rfl (by rw [List.length_map, ll]; exact hlt) ⟨rfl, trivial, fun G w h => ?_⟩
      have hS := StC.ends h
      rw [u32_add, ← h4] at hS
      have hS : St W (Row b28 49 (K.map uV) :: Row b27 53 (A2.map uV) :: Row b8 53 ((List.replicate 8 (0 : B32)).map uV) :: Row b6 49 (ws.map uV) :: Row b4 53 (hs.l.map uV) :: F) w := by
        rw [← em, ← uV_set]; exact hS
      subst hA2
      rw [up hlt (by omega)]
      exact ⟨⟨i + 1, rfl, by omega, hS⟩, by show 8 - (i + 1) < 8 - i; omega⟩
    · have hi2 : i = 8 := by have := of_decide_eq_false hge; omega
      subst hi2
      rw [mix_all (addS hs s).l s.l 8 (Nat.le_refl 8) (Nat.le_refl 8)] at hS
      have hl : (addS hs s).l.length = 8 := rfl
      generalize (addS hs s).l = A at hS hl ⊢
      refine LdA.r 1 hS rfl (by rw [List.length_map, hl]) ⟨by simp [hl], StA.r 2 hS rfl (by simp [hl]) (fun v hv => uV_notAgg A v (by simpa using hv)) fun w4 hS => LdA.r 2 hS rfl (by simp [hl]) ⟨rfl, ?_⟩⟩
      exact St.dropL [_, _, _, _, _] hS
end Go.Proofs.Ytbfccpbijimjmaa
