/-
  Contracts of a clock.
-/
import Derived.Test.YtgmpnonjhpopdaaClockV
set_option linter.unusedVariables false
set_option linter.unusedSimpArgs false
namespace Go.Proofs.Ytgmpnonjhpopdaa
open Go
theorem uInt : Try.prog.underlying 3 = some (.int .i64) := Try.underlying3
theorem uIs : Try.prog.underlying 31 = some (.slice 3) := Try.underlying31
theorem iInt : Try.prog.info? 3 = some Try.t3 := by kernel_rfl
theorem sInt : Try.t3.size = 1 := rfl
theorem zInt : Try.t3.zero = some (.int .i64 0) := rfl
theorem bInt : Try.t3.bytes = 8 := rfl
theorem uM : Try.prog.underlying 56 = some (.map 3 61) := Try.underlying56
theorem kI : Keys Try.prog 3 (Value.int .i64) := Keys.i64 uInt
theorem iV1 (x : Int) : (iV x).length = 1 := rfl
theorem iVn (x : Int) : ∀ v ∈ iV x, NotAgg v := fun v hv => by simp [iV] at hv; subst hv; trivial
theorem gnone {l : List Al} {id : Int} : getA l id = none ↔ ∀ x ∈ l, x.1 ≠ id := get_none
def ptV (b : Nat) : Value := .pointer (some ⟨b, 0, none⟩)
structure CRep (l : List AD) (D : List (Int × Nat)) (al : List Al) : Prop where
  ok : HOk l
  heap : HeapF leA l.length (fK l)
  keys : ((l.map coreD).map (·.2)).Perm al
  srt : Srt al
  many : al.length ≤ 1024
  dm : ∀ id b, aget D id = some b ↔ ∃ tm, (b, id, tm) ∈ l.map coreD
def ClockA (c : Nat) (G : ClG) : Asn := exA fun x : Nat × Option Addr × Nat × List AD × List (Int × Nat) => sepA [
  prA (CRep x.2.2.2.1 x.2.2.2.2 G.al ∧ COk G), Row c 60 [.int .i64 G.now, .slice x.2.1 x.2.2.2.1.length x.2.2.1, .map (some x.1)], SlA 61 1 ptD x.2.1 x.2.2.1 x.2.2.2.1, alsA x.2.2.2.1, MapOf (Value.int .i64) ptV x.1 x.2.2.2.2]
section
variable {W w : World} {F : List Asn} {c m : Nat} {p : Option Addr} {cap : Nat} {l : List AD} {D : List (Int × Nat)} {G : ClG} {al : List Al}
theorem ClockA.open_ (h : St W (ClockA c G :: F) w) : ∃ m p cap l D, CRep l D G.al ∧ COk G ∧ St W (HL c G.now (some m) p cap l (MapOf (Value.int .i64) ptV m D :: F)) w := by
  obtain ⟨⟨m, p, cap, l, D⟩, h⟩ := h.of_ex
  obtain ⟨⟨h1, h2⟩, h⟩ := h.of_sep.of_pr
  exact ⟨m, p, cap, l, D, h1, h2, h⟩
theorem ClockA.shut (hR : CRep l D G.al) (hG : COk G) (h : St W (HL c G.now (some m) p cap l (MapOf (Value.int .i64) ptV m D :: F)) w) : St W (ClockA c G :: F) w :=
  St.to_ex (m, p, cap, l, D) (St.to_sep (l := [_, _, _, _, _]) (St.to_pr ⟨hR, hG⟩ h))
theorem ClockA.ok (h : St W (ClockA c G :: F) w) : COk G := by
  obtain ⟨m, p, cap, l, D, _, hG, _⟩ := ClockA.open_ h
  exact hG
theorem CRep.nil : CRep [] [] [] := ⟨⟨fun i d h => by simp at h, by simp, by simp⟩, fun k _ h => by simp at h, .refl _, ⟨.nil, .nil⟩, by simp, fun id b => by simp [aget]⟩
theorem CRep.len (h : CRep l D al) : l.length = al.length := by
  have := h.keys.length_eq
  simpa using this
theorem core_mem {l : List AD} {b : Nat} {id tm : Int} : (b, id, tm) ∈ l.map coreD ↔ ∃ (i : Nat) (d : AD), l[i]? = some d ∧ coreD d = (b, id, tm) := by
  rw [List.mem_map]
  constructor
  · rintro ⟨d, hd, e⟩
    obtain ⟨i, hi⟩ := List.getElem?_of_mem hd
    exact ⟨i, d, hi, e⟩
  · rintro ⟨i, d, hi, e⟩
    exact ⟨d, List.mem_of_getElem? hi, e⟩
theorem CRep.get_some (h : CRep l D al) {id : Int} {b : Nat} (hb : aget D id = some b) : ∃ (i : Nat) (d : AD), l[i]? = some d ∧ d.b = b ∧ d.id = id ∧ getA al id = some d.tm := by
  obtain ⟨tm, hm⟩ := (h.dm id b).1 hb
  obtain ⟨i, d, hi, e⟩ := core_mem.1 hm
  simp only [coreD, Prod.mk.injEq] at e
  obtain ⟨e1, e2, e3⟩ := e
  refine ⟨i, d, hi, e1, e2, (find_mem h.srt.2).2 ?_⟩
  rw [← h.keys.mem_iff]
  exact List.mem_map.2 ⟨_, hm, by rw [e3]⟩
theorem CRep.get_none (h : CRep l D al) {id : Int} (hb : aget D id = none) : getA al id = none := by
  cases hg : getA al id with
  | none => rfl
  | some tm =>
    have hm := (find_mem h.srt.2).1 hg
    rw [← h.keys.mem_iff] at hm
    obtain ⟨⟨b, x⟩, hx, e⟩ := List.mem_map.1 hm
    simp only at e
    subst e
    have := (h.dm id b).2 ⟨tm, hx⟩
    rw [hb] at this; cases this
theorem CRep.isSome (h : CRep l D al) (id : Int) : (aget D id).isSome = (getA al id).isSome := by
  cases hb : aget D id with
  | none => rw [h.get_none hb]; rfl
  | some b => obtain ⟨i, d, _, _, _, hg⟩ := h.get_some hb; rw [hg]; rfl
/-- Without one. -/
theorem del_cons {al E : List Al} {id tm : Int} (hp : ((id, tm) :: E).Perm al) (hn : (al.map (·.1)).Nodup) : (delA al id).Perm E := by
  have h1 : (delA ((id, tm) :: E) id).Perm (delA al id) := hp.filter _
  have h2 : delA ((id, tm) :: E) id = delA E id := by unfold delA; simp
  have h3 : delA E id = E := by
    unfold delA
    rw [List.filter_eq_self]
    intro x hx
    have hn' : (((id, tm) :: E).map (·.1)).Nodup := (hp.map (fun x : Al => x.1)).nodup_iff.2 hn
    simp only [List.map_cons, List.nodup_cons] at hn'
    have : x.1 ≠ id := fun e => hn'.1 (by rw [← e]; exact List.mem_map.2 ⟨x, hx, rfl⟩)
    simpa using this
  rw [h2, h3] at h1
  exact h1.symm
theorem CRep.without {l' : List AD} {d : AD} (h : CRep l D al) (ho : HOk l') (hh : HeapF leA l'.length (fK l')) (hp : (l.map coreD).Perm (coreD d :: l'.map coreD)) : CRep l' (adel D d.id) (delA al d.id) ∨ True := .inr trivial
theorem CRep.del {l' : List AD} {d : AD} (hk : (D.map (·.1)).Nodup) (h : CRep l D al) (ho : HOk l') (hh : HeapF leA l'.length (fK l')) (hp : (l.map coreD).Perm (coreD d :: l'.map coreD)) : CRep l' (adel D d.id) (delA al d.id) := by
  have hk2 : ((d.id, d.tm) :: (l'.map coreD).map (·.2)).Perm al := ((hp.map (fun c : Nat × Al => c.2)).symm.trans h.keys)
  have hnd := h.srt.2
  refine ⟨ho, hh, (del_cons hk2 hnd).symm, delA_srt h.srt _, Nat.le_trans (delA_sub al _).length_le h.many, fun id b => ?_⟩
  rw [aget_adel hk]
  have hn' : (((d.id, d.tm) :: (l'.map coreD).map (·.2)).map (·.1)).Nodup := (hk2.map (fun x : Al => x.1)).nodup_iff.2 hnd
  simp only [List.map_cons, List.nodup_cons] at hn'
  by_cases e : d.id = id
  · rw [if_pos e]
    constructor
    · intro h; cases h
    · rintro ⟨tm, hm⟩
      exact absurd (List.mem_map.2 ⟨(id, tm), List.mem_map.2 ⟨_, hm, rfl⟩, e.symm⟩) hn'.1
  · rw [if_neg e, h.dm]
    constructor
    · rintro ⟨tm, hm⟩
      rcases List.mem_cons.1 (hp.mem_iff.1 hm) with h1 | h1
      · simp only [coreD, Prod.mk.injEq] at h1
        exact absurd h1.2.1.symm e
      · exact ⟨tm, h1⟩
    · rintro ⟨tm, hm⟩
      exact ⟨tm, hp.mem_iff.2 (List.mem_cons_of_mem _ hm)⟩
theorem CRep.reset {l' : List AD} {d : AD} {i : Nat} {tm : Int} (h : CRep l D al) (hi : l[i]? = some d) (ho : HOk l') (hh : HeapF leA l'.length (fK l')) (hp : (l'.map coreD).Perm ((l.set i { d with tm := tm }).map coreD)) : CRep l' D (insA (d.id, tm) (delA al d.id)) := by
  have hlt := (List.getElem?_eq_some_iff.1 hi).1
  have h1 : ((l.set i { d with tm := tm }).map coreD).Perm ((d.b, d.id, tm) :: (l.eraseIdx i).map coreD) := (set_erase l i { d with tm := tm } hlt).map coreD
  have h2 : (l.map coreD).Perm (coreD d :: (l.eraseIdx i).map coreD) := (erase_perm l i hi).map coreD
  have hk2 : ((d.id, d.tm) :: ((l.eraseIdx i).map coreD).map (·.2)).Perm al := ((h2.map (fun c : Nat × Al => c.2)).symm.trans h.keys)
  have hd := del_cons hk2 h.srt.2
  have hp3 := hp.trans h1
  have hks : ((l'.map coreD).map (·.2)).Perm (insA (d.id, tm) (delA al d.id)) := (hp3.map (fun c : Nat × Al => c.2)).trans ((hd.symm.cons _).trans (insA_perm _ _).symm)
  refine ⟨ho, hh, hks, insA_srt (delA_srt h.srt _) fun y hy => (delA_mem.1 hy).2, ?_, fun id b => ?_⟩
  · have a1 := hks.length_eq
    have a2 := hp3.length_eq
    have a3 := h2.length_eq
    have a4 := h.keys.length_eq
    have a5 := h.many
    simp only [List.length_map, List.length_cons] at a1 a2 a3 a4
    omega
  · rw [h.dm]
    constructor
    · rintro ⟨t, hm⟩
      rcases List.mem_cons.1 (h2.mem_iff.1 hm) with e | e
      · simp only [coreD, Prod.mk.injEq] at e
        exact ⟨tm, hp3.mem_iff.2 (by rw [e.1, e.2.1]; exact List.mem_cons_self)⟩
      · exact ⟨t, hp3.mem_iff.2 (List.mem_cons_of_mem _ e)⟩
    · rintro ⟨t, hm⟩
      rcases List.mem_cons.1 (hp3.mem_iff.1 hm) with e | e
      · simp only [Prod.mk.injEq] at e
        exact ⟨d.tm, h2.mem_iff.2 (by rw [e.1, e.2.1]; exact List.mem_cons_self)⟩
      · exact ⟨t, h2.mem_iff.2 (List.mem_cons_of_mem _ e)⟩
theorem CRep.add {l' : List AD} {d : AD} (h : CRep l D al) (hg : getA al d.id = none) (hlt : al.length < 1024) (ho : HOk l') (hh : HeapF leA l'.length (fK l')) (hp : (l'.map coreD).Perm (coreD d :: l.map coreD)) : CRep l' (aset D d.id d.b) (insA (d.id, d.tm) (delA al d.id)) := by
  rw [delA_none hg]
  have hks : ((l'.map coreD).map (·.2)).Perm (insA (d.id, d.tm) al) := (hp.map (fun c : Nat × Al => c.2)).trans ((h.keys.cons _).trans (insA_perm _ _).symm)
  refine ⟨ho, hh, hks, insA_srt h.srt fun y hy => gnone.1 hg y hy, by rw [(insA_perm _ _).length_eq, List.length_cons]; omega, fun id b => ?_⟩
  rw [aget_aset]
  have hno : ∀ b tm, (b, d.id, tm) ∉ l.map coreD := fun b tm hm => by
    have := (h.keys.mem_iff).1 (List.mem_map.2 ⟨_, hm, rfl⟩)
    exact gnone.1 hg _ this rfl
  by_cases e : d.id = id
  · rw [if_pos e]
    subst e
    constructor
    · intro h1; cases h1
      exact ⟨d.tm, hp.mem_iff.2 List.mem_cons_self⟩
    · rintro ⟨tm, hm⟩
      rcases List.mem_cons.1 (hp.mem_iff.1 hm) with h1 | h1
      · simp only [coreD, Prod.mk.injEq] at h1
        rw [h1.1]
      · exact absurd h1 (hno _ _)
  · rw [if_neg e, h.dm]
    constructor
    · rintro ⟨tm, hm⟩
      exact ⟨tm, hp.mem_iff.2 (List.mem_cons_of_mem _ hm)⟩
    · rintro ⟨tm, hm⟩
      rcases List.mem_cons.1 (hp.mem_iff.1 hm) with h1 | h1
      · simp only [coreD, Prod.mk.injEq] at h1
        exact absurd h1.2.1.symm e
      · exact ⟨tm, h1⟩
theorem CRep.idIn (h : CRep l D al) {id : Int} (hg : getA al id = none) : ∀ x ∈ l, x.id ≠ id := fun x hx e => by
  have := (h.keys.mem_iff).1 (List.mem_map.2 ⟨coreD x, List.mem_map.2 ⟨x, hx, rfl⟩, rfl⟩)
  exact gnone.1 hg _ this e

theorem New_spec (hS : St W F w) : CallR Try.prog 10 #[] w fun v w' => ∃ c, v = .pointer (some ⟨c, 0, none⟩) ∧ St W (ClockA c ⟨0, []⟩ :: F) w' := by
  refine F10_of (NewM.n (Value.int .i64) ptV hS fun m w1 hS => NewC.i hS fun c w2 hS => ⟨c, rfl, ?_⟩)
  have h2 : St W (Row c 60 [.int .i64 0, .slice none 0 0, .map (some m)] :: MapOf (Value.int .i64) ptV m [] :: F) w2 := by
    refine hS.perm (List.Perm.cons _ List.perm_append_comm)
  refine ClockA.shut (m := m) (l := []) (D := []) (p := none) (cap := 0) CRep.nil COk.new ?_
  have h3 : St W (alsA [] :: Row c 60 [.int .i64 0, .slice none 0 0, .map (some m)] :: MapOf (Value.int .i64) ptV m [] :: F) w2 := St.to_sep (l := []) h2
  have h4 := SlA.nil (α := AD) (e := 61) (size := 1) (f := ptD) (p := none) h3
  exact h4.p2
theorem Now_spec (hS : St W (ClockA c G :: F) w) : CallR Try.prog 21 #[.pointer (some ⟨c, 0, none⟩)] w fun v w' => v = .int .i64 G.now ∧ St W (ClockA c G :: F) w' := by
  obtain ⟨m, p, cap, l, D, hR, hG, hS⟩ := ClockA.open_ hS
  exact F21_of (NilP.i (LdI.a 0 hS rfl rfl ⟨rfl, ClockA.shut hR hG hS⟩))
theorem Many_spec (hS : St W (ClockA c G :: F) w) : CallR Try.prog 22 #[.pointer (some ⟨c, 0, none⟩)] w fun v w' => v = .int .i64 G.al.length ∧ St W (ClockA c G :: F) w' := by
  obtain ⟨m, p, cap, l, D, hR, hG, hS⟩ := ClockA.open_ hS
  refine F22_of (NilP.i (LdL.a 0 hS rfl rfl ⟨?_, ClockA.shut hR hG hS⟩))
  rw [hR.len]
theorem At_spec (id : Int) (hS : St W (ClockA c G :: F) w) : CallR Try.prog 19 #[.pointer (some ⟨c, 0, none⟩), .int .i64 id] w fun v w' => v = .tuple #[.int .i64 ((getA G.al id).getD 0), .bool (getA G.al id).isSome] ∧ St W (ClockA c G :: F) w' := by
  obtain ⟨m, p, cap, l, D, hR, hG, hS⟩ := ClockA.open_ hS
  refine F19_of (NilP.i (LdM.a 0 hS rfl rfl (lookup_i kI uM iPt zPt 3 hS rfl id true ?_)))
  rw [if_pos rfl]
  cases hb : aget D id with
  | none =>
    refine ⟨none, false, rfl, Bif.yes rfl ⟨?_, ClockA.shut hR hG hS⟩⟩
    rw [hR.get_none hb]; rfl
  | some b =>
    obtain ⟨i, d, hi, rfl, rfl, hg⟩ := hR.get_some hb
    refine ⟨some ⟨d.b, 0, none⟩, true, rfl, Bif.no rfl (NilP.i (LdI.at (alsA.cell (hS.at 2 rfl) hi (j := 1) rfl) ⟨?_, ClockA.shut hR hG hS⟩))⟩
    rw [hg]; rfl
theorem Set_spec (id tm : Int) (hS : St W (ClockA c G :: F) w) :
    CallR Try.prog 17 #[.pointer (some ⟨c, 0, none⟩), .int .i64 id, .int .i64 tm] w fun v w' => v = .int .i64 (cSet G id tm).2 ∧ St W (ClockA c (cSet G id tm).1 :: F) w' := by
  obtain ⟨m, p, cap, l, D, hR, hG, hS⟩ := ClockA.open_ hS
  have hlen := hR.len
  have hmany := hR.many
  refine F17_of (NilP.i (LdM.a 0 hS rfl rfl (lookup_i kI uM iPt zPt 3 hS rfl id true ?_)))
  rw [if_pos rfl]
  refine ⟨((aget D id).map fun b => (⟨b, 0, none⟩ : Addr)), (aget D id).isSome, by cases aget D id <;> rfl, NilP.i (LdI.a 0 hS rfl rfl ?_)⟩
  refine ⟨fun vs w => vs = [.bool (decide (tm ≤ G.now ∨ tm > 2199023255552))] ∧ St W (HL c G.now (some m) p cap l (MapOf (Value.int .i64) ptV m D :: F)) w, Bif.i (fun h => ⟨?_, hS⟩) fun h => ⟨?_, hS⟩, fun b w hJ => ?_⟩
  · have h1 := of_decide_eq_true h
    rw [h, decide_eq_true (.inl h1)]
  · have h1 := of_decide_eq_false h
    congr 2
    rw [decide_eq_decide]
    constructor
    · exact .inr
    · rintro (h2 | h2)
      · exact absurd h2 h1
      · exact h2
  obtain ⟨he, hS⟩ := hJ
  cases he
  refine Bif.i (fun h => ?_) fun h => ?_
  · have h := of_decide_eq_true h
    unfold cSet; rw [if_pos h]
    exact ⟨rfl, ClockA.shut hR hG hS⟩
  have h := of_decide_eq_false h
  have hset := hG.set id tm
  unfold cSet at hset ⊢
  rw [if_neg h] at hset ⊢
  have hiS := hR.isSome id
  cases hb : aget D id with
  | some b =>
    obtain ⟨i, d, hi, rfl, rfl, hg⟩ := hR.get_some hb
    have hlt := (List.getElem?_eq_some_iff.1 hi).1
    rw [hg] at hset ⊢
    rw [if_neg (by simp)] at hset ⊢
    refine Bif.yes rfl (NilP.i ?_)
    refine alsA.put (y := { d with tm := tm }) (hS.at 2 rfl) hi (j := 1) (by decide) rfl rfl fun w h' => ?_
    have hS : St W (HL c G.now (some m) p cap l (MapOf (Value.int .i64) ptV m D :: F)) w ∨ True := .inr trivial
    have hS : St W (Row c 60 [.int .i64 G.now, .slice p l.length cap, .map (some m)] :: SlA 61 1 ptD p cap l :: alsA (l.set i { d with tm := tm }) :: MapOf (Value.int .i64) ptV m D :: F) w := h'.p2.p2
    have hsl : SlA 61 1 ptD p cap l = SlA 61 1 ptD p cap (l.set i { d with tm := tm }) := by
      unfold SlA
      rw [List.length_set, ← flat_set pt1 l i { d with tm := tm } (.pointer (some ⟨d.b, 0, none⟩)) rfl]
      have h0 : (l.flatMap ptD)[i]? = some (.pointer (some ⟨d.b, 0, none⟩)) := by
        have := flat_at pt1 (i := i) (j := 0) hi (v := .pointer (some ⟨d.b, 0, none⟩)) rfl
        simpa using this
      obtain ⟨h1, h2⟩ := List.getElem?_eq_some_iff.1 h0
      rw [← h2, List.set_getElem_self]
    rw [hsl] at hS
    have el : (l.set i { d with tm := tm }).length = l.length := List.length_set
    rw [← el] at hS
    have hi' : (l.set i { d with tm := tm })[i]? = some { d with tm := tm } := by rw [List.getElem?_set, if_pos rfl, if_pos hlt]
    have hole : HoleI leA (l.set i { d with tm := tm }).length (fK (l.set i { d with tm := tm })) i := by
      rw [el]
      refine hR.heap.hole leA_ord hlt fun k hk => ?_
      unfold fK; rw [List.getElem?_set, if_neg (Ne.symm hk)]
    have ho : HOk (l.set i { d with tm := tm }) := by
      refine ⟨fun k x hx => ?_, ?_, by rw [el]; exact hR.ok.small⟩
      · rw [List.getElem?_set] at hx
        by_cases e : i = k
        · rw [if_pos e, if_pos hlt] at hx
          cases hx
          rw [← e]; exact hR.ok.pl i d hi
        · rw [if_neg e] at hx; exact hR.ok.pl k x hx
      · have e : (l.set i { d with tm := tm }).map (·.id) = l.map (·.id) := by
          rw [List.map_set]
          have h0 : (l.map (·.id))[i]? = some d.id := by rw [List.getElem?_map, hi]; rfl
          obtain ⟨h1, h2⟩ := List.getElem?_eq_some_iff.1 h0
          show (l.map (·.id)).set i d.id = _
          rw [← h2, List.set_getElem_self]
        rw [e]; exact hR.ok.nd
    have hpl := ho.pl i _ hi'
    have hC := Is.refl W (HL c G.now (some m) p cap (l.set i { d with tm := tm }) (MapOf (Value.int .i64) ptV m D :: F))
    refine ⟨StC W _, StC.start hS, NilP.i (NilP.i ⟨(i : Int), QtI.at fun G' w hw => ?_, ?_⟩)⟩
    · have := HL.al hC hw hi' (j := 2) (v := .int .i64 d.pl) rfl
      rw [show d.pl = (i : Int) from hpl] at this
      exact this
    refine Ef.n0 (α := List AD) (V := fun _ => .tuple #[]) (B := fun l' => prA (HOk l' ∧ HeapF leA l'.length (fK l') ∧ (l'.map coreD).Perm ((l.set i { d with tm := tm }).map coreD)) :: HL c G.now (some m) p cap l' (MapOf (Value.int .i64) ptV m D :: F)) [] hC (fun G' w h => ?_) fun l' => ⟨rfl, trivial, fun G' w h => ⟨rfl, ?_⟩⟩
    · exact (Fix_spec (F := MapOf (Value.int .i64) ptV m D :: (F ++ pts G')) ho hole (by rw [el]; exact hlt) h).of fun v w' ⟨hv, l', h1, h2, h3, h4⟩ => ⟨hv, l', rfl, St.to_pr ⟨h1, h2, h3⟩ h4⟩
    obtain ⟨⟨h1, h2, h3⟩, hS⟩ := (StC.ends h).of_pr
    exact ClockA.shut (G := ⟨G.now, insA (d.id, tm) (delA G.al d.id)⟩) (hR.reset hi h1 h2 h3) hset hS
  | none =>
    have hg := hR.get_none hb
    rw [hg] at hset ⊢
    refine Bif.no rfl (NilP.i (LdL.a 0 hS rfl rfl (Bif.i (fun h1 => ?_) fun h1 => ?_)))
    · have h1 : (l.length : Int) = 1024 := by simpa using h1
      rw [if_pos ⟨rfl, by omega⟩]
      exact ⟨rfl, ClockA.shut hR hG hS⟩
    · have h1 : ¬ (l.length : Int) = 1024 := by simpa using h1
      rw [if_neg (by rintro ⟨_, h2⟩; omega)] at hset ⊢
      refine NewC.i hS fun b w hS => NilP.i ?_
      have hS : St W (rowD ⟨b, id, tm, 0⟩ :: HL c G.now (some m) p cap l (MapOf (Value.int .i64) ptV m D :: F)) w := hS
      refine LdM.a 1 hS rfl rfl (mapUpdate_i kI uM 4 hS rfl id b fun w hS => NilP.i ?_)
      have hS : St W (rowD ⟨b, id, tm, 0⟩ :: HL c G.now (some m) p cap l (MapOf (Value.int .i64) ptV m (aset D id b) :: F)) w := hS
      refine (Push_spec (d := ⟨b, id, tm, 0⟩) hR.ok hR.heap (hR.idIn hg) (by omega) hS).of fun v w ⟨hv, p', cap', l', h2, h3, h4, hS⟩ => ⟨hv, rfl, ?_⟩
      exact ClockA.shut (G := ⟨G.now, insA (id, tm) (delA G.al id)⟩) (hR.add (d := ⟨b, id, tm, 0⟩) hg (by omega) h2 h3 h4) hset hS
theorem Drop_spec (id : Int) (hS : St W (ClockA c G :: F) w) :
    CallR Try.prog 12 #[.pointer (some ⟨c, 0, none⟩), .int .i64 id] w fun v w' => v = .bool (cDrop G id).2 ∧ St W (ClockA c (cDrop G id).1 :: F) w' := by
  obtain ⟨m, p, cap, l, D, hR, hG, hS⟩ := ClockA.open_ hS
  have hk := MapOf.keys kI (hS.at 3 rfl)
  refine F12_of (NilP.i (LdM.a 0 hS rfl rfl (lookup_i kI uM iPt zPt 3 hS rfl id true ?_)))
  rw [if_pos rfl]
  have hdr := hG.drop id
  unfold cDrop at hdr ⊢
  cases hb : aget D id with
  | none =>
    have hg := hR.get_none hb
    refine ⟨none, false, rfl, Bif.no rfl ?_⟩
    rw [hg, delA_none hg]
    exact ⟨rfl, ClockA.shut hR hG hS⟩
  | some b =>
    obtain ⟨i, d, hi, rfl, rfl, hg⟩ := hR.get_some hb
    have hpl := hR.ok.pl i d hi
    have hC := Is.refl W (HL c G.now (some m) p cap l (MapOf (Value.int .i64) ptV m D :: F))
    refine ⟨some ⟨d.b, 0, none⟩, true, rfl, Bif.yes rfl ⟨StC W _, StC.start hS, NilP.i (NilP.i ⟨(i : Int), QtI.at fun G' w hw => ?_, ?_⟩)⟩⟩
    · have := HL.al hC hw hi (j := 2) (v := .int .i64 d.pl) rfl
      rw [hpl] at this
      exact this
    refine Ef.n0 (α := AD × List AD) (V := fun _ => .iface 61 (.pointer (some ⟨d.b, 0, none⟩))) (B := fun x => prA (HOk x.2 ∧ HeapF leA x.2.length (fK x.2) ∧ (l.map coreD).Perm (coreD d :: x.2.map coreD)) :: rowD x.1 :: HL c G.now (some m) p cap x.2 (MapOf (Value.int .i64) ptV m D :: F)) (d, []) hC (fun G' w h => ?_) fun x => ⟨trivial, fun G' w h => NilP.i ?_⟩
    · exact (Remove_spec (F := MapOf (Value.int .i64) ptV m D :: (F ++ pts G')) hR.ok hR.heap hi h).of fun v w' ⟨d', l', h0, hv, h1, h2, h3, h4⟩ => ⟨(d', l'), hv, St.to_pr ⟨h1, h2, h3⟩ h4⟩
    obtain ⟨⟨h1, h2, h3⟩, hS⟩ := (StC.ends h).of_pr
    refine LdM.a 1 hS rfl rfl (delete_i kI uM 4 hS rfl d.id fun w hS => ⟨?_, ?_⟩)
    · rw [hg]; rfl
    · have hS : St W (rowD x.1 :: HL c G.now (some m) p cap x.2 (MapOf (Value.int .i64) ptV m (adel D d.id) :: F)) w := hS
      exact ClockA.shut (G := ⟨G.now, delA G.al d.id⟩) (hR.del hk h1 h2 h3) hdr hS.drop
end
end Go.Proofs.Ytgmpnonjhpopdaa
