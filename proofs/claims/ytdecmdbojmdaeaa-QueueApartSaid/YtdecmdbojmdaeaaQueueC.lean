/-
  Contracts of who waits.
-/
import Derived.Test.YtdecmdbojmdaeaaQueueP
import Derived.Test.YtdecmdbojmdaeaaFns
set_option linter.unusedVariables false
set_option linter.unusedSimpArgs false
namespace Go.Proofs.Ytdecmdbojmdaeaa
open Go
theorem uIs : Try.prog.underlying 43 = some (.slice 3) := Try.underlying43
theorem uInt : Try.prog.underlying 3 = some (.int .i64) := Try.underlying3
theorem uS : Try.prog.underlying 9 = some .string := Try.underlying9
theorem uM1 : Try.prog.underlying 48 = some (.map 9 43) := Try.underlying48
theorem uM2 : Try.prog.underlying 49 = some (.map 3 9) := Try.underlying49
theorem iInt : Try.prog.info? 3 = some Try.t3 := by kernel_rfl
theorem iIs : Try.prog.info? 43 = some Try.t43 := by kernel_rfl
theorem iS : Try.prog.info? 9 = some Try.t9 := by kernel_rfl
theorem sInt : Try.t3.size = 1 := rfl
theorem zInt : Try.t3.zero = some (.int .i64 0) := rfl
theorem bInt : Try.t3.bytes = 8 := rfl
theorem zIs : Try.t43.zero = some (.slice none 0 0) := rfl
theorem zS : Try.t9.zero = some (.string ⟨#[]⟩) := rfl
theorem kS : Keys Try.prog 9 Value.string := Keys.str uS
theorem kI : Keys Try.prog 3 (Value.int .i64) := Keys.i64 uInt
theorem w64 {n : Int} (h0 : -9223372036854775808 ≤ n) (h1 : n ≤ 9223372036854775807) : IntKind.wrap .i64 n = n := IntWalk.i64_in _ ⟨h0, h1⟩
theorem iV1 (x : Int) : (iV x).length = 1 := rfl
theorem iVn (x : Int) : ∀ v ∈ iV x, NotAgg v := fun v hv => by simp [iV] at hv; subst hv; trivial
theorem up {k n : Nat} (h : k < n) (hn : n ≤ 9223372036854775807) : IntKind.wrap .i64 ((k : Int) + 1) = ((k + 1 : Nat) : Int) := by rw [w64 (by omega) (by omega)]; omega
/-- What is left of a count that goes up. -/
def leftN (n : Nat) : List Value → World → Nat := fun vs _ => match vs.getLast? with
  | some (.int _ i) => n - i.toNat
  | _ => 0

structure SlD where
  p : Option Addr
  c : Nat
  ids : List Int
def vS (d : SlD) : Value := .slice d.p d.ids.length d.c
def ownD (x : Name × SlD) : Asn := SlA 3 1 iV x.2.p x.2.c x.2.ids
def rowsOf (D : List (Name × SlD)) : List (Name × List Int) := D.map fun x => (x.1, x.2.ids)
theorem rows_get (D : List (Name × SlD)) (n : Name) : aget (rowsOf D) n = (aget D n).map SlD.ids := by
  induction D with
  | nil => rfl
  | cons x r ih =>
    simp only [rowsOf, List.map_cons, aget] at ih ⊢
    split
    · rfl
    · exact ih
theorem rows_set (D : List (Name × SlD)) (n : Name) (d : SlD) : rowsOf (aset D n d) = aset (rowsOf D) n d.ids := by
  induction D with
  | nil => rfl
  | cons x r ih =>
    simp only [rowsOf, List.map_cons, aset] at ih ⊢
    split
    · rfl
    · simp only [List.map_cons, ih]
theorem rows_del (D : List (Name × SlD)) (n : Name) : rowsOf (adel D n) = adel (rowsOf D) n := by
  induction D with
  | nil => rfl
  | cons x r ih =>
    simp only [rowsOf, List.map_cons, adel] at ih ⊢
    split
    · rfl
    · simp only [List.map_cons, ih]
theorem aset_perm {κ ν : Type} [DecidableEq κ] (L : List (κ × ν)) (k : κ) (v : ν) : (aset L k v).Perm ((k, v) :: adel L k) := by
  induction L with
  | nil => exact .refl _
  | cons x r ih =>
    simp only [aset, adel]
    split
    · exact .refl _
    · exact (ih.cons x).trans (List.Perm.swap _ _ _)
theorem aget_perm {κ ν : Type} [DecidableEq κ] {L : List (κ × ν)} {k : κ} {v : ν} (h : aget L k = some v) : L.Perm ((k, v) :: adel L k) := by
  induction L with
  | nil => cases h
  | cons x r ih =>
    simp only [aget] at h
    simp only [adel]
    split at h
    · rename_i e
      cases h
      rw [if_pos e, ← e]
    · rename_i e
      rw [if_neg e]
      exact ((ih h).cons x).trans (List.Perm.swap _ _ _)
def ownsA (D : List (Name × SlD)) : Asn := sepA (D.map ownD)
theorem ownsA.take {W w : World} {F : List Asn} {D : List (Name × SlD)} {n : Name} {d : SlD} (hd : aget D n = some d) (h : St W (ownsA D :: F) w) : St W (ownD (n, d) :: ownsA (adel D n) :: F) w := by
  have h1 : St W (D.map ownD ++ F) w := h.of_sep
  have h2 : St W ((ownD (n, d) :: (adel D n).map ownD) ++ F) w := h1.perm (((aget_perm hd).map ownD).append_right F)
  exact (St.to_sep (l := (adel D n).map ownD) (St.perm h2 (by
    simp only [List.cons_append]
    exact (List.perm_middle (l₁ := (adel D n).map ownD) (a := ownD (n, d)) (l₂ := F)).symm))).p1
theorem ownsA.give {W w : World} {F : List Asn} {D : List (Name × SlD)} {n : Name} {d : SlD} (h : St W (ownD (n, d) :: ownsA (adel D n) :: F) w) : St W (ownsA (aset D n d) :: F) w := by
  have h1 : St W ((adel D n).map ownD ++ (ownD (n, d) :: F)) w := St.of_sep h.p1
  refine St.to_sep (St.perm h1 ?_)
  exact List.perm_middle.trans (((aset_perm D n d).map ownD).symm.append_right F)
theorem ownsA.rd {F : List Asn} {D : List (Name × SlD)} {n : Name} {d : SlD} (hd : aget D n = some d) : Rd (ownsA D :: F) d.p (d.ids.flatMap iV) := fun H hH i v hi => by
  have h1 : Own (D.map ownD ++ F) H := Own.of_sep hH
  have h2 : Own (ownD (n, d) :: ((adel D n).map ownD ++ F)) H := h1.perm (((aget_perm hd).map ownD).append_right F)
  exact SlA.rd (e := 3) (size := 1) (c := d.c) _ H h2 i v hi
theorem ownsA.le {W w : World} {F : List Asn} {D : List (Name × SlD)} {n : Name} {d : SlD} (hd : aget D n = some d) (h : St W (ownsA D :: F) w) : d.ids.length ≤ d.c := SlA.le (ownsA.take hd h)

def QueueA (q : Nat) (G : QG) : Asn := exA fun x : Nat × Nat × List (Name × SlD) × List (Int × Name) => sepA [
  prA (RepQ (rowsOf x.2.2.1) x.2.2.2 G), Row q 51 [.map (some x.1), .map (some x.2.1)], MapOf Value.string vS x.1 x.2.2.1, MapOf (Value.int .i64) Value.string x.2.1 x.2.2.2, ownsA x.2.2.1]
abbrev QL (q m1 m2 : Nat) (D : List (Name × SlD)) (wh : List (Int × Name)) (F : List Asn) : List Asn :=
  Row q 51 [.map (some m1), .map (some m2)] :: MapOf Value.string vS m1 D :: MapOf (Value.int .i64) Value.string m2 wh :: ownsA D :: F
section
variable {W w : World} {F : List Asn} {q m1 m2 : Nat} {G : QG} {D : List (Name × SlD)} {wh : List (Int × Name)}
theorem QueueA.open_ (h : St W (QueueA q G :: F) w) : ∃ m1 m2 D wh, RepQ (rowsOf D) wh G ∧ St W (QL q m1 m2 D wh F) w := by
  obtain ⟨⟨m1, m2, D, wh⟩, h⟩ := h.of_ex
  obtain ⟨h1, h⟩ := h.of_sep.of_pr
  exact ⟨m1, m2, D, wh, h1, h⟩
theorem QueueA.shut (hR : RepQ (rowsOf D) wh G) (h : St W (QL q m1 m2 D wh F) w) : St W (QueueA q G :: F) w :=
  St.to_ex (m1, m2, D, wh) (St.to_sep (l := [_, _, _, _, _]) (St.to_pr hR h))
theorem QueueA.ok (h : St W (QueueA q G :: F) w) : QOk G := by
  obtain ⟨m1, m2, D, wh, hR, _⟩ := QueueA.open_ h
  exact hR.ok

theorem New_spec (hS : St W F w) : CallR Try.prog 10 #[] w fun v w' => ∃ q, v = .pointer (some ⟨q, 0, none⟩) ∧ St W (QueueA q [] :: F) w' := by
  refine F10_of (NewM.n Value.string vS hS fun m1 w1 hS => NewM.n (Value.int .i64) Value.string hS fun m2 w2 hS => NewC.i hS fun q w3 hS => ⟨q, rfl, ?_⟩)
  refine QueueA.shut RepQ.nil (m1 := m1) (m2 := m2) (D := []) ?_
  have h2 : St W (Row q 51 [.map (some m1), .map (some m2)] :: MapOf Value.string vS m1 [] :: MapOf (Value.int .i64) Value.string m2 [] :: F) w3 := by
    refine hS.perm (List.Perm.cons _ ?_)
    rw [List.append_assoc]
    exact List.perm_append_comm
  refine St.push [_, _, _] ⟨h2.1, fun _ => none, fun b o hb => by (cases hb), trivial, h2.2⟩

theorem Where_spec (id : Int) (hS : St W (QueueA q G :: F) w) :
    CallR Try.prog 19 #[.pointer (some ⟨q, 0, none⟩), .int .i64 id] w fun v w' => v = .tuple #[.string ((gW G id).getD ⟨#[]⟩), .bool (gW G id).isSome] ∧ St W (QueueA q G :: F) w' := by
  obtain ⟨m1, m2, D, wh, hR, hS⟩ := QueueA.open_ hS
  refine F19_of (NilP.i (LdM.a 0 hS rfl rfl (lookup_i kI uM2 iS zS 2 hS rfl id true ?_)))
  rw [if_pos rfl, hR.wh]
  refine ⟨(gW G id).getD ⟨#[]⟩, (gW G id).isSome, by cases gW G id <;> rfl, rfl, QueueA.shut hR hS⟩

theorem Clone_spec {p : Option Addr} {c : Nat} {ids : List Int} (hr : Rd F p (ids.flatMap iV)) (hl : ids.length ≤ 1000000) (hS : St W F w) :
    CallR Try.prog 26 #[.slice p ids.length c] w fun v w' => ∃ p' c', v = .slice p' ids.length c' ∧ St W (SlA 3 1 iV p' c' ids :: F) w' := by
  refine F26_of (Bif.i (fun h => ?_) fun h => ?_)
  · have hp : p = none := by cases p with | none => rfl | some a => cases h
    have hn : ids = [] := by
      cases ids with
      | nil => rfl
      | cons x r => obtain ⟨a, ha, _⟩ := hr.of hS (i := 0) (v := .int .i64 x) rfl; rw [hp] at ha; cases ha
    subst hn
    exact ⟨none, 0, rfl, SlA.nil hS⟩
  · refine NewC.i hS fun b w1 hS => ?_
    have hS : St W (SlA 3 1 iV (some ⟨b, 0, none⟩) 0 [] :: F) w1 := SlA.of_row (os := []) iV1 hS
    refine append_el (os := []) iV1 uIs (.inr ⟨_, uIs⟩) iInt sInt zInt rfl 0 hS rfl hr rfl iVn (by rw [bInt]; simp; omega) (by simp; omega) fun p' c' w2 hS => ⟨_, _, _, rfl, ?_⟩
    exact ⟨p', c', rfl, hS⟩

theorem List_spec (n : Name) (hS : St W (QueueA q G :: F) w) :
    CallR Try.prog 23 #[.pointer (some ⟨q, 0, none⟩), .string n] w fun v w' => ∃ p c, v = .slice p (gL G n).length c ∧ St W (SlA 3 1 iV p c (gL G n) :: QueueA q G :: F) w' := by
  obtain ⟨m1, m2, D, wh, hR, hS⟩ := QueueA.open_ hS
  refine F23_of (NilP.i (LdM.a 0 hS rfl rfl (lookup_i kS uM1 iIs zIs 1 hS rfl n false ?_)))
  rw [if_neg (by simp)]
  have hrow := hR.row n
  rw [rows_get] at hrow
  have hlen := hR.ok.row n
  cases hd : aget D n with
  | none =>
    rw [hd] at hrow
    have hrow : gL G n = [] := hrow.symm
    rw [hrow]
    refine ⟨none, 0, 0, rfl, (Clone_spec (ids := []) (Rd.nil _ _) (by simp) hS).of fun v w1 ⟨p, c, hv, hS⟩ => ⟨_, _, _, hv, p, c, rfl, ?_⟩⟩
    exact (QueueA.shut hR (St.push [_, _, _, _] hS)).p1
  | some d =>
    rw [hd] at hrow
    have hrow : d.ids = gL G n := hrow
    rw [← hrow] at hlen ⊢
    refine ⟨d.p, d.ids.length, d.c, rfl, (Clone_spec (Rd.n 3 rfl fun F => ownsA.rd hd) (by omega) hS).of fun v w1 ⟨p, c, hv, hS⟩ => ⟨_, _, _, hv, p, c, rfl, ?_⟩⟩
    exact (QueueA.shut hR (St.push [_, _, _, _] hS)).p1

theorem Many_spec (hS : St W (QueueA q G :: F) w) : CallR Try.prog 21 #[.pointer (some ⟨q, 0, none⟩)] w fun v w' => v = .int .i64 G.length ∧ St W (QueueA q G :: F) w' := by
  obtain ⟨m1, m2, D, wh, hR, hS⟩ := QueueA.open_ hS
  have hsum : (D.map fun x => x.2.ids.length).sum = G.length := by
    rw [← hR.sum]; unfold sumL rowsOf; rw [List.map_map]; rfl
  have hall := hR.ok.all
  have hnd : D.Nodup := nodup_of_map (fun x => x.1) (by have := hR.keys; unfold rowsOf at this; rw [List.map_map] at this; exact this)
  refine F21_of (NilP.i (LdM.a 0 hS rfl rfl (range_i uM1 1 hS rfl fun it w1 hS => ?_)))
  refine ⟨fun vs w => ∃ V, vs = [.int .i64 ((V.map fun x : Name × SlD => x.2.ids.length).sum : Nat)] ∧ St W (Row q 51 [.map (some m1), .map (some m2)] :: RangeOf Value.string vS m1 it D V :: MapOf (Value.int .i64) Value.string m2 wh :: ownsA D :: F) w, fun _ w => leftR it D.length w, ⟨[], rfl, hS⟩, fun n w hI => ?_⟩
  obtain ⟨V, he, hS⟩ := hI
  cases he
  refine next_i kS 1 hS rfl (fun h1 h2 h3 w' hS => ?_) fun x hx hxV w' hS' => ?_
  · have e : (V.map fun x : Name × SlD => x.2.ids.length).sum = G.length := by
      rw [← hsum]
      exact Nat.le_antisymm (sum_sub _ h2 h3) (sum_sub _ hnd h1)
    rw [e]
    exact ⟨rfl, QueueA.shut hR hS⟩
  · have hk := RangeOf.left (hS.at 1 rfl) D.length
    refine entry_i 1 hS' rfl fun hS' => ⟨_, _, _, _, rfl, ?_⟩
    have hS' : St W (Row q 51 [.map (some m1), .map (some m2)] :: RangeOf Value.string vS m1 it D (V ++ [x]) :: MapOf (Value.int .i64) Value.string m2 wh :: ownsA D :: F) w' := hS'
    obtain ⟨⟨es, clock, seen, c0⟩, h⟩ := (hS'.at 1 rfl).of_ex
    obtain ⟨hp, _⟩ := h.of_sep.of_pr
    have hnV : (V ++ [x]).Nodup := nodup_of_map (fun x => x.1) hp.nod
    have hle := sum_sub (fun x : Name × SlD => x.2.ids.length) hnV hp.sub
    have hle2 := len_sub hnV hp.sub
    have hk' := RangeOf.left (hS'.at 1 rfl) D.length
    rw [hsum] at hle
    simp only [List.map_append, List.sum_append, List.map_cons, List.map_nil, List.sum_cons, List.sum_nil, List.length_append, List.length_cons, List.length_nil] at hle hle2 hk'
    refine ⟨⟨V ++ [x], ?_, hS'⟩, ?_⟩
    · rw [w64 (by omega) (by omega)]
      simp
    · show leftR it D.length w' < leftR it D.length w
      rw [hk, hk']
      omega

def d0 (D : List (Name × SlD)) (n : Name) : SlD := (aget D n).getD ⟨none, 0, []⟩
theorem d0_val (D : List (Name × SlD)) (n : Name) : ((aget D n).map vS).getD (.slice none 0 0) = .slice (d0 D n).p (d0 D n).ids.length (d0 D n).c := by
  unfold d0
  cases aget D n <;> rfl
theorem d0_ids (hR : RepQ (rowsOf D) wh G) (n : Name) : (d0 D n).ids = gL G n := by
  rw [← hR.row n, rows_get]
  unfold d0
  cases aget D n <;> rfl
theorem ownsA.take0 (n : Name) (h : St W (ownsA D :: F) w) : St W (SlA 3 1 iV (d0 D n).p (d0 D n).c (d0 D n).ids :: ownsA (adel D n) :: F) w := by
  unfold d0
  cases hd : aget D n with
  | some d => exact ownsA.take hd h
  | none => rw [adel_none hd]; exact SlA.nil h
theorem adel_aset {κ ν : Type} [DecidableEq κ] (L : List (κ × ν)) (k : κ) (v : ν) : adel (aset L k v) k = adel L k := by
  induction L with
  | nil => simp [aset, adel]
  | cons x r ih =>
    simp only [aset, adel]
    by_cases h : x.1 = k
    · simp [h, adel]
    · simp [h, adel, ih]

theorem Put_spec (n : Name) (id : Int) (hS : St W (QueueA q G :: F) w) :
    CallR Try.prog 17 #[.pointer (some ⟨q, 0, none⟩), .string n, .int .i64 id] w fun v w' => v = .int .i64 (gPut G n id).2 ∧ St W (QueueA q (gPut G n id).1 :: F) w' := by
  obtain ⟨m1, m2, D, wh, hR, hS⟩ := QueueA.open_ hS
  refine F17_of (NilP.i (LdM.a 0 hS rfl rfl (lookup_i kI uM2 iS zS 2 hS rfl id true ?_)))
  rw [if_pos rfl, hR.wh]
  refine ⟨(gW G id).getD ⟨#[]⟩, (gW G id).isSome, by cases gW G id <;> rfl, Bif.i (fun h => ?_) fun h => ?_⟩
  · unfold gPut; rw [if_pos h]; exact ⟨rfl, QueueA.shut hR hS⟩
  have hw : gW G id = none := by simpa using h
  refine NilP.i (LdM.a 0 hS rfl rfl (lookup_i kS uM1 iIs zIs 1 hS rfl n false ?_))
  rw [if_neg (by simp), d0_val]
  have hrow := hR.ok.row n
  have hall := hR.ok.all
  refine ⟨_, _, _, rfl, Bif.i (fun h8 => ?_) fun h8 => ?_⟩
  · rw [d0_ids hR] at h8
    have h8 : 8 ≤ (gL G n).length := by simp at h8; omega
    unfold gPut; rw [if_neg (by simp [hw]), if_pos (.inl h8)]; exact ⟨rfl, QueueA.shut hR hS⟩
  rw [d0_ids hR] at h8
  have h8 : (gL G n).length < 8 := by simp at h8; omega
  refine (Many_spec (QueueA.shut hR hS)).of fun v w1 ⟨hv, hS⟩ => ⟨_, hv, Bif.i (fun h64 => ?_) fun h64 => ?_⟩
  · have h64 : 64 ≤ G.length := by simp at h64; omega
    unfold gPut; rw [if_neg (by simp [hw]), if_pos (.inr h64)]; exact ⟨rfl, hS⟩
  have h64 : G.length < 64 := by simp at h64; omega
  have hp : gPut G n id = (G ++ [(n, id)], 0) := by
    unfold gPut
    rw [if_neg (by simp [hw]), if_neg (by omega)]
  rw [hp]
  obtain ⟨m1, m2, D, wh, hR, hS⟩ := QueueA.open_ hS
  have hids := d0_ids hR n
  have hC := Is.refl W (QL q m1 m2 D wh F)
  refine ⟨StC W _, StC.start hS, NilP.i (NilP.i ⟨_, QtM.a 0 hC rfl rfl, _, QtM.a 0 hC rfl rfl, (d0 D n).p, (d0 D n).ids.length, (d0 D n).c, fun G w h => lookup_i kS uM1 iIs zIs 1 h rfl n false ?_, fun b => ?_⟩)⟩
  · rw [if_neg (by simp), d0_val]
    exact ⟨_, _, _, rfl, rfl, h⟩
  have hC1 := hC.push b (.cells #[.int .i64 id] 3)
  refine Ef.n0 (α := Option Addr × Nat) (V := fun x => .slice x.1 ((d0 D n).ids ++ [id]).length x.2) (B := fun x => Row q 51 [.map (some m1), .map (some m2)] :: MapOf Value.string vS m1 D :: MapOf (Value.int .i64) Value.string m2 wh :: SlA 3 1 iV x.1 x.2 ((d0 D n).ids ++ [id]) :: ownsA (adel D n) :: F) (none, 0) hC1 (fun G w h => ?_) fun x => ?_
  · have h : St W (Pt b (.cells #[.int .i64 id] 3) :: Row q 51 [.map (some m1), .map (some m2)] :: MapOf Value.string vS m1 D :: MapOf (Value.int .i64) Value.string m2 wh :: ownsA D :: (F ++ pts G)) w := h
    have h := St.imp h Pt.row
    have h := ownsA.take0 n (St.mv 4 0 h rfl)
    refine append_el (os := (d0 D n).ids) (xs := [id]) iV1 uIs (.inr ⟨_, uIs⟩) iInt sInt zInt rfl 0 h rfl (Rd.n 1 rfl fun F => Rd.all) rfl iVn (by rw [bInt, hids]; simp; omega) (by rw [hids]; simp; omega) fun p' c' w2 hS => ⟨_, _, _, rfl, (p', c'), rfl, ?_⟩
    exact St.mv 0 3 (St.mv 1 4 (St.del 2 hS rfl) rfl) rfl
  have hC2 := Is.refl W (Row q 51 [.map (some m1), .map (some m2)] :: MapOf Value.string vS m1 D :: MapOf (Value.int .i64) Value.string m2 wh :: SlA 3 1 iV x.1 x.2 ((d0 D n).ids ++ [id]) :: ownsA (adel D n) :: F)
  refine ⟨_, _, _, rfl, QtM.a 0 hC2 rfl rfl, ?_⟩
  refine Ef.n (α := Unit) (V := fun _ => .tuple #[]) (B := fun _ => [MapOf Value.string vS m1 (aset D n ⟨x.1, x.2, (d0 D n).ids ++ [id]⟩)]) () 1 hC2 rfl (fun G w h => mapUpdate_i kS uM1 0 h rfl n ⟨x.1, x.2, (d0 D n).ids ++ [id]⟩ fun w' h => ⟨(), rfl, ?_⟩) fun _ => ⟨rfl, trivial, fun G w h => ?_⟩
  · exact St.push [_] h
  · have hS := StC.ends h
    refine NilP.i (LdM.a 0 hS rfl rfl (mapUpdate_i kI uM2 2 hS rfl id n fun w' hS => ⟨rfl, ?_⟩))
    have hR' := hR.put hw h8 h64
    rw [rows_get, show ((aget D n).map SlD.ids).getD [] = (d0 D n).ids by unfold d0; cases aget D n <;> rfl] at hR'
    have e := rows_set D n ⟨x.1, x.2, (d0 D n).ids ++ [id]⟩
    rw [← e] at hR'
    refine QueueA.shut hR' (m1 := m1) (m2 := m2) ?_
    exact St.mv 0 3 (ownsA.give (D := D) (n := n) (d := ⟨x.1, x.2, (d0 D n).ids ++ [id]⟩) (St.mv 4 1 (St.mv 3 0 hS rfl) rfl)) rfl

/-- One has gone: the row as it was is left beside. -/
theorem Drop_raw (id : Int) (hR : RepQ (rowsOf D) wh G) (hk : (wh.map (·.1)).Nodup) (hS : St W (QL q m1 m2 D wh F) w) :
    CallR Try.prog 15 #[.pointer (some ⟨q, 0, none⟩), .int .i64 id] w fun v w' => (gW G id = none ∧ v = .bool false ∧ St W (QL q m1 m2 D wh F) w') ∨
      ∃ n D', gW G id = some n ∧ v = .bool true ∧ RepQ (rowsOf D') (adel wh id) (gDrop G id) ∧ St W (QL q m1 m2 D' (adel wh id) (SlA 3 1 iV (d0 D n).p (d0 D n).c (d0 D n).ids :: F)) w' := by
  refine F15_of (NilP.i (LdM.a 0 hS rfl rfl (lookup_i kI uM2 iS zS 2 hS rfl id true ?_)))
  rw [if_pos rfl, hR.wh]
  refine ⟨(gW G id).getD ⟨#[]⟩, (gW G id).isSome, by cases gW G id <;> rfl, Bif.i (fun h => ?_) fun h => ?_⟩
  · have hw : gW G id = none := by simpa using h
    exact .inl ⟨hw, rfl, hS⟩
  obtain ⟨n, hn⟩ : ∃ n, gW G id = some n := by
    cases hw : gW G id with
    | none => rw [hw] at h; simp at h
    | some n => exact ⟨n, rfl⟩
  rw [hn, Option.getD_some]
  refine NilP.i (LdM.a 0 hS rfl rfl (delete_i kI uM2 2 hS rfl id fun w1 hS => NilP.i (LdM.a 0 hS rfl rfl (lookup_i kS uM1 iIs zIs 1 hS rfl n false ?_))))
  rw [if_neg (by simp), d0_val]
  have hids := d0_ids hR n
  have hrow := hR.ok.row n
  rw [← hids] at hrow
  have hS : St W (Row q 51 [.map (some m1), .map (some m2)] :: MapOf Value.string vS m1 D :: MapOf (Value.int .i64) Value.string m2 (adel wh id) :: ownsA (adel D n) :: SlA 3 1 iV (d0 D n).p (d0 D n).c (d0 D n).ids :: F) w1 :=
    St.mv 0 4 (St.mv 1 4 (ownsA.take0 n (St.mv 3 0 hS rfl)) rfl) rfl
  generalize hdd : d0 D n = d at hids hrow hS
  refine ⟨_, _, _, rfl, ?_⟩
  refine ⟨fun vs w => ∃ (k : Nat) (p : Option Addr) (c : Nat), k ≤ d.ids.length ∧ vs = [.slice p ((d.ids.take k).filter fun x => decide (x ≠ id)).length c, .int .i64 k] ∧
    St W (Row q 51 [.map (some m1), .map (some m2)] :: MapOf Value.string vS m1 D :: MapOf (Value.int .i64) Value.string m2 (adel wh id) :: ownsA (adel D n) :: SlA 3 1 iV d.p d.c d.ids :: SlA 3 1 iV p c ((d.ids.take k).filter fun x => decide (x ≠ id)) :: F) w, leftN d.ids.length, ⟨0, none, 0, Nat.zero_le _, rfl, St.push [_, _, _, _, _] (SlA.nil hS)⟩, fun lp ln lc x w hI => ?_⟩
  obtain ⟨k, p, c, hk1, he, hS⟩ := hI
  cases he
  refine Bif.i (fun hlt => ?_) fun hge => ?_
  · have hlt : k < d.ids.length := by have := of_decide_eq_true hlt; omega
    have hx : d.ids[k]? = some d.ids[k] := List.getElem?_eq_getElem hlt
    have htk : d.ids.take (k + 1) = d.ids.take k ++ [d.ids[k]] := by rw [List.take_add_one, hx]; rfl
    refine IxP.el iV1 (by decide) (Rd.n 4 rfl SlA.rd) hS rfl hlt hx fun a ha => LdI.at (ha 0 _ rfl) ?_
    have hm : leftN d.ids.length [.int .i64 ((k + 1 : Nat) : Int)] w < leftN d.ids.length [.int .i64 (k : Int)] w := by show d.ids.length - (k + 1) < d.ids.length - k; omega
    rw [up hlt (by omega)]
    refine Bif.i (fun hne => ?_) fun hne => ?_
    · have hne : d.ids[k] ≠ id := by simpa using hne
      refine NewC.i hS fun b w2 hS => ?_
      refine append_el (os := (d.ids.take k).filter fun x => decide (x ≠ id)) (xs := [d.ids[k]]) iV1 uIs (.inr ⟨_, uIs⟩) iInt sInt zInt rfl 6 hS rfl (Rd.n 0 rfl fun F => Rd.all) rfl iVn ?_ ?_ fun p' c' w3 hS => ⟨_, _, _, rfl, ⟨k + 1, p', c', by omega, ?_, ?_⟩, hm⟩
      · have := List.length_filter_le (fun x => decide (x ≠ id)) (d.ids.take k)
        rw [bInt]; simp only [List.length_cons, List.length_nil, List.length_take] at this ⊢; omega
      · have := List.length_filter_le (fun x => decide (x ≠ id)) (d.ids.take k)
        simp only [List.length_cons, List.length_nil, List.length_take] at this ⊢; omega
      · rw [htk, List.filter_append]; simp [hne]
      · rw [htk, List.filter_append]
        simp only [List.filter_cons, List.filter_nil, hne, ne_eq, not_false_eq_true, decide_true, if_true]
        exact St.del 0 hS rfl
    · have hne : d.ids[k] = id := by simpa using hne
      refine ⟨⟨k + 1, lp, lc, by omega, ?_, ?_⟩, hm⟩
      · rw [htk, List.filter_append]; simp [hne]
      · rw [htk, List.filter_append]; simpa [hne] using hS
  · have hk2 : k = d.ids.length := by have := of_decide_eq_false hge; omega
    subst hk2
    rw [List.take_length] at hS ⊢
    have hlo : leftOver (rowsOf D) n id = d.ids.filter fun x => decide (x ≠ id) := by
      unfold leftOver
      rw [rows_get, ← hdd]
      unfold d0
      cases aget D n <;> rfl
    have hR' := hR.drop hk hn
    refine NilP.i (LdM.a 0 hS rfl rfl (mapUpdate_i kS uM1 1 hS rfl n ⟨lp, lc, d.ids.filter fun x => decide (x ≠ id)⟩ fun w2 hS => ?_))
    refine Bif.i (fun h0 => ?_) fun h0 => ?_
    · have h0 : (d.ids.filter fun x => decide (x ≠ id)) = [] := List.eq_nil_of_length_eq_zero (by simpa using h0)
      refine NilP.i (LdM.a 0 hS rfl rfl (delete_i kS uM1 1 hS rfl n fun w3 hS => .inr ⟨n, adel (aset D n ⟨lp, lc, d.ids.filter fun x => decide (x ≠ id)⟩) n, rfl, rfl, ?_, ?_⟩))
      · have e : rowsOf (adel (aset D n ⟨lp, lc, d.ids.filter fun x => decide (x ≠ id)⟩) n) = dropRows (rowsOf D) n id := by
          unfold dropRows
          rw [hlo, if_pos h0, rows_del, rows_set]
        rw [e]; exact hR'
      · rw [hdd]
        have h := St.del 5 hS rfl
        have h : St W (Row q 51 [.map (some m1), .map (some m2)] :: MapOf Value.string vS m1 (adel (aset D n ⟨lp, lc, d.ids.filter fun x => decide (x ≠ id)⟩) n) :: MapOf (Value.int .i64) Value.string m2 (adel wh id) :: ownsA (adel D n) :: SlA 3 1 iV d.p d.c d.ids :: F) w3 := h
        rwa [← adel_aset D n ⟨lp, lc, d.ids.filter fun x => decide (x ≠ id)⟩] at h
    · have h0 : (d.ids.filter fun x => decide (x ≠ id)) ≠ [] := fun e => by rw [e] at h0; simp at h0
      refine .inr ⟨n, aset D n ⟨lp, lc, d.ids.filter fun x => decide (x ≠ id)⟩, rfl, rfl, ?_, ?_⟩
      · have e : rowsOf (aset D n ⟨lp, lc, d.ids.filter fun x => decide (x ≠ id)⟩) = dropRows (rowsOf D) n id := by
          unfold dropRows
          rw [hlo, if_neg h0, rows_set]
        rw [e]; exact hR'
      · rw [hdd]
        have h : St W (Row q 51 [.map (some m1), .map (some m2)] :: MapOf Value.string vS m1 (aset D n ⟨lp, lc, d.ids.filter fun x => decide (x ≠ id)⟩) :: MapOf (Value.int .i64) Value.string m2 (adel wh id) :: ownsA (adel D n) :: SlA 3 1 iV d.p d.c d.ids :: ownD (n, ⟨lp, lc, d.ids.filter fun x => decide (x ≠ id)⟩) :: F) w2 := hS
        have h2 : St W (ownD (n, ⟨lp, lc, d.ids.filter fun x => decide (x ≠ id)⟩) :: ownsA (adel D n) :: Row q 51 [.map (some m1), .map (some m2)] :: MapOf Value.string vS m1 (aset D n ⟨lp, lc, d.ids.filter fun x => decide (x ≠ id)⟩) :: MapOf (Value.int .i64) Value.string m2 (adel wh id) :: SlA 3 1 iV d.p d.c d.ids :: F) w2 := St.mv 4 1 (St.mv 5 0 h rfl) rfl
        exact St.mv 0 3 (ownsA.give h2) rfl

theorem Drop_spec (id : Int) (hS : St W (QueueA q G :: F) w) :
    CallR Try.prog 15 #[.pointer (some ⟨q, 0, none⟩), .int .i64 id] w fun v w' => v = .bool (gW G id).isSome ∧ St W (QueueA q (gDrop G id) :: F) w' := by
  obtain ⟨m1, m2, D, wh, hR, hS⟩ := QueueA.open_ hS
  have hk : (wh.map (·.1)).Nodup := MapOf.keys kI (hS.at 2 rfl)
  refine (Drop_raw id hR hk hS).of fun v w1 h => ?_
  rcases h with ⟨h1, hv, hS⟩ | ⟨n, D', h1, hv, hR', hS⟩
  · have e : gDrop G id = G := by
      unfold gDrop
      rw [List.filter_eq_self]
      intro x hx
      simp only [decide_eq_true_eq]
      exact fun e => gW_none.1 h1 (List.mem_map.2 ⟨x, hx, e⟩)
    rw [h1, e]
    exact ⟨hv, QueueA.shut hR hS⟩
  · rw [h1]
    exact ⟨hv, QueueA.shut hR' (St.del 4 hS rfl)⟩

theorem Take_spec (n : Name) (hS : St W (QueueA q G :: F) w) :
    CallR Try.prog 13 #[.pointer (some ⟨q, 0, none⟩), .string n] w fun v w' => v = .tuple #[.int .i64 (gTake G n).2.1, .bool (gTake G n).2.2] ∧ St W (QueueA q (gTake G n).1 :: F) w' := by
  obtain ⟨m1, m2, D, wh, hR, hS⟩ := QueueA.open_ hS
  have hk : (wh.map (·.1)).Nodup := MapOf.keys kI (hS.at 2 rfl)
  refine F13_of (NilP.i (LdM.a 0 hS rfl rfl (lookup_i kS uM1 iIs zIs 1 hS rfl n false ?_)))
  rw [if_neg (by simp), d0_val]
  have hids := d0_ids hR n
  unfold gTake
  refine ⟨_, _, _, rfl, Bif.i (fun h => ?_) fun h => ?_⟩
  · have h : gL G n = [] := by rw [← hids]; exact List.eq_nil_of_length_eq_zero (by simpa using h)
    rw [h]
    exact ⟨rfl, QueueA.shut hR hS⟩
  cases hl : gL G n with
  | nil => rw [hids, hl] at h; simp at h
  | cons i r =>
    have hx : (d0 D n).ids[0]? = some i := by rw [hids, hl]; rfl
    have hg : gW G i = some n := gW_mem hR.ok.nod (mem_gL.1 (by rw [hl]; exact List.mem_cons_self))
    have h0 : 0 < (d0 D n).ids.length := by rw [hids, hl]; simp
    have hd : aget D n = some (d0 D n) := by
      unfold d0 at h0 ⊢
      cases hd : aget D n with
      | some d => rfl
      | none => rw [hd] at h0; simp at h0
    refine IxP.el iV1 (by decide) (Rd.n 3 rfl fun F => ownsA.rd hd) hS rfl h0 hx fun a ha => LdI.at (ha 0 _ rfl) ?_
    refine (Drop_raw i hR hk hS).of fun v w1 h => ?_
    rcases h with ⟨h1, hv, hS⟩ | ⟨m, D', h1, hv, hR', hS⟩
    · rw [hg] at h1; cases h1
    · rw [hg] at h1
      cases h1
      refine ⟨_, hv, IxP.el iV1 (by decide) (Rd.n 4 rfl SlA.rd) hS rfl h0 hx fun a ha => LdI.at (ha 0 _ rfl) ⟨rfl, QueueA.shut hR' (St.del 4 hS rfl)⟩⟩
end
end Go.Proofs.Ytdecmdbojmdaeaa
