/-
  The walk of the law of alarms that go once.
-/
import Derived.Test.YtgmpnonjhpopdaaLaw08b
set_option linter.unusedVariables false
set_option linter.unusedSimpArgs false
namespace Go.Proofs.Ytgmpnonjhpopdaa
open Go
/-- What is left is what did not go. -/
structure LeftOk (ts : List Int) (gs : List Bool) (al : List Al) : Prop where
  len : gs.length = ts.length
  mem : ∀ (j t : Int), (j, t) ∈ al ↔ ∃ (k : Nat) (x : Int), j = (k : Int) ∧ ts[k]? = some x ∧ gs[k]? = some false ∧ t = 1 + x
theorem LeftOk.step {ts : List Int} {gs : List Bool} {a : Al} {rest : List Al} (h : LeftOk ts gs (a :: rest)) (hn : ((a :: rest).map (·.1)).Nodup) :
    ∃ (k : Nat) (x : Int), a = ((k : Int), 1 + x) ∧ ts[k]? = some x ∧ gs[k]? = some false ∧ LeftOk ts (gs.set k true) rest := by
  obtain ⟨k, x, e1, e2, e3, e4⟩ := (h.mem a.1 a.2).1 List.mem_cons_self
  have ea : a = ((k : Int), 1 + x) := Prod.ext e1 e4
  refine ⟨k, x, ea, e2, e3, by rw [List.length_set, h.len], fun j t => ?_⟩
  simp only [List.map_cons, List.nodup_cons] at hn
  constructor
  · intro hm
    obtain ⟨k', x', f1, f2, f3, f4⟩ := (h.mem j t).1 (List.mem_cons_of_mem _ hm)
    refine ⟨k', x', f1, f2, ?_, f4⟩
    rw [List.getElem?_set, if_neg, f3]
    rintro rfl
    exact hn.1 (by rw [e1, ← f1]; exact List.mem_map.2 ⟨_, hm, rfl⟩)
  · rintro ⟨k', x', f1, f2, f3, f4⟩
    rw [List.getElem?_set] at f3
    by_cases e : k = k'
    · rw [if_pos e] at f3
      split at f3 <;> cases f3
    · rw [if_neg e] at f3
      rcases List.mem_cons.1 ((h.mem j t).2 ⟨k', x', f1, f2, f3, f4⟩) with h1 | h1
      · rw [ea] at h1
        simp only [Prod.mk.injEq] at h1
        omega
      · exact h1
theorem LeftOk.none {ts : List Int} {gs : List Bool} (h : LeftOk ts gs []) {k : Nat} {b : Bool} (hb : gs[k]? = some b) : b = true := by
  cases b with
  | true => rfl
  | false =>
    have hk := (List.getElem?_eq_some_iff.1 hb).1
    rw [h.len] at hk
    have := (h.mem (k : Int) (1 + ts[k])).2 ⟨k, ts[k], rfl, List.getElem?_eq_getElem hk, hb, rfl⟩
    cases this
theorem LeftOk.congr {ts : List Int} {gs : List Bool} {a b : List Al} (h : LeftOk ts gs a) (he : ∀ x, x ∈ a ↔ x ∈ b) : LeftOk ts gs b := ⟨h.len, fun j t => by rw [← he, h.mem]⟩
theorem two_perm (t : Int) (al : List Al) : (al.filter (fun x => decide (x.2 ≤ t)) ++ al.filter (fun x => decide (¬ x.2 ≤ t))).Perm al := by
  have h := List.filter_append_perm (fun x : Al => decide (x.2 ≤ t)) al
  have e : al.filter (fun x => !decide (x.2 ≤ t)) = al.filter (fun x => decide (¬ x.2 ≤ t)) := List.filter_congr fun x _ => (by rw [decide_not])
  rwa [e] at h
def bV (x : Bool) : List Value := [.bool x]
theorem bV1 (x : Bool) : (bV x).length = 1 := rfl
theorem bV_get {xs : List Bool} {i : Nat} {x : Bool} (h : xs[i]? = some x) : (xs.flatMap bV)[i]? = some (.bool x) := by
  have := flat_at bV1 (i := i) (j := 0) h (v := .bool x) rfl
  simpa using this
theorem bV_set (l : List Bool) (i : Nat) (y : Bool) : (l.flatMap bV).set i (.bool y) = (l.set i y).flatMap bV := by
  have e : ∀ l : List Bool, l.flatMap bV = l.map Value.bool := fun l => flat_one Value.bool l
  rw [e, e, List.map_set]
section
variable {W : World}
theorem put_b {w : World} {F : List Asn} {p : Option Addr} {c n k : Nat} {gs : List Bool} {K : World → Prop} (hS : St W (SlA 4 1 bV p c gs :: F) w) (hk : k < gs.length) (hn : n = gs.length)
    (hK : ∀ w', St W (SlA 4 1 bV p c (gs.set k true) :: F) w' → K w') : IxP p n (k : Int) 1 fun a => St1 a (.bool true) w K := by
  subst hn
  refine OwnS.ix hS hk _ fun w' h => hK w' ?_
  rw [bV_set] at h
  unfold SlA
  rw [List.length_set]; exact h
theorem Once_walk {p q : Option Addr} {ts ss : List Int} {c d : Nat} (hr : Rd [Base W] p (ts.map (Value.int .u16))) (hc : ts.length ≤ c) (hcm : c ≤ 9223372036854775807) (hok : ∀ o ∈ ts, (Lit.int .u16 o).wf = true)
    (hr2 : Rd [Base W] q (ss.map (Value.int .u8))) (hd : ss.length ≤ d) (hdm : d ≤ 9223372036854775807) (hok2 : ∀ o ∈ ss, (Lit.int .u8 o).wf = true) :
    CallR Try.prog 4 #[.slice p ts.length c, .slice q ss.length d] W fun v w' => v = .bool true ∧ ∃ r, St W (Base W :: r) w' := by
  refine F4_of ((head_spec (St.base W)).of fun v w ⟨hv, hS⟩ => ⟨_, hv, (New_spec hS).of fun v w ⟨cq, hv, hS⟩ => ⟨_, hv, Bif.no rfl ?_⟩⟩)
  refine Bif.i (fun h => Bif.yes rfl ⟨rfl, _, hS.drop⟩) fun h => Bif.i (fun h2 => Bif.yes rfl ⟨rfl, _, hS.drop⟩) fun h2 => ?_
  have h := of_decide_eq_false h
  have h2 := of_decide_eq_false h2
  have hts : ∀ {k : Nat} {x : Int}, ts[k]? = some x → 0 ≤ x ∧ x ≤ 65535 := fun hx => u16_wf (hok _ (List.mem_of_getElem? hx))
  have hmx : maxN = 1099511627776 := rfl
  refine ⟨fun vs w => ∃ (i : Nat) (G : ClG), vs = [.int .i64 i] ∧ i ≤ ts.length ∧ G.now = 0 ∧ G.al.length = i ∧ (∀ (j t : Int), (j, t) ∈ G.al ↔ ∃ (k : Nat) (x : Int), j = (k : Int) ∧ k < i ∧ ts[k]? = some x ∧ t = 1 + x) ∧ St W [ClockA cq G, Base W] w, leftN ts.length, ⟨0, _, rfl, by omega, rfl, rfl, by simp, hS⟩, fun x w hI => ?_⟩
  obtain ⟨i, G, he, hi, hG0, hGl, hGg, hS⟩ := hI
  cases he
  refine Bif.i (fun hlt => ?_) fun hge => ?_
  · have hlt : i < ts.length := by have := of_decide_eq_true hlt; omega
    have hx : ts[i]? = some (ts[i]'hlt) := List.getElem?_eq_getElem _
    generalize ts[i]'hlt = x at hx
    have hx0 := hts hx
    have hgi : getA G.al (i : Int) = none := get_none.2 fun y hy e => by
      obtain ⟨k, x', e1, e2, _⟩ := (hGg y.1 y.2).1 hy
      omega
    have hset : cSet G i (1 + x) = (⟨0, insA ((i : Int), 1 + x) G.al⟩, 0) := by
      unfold cSet
      rw [if_neg (by rw [hG0]; omega), if_neg (by rintro ⟨_, h⟩; omega), delA_none hgi, hG0]
    refine IxP.one (hr.cons _) hS rfl hlt (map_get hx) fun a ha => LdI.at ha ?_
    rw [w64 (n := x) (by omega) (by omega), w64 (n := 1 + x) (by omega) (by omega)]
    refine (Set_spec i (1 + x) hS).of fun v w ⟨hv, hS⟩ => ⟨_, hv, ?_⟩
    rw [hset] at hS ⊢
    refine Bif.no rfl ?_
    rw [up hlt (by omega)]
    refine ⟨⟨i + 1, _, rfl, by omega, rfl, ?_, fun j t => ?_, hS⟩, by show ts.length - (i + 1) < ts.length - i; omega⟩
    · rw [(insA_perm _ _).length_eq, List.length_cons, hGl]
    · rw [insA_mem, hGg]
      constructor
      · rintro (e | ⟨k, x', e1, e2, e3, e4⟩)
        · simp only [Prod.mk.injEq] at e
          exact ⟨i, x, e.1, by omega, hx, e.2⟩
        · exact ⟨k, x', e1, by omega, e3, e4⟩
      · rintro ⟨k, x', e1, e2, e3, e4⟩
        by_cases e : k = i
        · subst e
          rw [hx] at e3; cases e3
          exact .inl (Prod.ext e1 e4)
        · exact .inr ⟨k, x', e1, by omega, e3, e4⟩
  have hi2 : i = ts.length := by have := of_decide_eq_false hge; omega
  subst hi2
  refine MkS.i hS (by omega) (Int.le_refl _) (by omega) (by omega) fun b w hS => ?_
  rw [Int.toNat_natCast] at hS ⊢
  have hS : St W (Row b 4 ((List.replicate ts.length false).flatMap bV) :: [ClockA cq G, Base W]) w := by
    have e : (List.replicate ts.length false).flatMap bV = List.replicate ts.length (.bool false) := by
      rw [show (List.replicate ts.length false).flatMap bV = (List.replicate ts.length false).map Value.bool from flat_one Value.bool _, List.map_replicate]
    rw [e]; exact hS
  have hS := SlA.of_row (os := List.replicate ts.length false) bV1 hS
  have hL : LeftOk ts (List.replicate ts.length false) G.al := ⟨by simp, fun j t => by
    rw [hGg]
    constructor
    · rintro ⟨k, x, e1, e2, e3, e4⟩
      exact ⟨k, x, e1, e3, by rw [List.getElem?_replicate, if_pos e2], e4⟩
    · rintro ⟨k, x, e1, e2, _, e4⟩
      exact ⟨k, x, e1, (List.getElem?_eq_some_iff.1 e2).1, e2, e4⟩⟩
  have hcg : (List.replicate ts.length false).length = ts.length := by simp
  rw [hcg] at hS
  clear hcg
  generalize List.replicate ts.length false = gs at hS hL
  refine ⟨fun vs w => ∃ (i : Nat) (last : Int) (G : ClG) (gs : List Bool), vs = [.int .i64 last, .int .i64 i] ∧ i ≤ ss.length + 1 ∧ (i ≤ ss.length → G.now ≤ 255 * i) ∧ (i = ss.length + 1 → G.al = []) ∧ last ≤ G.now ∧ LeftOk ts gs G.al ∧ St W [SlA 4 1 bV (some ⟨b, 0, none⟩) ts.length gs, ClockA cq G, Base W] w, leftN (ss.length + 1), ⟨0, 0, G, gs, rfl, by omega, by omega, by omega, by omega, hL, hS⟩, fun last x w hI => ?_⟩
  clear hS hL
  obtain ⟨i, last, G, gs, he, hi, hnow, hend, hlast, hL, hS⟩ := hI
  cases he
  refine Bif.i (fun hle => ?_) fun hgt => ?_
  · have hle : i ≤ ss.length := by have := of_decide_eq_true hle; omega
    have hnow := hnow hle
    have hG := ClockA.ok hS.p1
    have hn0 := hG.now0
    refine ⟨fun vs w => ∃ n : Int, vs = [.int .i64 n] ∧ 0 ≤ n ∧ n ≤ 70000 ∧ (i < ss.length → n ≤ 255) ∧ (i = ss.length → n = 70000) ∧ St W [SlA 4 1 bV (some ⟨b, 0, none⟩) ts.length gs, ClockA cq G, Base W] w, Bif.i (fun hlt => ?_) fun hge => ?_, fun n w hJ => ?_⟩
    · have hlt : i < ss.length := by have := of_decide_eq_true hlt; omega
      have hx : ss[i]? = some (ss[i]'hlt) := List.getElem?_eq_getElem _
      have hwf := u8_wf (hok2 _ (List.getElem_mem hlt))
      generalize ss[i]'hlt = x at hx hwf
      refine IxP.one ((hr2.cons _).cons _) hS rfl hlt (map_get hx) fun a ha => LdI.at ha ?_
      rw [w64 (n := x) (by omega) (by omega)]
      exact ⟨x, rfl, by omega, by omega, fun _ => by omega, fun h => by omega, hS⟩
    · have hge := of_decide_eq_false hge
      exact ⟨70000, rfl, by omega, by omega, fun _ => by omega, fun _ => rfl, hS⟩
    obtain ⟨n', he, hn1, hn2, hn3, hn4, hS⟩ := hJ
    cases he
    have hmany := hG.many
    have t1 := tick_ok (G := G) (n := n) hn1 (by omega)
    refine (Now_spec hS.p1).of fun v w ⟨hv, hS⟩ => ⟨_, hv, ?_⟩
    refine (Tick_spec n (by omega) hS).of fun v w ⟨p1, c1, hv, hS⟩ => ⟨_, _, _, _, hv, ?_⟩
    rw [t1] at hS ⊢
    dsimp only at hS ⊢
    have hperm := two_perm (G.now + n) G.al
    have hD : ∀ x ∈ G.al.filter (fun x => decide (x.2 ≤ G.now + n)), x.2 ≤ G.now + n := fun x hx => by simpa using (List.mem_filter.1 hx).2
    have hDw : ∀ x ∈ G.al.filter (fun x => decide (x.2 ≤ G.now + n)), G.now < x.2 := fun x hx => (hG.late x (List.mem_filter.1 hx).1).1
    have hDs := hG.srt.1.sublist (List.filter_sublist (p := fun x => decide (x.2 ≤ G.now + n)) (l := G.al))
    have hDl : (G.al.filter (fun x => decide (x.2 ≤ G.now + n))).length ≤ 1024 := Nat.le_trans (List.length_filter_le _ _) hmany
    have hR : i = ss.length → G.al.filter (fun x => decide (¬ x.2 ≤ G.now + n)) = [] := fun e => by
      rw [List.filter_eq_nil_iff]
      intro x hx
      obtain ⟨k, y, _, f2, _, f4⟩ := (hL.mem x.1 x.2).1 hx
      have := hts f2
      have := hn4 e
      simp only [decide_eq_true_eq, Classical.not_not]
      omega
    have hnd : ((G.al.filter (fun x => decide (x.2 ≤ G.now + n)) ++ G.al.filter (fun x => decide (¬ x.2 ≤ G.now + n))).map (·.1)).Nodup := (hperm.map (fun x : Al => x.1)).nodup_iff.2 hG.srt.2
    have hL := hL.congr fun x => (hperm.mem_iff (a := x)).symm
    generalize G.al.filter (fun x => decide (x.2 ≤ G.now + n)) = D at hS hperm hD hDw hDs hDl hnd hL ⊢
    generalize G.al.filter (fun x => decide (¬ x.2 ≤ G.now + n)) = R at hS hperm hR hnd hL
    refine Bif.no rfl ((Now_spec hS).of fun v w ⟨hv, hS⟩ => ⟨_, hv, ?_⟩)
    rw [w64 (n := G.now + n) (by omega) (by omega)]
    refine Bif.no (by simp) ?_
    have hS : St W [SlA 4 1 bV (some ⟨b, 0, none⟩) ts.length gs, ClockA cq ⟨G.now + n, R⟩, SlA 3 1 iV p1 c1 (D.map (fun x : Al => x.1)), Base W] w := hS.p2
    generalize hT : G.now + n = T at hS hD ⊢
    refine ⟨fun vs w => ∃ (k : Nat) (last : Int) (gs : List Bool), vs = [.int .i64 last, .int .i64 k] ∧ k ≤ D.length ∧ (∀ x ∈ D.drop k, last ≤ x.2) ∧ (last ≤ T) ∧ (∀ x ∈ D.take k, ∃ (m : Nat) (y : Int), x = ((m : Int), 1 + y) ∧ ts[m]? = some y) ∧ LeftOk ts gs (D.drop k ++ R) ∧ St W [SlA 4 1 bV (some ⟨b, 0, none⟩) ts.length gs, ClockA cq ⟨T, R⟩, SlA 3 1 iV p1 c1 (D.map (fun x : Al => x.1)), Base W] w, leftN D.length, ⟨0, last, gs, rfl, by omega, fun x hx => ?_, by omega, by simp, hL, hS⟩, fun last x w hI => ?_⟩
    · have := hDw x (by simpa using hx)
      omega
    clear hS hL hlast
    obtain ⟨k, last, gs, he, hk, hlast, hlT, htk, hL, hS⟩ := hI
    cases he
    have hrD : Rd [SlA 4 1 bV (some ⟨b, 0, none⟩) ts.length gs, ClockA cq ⟨T, R⟩, SlA 3 1 iV p1 c1 (D.map (fun x : Al => x.1)), Base W] p1 ((D.map (fun x : Al => x.1)).flatMap iV) := Rd.n 2 rfl fun F => SlA.rd F
    have hrT : Rd [SlA 4 1 bV (some ⟨b, 0, none⟩) ts.length gs, ClockA cq ⟨T, R⟩, SlA 3 1 iV p1 c1 (D.map (fun x : Al => x.1)), Base W] p (ts.map (Value.int .u16)) := ((hr.cons _).cons _).cons _
    rw [List.length_map]
    refine Bif.i (fun hlt => ?_) fun hge => ?_
    · have hlt : k < D.length := by have := of_decide_eq_true hlt; omega
      have hx : D[k]? = some (D[k]'hlt) := List.getElem?_eq_getElem _
      have hdk : D.drop k = D[k]'hlt :: D.drop (k + 1) := List.drop_eq_getElem_cons hlt
      generalize D[k]'hlt = x at hx hdk
      have hxm := List.mem_of_getElem? hx
      rw [hdk] at hL hlast
      have hnd2 : ((x :: (D.drop (k + 1) ++ R)).map (fun x : Al => x.1)).Nodup := by
        refine hnd.sublist ((List.Sublist.map _ ?_))
        rw [← List.cons_append, ← hdk]
        exact (List.drop_sublist k D).append_right R
      obtain ⟨m, y, rfl, hy, hgm, hL2⟩ := hL.step hnd2
      have hy0 := hts hy
      have hml : m < ts.length := (List.getElem?_eq_some_iff.1 hy).1
      have hw0 : G.now < 1 + y := hDw _ hxm
      have hw1 : 1 + y ≤ T := hD _ hxm
      have hl0 : last ≤ 1 + y := hlast _ List.mem_cons_self
      have hid : (D.map (fun x : Al => x.1))[k]? = some (m : Int) := by rw [List.getElem?_map, hx]; rfl
      have fin : ∀ w, St W [SlA 4 1 bV (some ⟨b, 0, none⟩) ts.length gs, ClockA cq ⟨T, R⟩, SlA 3 1 iV p1 c1 (D.map (fun x : Al => x.1)), Base W] w →
          IxP (some ⟨b, 0, none⟩) ts.length (m : Int) 1 fun a => St1 a (.bool true) w fun w' => (∃ (k' : Nat) (last : Int) (gs : List Bool), [Value.int .i64 (1 + y), Value.int .i64 (IntKind.wrap .i64 ((k : Int) + 1))] = [.int .i64 last, .int .i64 k'] ∧ k' ≤ D.length ∧ (∀ x ∈ D.drop k', last ≤ x.2) ∧ (last ≤ T) ∧ (∀ x ∈ D.take k', ∃ (m : Nat) (y : Int), x = ((m : Int), 1 + y) ∧ ts[m]? = some y) ∧ LeftOk ts gs (D.drop k' ++ R) ∧ St W [SlA 4 1 bV (some ⟨b, 0, none⟩) ts.length gs, ClockA cq ⟨T, R⟩, SlA 3 1 iV p1 c1 (D.map (fun x : Al => x.1)), Base W] w') ∧ leftN D.length [Value.int .i64 (1 + y), Value.int .i64 (IntKind.wrap .i64 ((k : Int) + 1))] w' < leftN D.length [Value.int .i64 last, Value.int .i64 (k : Int)] w := fun w hS => by
        rw [up hlt (by omega)]
        refine put_b hS (by rw [hL.len]; exact hml) hL.len.symm fun w hS => ⟨⟨k + 1, 1 + y, _, rfl, by omega, fun z hz => ?_, hw1, fun z hz => ?_, hL2, hS⟩, by show D.length - (k + 1) < D.length - k; omega⟩
        · have h3 : D.drop k = ((m : Int), 1 + y) :: D.drop (k + 1) := hdk
          have h4 := hDs.sublist (List.drop_sublist k D)
          rw [h3] at h4
          have h5 : 1 + y < z.2 ∨ (1 + y = z.2 ∧ (m : Int) ≤ z.1) := (List.pairwise_cons.1 h4).1 z hz
          omega
        · rw [List.take_add_one, hx] at hz
          rcases List.mem_append.1 hz with hz | hz
          · exact htk z hz
          · simp at hz; subst hz
            exact ⟨m, y, rfl, hy⟩
      refine IxP.one hrD hS rfl hlt (iV_get hid) fun a ha => LdI.at ha (Bif.no (decide_eq_false (by omega)) (Bif.no (decide_eq_false (by omega)) ?_))
      refine IxP.one (Rd.n 0 rfl fun F => SlA.rd F) hS rfl hml (bV_get hgm) fun a ha => LdB.at ha (Bif.no rfl ?_)
      refine IxP.one hrT hS rfl hml (map_get hy) fun a ha => LdI.at ha ?_
      rw [w64 (n := y) (by omega) (by omega), w64 (n := 1 + y) (by omega) (by omega)]
      refine Bif.no (decide_eq_false (by omega)) ((Now_spec hS.p1).of fun v w ⟨hv, hS⟩ => ⟨_, hv, Bif.no (decide_eq_false (by dsimp only; omega)) (Bif.no (decide_eq_false (by omega)) ?_)⟩)
      have hS : St W [SlA 4 1 bV (some ⟨b, 0, none⟩) ts.length gs, ClockA cq ⟨T, R⟩, SlA 3 1 iV p1 c1 (D.map (fun x : Al => x.1)), Base W] w := hS.p1
      refine Bif.i (fun hk0 => ?_) fun hk0 => fin w hS
      have hk0 : 0 < k := by have := of_decide_eq_true hk0; omega
      have hp : D[k - 1]? = some (D[k - 1]'(by omega)) := List.getElem?_eq_getElem _
      have hpm : D[k - 1]'(by omega) ∈ D.take k := by
        rw [List.mem_take_iff_getElem]
        exact ⟨k - 1, by omega, rfl⟩
      have hle2 : leA (D[k - 1]'(by omega)) (D[k]'hlt) := List.pairwise_iff_getElem.1 hDs _ _ _ _ (by omega)
      have hxk : D[k]'hlt = ((m : Int), 1 + y) := by
        have := List.getElem?_eq_getElem hlt
        rw [hx] at this
        exact (Option.some.inj this).symm
      rw [hxk] at hle2
      generalize D[k - 1]'(by omega) = z at hp hpm hle2
      obtain ⟨m2, y2, rfl, hy2⟩ := htk z hpm
      have hy20 := hts hy2
      have hml2 : m2 < ts.length := (List.getElem?_eq_some_iff.1 hy2).1
      have hid2 : (D.map (fun x : Al => x.1))[k - 1]? = some (m2 : Int) := by rw [List.getElem?_map, hp]; rfl
      have ek : IntKind.wrap .i64 ((k : Int) - 1) = ((k - 1 : Nat) : Int) := by rw [w64 (by omega) (by omega)]; omega
      rw [ek]
      refine IxP.one hrD hS rfl (by omega) (iV_get hid2) fun a ha => LdI.at ha ?_
      refine IxP.one hrT hS rfl hml2 (map_get hy2) fun a ha => LdI.at ha ?_
      rw [w64 (n := y2) (by omega) (by omega), w64 (n := 1 + y2) (by omega) (by omega)]
      refine Bif.i (fun heq => ?_) fun hne => fin w hS
      have heq : 1 + y = 1 + y2 := by simpa using heq
      refine IxP.one hrD hS rfl (by omega) (iV_get hid2) fun a ha => LdI.at ha (Bif.no (decide_eq_false ?_) (fin w hS))
      have h5 : 1 + y2 < 1 + y ∨ (1 + y2 = 1 + y ∧ (m2 : Int) ≤ (m : Int)) := hle2
      omega
    · have hkD : k = D.length := by have := of_decide_eq_false hge; omega
      subst hkD
      rw [List.drop_length, List.nil_append] at hL
      rw [show IntKind.wrap .i64 ((i : Int) + 1) = ((i + 1 : Nat) : Int) by rw [w64 (by omega) (by omega)]; omega]
      refine ⟨⟨i + 1, last, ⟨T, R⟩, gs, rfl, by omega, fun h => ?_, fun h => hR (by omega), hlT, hL, St.del 2 hS rfl⟩, by show ss.length + 1 - (i + 1) < ss.length + 1 - i; omega⟩
      have := hn3 (by omega)
      show T ≤ _
      omega
  · have hi2 : i = ss.length + 1 := by have := of_decide_eq_false hgt; omega
    have hal := hend hi2
    rw [hal] at hL
    refine ⟨fun vs w => ∃ k : Nat, vs = [.int .i64 k] ∧ k ≤ ts.length ∧ St W [SlA 4 1 bV (some ⟨b, 0, none⟩) ts.length gs, ClockA cq G, Base W] w, leftN ts.length, ⟨0, rfl, by omega, hS⟩, fun x w hI => ?_⟩
    clear hS
    obtain ⟨k, he, hk, hS⟩ := hI
    cases he
    refine Bif.i (fun hlt => ?_) fun hge => ?_
    · have hlt : k < ts.length := by have := of_decide_eq_true hlt; omega
      have hg : gs[k]? = some (gs[k]'(by rw [hL.len]; exact hlt)) := List.getElem?_eq_getElem _
      have hb := hL.none hg
      rw [hb] at hg
      refine IxP.one (Rd.n 0 rfl fun F => SlA.rd F) hS rfl hlt (bV_get hg) fun a ha => LdB.at ha (Bif.no rfl ?_)
      rw [up hlt (by omega)]
      exact ⟨⟨k + 1, rfl, by omega, hS⟩, by show ts.length - (k + 1) < ts.length - k; omega⟩
    · refine Bif.yes rfl ((Many_spec hS.p1).of fun v w ⟨hv, hS⟩ => ⟨_, hv, ?_, _, hS.p2⟩)
      rw [hal]; rfl
end
end Go.Proofs.Ytgmpnonjhpopdaa
