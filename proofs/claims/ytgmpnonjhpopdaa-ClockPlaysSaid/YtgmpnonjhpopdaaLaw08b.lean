/-
  The walks of the laws of alarms: more.
-/
import Derived.Test.YtgmpnonjhpopdaaLaw08
set_option linter.unusedVariables false
set_option linter.unusedSimpArgs false
namespace Go.Proofs.Ytgmpnonjhpopdaa
open Go
/-! ### Plain -/
theorem get_ins {l : List Al} (h : Srt l) (id tm j : Int) : getA (insA (id, tm) (delA l id)) j = if j = id then some tm else getA l j := by
  have hs : Srt (insA (id, tm) (delA l id)) := insA_srt (delA_srt h id) fun y hy => (delA_mem.1 hy).2
  by_cases e : j = id
  · rw [if_pos e, find_mem hs.2, insA_mem, e]; exact .inl rfl
  · rw [if_neg e]
    cases hg : getA l j with
    | none =>
      rw [get_none]
      intro x hx
      rcases insA_mem.1 hx with rfl | hx
      · exact Ne.symm e
      · exact get_none.1 hg x (delA_mem.1 hx).1
    | some t =>
      rw [find_mem hs.2, insA_mem]
      exact .inr (delA_mem.2 ⟨(find_mem h.2).1 hg, e⟩)
theorem get_del {l : List Al} (h : Srt l) (id j : Int) : getA (delA l id) j = if j = id then none else getA l j := by
  have hs := delA_srt h id
  by_cases e : j = id
  · rw [if_pos e, get_none, e]
    intro x hx; exact (delA_mem.1 hx).2
  · rw [if_neg e]
    cases hg : getA l j with
    | none => rw [get_none]; intro x hx; exact get_none.1 hg x (delA_mem.1 hx).1
    | some t => rw [find_mem hs.2]; exact delA_mem.2 ⟨(find_mem h.2).1 hg, e⟩
theorem len_del {l : List Al} (h : Srt l) (id : Int) : (delA l id).length + (if (getA l id).isSome then 1 else 0) = l.length := by
  cases hg : getA l id with
  | none => rw [delA_none hg]; rfl
  | some t =>
    have hm := (find_mem h.2).1 hg
    obtain ⟨i, hi⟩ := List.getElem?_of_mem hm
    have hp := erase_perm l i hi
    have := (del_cons hp.symm h.2).length_eq
    have h2 := hp.length_eq
    simp only [List.length_cons] at h2
    rw [this]
    show _ + 1 = _
    omega
theorem len_ins {l : List Al} (h : Srt l) (id tm : Int) : (insA (id, tm) (delA l id)).length = if (getA l id).isSome then l.length else l.length + 1 := by
  have h1 := len_del h id
  rw [(insA_perm _ _).length_eq, List.length_cons]
  split at h1 <;> rename_i hc
  · rw [if_pos hc]; omega
  · rw [if_neg hc]; omega
theorem filter_steps {a b : Int} (hab : a ≤ b) : ∀ {l : List Al}, l.Pairwise leA → l.filter (fun x => decide (x.2 ≤ b)) = l.filter (fun x => decide (x.2 ≤ a)) ++ (l.filter (fun x => decide (¬ x.2 ≤ a))).filter (fun x => decide (x.2 ≤ b))
  | [], _ => rfl
  | x :: r, h => by
    have h' := List.pairwise_cons.1 h
    by_cases hx : x.2 ≤ a
    · rw [List.filter_cons_of_pos (by simp; omega), List.filter_cons_of_pos (by simpa using hx), List.filter_cons_of_neg (by simpa using hx), filter_steps hab h'.2]; rfl
    · have hall : ∀ y ∈ x :: r, ¬ y.2 ≤ a := fun y hy => by
        rcases List.mem_cons.1 hy with rfl | hy
        · exact hx
        · have h3 : x.2 < y.2 ∨ (x.2 = y.2 ∧ x.1 ≤ y.1) := h'.1 y hy
          omega
      have e1 : (x :: r).filter (fun x => decide (x.2 ≤ a)) = [] := List.filter_eq_nil_iff.2 (fun y hy => by simpa using hall y hy)
      have e2 : (x :: r).filter (fun x => decide (¬ x.2 ≤ a)) = x :: r := List.filter_eq_self.2 (fun y hy => by simpa using hall y hy)
      rw [e1, e2, List.nil_append]
theorem filter_late {a b : Int} (hab : a ≤ b) (l : List Al) : (l.filter (fun x => decide (¬ x.2 ≤ a))).filter (fun x => decide (¬ x.2 ≤ b)) = l.filter (fun x => decide (¬ x.2 ≤ b)) := by
  rw [List.filter_filter]
  refine List.filter_congr fun x _ => ?_
  by_cases h : x.2 ≤ b
  · simp [h]
  · simp [h]; omega
theorem tick_ok {G : ClG} {n : Int} (h0 : 0 ≤ n) (h1 : n ≤ maxN - G.now) : cTick G n = (⟨G.now + n, G.al.filter fun x => decide (¬ x.2 ≤ G.now + n)⟩, (G.al.filter fun x => decide (x.2 ≤ G.now + n)).map (·.1), 0) := by
  unfold cTick; rw [if_neg (by omega)]
/-- Whether a number goes. -/
theorem out_mem {G : ClG} (h : Srt G.al) (t id : Int) : id ∈ (G.al.filter fun x => decide (x.2 ≤ t)).map (fun x : Al => x.1) ↔ ∃ tm, getA G.al id = some tm ∧ tm ≤ t := by
  rw [List.mem_map]
  constructor
  · rintro ⟨x, hx, rfl⟩
    obtain ⟨h1, h2⟩ := List.mem_filter.1 hx
    exact ⟨x.2, (find_mem h.2).2 h1, by simpa using h2⟩
  · rintro ⟨tm, h1, h2⟩
    exact ⟨(id, tm), List.mem_filter.2 ⟨(find_mem h.2).1 h1, by simpa using h2⟩, rfl⟩
theorem get_late {l : List Al} (h : Srt l) (t id : Int) : getA (l.filter fun x => decide (¬ x.2 ≤ t)) id = (getA l id).filter fun tm => decide (¬ tm ≤ t) := by
  have hs : (l.filter fun x => decide (¬ x.2 ≤ t)).Sublist l := List.filter_sublist
  have hn := h.2.sublist (hs.map (fun x : Al => x.1))
  cases hg : getA l id with
  | none => rw [Option.filter_none, get_none]; intro x hx; exact get_none.1 hg x (List.mem_filter.1 hx).1
  | some tm =>
    have hm := (find_mem h.2).1 hg
    by_cases ht : tm ≤ t
    · rw [Option.filter_some, if_neg (by simpa using ht), get_none]
      intro x hx e
      obtain ⟨h1, h2⟩ := List.mem_filter.1 hx
      have : getA l x.1 = some x.2 := (find_mem h.2).2 h1
      rw [e, hg] at this
      have := Option.some.inj this
      simp at h2
      omega
    · rw [Option.filter_some, if_pos (by simpa using ht), find_mem hn]
      exact List.mem_filter.2 ⟨hm, by simpa using ht⟩

section
variable {W : World}
theorem Full_walk (many : Int) (wm : (Lit.int .u16 many).wf = true) (id : Int) (wi : (Lit.int .u16 id).wf = true) :
    CallR Try.prog 7 #[.int .u16 many, .int .u16 id] W fun v w' => v = .bool true ∧ ∃ r, St W (Base W :: r) w' := by
  have hm := u16_wf wm
  have hid := u16_wf wi
  obtain ⟨n, hn, hn2⟩ : ∃ n : Nat, Int.tmod many 1100 = (n : Int) ∧ n < 1100 := ⟨(many % 1100).toNat, by rw [Int.tmod_eq_emod_of_nonneg (by omega)]; omega, by omega⟩
  refine F7_of ((head_spec (St.base W)).of fun v w ⟨hv, hS⟩ => ⟨_, hv, (New_spec hS).of fun v w ⟨q, hv, hS⟩ => ⟨_, hv, Bif.no rfl ⟨by decide, ?_⟩⟩⟩)
  rw [hn, w64 (n := (n : Int)) (by omega) (by omega), w64 (n := id) (by omega) (by omega)]
  refine ⟨fun vs w => ∃ (i : Nat) (G : ClG), vs = [.int .i64 i] ∧ i ≤ n ∧ G.now = 0 ∧ G.al.length = min i 1024 ∧ (∀ j : Int, (getA G.al j).isSome = true ↔ 0 ≤ j ∧ j < min i 1024) ∧ St W [ClockA q G, Base W] w, leftN n, ⟨0, _, rfl, by omega, rfl, rfl, fun j => by simp [getA], hS⟩, fun x w hI => ?_⟩
  obtain ⟨i, G, he, hi, hG0, hGl, hGg, hS⟩ := hI
  cases he
  have hG := ClockA.ok hS
  refine Bif.i (fun hlt => ?_) fun hge => ?_
  · have hlt : i < n := by have := of_decide_eq_true hlt; omega
    rw [w64 (n := 5 + (i : Int)) (by omega) (by omega)]
    have hgi : getA G.al (i : Int) = none := by
      cases hg : getA G.al (i : Int) with
      | none => rfl
      | some t =>
        have h1 := (hGg i).1 (by rw [hg]; rfl)
        omega
    have hset : cSet G i (5 + i) = if i < 1024 then (⟨G.now, insA ((i : Int), 5 + (i : Int)) (delA G.al i)⟩, 0) else (G, 2) := by
      unfold cSet
      rw [if_neg (by rw [hG0]; omega), hgi, hGl]
      by_cases h4 : i < 1024
      · rw [if_neg (by rintro ⟨_, h⟩; omega), if_pos h4]
      · rw [if_pos ⟨rfl, by omega⟩, if_neg h4]
    refine (Set_spec i (5 + i) hS).of fun v w ⟨hv, hS⟩ => ⟨_, hv, ?_⟩
    rw [hset] at hS ⊢
    by_cases h4 : i < 1024
    · rw [if_pos h4] at hS ⊢
      dsimp only
      generalize hd1 : decide ((i : Int) < 1024) = d1
      generalize hd2 : decide ((i : Int) ≥ 1024) = d2
      refine Bif.no (by first | (rw [← hd1, decide_eq_true (by omega)]; rfl) | (rw [← hd1, decide_eq_false (by omega)]; rfl)) (Bif.no (by first | (rw [← hd2, decide_eq_true (by omega)]; rfl) | (rw [← hd2, decide_eq_false (by omega)]; rfl)) ?_)
      rw [up hlt (by omega)]
      refine ⟨⟨i + 1, ⟨G.now, insA ((i : Int), 5 + (i : Int)) (delA G.al i)⟩, rfl, by omega, hG0, ?_, fun j => ?_, hS⟩, by show n - (i + 1) < n - i; omega⟩
      · show (insA ((i : Int), 5 + (i : Int)) (delA G.al i)).length = _
        rw [len_ins hG.srt, hgi, if_neg (by simp)]; omega
      · show (getA (insA ((i : Int), 5 + (i : Int)) (delA G.al i)) j).isSome = true ↔ _
        rw [get_ins hG.srt]
        by_cases e : j = i
        · rw [if_pos e, e]; simp; omega
        · rw [if_neg e, hGg j]; omega
    · rw [if_neg h4] at hS ⊢
      dsimp only
      generalize hd1 : decide ((i : Int) < 1024) = d1
      generalize hd2 : decide ((i : Int) ≥ 1024) = d2
      refine Bif.no (by first | (rw [← hd1, decide_eq_true (by omega)]; rfl) | (rw [← hd1, decide_eq_false (by omega)]; rfl)) (Bif.no (by first | (rw [← hd2, decide_eq_true (by omega)]; rfl) | (rw [← hd2, decide_eq_false (by omega)]; rfl)) ?_)
      rw [up hlt (by omega)]
      exact ⟨⟨i + 1, G, rfl, by omega, hG0, by rw [hGl]; omega, fun j => by rw [hGg j]; omega, hS⟩, by show n - (i + 1) < n - i; omega⟩
  have hi2 : i = n := by have := of_decide_eq_false hge; omega
  subst hi2
  have hmin : (if (1024 : Int) < (i : Int) then (1024 : Int) else (i : Int)) = ((min i 1024 : Nat) : Int) := by split <;> omega
  rw [hmin]
  have hgid : (getA G.al id).isSome = decide (id < ((min i 1024 : Nat) : Int)) := by
    rw [Bool.eq_iff_iff, hGg id, decide_eq_true_eq]; omega
  refine (Set_spec id 3 hS).of fun v w ⟨hv, hS⟩ => ⟨_, hv, ?_⟩
  have hG' := ClockA.ok hS
  by_cases hok : id < ((min i 1024 : Nat) : Int) ∨ i < 1024
  · have hset : cSet G id 3 = (⟨G.now, insA (id, 3) (delA G.al id)⟩, 0) := by
      unfold cSet
      rw [if_neg (by rw [hG0]; omega), if_neg]
      rintro ⟨h1, h2⟩
      rw [hGl] at h2
      rcases hok with hok | hok
      · rw [decide_eq_true hok] at hgid
        cases hg : getA G.al id with
        | none => rw [hg] at hgid; cases hgid
        | some t => rw [hg] at h1; cases h1
      · omega
    have hgn := get_ins hG.srt id 3 id
    rw [if_pos rfl] at hgn
    rw [hset] at hS hG' ⊢
    dsimp only
    generalize hd1 : decide ((i : Int) < 1024) = d1
    refine ⟨fun vs w => vs = [] ∧ St W [ClockA q ⟨G.now, insA (id, 3) (delA G.al id)⟩, Base W] w, Bif.i (fun h => Bif.no rfl ?_) fun h => Bif.no ?_ ?_, fun w hJ => ?_⟩
    · exact (Many_spec hS).of fun v w ⟨hv, hS⟩ => ⟨_, hv, by
      try dsimp only
      exact Bif.no (decide_eq_false (by have := hG'.many; (try dsimp only at this); (try dsimp only); omega)) ⟨rfl, hS⟩⟩
    · have h := of_decide_eq_false h
      rw [← hd1, decide_eq_true (by omega)]; rfl
    · exact (Many_spec hS).of fun v w ⟨hv, hS⟩ => ⟨_, hv, by
      try dsimp only
      exact Bif.no (decide_eq_false (by have := hG'.many; (try dsimp only at this); (try dsimp only); omega)) ⟨rfl, hS⟩⟩
    have hS := hJ.2
    refine (At_spec id hS).of fun v w ⟨hv, hS⟩ => ⟨_, _, hv, Bif.yes rfl (Bif.no rfl ?_)⟩
    dsimp only
    rw [hgn]
    exact Bif.yes rfl ⟨rfl, _, hS.p1⟩
  · have hset : cSet G id 3 = (G, 2) := by
      unfold cSet
      rw [if_neg (by rw [hG0]; omega), if_pos]
      refine ⟨?_, by rw [hGl]; omega⟩
      rw [decide_eq_false (fun h => hok (.inl h))] at hgid
      cases hg : getA G.al id with
      | none => rfl
      | some t => rw [hg] at hgid; cases hgid
    rw [hset] at hS hG' ⊢
    dsimp only
    generalize hd1 : decide ((i : Int) < 1024) = d1
    refine ⟨fun vs w => vs = [] ∧ St W [ClockA q G, Base W] w, Bif.i (fun h => ?_) fun h => Bif.no ?_ ?_, fun w hJ => ?_⟩
    · have h := of_decide_eq_true h
      exact absurd (.inl h) hok
    · rw [← hd1, decide_eq_false (by omega)]; rfl
    · exact (Many_spec hS).of fun v w ⟨hv, hS⟩ => ⟨_, hv, by
      try dsimp only
      exact Bif.no (decide_eq_false (by have := hG'.many; omega)) ⟨rfl, hS⟩⟩
    have hS := hJ.2
    exact (At_spec id hS).of fun v w ⟨hv, hS⟩ => ⟨_, _, hv, Bif.yes rfl (Bif.yes rfl ⟨rfl, _, hS.p1⟩)⟩
theorem opD_at {os : List OpD} {i j : Nat} {o : OpD} {v : Value} (hx : os[i]? = some o) (hj : (opCells o)[j]? = some v) {p : Option Addr} (hr : Rd [Base W] p (os.flatMap opCells)) {n : Nat} (hn : i < n) {K : Addr → Prop} (hK : ∀ a, (∀ {l : List Asn} {w : World} {j : Nat} {v : Value}, (opCells o)[j]? = some v → Base W ∈ l → St W l w → w.cell? (a.add j) = some v) → K a) : IxP p n (i : Int) 3 K := by
  have h0 : (os.flatMap opCells)[i * 3]? = some (.int .i64 o.what) := by
    have := flat_at op3 (i := i) (j := 0) hx (v := .int .i64 o.what) rfl
    simpa using this
  refine IxP.i hr (St.base W) rfl hn h0 fun a ha => hK _ fun {l w j v} hj hm hS => ?_
  exact (hr.mem hm).at2 hS ha (flat_at op3 hx hj)
theorem Dropped_walk {p : Option Addr} {os : List OpD} {c : Nat} (hr : Rd [Base W] p (os.flatMap opCells)) (hc : os.length ≤ c) (hcm : c ≤ 9223372036854775807) (hok : ∀ o ∈ os, OpOk o)
    (id : Int) (wi : (Lit.int .i64 id).wf = true) (one : Int) (w1 : (Lit.int .u8 one).wf = true) (two : Int) (w2 : (Lit.int .u8 two).wf = true) :
    CallR Try.prog 6 #[.slice p os.length c, .int .i64 id, .int .u8 one, .int .u8 two] W fun v w' => v = .bool true ∧ ∃ r, St W (Base W :: r) w' := by
  have h1 := u8_wf w1
  have h2 := u8_wf w2
  refine F6_of ((head_spec (St.base W)).of fun v w ⟨hv, hS⟩ => ⟨_, hv, (New_spec hS).of fun v w ⟨q, hv, hS⟩ => ⟨_, hv, Bif.no rfl ?_⟩⟩)
  refine Bif.i (fun h => Bif.yes rfl ⟨rfl, _, hS.drop⟩) fun h => ?_
  have h := of_decide_eq_false h
  refine ⟨fun vs w => ∃ (i : Nat) (G : ClG), vs = [.int .i64 i] ∧ i ≤ os.length ∧ G.now = 0 ∧ G.al.length ≤ i ∧ St W [ClockA q G, Base W] w, leftN os.length, ⟨0, _, rfl, by omega, rfl, by simp, hS⟩, fun x w hI => ?_⟩
  obtain ⟨i, G, he, hi, hG0, hGl, hS⟩ := hI
  cases he
  have hG := ClockA.ok hS
  have hmx : maxN = 1099511627776 := rfl
  refine Bif.i (fun hlt => ?_) fun hge => ?_
  · have hlt : i < os.length := by have := of_decide_eq_true hlt; omega
    have hx : os[i]? = some (os[i]'hlt) := List.getElem?_eq_getElem _
    generalize os[i]'hlt = o at hx
    have hC := Is.refl W [ClockA q G, Base W]
    refine ⟨StC W _, StC.start hS, opD_at (j := 0) hx rfl hr hlt fun a17 h17 => opD_at (j := 0) hx rfl hr hlt fun a18 h18 => ⟨o.id, QtI.at fun G' w hw => h17 (j := 1) rfl (by simp) ((hC G' w).1 hw), o.n, QtI.at fun G' w hw => h18 (j := 2) rfl (by simp) ((hC G' w).1 hw), ?_⟩⟩
    refine Ef.n0 (α := Unit) (V := fun _ => .int .i64 (cSet G o.id o.n).2) (B := fun _ => [ClockA q (cSet G o.id o.n).1, Base W]) () hC (fun G' w h => (Set_spec o.id o.n h).of fun v w' ⟨hv, h⟩ => ⟨_, hv, (), rfl, h⟩) fun _ => ⟨_, rfl, trivial, fun G' w h => ?_⟩
    rw [up hlt (by omega)]
    refine ⟨⟨i + 1, _, rfl, by omega, ?_, ?_, StC.ends h⟩, by show os.length - (i + 1) < os.length - i; omega⟩
    · unfold cSet
      split
      · exact hG0
      · split <;> exact hG0
    · unfold cSet
      split
      · show G.al.length ≤ i + 1; omega
      · split
        · show G.al.length ≤ i + 1; omega
        · show (insA (o.id, o.n) (delA G.al o.id)).length ≤ i + 1
          rw [len_ins hG.srt]
          split <;> omega
  have hi2 : i = os.length := by have := of_decide_eq_false hge; omega
  subst hi2
  have gd := fun j => get_del hG.srt id j
  have hl1 : (delA G.al id).length ≤ 200 := Nat.le_trans (delA_sub G.al id).length_le (by omega)
  refine (Drop_spec id hS).of fun v w ⟨hv, hS⟩ => ⟨_, hv, ?_⟩
  have e1 : (cDrop G id).1 = ⟨0, delA G.al id⟩ := by unfold cDrop; rw [hG0]
  rw [e1] at hS
  have hG1 := ClockA.ok hS
  generalize delA G.al id = L1 at hS hG1 gd hl1
  refine (At_spec id hS).of fun v w ⟨hv, hS⟩ => ⟨_, _, hv, ?_⟩
  have g1 : getA L1 id = none := by rw [gd, if_pos rfl]
  rw [w64 (n := one) (by omega) (by omega), w64 (n := two) (by omega) (by omega), w64 (n := 1 + one) (by omega) (by omega), w64 (n := 1 + two) (by omega) (by omega)]
  have s1 : cSet ⟨0, L1⟩ id (1 + one) = (⟨0, insA (id, 1 + one) (delA L1 id)⟩, 0) := by
    unfold cSet
    dsimp only
    rw [if_neg (by omega), if_neg (by rintro ⟨_, h⟩; omega)]
  have gi := fun j => get_ins hG1.srt id (1 + one) j
  have li := len_ins hG1.srt id (1 + one)
  refine (Set_spec id (1 + one) hS).of fun v w ⟨hv, hS⟩ => ⟨_, hv, ?_⟩
  rw [s1] at hS
  have hG2 := ClockA.ok hS
  rw [g1] at li
  dsimp only at hS hG2 gi li
  generalize insA (id, 1 + one) (delA L1 id) = L2 at hS hG2 gi li s1
  have s2 : cSet ⟨0, L2⟩ id (1 + two) = (⟨0, insA (id, 1 + two) (delA L2 id)⟩, 0) := by
    unfold cSet
    dsimp only
    rw [if_neg (by omega), if_neg]
    rintro ⟨h, _⟩
    rw [gi, if_pos rfl] at h; cases h
  have gj := fun j => get_ins hG2.srt id (1 + two) j
  have lj := len_ins hG2.srt id (1 + two)
  refine (Set_spec id (1 + two) hS).of fun v w ⟨hv, hS⟩ => ⟨_, hv, ?_⟩
  rw [s2] at hS
  have hG3 := ClockA.ok hS
  dsimp only at hS hG3 gj lj
  generalize insA (id, 1 + two) (delA L2 id) = L3 at hS hG3 gj lj s2
  have g3 : getA L3 id = some (1 + two) := by rw [gj, if_pos rfl]
  refine (Many_spec hS).of fun v w ⟨hv, hS⟩ => ⟨_, hv, ?_⟩
  have t1 := tick_ok (G := ⟨0, L3⟩) (n := two) (by omega) (by show two ≤ maxN - 0; omega)
  have o1 := out_mem (G := ⟨0, L3⟩) hG3.srt (0 + two) id
  have q1 := get_late hG3.srt (0 + two) id
  refine (Tick_spec two (by omega) hS).of fun v w ⟨p1, c1, hv, hS⟩ => ⟨_, _, _, _, hv, ?_⟩
  rw [t1] at hS ⊢
  dsimp only at hS o1 q1 ⊢
  have n1 : id ∉ ((L3.filter fun x => decide (x.2 ≤ 0 + two)).map fun x : Al => x.1) := fun hm => by
    obtain ⟨tm, h1, h2⟩ := o1.1 hm
    rw [g3] at h1; cases h1; omega
  have k1 : ((L3.filter fun x => decide (x.2 ≤ 0 + two)).map fun x : Al => x.1).length ≤ 1024 := by
    rw [List.length_map]; exact Nat.le_trans (List.length_filter_le _ _) hG3.many
  rw [g3, Option.filter_some, if_pos (by simp; omega)] at q1
  generalize ((L3.filter fun x => decide (x.2 ≤ 0 + two)).map fun x : Al => x.1) = O1 at hS n1 k1 ⊢
  have hG4 := ClockA.ok hS
  generalize (L3.filter fun x => decide (¬ x.2 ≤ 0 + two)) = L4 at hS q1 hG4
  refine (has_spec id (Rd.n 1 rfl fun F => SlA.rd F) (by omega) hS).of fun v w ⟨hv, hS⟩ => ⟨_, hv, ?_⟩
  have t2 := tick_ok (G := ⟨0 + two, L4⟩) (n := 1) (by omega) (by show 1 ≤ maxN - (0 + two); omega)
  have o2 := out_mem (G := ⟨0 + two, L4⟩) hG4.srt (0 + two + 1) id
  have q2 := get_late hG4.srt (0 + two + 1) id
  refine (Tick_spec 1 (by omega) hS).of fun v w ⟨p2, c2, hv, hS⟩ => ⟨_, _, _, _, hv, ?_⟩
  rw [t2] at hS ⊢
  dsimp only at hS o2 q2 ⊢
  have n2 : id ∈ ((L4.filter fun x => decide (x.2 ≤ 0 + two + 1)).map fun x : Al => x.1) := o2.2 ⟨_, q1, by omega⟩
  have k2 : ((L4.filter fun x => decide (x.2 ≤ 0 + two + 1)).map fun x : Al => x.1).length ≤ 1024 := by
    rw [List.length_map]; exact Nat.le_trans (List.length_filter_le _ _) hG4.many
  rw [q1, Option.filter_some, if_neg (by simp; omega)] at q2
  generalize ((L4.filter fun x => decide (x.2 ≤ 0 + two + 1)).map fun x : Al => x.1) = O2 at hS n2 k2 ⊢
  have hG5 := ClockA.ok hS
  generalize (L4.filter fun x => decide (¬ x.2 ≤ 0 + two + 1)) = L5 at hS q2 hG5
  have t3 := tick_ok (G := ⟨0 + two + 1, L5⟩) (n := 9000) (by omega) (by show 9000 ≤ maxN - (0 + two + 1); omega)
  have o3 := out_mem (G := ⟨0 + two + 1, L5⟩) hG5.srt (0 + two + 1 + 9000) id
  refine (Tick_spec 9000 (by omega) hS).of fun v w ⟨p3, c3, hv, hS⟩ => ⟨_, _, _, _, hv, ?_⟩
  rw [t3] at hS ⊢
  dsimp only at hS o3 ⊢
  have n3 : id ∉ ((L5.filter fun x => decide (x.2 ≤ 0 + two + 1 + 9000)).map fun x : Al => x.1) := fun hm => by
    obtain ⟨tm, h1, h2⟩ := o3.1 hm
    rw [q2] at h1; cases h1
  have k3 : ((L5.filter fun x => decide (x.2 ≤ 0 + two + 1 + 9000)).map fun x : Al => x.1).length ≤ 1024 := by
    rw [List.length_map]; exact Nat.le_trans (List.length_filter_le _ _) hG5.many
  generalize ((L5.filter fun x => decide (x.2 ≤ 0 + two + 1 + 9000)).map fun x : Al => x.1) = O3 at hS n3 k3 ⊢
  rw [g1, s1, s2]
  refine Bif.yes rfl (Bif.yes rfl (Bif.yes rfl (Bif.yes rfl (Bif.yes (by rw [decide_eq_false n1]; rfl) ?_))))
  refine (has_spec id (Rd.n 2 rfl fun F => SlA.rd F) (by omega) hS).of fun v w ⟨hv, hS⟩ => ⟨_, hv, Bif.yes (decide_eq_true n2) ?_⟩
  refine (has_spec id (Rd.n 1 rfl fun F => SlA.rd F) (by omega) hS).of fun v w ⟨hv, hS⟩ => ⟨_, hv, Bif.yes (by rw [decide_eq_false n3]; rfl) ⟨?_, _, hS.p4⟩⟩
  rw [gi, if_pos rfl] at lj
  have lj' : L3.length = L2.length := lj
  have li' : L2.length = L1.length + 1 := li
  rw [decide_eq_true (by omega)]
end
end Go.Proofs.Ytgmpnonjhpopdaa
