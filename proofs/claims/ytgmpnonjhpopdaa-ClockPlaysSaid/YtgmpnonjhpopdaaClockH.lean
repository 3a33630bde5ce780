/-
  Contracts of a heap of alarms.
-/
import Derived.Test.YtgmpnonjhpopdaaClockI
import Derived.Test.YtgmpnonjhpopdaaClockP
import Derived.Test.YtgmpnonjhpopdaaApp
set_option linter.unusedVariables false
set_option linter.unusedSimpArgs false
namespace Go.Proofs.Ytgmpnonjhpopdaa
open Go
theorem w64 {n : Int} (h0 : -9223372036854775808 ≤ n) (h1 : n ≤ 9223372036854775807) : IntKind.wrap .i64 n = n := IntWalk.i64_in _ ⟨h0, h1⟩
theorem up {k n : Nat} (h : k < n) (hn : n ≤ 9223372036854775807) : IntKind.wrap .i64 ((k : Int) + 1) = ((k + 1 : Nat) : Int) := by rw [w64 (by omega) (by omega)]; omega
theorem Bif.yes {b : Bool} {A B : Prop} (h : b = true) (hA : A) : Bif b A B := Bif.i (fun _ => hA) fun h' => by rw [h] at h'; cases h'
theorem Bif.no {b : Bool} {A B : Prop} (h : b = false) (hB : B) : Bif b A B := Bif.i (fun h' => by rw [h] at h'; cases h') fun _ => hB
theorem iPt : Try.prog.info? 61 = some Try.t61 := by kernel_rfl
theorem sPt : Try.t61.size = 1 := rfl
theorem zPt : Try.t61.zero = some (.pointer none) := rfl
theorem bPt : Try.t61.bytes = 8 := rfl
theorem mLess : mrow Try.prog 64 "Less" = some (0, some (49, false)) := by decide +kernel
theorem mSwap : mrow Try.prog 64 "Swap" = some (0, some (50, false)) := by decide +kernel
theorem mPop : mrow Try.prog 64 "Pop" = some (0, some (51, true)) := by decide +kernel
theorem mPush : mrow Try.prog 64 "Push" = some (0, some (52, true)) := by decide +kernel
/-- An alarm as it lies: its block, number, time, place. -/
structure AD where
  b : Nat
  id : Int
  tm : Int
  pl : Int
def cellsD (d : AD) : List Value := [.int .i64 d.id, .int .i64 d.tm, .int .i64 d.pl]
def rowD (d : AD) : Asn := Row d.b 66 (cellsD d)
def ptD (d : AD) : List Value := [.pointer (some ⟨d.b, 0, none⟩)]
def keyD (d : AD) : Al := (d.id, d.tm)
def coreD (d : AD) : Nat × Al := (d.b, d.id, d.tm)
theorem pt1 (d : AD) : (ptD d).length = 1 := rfl
theorem ptn (d : AD) : ∀ v ∈ ptD d, NotAgg v := fun v hv => by simp [ptD] at hv; subst hv; trivial
theorem erase_perm {α : Type} : ∀ (l : List α) (i : Nat) {x : α}, l[i]? = some x → l.Perm (x :: l.eraseIdx i)
  | [], i, x, h => by simp at h
  | y :: r, 0, x, h => by simp at h; subst h; exact .refl _
  | y :: r, i + 1, x, h => ((erase_perm r i (by simpa using h)).cons y).trans (List.Perm.swap _ _ _)
theorem set_erase {α : Type} : ∀ (l : List α) (i : Nat) (y : α), i < l.length → (l.set i y).Perm (y :: l.eraseIdx i)
  | [], i, y, h => by simp at h
  | x :: r, 0, y, h => .refl _
  | x :: r, i + 1, y, h => ((set_erase r i y (by simpa using h)).cons x).trans (List.Perm.swap _ _ _)
def alsA (l : List AD) : Asn := sepA (l.map rowD)
section
variable {W w : World} {F : List Asn} {l : List AD} {i : Nat} {d : AD}
theorem alsA.take (h : St W (alsA l :: F) w) (hi : l[i]? = some d) : St W (rowD d :: alsA (l.eraseIdx i) :: F) w := by
  have h1 : St W (l.map rowD ++ F) w := h.of_sep
  have h2 : St W ((d :: l.eraseIdx i).map rowD ++ F) w := h1.perm (((erase_perm l i hi).map rowD).append_right F)
  exact (St.to_sep (l := (l.eraseIdx i).map rowD) (St.perm h2 (by
    simp only [List.map_cons, List.cons_append]
    exact (List.perm_middle (l₁ := (l.eraseIdx i).map rowD) (a := rowD d) (l₂ := F)).symm))).p1
theorem alsA.give {y : AD} (hlt : i < l.length) (h : St W (rowD y :: alsA (l.eraseIdx i) :: F) w) : St W (alsA (l.set i y) :: F) w := by
  have h1 : St W ((l.eraseIdx i).map rowD ++ (rowD y :: F)) w := St.of_sep h.p1
  refine St.to_sep (St.perm h1 ?_)
  exact List.perm_middle.trans (((set_erase l i y hlt).symm.map rowD).append_right F)
theorem alsA.cell (h : St W (alsA l :: F) w) (hi : l[i]? = some d) {j : Nat} {v : Value} (hj : (cellsD d)[j]? = some v) : w.cell? ⟨d.b, j, none⟩ = some v := (alsA.take h hi).ld hj
/-- A place is written. -/
theorem alsA.put {F' : World → Prop} (h : St W (alsA l :: F) w) (hi : l[i]? = some d) {j : Nat} {v : Value} {y : AD} (hj : j < 3) (hy : y.b = d.b) (hc : (cellsD d).set j v = cellsD y) (hF : ∀ w', St W (alsA (l.set i y) :: F) w' → F' w') : St1 ⟨d.b, j, none⟩ v w F' := by
  have hlt := (List.getElem?_eq_some_iff.1 hi).1
  refine St1.i (alsA.take h hi) hj fun w' h' => hF w' (alsA.give hlt ?_)
  rw [hc] at h'
  unfold rowD
  rw [hy]; exact h'
end
/-- All that a heap is of. -/
abbrev HL (c : Nat) (now : Int) (m : Option Nat) (p : Option Addr) (cap : Nat) (l : List AD) (F : List Asn) : List Asn :=
  Row c 60 [.int .i64 now, .slice p l.length cap, .map m] :: SlA 61 1 ptD p cap l :: alsA l :: F
section
variable {W w : World} {F : List Asn} {c : Nat} {now : Int} {m : Option Nat} {p : Option Addr} {cap : Nat} {l : List AD}
theorem HL.cell (h : St W (HL c now m p cap l F) w) : w.cell? ⟨c, 1, none⟩ = some (.slice p l.length cap) := h.cell 0 rfl rfl
theorem HL.rd : Rd (HL c now m p cap l F) p (l.flatMap ptD) := Rd.n 1 rfl fun F => SlA.rd F
def ltD (x y : AD) : Bool := decide (¬ leA (keyD y) (keyD x))
theorem QtP.at {C : Cls} {a : Addr} {x : Option Addr} (h : ∀ G w, C.p G w → w.cell? a = some (.pointer x)) : Qt C (.pointer x) fun w K => LdP a w fun x => K (.pointer x) w := fun G w hw => LdP.at (h G w hw) ⟨rfl, hw⟩
theorem QtI.at {C : Cls} {a : Addr} {k : IntKind} {x : Int} (h : ∀ G w, C.p G w → w.cell? a = some (.int k x)) : Qt C (.int k x) fun w K => LdI k a w fun x => K (.int k x) w := fun G w hw => LdI.at (h G w hw) ⟨rfl, hw⟩
theorem add0 (a : Addr) : Addr.add a 0 = a := rfl
theorem HL.al {G : List (Nat × Obj)} {C : Cls} (hC : Is W C (HL c now m p cap l F)) (hw : C.p G w) {i : Nat} {d : AD} (hi : l[i]? = some d) {j : Nat} {v : Value} (hj : (cellsD d)[j]? = some v) : w.cell? ⟨d.b, j, none⟩ = some v :=
  alsA.cell (hC.at 2 rfl hw) hi hj
theorem Less_spec {i k : Nat} {x y : AD} (hx : l[i]? = some x) (hy : l[k]? = some y) (hid : i ≠ k → x.id ≠ y.id) (hS : St W (HL c now m p cap l F) w) :
    CallR Try.prog 49 #[.slice p l.length cap, .int .i64 i, .int .i64 k] w fun v w' => v = .bool (ltD x y) ∧ St W (HL c now m p cap l F) w' := by
  have hi := (List.getElem?_eq_some_iff.1 hx).1
  have hk := (List.getElem?_eq_some_iff.1 hy).1
  have hC := Is.refl W (HL c now m p cap l F)
  refine F49_of ⟨StC W _, StC.start hS, IxP.elC hC pt1 (by decide) HL.rd hS rfl hi hx fun a6 h6 => IxP.elC hC pt1 (by decide) HL.rd hS rfl hk hy fun a7 h7 => ?_⟩
  refine ⟨_, QtP.at fun G w hw => h6 hw 0 _ rfl, NilP.i ⟨_, QtI.at fun G w hw => HL.al hC hw hx (j := 1) rfl, _, QtP.at fun G w hw => h7 hw 0 _ rfl, NilP.i ⟨_, QtI.at fun G w hw => HL.al hC hw hy (j := 1) rfl, fun G w hw => ?_⟩⟩⟩
  have hS := StC.ends hw
  refine Bif.i (fun hne => ?_) fun he => ?_
  · have hne : x.tm ≠ y.tm := by simpa using hne
    refine ⟨StC W _, StC.start hS, IxP.elC hC pt1 (by decide) HL.rd hS rfl hi hx fun a6 h6 => IxP.elC hC pt1 (by decide) HL.rd hS rfl hk hy fun a7 h7 => ?_⟩
    refine ⟨_, QtP.at fun G w hw => h6 hw 0 _ rfl, NilP.i ⟨_, QtI.at fun G w hw => HL.al hC hw hx (j := 1) rfl, _, QtP.at fun G w hw => h7 hw 0 _ rfl, NilP.i ⟨_, QtI.at fun G w hw => HL.al hC hw hy (j := 1) rfl, fun G w hw => ⟨?_, StC.ends hw⟩⟩⟩⟩
    congr 1
    unfold ltD
    rw [decide_eq_decide]
    unfold leA keyD
    dsimp only
    omega
  · have he : x.tm = y.tm := by simpa using he
    refine ⟨StC W _, StC.start hS, IxP.elC hC pt1 (by decide) HL.rd hS rfl hi hx fun a6 h6 => IxP.elC hC pt1 (by decide) HL.rd hS rfl hk hy fun a7 h7 => ?_⟩
    refine ⟨_, QtP.at fun G w hw => h6 hw 0 _ rfl, NilP.i ⟨_, QtI.at fun G w hw => HL.al hC hw hx (j := 0) rfl, _, QtP.at fun G w hw => h7 hw 0 _ rfl, NilP.i ⟨_, QtI.at fun G w hw => HL.al hC hw hy (j := 0) rfl, fun G w hw => ⟨?_, StC.ends hw⟩⟩⟩⟩
    congr 1
    unfold ltD
    rw [decide_eq_decide]
    unfold leA keyD
    dsimp only
    omega
/-- Two change their places. -/
def swL (l : List AD) (i k : Nat) (x y : AD) : List AD := (l.set i { y with pl := i }).set k { x with pl := k }
theorem flat_set {α : Type} {f : α → List Value} (hf : ∀ x, (f x).length = 1) (l : List α) (i : Nat) (y : α) (v : Value) (hv : f y = [v]) : (l.flatMap f).set i v = (l.set i y).flatMap f := by
  induction l generalizing i with
  | nil => simp
  | cons x r ih =>
    cases i with
    | zero =>
      have := hf x
      rw [List.set_cons_zero, List.flatMap_cons, List.flatMap_cons, hv]
      match hfx : f x, this with
      | [u], _ => rfl
    | succ i =>
      have := hf x
      rw [List.set_cons_succ, List.flatMap_cons, List.flatMap_cons, ← ih]
      match hfx : f x, this with
      | [u], _ => rfl
theorem SlA.put {F : List Asn} {F' : World → Prop} {i : Nat} {y : AD} {l : List AD} (h : St W (SlA 61 1 ptD p cap l :: F) w) (hi : i < l.length) (hF : ∀ w', St W (SlA 61 1 ptD p cap (l.set i y) :: F) w' → F' w') : ∃ a, p = some a ∧ St1 (a.add i) (.pointer (some ⟨y.b, 0, none⟩)) w F' := by
  refine OwnS.set h (by omega) _ fun w' h' => hF w' ?_
  rw [flat_set pt1 l i y _ rfl] at h'
  unfold SlA
  rw [List.length_set]; exact h'
theorem alsA.perm {l l' : List AD} {F : List Asn} (h : St W (alsA l :: F) w) (hp : l.Perm l') : St W (alsA l' :: F) w := St.to_sep (St.perm h.of_sep ((hp.map rowD).append_right F))
theorem IxP.pa {L : List Asn} {K : Addr → Prop} {i : Int} {k n : Nat} {x : AD} {l : List AD} (hr : Rd L p (l.flatMap ptD)) (hS : St W L w) (hi : i = (k : Int)) (hn : k < n) (hx : l[k]? = some x) (hK : ∀ a, p = some a → K (a.add k)) : IxP p n i 1 K := by
  have h0 : (l.flatMap ptD)[k * 1]? = some (.pointer (some ⟨x.b, 0, none⟩)) := flat_at pt1 (j := 0) hx rfl
  refine IxP.i hr hS hi hn h0 fun a ha => ?_
  rw [Nat.mul_one]; exact hK a ha
theorem sw_perm {l : List AD} {i k : Nat} {x y x' y' : AD} (hx : l[i]? = some x) (hy : l[k]? = some y) (hne : i ≠ k) : ((l.set k y').set i x').Perm ((l.set i y').set k x') := by
  have hi := (List.getElem?_eq_some_iff.1 hx).1
  have hk := (List.getElem?_eq_some_iff.1 hy).1
  have a1 : ((l.set k y').set i x').Perm (x' :: (l.set k y').eraseIdx i) := set_erase _ _ _ (by simpa using hi)
  have a2 : ((l.set i y').set k x').Perm (x' :: (l.set i y').eraseIdx k) := set_erase _ _ _ (by simpa using hk)
  have b1 : (x :: (l.set k y').eraseIdx i).Perm (y' :: l.eraseIdx k) := (erase_perm (l.set k y') i (by rw [List.getElem?_set, if_neg (Ne.symm hne), hx])).symm.trans (set_erase l k y' hk)
  have b2 : (y :: (l.set i y').eraseIdx k).Perm (y' :: l.eraseIdx i) := (erase_perm (l.set i y') k (by rw [List.getElem?_set, if_neg hne, hy])).symm.trans (set_erase l i y' hi)
  have c1 : (x :: l.eraseIdx i).Perm (y :: l.eraseIdx k) := (erase_perm l i hx).symm.trans (erase_perm l k hy)
  have d1 : (y :: x :: (l.set k y').eraseIdx i).Perm (y :: x :: (l.set i y').eraseIdx k) :=
    (b1.cons y).trans ((List.Perm.swap _ _ _).trans ((c1.symm.cons y').trans ((List.Perm.swap _ _ _).trans ((b2.symm.cons x).trans (List.Perm.swap _ _ _)))))
  exact a1.trans ((d1.cons_inv.cons_inv.cons x').trans a2.symm)
theorem sw_pt {l : List AD} {i k : Nat} {x y x' y' : AD} (hx : x'.b = x.b) (hy : y'.b = y.b) : ((l.set i y').set k x').flatMap ptD = ((l.set i y).set k x).flatMap ptD := by
  have e : ∀ l : List AD, l.flatMap ptD = (l.map (·.b)).map fun b => Value.pointer (some ⟨b, 0, none⟩) := fun l => by
    rw [List.map_map]
    have := flat_one (fun d : AD => Value.pointer (some ⟨d.b, 0, none⟩)) l
    exact this
  rw [e, e]
  congr 1
  simp only [List.map_set, hx, hy]
theorem swL_len (l : List AD) (i k : Nat) (x y : AD) : (swL l i k x y).length = l.length := by simp [swL]
theorem Swap_spec {i k : Nat} {x y : AD} (hx : l[i]? = some x) (hy : l[k]? = some y) (hS : St W (HL c now m p cap l F) w) :
    CallR Try.prog 50 #[.slice p l.length cap, .int .i64 i, .int .i64 k] w fun v w' => v = .tuple #[] ∧ St W (HL c now m p cap (swL l i k x y) F) w' := by
  have hi := (List.getElem?_eq_some_iff.1 hx).1
  have hk := (List.getElem?_eq_some_iff.1 hy).1
  have hC := Is.refl W (HL c now m p cap l F)
  refine F50_of ⟨StC W _, StC.start hS, IxP.elC hC pt1 (by decide) HL.rd hS rfl hk hy fun a6 h6 => IxP.elC hC pt1 (by decide) HL.rd hS rfl hi hx fun a7 h7 => ?_⟩
  refine ⟨_, QtP.at fun G w hw => h6 hw 0 _ rfl, _, QtP.at fun G w hw => h7 hw 0 _ rfl, IxP.pa HL.rd hS rfl hi hx fun a ha => ?_⟩
  refine Ef.n (α := Unit) (V := fun _ => .tuple #[]) (B := fun _ => [SlA 61 1 ptD p cap (l.set i y)]) () 1 hC rfl (fun G w h => ?_) fun _ => ⟨rfl, trivial, IxP.pa HL.rd hS rfl hk hy fun a' ha' => ?_⟩
  · obtain ⟨a', ha', hst⟩ := SlA.put (F' := fun w' => ∃ x : Unit, Value.tuple #[] = .tuple #[] ∧ St W (Go.Proofs.Ytgmpnonjhpopdaa.put (HL c now m p cap l F) 1 [SlA 61 1 ptD p cap (l.set i y)] ++ pts G) w') h hi fun w' h' => ⟨(), rfl, Is.back 1 rfl (B := [_]) h'⟩
    rw [ha] at ha'; cases ha'; exact hst
  rw [ha] at ha'; cases ha'
  refine Ef.n (α := Unit) (V := fun _ => .tuple #[]) (B := fun _ => [SlA 61 1 ptD p cap ((l.set i y).set k x)]) () 1 (Is.refl W _) rfl (fun G w h => ?_) fun _ => ⟨rfl, trivial, fun G w h => ?_⟩
  · obtain ⟨a', ha', hst⟩ := SlA.put (y := x) (F' := fun w' => ∃ z : Unit, Value.tuple #[] = .tuple #[] ∧ St W (Go.Proofs.Ytgmpnonjhpopdaa.put (Go.Proofs.Ytgmpnonjhpopdaa.put (HL c now m p cap l F) 1 [SlA 61 1 ptD p cap (l.set i y)]) 1 [SlA 61 1 ptD p cap ((l.set i y).set k x)] ++ pts G) w') h (by simpa using hk) fun w' h' => ⟨(), rfl, Is.back 1 rfl (B := [_]) h'⟩
    rw [ha] at ha'; cases ha'; exact hst
  have hS := StC.ends h
  have hS : St W (Row c 60 [.int .i64 now, .slice p l.length cap, .map m] :: SlA 61 1 ptD p cap ((l.set i y).set k x) :: alsA l :: F) w := hS
  have hyi : ((l.set i y).set k x)[i]? = some y := by
    rw [List.getElem?_set]
    by_cases e : k = i
    · subst e
      rw [hx] at hy; cases hy
      rw [if_pos rfl, if_pos (by simpa using hk)]
    · rw [if_neg e, List.getElem?_set, if_pos rfl, if_pos hi]
  have hxk : ((l.set i y).set k x)[k]? = some x := by rw [List.getElem?_set, if_pos rfl, if_pos (by simpa using hk)]
  have hr : Rd (Row c 60 [.int .i64 now, .slice p l.length cap, .map m] :: SlA 61 1 ptD p cap ((l.set i y).set k x) :: alsA l :: F) p (((l.set i y).set k x).flatMap ptD) := Rd.n 1 rfl fun F => SlA.rd F
  have hC := Is.refl W (Row c 60 [.int .i64 now, .slice p l.length cap, .map m] :: SlA 61 1 ptD p cap ((l.set i y).set k x) :: alsA l :: F)
  refine ⟨StC W _, StC.start hS, IxP.elC hC pt1 (by decide) hr hS rfl hi hyi fun a31 h31 => IxP.elC hC pt1 (by decide) hr hS rfl hk hxk fun a32 h32 => ?_⟩
  refine ⟨_, QtP.at fun G w hw => h31 hw 0 _ rfl, _, QtP.at fun G w hw => h32 hw 0 _ rfl, NilP.i ?_⟩
  have hx2 : (l.set k { y with pl := i })[i]? = some (if i = k then { y with pl := (i : Int) } else x) := by
    rw [List.getElem?_set]
    by_cases e : k = i
    · subst e; rw [if_pos rfl, if_pos hk, if_pos rfl]
    · rw [if_neg e, hx, if_neg (Ne.symm e)]
  refine Ef.n (α := Unit) (V := fun _ => .tuple #[]) (B := fun _ => [alsA (l.set k { y with pl := i })]) () 2 hC rfl (fun G w h => ?_) fun _ => ⟨rfl, trivial, NilP.i ?_⟩
  · exact alsA.put (y := { y with pl := i }) h hy (j := 2) (by decide) rfl rfl fun w' h' => ⟨(), rfl, Is.back 2 rfl (B := [_]) h'⟩
  have hb2 : (if i = k then ({ y with pl := (i : Int) } : AD) else x).b = x.b := by
    by_cases e : i = k
    · subst e; rw [hx] at hy; cases hy; rw [if_pos rfl]
    · rw [if_neg e]
  have hc2 : (cellsD (if i = k then ({ y with pl := (i : Int) } : AD) else x)).set 2 (.int .i64 k) = cellsD { x with pl := k } := by
    by_cases e : i = k
    · subst e; rw [hx] at hy; cases hy; rw [if_pos rfl]; rfl
    · rw [if_neg e]; rfl
  refine Ef.n (α := Unit) (V := fun _ => .tuple #[]) (B := fun _ => [alsA ((l.set k { y with pl := i }).set i { x with pl := k })]) () 2 (Is.refl W _) rfl (fun G w h => ?_) fun _ => ⟨rfl, trivial, fun G w h => ⟨rfl, ?_⟩⟩
  · have := alsA.put (y := { x with pl := k }) (F' := fun w' => ∃ z : Unit, Value.tuple #[] = .tuple #[] ∧ St W (Go.Proofs.Ytgmpnonjhpopdaa.put (Go.Proofs.Ytgmpnonjhpopdaa.put (Row c 60 [.int .i64 now, .slice p l.length cap, .map m] :: SlA 61 1 ptD p cap ((l.set i y).set k x) :: alsA l :: F) 2 [alsA (l.set k { y with pl := i })]) 2 [alsA ((l.set k { y with pl := i }).set i { x with pl := k })] ++ pts G) w') h hx2 (j := 2) (v := .int .i64 k) (by decide) hb2.symm hc2 fun w' h' => ⟨(), rfl, Is.back 2 rfl (B := [_]) h'⟩
    rw [hb2] at this
    exact this
  have hS := StC.ends h
  have hS : St W (Row c 60 [.int .i64 now, .slice p l.length cap, .map m] :: SlA 61 1 ptD p cap ((l.set i y).set k x) :: alsA ((l.set k { y with pl := i }).set i { x with pl := k }) :: F) w := hS
  have hals : ((l.set k ({ y with pl := (i : Int) } : AD)).set i { x with pl := (k : Int) }).Perm (swL l i k x y) := by
    by_cases e : i = k
    · subst e
      unfold swL
      rw [List.set_set]
    · exact sw_perm hx hy e
  have hS := (alsA.perm hS.p2 hals)
  unfold HL
  rw [swL_len]
  have hs2 : SlA 61 1 ptD p cap ((l.set i y).set k x) = SlA 61 1 ptD p cap (swL l i k x y) := by
    unfold SlA swL
    rw [sw_pt (x := x) (y := y) (x' := { x with pl := (k : Int) }) (y' := { y with pl := (i : Int) }) rfl rfl]
    simp only [List.length_set]
  rw [hs2] at hS
  exact hS.p2.p2
end
end Go.Proofs.Ytgmpnonjhpopdaa
