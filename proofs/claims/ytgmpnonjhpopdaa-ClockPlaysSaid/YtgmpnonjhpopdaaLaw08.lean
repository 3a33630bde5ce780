/-
  The walks of the laws of alarms.
-/
import Derived.Test.YtgmpnonjhpopdaaClockT
import Derived.Test.YtgmpnonjhpopdaaArgs
set_option linter.unusedVariables false
set_option linter.unusedSimpArgs false
namespace Go.Proofs.Ytgmpnonjhpopdaa
open Go
def leftN (n : Nat) : List Value → World → Nat := fun vs _ => match vs.getLast? with
  | some (.int _ i) => n - i.toNat
  | _ => 0
theorem iV_get {xs : List Int} {i : Nat} {x : Int} (h : xs[i]? = some x) : (xs.flatMap iV)[i]? = some (.int .i64 x) := by
  have := flat_at iV1 (i := i) (j := 0) h (v := .int .i64 x) rfl
  simpa using this
/-- A cell is looked at. -/
theorem IxP.one {W w : World} {l : List Asn} {p : Option Addr} {cs : List Value} {n k : Nat} {i : Int} {v : Value} {K : Addr → Prop} (hr : Rd l p cs) (hS : St W l w) (hi : i = (k : Int)) (hn : k < n) (hx : cs[k]? = some v)
    (hK : ∀ a, w.cell? a = some v → K a) : IxP p n i 1 K := by
  have hc : cs[k * 1]? = some v := by rw [Nat.mul_one, hx]
  refine IxP.i hr hS hi hn hc fun a ha => hK _ ?_
  exact hr.at1 hS ha hc
theorem IxP.oneC {W w : World} {C : Cls} {l : List Asn} {p : Option Addr} {cs : List Value} {n k : Nat} {i : Int} {v : Value} {K : Addr → Prop} (hC : Is W C l) (hr : Rd l p cs) (hS : St W l w) (hi : i = (k : Int)) (hn : k < n) (hx : cs[k]? = some v)
    (hK : ∀ a, (∀ G w, C.p G w → w.cell? a = some v) → K a) : IxP p n i 1 K := by
  have hc : cs[k * 1]? = some v := by rw [Nat.mul_one, hx]
  refine IxP.i hr hS hi hn hc fun a ha => hK _ fun G w hw => ?_
  exact (hr.app (pts G)).at1 ((hC G w).1 hw) ha hc
theorem Same_spec {W w : World} {F : List Asn} {p q : Option Addr} {d e : Nat} {a b : List Int} (hr : Rd F p (a.flatMap iV)) (hrb : Rd F q (b.flatMap iV)) (hn : a.length ≤ 1000000) (hS : St W F w) :
    CallR Try.prog 16 #[.slice p a.length d, .slice q b.length e] w fun v w' => v = .bool (decide (a = b)) ∧ St W F w' := by
  refine F16_of (Bif.i (fun h => ⟨?_, hS⟩) fun h => ?_)
  · have h : (a.length : Int) ≠ b.length := by simpa using h
    rw [decide_eq_false (fun e => h (by rw [e]))]
  have hl : a.length = b.length := by
    have : ¬ (a.length : Int) ≠ b.length := by simpa using h
    omega
  refine ⟨fun vs w => ∃ i : Nat, vs = [.int .i64 i] ∧ i ≤ a.length ∧ a.take i = b.take i ∧ St W F w, leftN a.length, ⟨0, rfl, by omega, by simp, hS⟩, fun x w hI => ?_⟩
  obtain ⟨i, he, hi, hu, hS⟩ := hI
  cases he
  refine Bif.i (fun hlt => ?_) fun hge => ⟨?_, hS⟩
  · have hlt : i < a.length := by have := of_decide_eq_true hlt; omega
    have hx : a[i]? = some (a[i]'hlt) := List.getElem?_eq_getElem _
    have hy : b[i]? = some (b[i]'(by omega)) := List.getElem?_eq_getElem _
    generalize a[i]'hlt = x at hx
    generalize b[i]'(by omega) = y at hy
    have hC := Is.refl W F
    refine ⟨StC W _, StC.start hS, IxP.oneC hC hr hS rfl hlt (iV_get hx) fun a10 h10 => IxP.oneC hC hrb hS rfl (by omega) (iV_get hy) fun a11 h11 => ?_⟩
    refine ⟨_, QtI.at h10, _, QtI.at h11, fun G w h => Bif.i (fun hne => ⟨?_, StC.ends h⟩) fun heq => ?_⟩
    · have hne : x ≠ y := by simpa using hne
      rw [decide_eq_false]
      intro e
      rw [e, hy] at hx
      exact hne (Option.some.inj hx).symm
    · have heq : x = y := by simpa using heq
      rw [up hlt (by omega)]
      refine ⟨⟨i + 1, rfl, by omega, ?_, StC.ends h⟩, by show a.length - (i + 1) < a.length - i; omega⟩
      rw [List.take_add_one, List.take_add_one, hx, hy, hu, heq]
  · have hi2 : i = a.length := by have := of_decide_eq_false hge; omega
    subst hi2
    rw [List.take_length, hl, List.take_length] at hu
    rw [decide_eq_true hu]
theorem has_spec {W w : World} {F : List Asn} {p : Option Addr} {d : Nat} {a : List Int} (x : Int) (hr : Rd F p (a.flatMap iV)) (hn : a.length ≤ 1000000) (hS : St W F w) :
    CallR Try.prog 23 #[.slice p a.length d, .int .i64 x] w fun v w' => v = .bool (decide (x ∈ a)) ∧ St W F w' := by
  refine F23_of ⟨fun vs w => ∃ i : Nat, vs = [.int .i64 i] ∧ i ≤ a.length ∧ x ∉ a.take i ∧ St W F w, leftN a.length, ⟨0, rfl, by omega, by simp, hS⟩, fun j w hI => ?_⟩
  obtain ⟨i, he, hi, hu, hS⟩ := hI
  cases he
  refine Bif.i (fun hlt => ?_) fun hge => ⟨?_, hS⟩
  · have hlt : i < a.length := by have := of_decide_eq_true hlt; omega
    have hx : a[i]? = some (a[i]'hlt) := List.getElem?_eq_getElem _
    generalize a[i]'hlt = y at hx
    refine IxP.one hr hS rfl hlt (iV_get hx) fun a10 h10 => LdI.at h10 (Bif.i (fun he => ⟨?_, hS⟩) fun hne => ?_)
    · have he : y = x := by simpa using he
      rw [decide_eq_true]
      rw [← he]; exact List.mem_of_getElem? hx
    · have hne : ¬ y = x := by simpa using hne
      rw [up hlt (by omega)]
      refine ⟨⟨i + 1, rfl, by omega, ?_, hS⟩, by show a.length - (i + 1) < a.length - i; omega⟩
      rw [List.take_add_one, hx]
      intro hm
      rcases List.mem_append.1 hm with hm | hm
      · exact hu hm
      · simp at hm; exact hne hm.symm
  · have hi2 : i = a.length := by have := of_decide_eq_false hge; omega
    subst hi2
    rw [List.take_length] at hu
    rw [decide_eq_false hu]
theorem cInt : Try.prog.cellsOf 3 = 1 := by kernel_rfl
theorem head_spec {W w : World} {F : List Asn} (hS : St W F w) : CallR Try.prog 9 #[] w fun v w' => v = .bool true ∧ St W F w' := by
  refine F9_of ((New_spec hS).of fun v w ⟨c, hv, hS⟩ => ⟨_, hv, Bif.no rfl ?_⟩)
  refine (Set_spec 7 3 hS).of fun v w ⟨hv, hS⟩ => ⟨_, hv, ?_⟩
  refine (Set_spec 5 3 hS).of fun v w ⟨hv, hS⟩ => ⟨_, hv, ?_⟩
  refine (Set_spec 6 9 hS).of fun v w ⟨hv, hS⟩ => ⟨_, hv, ?_⟩
  refine (Set_spec 6 2 hS).of fun v w ⟨hv, hS⟩ => ⟨_, hv, ?_⟩
  refine (Drop_spec 4 hS).of fun v w ⟨hv, hS⟩ => ⟨_, hv, ?_⟩
  refine (Tick_spec 4 (by decide) hS).of fun v w ⟨p1, c1, hv, hS⟩ => ⟨_, _, _, _, hv, ?_⟩
  refine (At_spec 6 hS).of fun v w ⟨hv, hS⟩ => ⟨_, _, hv, ?_⟩
  refine (Set_spec 1 4 hS).of fun v w ⟨hv, hS⟩ => ⟨_, hv, ?_⟩
  have eo : (cTick (cDrop (cSet (cSet (cSet (cSet ⟨0, []⟩ 7 3).1 5 3).1 6 9).1 6 2).1 4).1 4).2.1 = [6, 5, 7] := by decide +kernel
  refine Bif.yes (by decide +kernel) (Bif.yes (by decide +kernel) (Bif.yes (by decide +kernel) (Bif.yes (by decide +kernel) (Bif.yes (by decide +kernel) (NewC.i hS fun b31 w hS => ?_)))))
  rw [eo] at hS ⊢
  have hS : St W (Row b31 3 (List.flatMap iV [6, 5, 7]) :: _) w := hS
  refine (Same_spec (a := [6, 5, 7]) (b := [6, 5, 7]) (Rd.n 2 rfl fun F => SlA.rd F) (Rd.n 0 rfl fun F => Rd.all) (by decide) hS).of fun v w ⟨hv, hS⟩ => ⟨_, hv, Bif.yes (by decide) (Bif.yes (by decide +kernel) ?_)⟩
  have hS := hS.drop
  refine (Now_spec hS).of fun v w ⟨hv, hS⟩ => ⟨_, hv, Bif.yes (by decide +kernel) ?_⟩
  refine (Many_spec hS).of fun v w ⟨hv, hS⟩ => ⟨_, hv, Bif.yes (by decide +kernel) (Bif.yes (by decide +kernel) (Bif.yes (by decide +kernel) ⟨congrArg Value.bool (by decide +kernel), hS.drop.drop⟩))⟩

/-! ### What is handed in -/
theorem ints_open {H : Type} {enc : TypeId × Value → H} {W : World} {base b0 : Nat} {spare : Nat → Bool} {held : Bool} {r : _root_.Go.Reach} {v : Value} {d : DataW H} {ps : List MemPlace} {t e : TypeId} {k : IntKind} (ht : Try.prog.underlying t = some (.slice e)) (he : Try.prog.underlying e = some (.int k)) (hc : Try.prog.cellsOf e = 1)
    (hval : Value.okWide Try.prog W r b0 t v) (h : DataW.Trod enc Try.prog W base spare held t v d ps) :
    ∃ (p : Option Addr) (os : List Int) (c : Nat), v = .slice p os.length c ∧ os.length ≤ c ∧ c ≤ 9223372036854775807 ∧ Rd [Base W] p (os.map (Value.int k)) ∧ ∀ o ∈ os, (Lit.int k o).wf = true := by
  obtain ⟨a, len, cap, rfl⟩ := WideShapes.okWide_slice ht hval
  obtain ⟨fuel, hf⟩ := h
  obtain ⟨p, xs, c, h1, h2, h3, h4, h5⟩ := sl_arg (fun x => [Value.int k x]) (fun x => (Lit.int k x).wf = true) ht hc (by decide) (fun _ => rfl) (fun n cs' y hl ht => int_arg he ht) hf
  simp [Value.cells] at h1
  obtain ⟨rfl, rfl, rfl⟩ := h1
  exact ⟨_, xs, _, rfl, h2, h3, by rwa [flat_one] at h4, h5⟩
theorem cI64 : Try.prog.cellsOf 2 = 1 := by kernel_rfl
theorem cU16 : Try.prog.cellsOf 47 = 1 := by kernel_rfl
theorem cU8 : Try.prog.cellsOf 5 = 1 := by kernel_rfl
theorem i64s_open {H : Type} {enc : TypeId × Value → H} {W : World} {base b0 : Nat} {spare : Nat → Bool} {held : Bool} {r : _root_.Go.Reach} {v : Value} {d : DataW H} {ps : List MemPlace} (hval : Value.okWide Try.prog W r b0 54 v) (h : DataW.Trod enc Try.prog W base spare held 54 v d ps) :
    ∃ (p : Option Addr) (os : List Int) (c : Nat), v = .slice p os.length c ∧ os.length ≤ c ∧ c ≤ 9223372036854775807 ∧ Rd [Base W] p (os.map (Value.int .i64)) ∧ ∀ o ∈ os, (Lit.int .i64 o).wf = true := ints_open Try.underlying54 Try.underlying2 cI64 hval h
theorem u16s_open {H : Type} {enc : TypeId × Value → H} {W : World} {base b0 : Nat} {spare : Nat → Bool} {held : Bool} {r : _root_.Go.Reach} {v : Value} {d : DataW H} {ps : List MemPlace} (hval : Value.okWide Try.prog W r b0 45 v) (h : DataW.Trod enc Try.prog W base spare held 45 v d ps) :
    ∃ (p : Option Addr) (os : List Int) (c : Nat), v = .slice p os.length c ∧ os.length ≤ c ∧ c ≤ 9223372036854775807 ∧ Rd [Base W] p (os.map (Value.int .u16)) ∧ ∀ o ∈ os, (Lit.int .u16 o).wf = true := ints_open Try.underlying45 Try.underlying47 cU16 hval h
theorem u8s_open {H : Type} {enc : TypeId × Value → H} {W : World} {base b0 : Nat} {spare : Nat → Bool} {held : Bool} {r : _root_.Go.Reach} {v : Value} {d : DataW H} {ps : List MemPlace} (hval : Value.okWide Try.prog W r b0 46 v) (h : DataW.Trod enc Try.prog W base spare held 46 v d ps) :
    ∃ (p : Option Addr) (os : List Int) (c : Nat), v = .slice p os.length c ∧ os.length ≤ c ∧ c ≤ 9223372036854775807 ∧ Rd [Base W] p (os.map (Value.int .u8)) ∧ ∀ o ∈ os, (Lit.int .u8 o).wf = true := ints_open Try.underlying46 Try.underlying5 cU8 hval h
structure OpD where
  what : Int
  id : Int
  n : Int
deriving Inhabited
def opCells (o : OpD) : List Value := [.int .i64 o.what, .int .i64 o.id, .int .i64 o.n]
theorem op3 (o : OpD) : (opCells o).length = 3 := rfl
def OpOk (o : OpD) : Prop := (Lit.int .i64 o.id).wf = true ∧ (Lit.int .i64 o.n).wf = true
theorem cOp : Try.prog.cellsOf 29 = 3 := by kernel_rfl
theorem ops_open {H : Type} {enc : TypeId × Value → H} {W : World} {base b0 : Nat} {spare : Nat → Bool} {held : Bool} {r : _root_.Go.Reach} {v : Value} {d : DataW H} {ps : List MemPlace} (hval : Value.okWide Try.prog W r b0 22 v) (h : DataW.Trod enc Try.prog W base spare held 22 v d ps) :
    ∃ (p : Option Addr) (os : List OpD) (c : Nat), v = .slice p os.length c ∧ os.length ≤ c ∧ c ≤ 9223372036854775807 ∧ Rd [Base W] p (os.flatMap opCells) ∧ ∀ o ∈ os, OpOk o := by
  obtain ⟨a, len, cap, rfl⟩ := WideShapes.okWide_slice Try.underlying22 hval
  obtain ⟨fuel, hf⟩ := h
  obtain ⟨p, xs, c, h1, h2⟩ := sl_arg opCells OpOk Try.underlying22 cOp (by decide) (fun _ => rfl) (fun n cs' y hl h => by
    obtain ⟨y0, y1, y2, n, _, _, h0, h1, h2⟩ := Deep.trod_struct3 Try.underlying29 h
    match cs', hl with
    | [u0, u1, u2], _ =>
      rw [cInt] at h0 h1
      rw [cI64] at h2
      obtain ⟨z0, e0, _⟩ := int_arg uInt h0
      obtain ⟨z1, e1, g1⟩ := int_arg uInt h1
      obtain ⟨z2, e2, g2⟩ := int_arg Try.underlying2 h2
      refine ⟨⟨z0, z1, z2⟩, ?_, g1, g2⟩
      simp at e0 e1 e2
      rw [e0, e1, e2]
      rfl) hf
  simp [Value.cells] at h1
  obtain ⟨rfl, rfl, rfl⟩ := h1
  exact ⟨_, xs, _, rfl, h2⟩
theorem i64_wf {x : Int} (h : (Lit.int .i64 x).wf = true) : -9223372036854775808 ≤ x ∧ x ≤ 9223372036854775807 := by
  simpa [Lit.wf, IntKind.min, IntKind.max, IntKind.signed, IntKind.bits] using h
theorem u16_wf {x : Int} (h : (Lit.int .u16 x).wf = true) : 0 ≤ x ∧ x ≤ 65535 := by
  simpa [Lit.wf, IntKind.min, IntKind.max, IntKind.signed, IntKind.bits] using h
theorem u8_wf {x : Int} (h : (Lit.int .u8 x).wf = true) : 0 ≤ x ∧ x ≤ 255 := by
  simpa [Lit.wf, IntKind.min, IntKind.max, IntKind.signed, IntKind.bits] using h
theorem map_get {k : IntKind} {xs : List Int} {i : Nat} {x : Int} (h : xs[i]? = some x) : (xs.map (Value.int k))[i]? = some (.int k x) := by rw [List.getElem?_map, h]; rfl

theorem Time_walk {W : World} {p : Option Addr} {ns : List Int} {c : Nat} (hr : Rd [Base W] p (ns.map (Value.int .i64))) (hc : ns.length ≤ c) (hcm : c ≤ 9223372036854775807) (hok : ∀ o ∈ ns, (Lit.int .i64 o).wf = true) :
    CallR Try.prog 8 #[.slice p ns.length c] W fun v w' => v = .bool true ∧ ∃ r, St W (Base W :: r) w' := by
  refine F8_of ((head_spec (St.base W)).of fun v w ⟨hv, hS⟩ => ⟨_, hv, (New_spec hS).of fun v w ⟨q, hv, hS⟩ => ⟨_, hv, Bif.no rfl ?_⟩⟩)
  refine Bif.i (fun h => Bif.yes rfl ⟨rfl, _, hS.drop⟩) fun h => ?_
  have h := of_decide_eq_false h
  refine (Set_spec 1 2199023255552 hS).of fun v w ⟨hv, hS⟩ => ⟨_, hv, ?_⟩
  have e0 : (cSet ⟨0, []⟩ 1 2199023255552).1 = ⟨0, [(1, 2199023255552)]⟩ := rfl
  rw [e0] at hS
  refine ⟨fun vs w => ∃ (i : Nat) (now : Int), vs = [.int .i64 now, .int .i64 i] ∧ i ≤ ns.length ∧ St W [ClockA q ⟨now, [(1, 2199023255552)]⟩, Base W] w, leftN ns.length, ⟨0, 0, rfl, by omega, hS⟩, fun now x w hI => ?_⟩
  obtain ⟨i, now, he, hi, hS⟩ := hI
  cases he
  refine Bif.i (fun hlt => ?_) fun hge => ⟨rfl, _, hS.p1⟩
  have hlt : i < ns.length := by have := of_decide_eq_true hlt; omega
  have hx : ns[i]? = some (ns[i]'hlt) := List.getElem?_eq_getElem _
  have hwf := hok _ (List.getElem_mem hlt)
  generalize ns[i]'hlt = n at hx hwf
  have hwf := i64_wf hwf
  have hG := ClockA.ok hS
  have n0 := hG.now0
  have n1 := hG.now1
  have hmx : maxN = 1099511627776 := rfl
  dsimp only at n0 n1
  refine IxP.one (hr.cons _) hS rfl hlt (map_get hx) fun a ha => LdI.at ha ((Tick_spec n hwf hS).of fun v w ⟨p1, c1, hv, hS⟩ => ⟨_, _, _, _, hv, ?_⟩)
  rw [w64 (n := 1099511627776 - now) (by omega) (by omega)]
  refine ⟨fun vs w => vs = [.bool (decide (n ≥ 0 ∧ n ≤ 1099511627776 - now))] ∧ St W (ClockA q (cTick ⟨now, [(1, 2199023255552)]⟩ n).1 :: SlA 3 1 iV p1 c1 (cTick ⟨now, [(1, 2199023255552)]⟩ n).2.1 :: [Base W]) w, Bif.i (fun h => ⟨?_, hS⟩) fun h => ⟨?_, hS⟩, fun fine w hJ => ?_⟩
  · have h1 := of_decide_eq_true h
    congr 2
    rw [decide_eq_decide]
    exact ⟨fun h => ⟨h1, h⟩, fun h => h.2⟩
  · have h1 := of_decide_eq_false h
    congr 2
    rw [decide_eq_false (fun h => h1 h.1)]
  obtain ⟨he, hS⟩ := hJ
  cases he
  by_cases hf : n ≥ 0 ∧ n ≤ 1099511627776 - now
  · have ht : cTick ⟨now, [(1, 2199023255552)]⟩ n = (⟨now + n, [(1, 2199023255552)]⟩, [], 0) := by
      unfold cTick
      dsimp only
      rw [if_neg (by omega), List.filter_cons_of_pos (by simp; omega), List.filter_cons_of_neg (by simp; omega)]
      rfl
    rw [ht] at hS ⊢
    rw [decide_eq_true hf]
    refine Bif.no rfl (Bif.no rfl ?_)
    refine ⟨fun vs w => vs = [.int .i64 (now + n)] ∧ St W [ClockA q ⟨now + n, [(1, 2199023255552)]⟩, Base W] w, Bif.yes rfl ⟨?_, (hS.p1).drop⟩, fun now2 w hJ => ?_⟩
    · rw [w64 (by omega) (by omega)]
    obtain ⟨he, hS⟩ := hJ
    cases he
    refine (Now_spec hS).of fun v w ⟨hv, hS⟩ => ⟨_, hv, Bif.no (by simp) ?_⟩
    refine (Many_spec hS).of fun v w ⟨hv, hS⟩ => ⟨_, hv, Bif.no rfl ?_⟩
    rw [up hlt (by omega)]
    exact ⟨⟨i + 1, now + n, rfl, by omega, hS⟩, by show ns.length - (i + 1) < ns.length - i; omega⟩
  · have ht : cTick ⟨now, [(1, 2199023255552)]⟩ n = (⟨now, [(1, 2199023255552)]⟩, [], 1) := by
      unfold cTick
      dsimp only
      rw [if_pos (by omega)]
    rw [ht] at hS ⊢
    rw [decide_eq_false hf]
    refine Bif.no rfl (Bif.no rfl ?_)
    refine ⟨fun vs w => vs = [.int .i64 now] ∧ St W [ClockA q ⟨now, [(1, 2199023255552)]⟩, Base W] w, Bif.no rfl ⟨rfl, (hS.p1).drop⟩, fun now2 w hJ => ?_⟩
    obtain ⟨he, hS⟩ := hJ
    cases he
    refine (Now_spec hS).of fun v w ⟨hv, hS⟩ => ⟨_, hv, Bif.no (by simp) ?_⟩
    refine (Many_spec hS).of fun v w ⟨hv, hS⟩ => ⟨_, hv, Bif.no rfl ?_⟩
    rw [up hlt (by omega)]
    exact ⟨⟨i + 1, now, rfl, by omega, hS⟩, by show ns.length - (i + 1) < ns.length - i; omega⟩
end Go.Proofs.Ytgmpnonjhpopdaa
