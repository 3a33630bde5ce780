/-
  Arguments as data, and the closing of a law that returns true and writes nothing that was there.
-/
import Derived.Test.YtbfccpbijimjmaaSl
import Derived.Test.YtbfccpbijimjmaaRows
import Derived.ProofKit
import Derived.OpenShut
import Derived.Carry
import Derived.Deep.Slices
import Derived.Deep.Strs
import Derived.JoinedCond
set_option linter.unusedVariables false
set_option linter.unusedSimpArgs false
namespace Go.Proofs.Ytbfccpbijimjmaa
open Go Go.ChangeShapes Go.WideShapes Go.ChangeAt Go.RowKit

theorem laid : laidOutB Try.prog = true := by kernel_rfl
/-! ### Down: what an argument holds -/
section
variable {H : Type} {enc : TypeId × Value → H} {P : Program} {W : World} {base : Nat} {spare : Nat → Bool} {held : Bool}
/-- A slice, element by element. -/
theorem sl_arg {α : Type} [Inhabited α] (f : α → List Value) (Ok : α → Prop) {t e : TypeId} {k fuel : Nat} {cs : List Value} {x : DataW H × List MemPlace} (ht : P.underlying t = some (.slice e)) (hsz : P.cellsOf e = k) (hk : 0 < k) (hf : ∀ x, (f x).length = k)
    (hread : ∀ n cs' y, cs'.length = k → DataW.trod enc P W base spare held n e cs' = some y → ∃ o, cs' = f o ∧ Ok o) (h : DataW.trod enc P W base spare held fuel t cs = some x) :
    ∃ (p : Option Addr) (os : List α) (c : Nat), cs = [.slice p os.length c] ∧ os.length ≤ c ∧ c ≤ 9223372036854775807 ∧ Rd [Base W] p (os.flatMap f) ∧ ∀ o ∈ os, Ok o := by
  rcases Deep.open_slice ht h with ⟨rfl, rfl⟩ | ⟨a, len, cap, m, n, D, Pl, rfl, _, hlc, hcm, hm, rfl, hall⟩
  · exact ⟨none, [], 0, rfl, Nat.le_refl _, by omega, Rd.nil _ _, fun o ho => by cases ho⟩
  · have hlm : len ≤ m := by rw [hm]; split <;> omega
    obtain ⟨g, hg⟩ := Deep.choose_lt (n := len) (p := fun i o => (∀ j, j < k → W.cell? ((a.add (i * k)).add j) = (f o)[j]?) ∧ Ok o) fun i hi => by
      obtain ⟨cs', h1, h2⟩ := hall i (by omega)
      obtain ⟨_, h3, h4⟩ := World.cells?_some h1
      rw [hsz] at h3
      obtain ⟨o, rfl, ho⟩ := hread _ _ _ h3 h2
      exact ⟨o, fun j hj => by have := h4 j (by rw [hsz]; exact hj); rwa [hsz] at this, ho⟩
    have hl : ((List.range len).map g).length = len := by simp
    refine ⟨some a, (List.range len).map g, cap, by rw [hl], by rw [hl]; exact hlc, hcm, ?_, fun o ho => ?_⟩
    · intro Hp hH i v hi
      refine ⟨a, rfl, ?_⟩
      rw [flat_get f k hk hf] at hi
      obtain ⟨o, ho, hv⟩ := Option.bind_eq_some_iff.1 hi
      rw [List.getElem?_map] at ho
      have hlt : i / k < len := by
        rcases Nat.lt_or_ge (i / k) len with h | h
        · exact h
        · rw [List.getElem?_eq_none (by simpa using h)] at ho; cases ho
      rw [List.getElem?_range hlt] at ho
      cases ho
      have h1 := (hg _ hlt).1 (i % k) (Nat.mod_lt _ hk)
      rw [hv, Addr.add_add, show i / k * k + i % k = i by rw [Nat.mul_comm]; exact Nat.div_add_mod i k] at h1
      obtain ⟨g', g1, g2, _⟩ := hH
      exact cellH_mono g1 (cellH_mono (h := hpOf W) (fun b o hb => g2 b o hb) h1)
    · obtain ⟨i, hi, rfl⟩ := List.mem_map.1 ho
      exact (hg i (by simpa using hi)).2
theorem read_u8 {e : TypeId} (he : P.underlying e = some (.int .u8)) : ∀ n cs' (y : DataW H × List MemPlace), cs'.length = 1 → DataW.trod enc P W base spare held n e cs' = some y → ∃ o : UInt8, cs' = [byteV o] ∧ True := fun n cs' y _ h => by
  obtain ⟨x, rfl, _, hw⟩ := DataW.trod_int he h
  have hx : 0 ≤ x ∧ x ≤ 255 := by simpa [Lit.wf, IntKind.min, IntKind.max, IntKind.signed, IntKind.bits] using hw
  refine ⟨UInt8.ofNat x.toNat, ?_, trivial⟩
  unfold byteV
  have e1 : ((UInt8.ofNat x.toNat).toNat : Int) = x := by
    rw [UInt8.toNat_ofNat_of_lt' (by show x.toNat < 256; omega)]; omega
  rw [e1]
theorem bytes_arg {t e : TypeId} {fuel : Nat} {cs : List Value} {x : DataW H × List MemPlace} (ht : P.underlying t = some (.slice e)) (he : P.underlying e = some (.int .u8)) (hsz : P.cellsOf e = 1) (h : DataW.trod enc P W base spare held fuel t cs = some x) :
    ∃ (p : Option Addr) (xs : List UInt8) (c : Nat), cs = [.slice p xs.length c] ∧ xs.length ≤ c ∧ c ≤ 9223372036854775807 ∧ Rd [Base W] p (xs.map byteV) := by
  obtain ⟨p, xs, c, h1, h2, h3, h4, _⟩ := sl_arg (fun x => [byteV x]) (fun _ => True) ht hsz (by decide) (fun _ => rfl) (read_u8 he) h
  refine ⟨p, xs, c, h1, h2, h3, ?_⟩
  rwa [flat_one] at h4
theorem int_arg {k : IntKind} {t : TypeId} {fuel : Nat} {cs : List Value} {x : DataW H × List MemPlace} (ht : P.underlying t = some (.int k)) (h : DataW.trod enc P W base spare held fuel t cs = some x) : ∃ n, cs = [.int k n] ∧ (Lit.int k n).wf = true := by
  obtain ⟨x, h1, _, hw⟩ := DataW.trod_int ht h
  exact ⟨x, h1, hw⟩
theorem str_arg {t : TypeId} {fuel : Nat} {cs : List Value} {x : DataW H × List MemPlace} (ht : P.underlying t = some .string) (h : DataW.trod enc P W base spare held fuel t cs = some x) : ∃ s, cs = [.string s] ∧ s.size ≤ 9223372036854775807 := by
  obtain ⟨s, h1, _, hw⟩ := DataW.trod_string ht h
  exact ⟨s, h1, hw⟩
theorem str_open {r : _root_.Go.Reach} {b0 : Nat} {t : TypeId} {v : Value} {d : DataW H} {ps : List MemPlace} (ht : P.underlying t = some .string) (hval : Value.okWide P W r b0 t v) (h : DataW.Trod enc P W base spare held t v d ps) :
    ∃ s, v = .string s ∧ s.size ≤ 9223372036854775807 := by
  obtain ⟨s, rfl⟩ := okWide_string ht hval
  obtain ⟨fuel, hf⟩ := h
  obtain ⟨s', h1, hs⟩ := str_arg ht hf
  simp [Value.cells] at h1
  subst h1
  exact ⟨s, rfl, hs⟩
theorem bytes_open {r : _root_.Go.Reach} {b0 : Nat} {t e : TypeId} {v : Value} {d : DataW H} {ps : List MemPlace} (ht : P.underlying t = some (.slice e)) (he : P.underlying e = some (.int .u8)) (hsz : P.cellsOf e = 1) (hval : Value.okWide P W r b0 t v) (h : DataW.Trod enc P W base spare held t v d ps) :
    ∃ (p : Option Addr) (xs : List UInt8) (c : Nat), v = .slice p xs.length c ∧ xs.length ≤ c ∧ c ≤ 9223372036854775807 ∧ Rd [Base W] p (xs.map byteV) := by
  obtain ⟨a, len, cap, rfl⟩ := okWide_slice ht hval
  obtain ⟨fuel, hf⟩ := h
  obtain ⟨p, xs, c, h1, h2⟩ := bytes_arg ht he hsz hf
  simp [Value.cells] at h1
  obtain ⟨rfl, rfl, rfl⟩ := h1
  exact ⟨_, xs, _, rfl, h2⟩
theorem of_cells1 {v : Value} {x : Value} (h : v.cells.toList = [x]) (hx : NotAgg x) (hv : ∀ c, v ≠ .agg c) : v = x := by
  cases v <;> simp_all [Value.cells]
end

/-! ### Up: the law is met -/
section
variable {H : Type} {enc : TypeId × Value → H} {P : Program}
theorem all_stays (hl : laidOutB P = true) {W W' : World} {sp : Nat → Bool} (hb : Below W.heap.size W W') : ∀ {ts : List TypeId} {vs : List Value} {ds : List (DataW H)} {ps : List MemPlace}, (∀ t ∈ ts, P.readableRec t = true ∧ t < P.types.size) → (∀ x ∈ ps, x.block < W.heap.size) → (∀ x ∈ ps, sp x.block = true) →
    DataW.TrodAll enc P W 0 (fun _ => true) true ts vs ds ps → DataW.TrodAll enc P W' 0 sp true ts vs ds ps
  | [], vs, ds, ps, _, _, _, h => by
    obtain ⟨rfl, rfl, rfl⟩ := trodAll_nil h
    exact rfl
  | t :: ts, vs, ds, ps, hr, hlt, hs, h => by
    obtain ⟨v, vs', d, ds', p, q, rfl, rfl, rfl, h1, h2⟩ := trodAll_cons h
    exact trodAll_cons_mk (WideElems.Trod_stays hl (hr t List.mem_cons_self).1 (hr t List.mem_cons_self).2 h1 (fun x hx => hb.same (hlt x (List.mem_append_left _ hx))) fun x hx => hs x (List.mem_append_left _ hx))
      (all_stays hl hb (fun t ht => hr t (List.mem_cons_of_mem _ ht)) (fun x hx => hlt x (List.mem_append_right _ hx)) (fun x hx => hs x (List.mem_append_right _ hx)) h2)

theorem law_post (hl : laidOutB P = true) {f : Func} {s : ChangeSpec} {tb : TypeId} {apart fresh handsOn again : Bool} {W W' : World} {args : Array Value} {ds gs : List (DataW H)} {before : List MemPlace}
    (hW : DataW.Whole enc P f.params.toList s.vars apart W args.toList ds gs before) (hvars : s.vars = []) (hfn : ∀ gs', gs' = [] → s.fn H (ds ++ gs') = { results := [.lit (.bool true)], args := ds }) (hres : f.resultTypes = #[tb]) (htb : P.underlying tb = some .bool)
    (hts : ∀ t ∈ f.params.toList, P.readableRec t = true ∧ t < P.types.size) (hb : Below W.heap.size W W') : s.post enc P f apart fresh handsOn again W args (.bool true) W' := by
  have hlt := hW.lt
  have hW0 := hW
  obtain ⟨p, q, hA, hV, rfl, hfz, hnd⟩ := hW
  rw [hvars] at hV
  obtain ⟨rfl, rfl⟩ := trodVars_none hV
  have hA' : DataW.TrodAll enc P W 0 (fun _ => true) true f.params.toList args.toList ds p := hA
  have hfn' := hfn [] rfl
  have hbf : ∀ x ∈ p, x.block < W.heap.size := fun x hx => hlt x (List.mem_append_left _ hx)
  have res : ∀ (b : Nat) (sp : Nat → Bool) (hd : Bool), DataW.TrodAll enc P W' b sp hd f.resultTypes.toList ((Value.bool true).resultList f.resultTypes.size) (s.fn H (ds ++ [])).results [] := fun b sp hd => by
    rw [hfn', hres]
    exact trodAll_cons_mk (shut_bool htb _) trodAll_mk0
  have arg : ∀ sp : Nat → Bool, (∀ x ∈ p, sp x.block = true) → DataW.TrodAll enc P W' 0 sp true f.params.toList args.toList (s.fn H (ds ++ [])).args p := fun sp hsp => by
    rw [hfn']
    exact all_stays hl hb hts hbf hsp hA'
  have var : ∀ sp : Nat → Bool, DataW.TrodVars enc P W' sp s.vars (s.fn H (ds ++ [])).vars [] := fun sp => by
    rw [hfn', hvars]
    exact rfl
  refine ⟨ds, [], p ++ [], [], p, [], hW0, res _ _ _, arg _ (fun x hx => by simpa using hbf x hx), var _, hb.frame _, fun _ => ⟨ok_one hres rfl (okWide_bool_mk htb _), _, _, ([] ++ p) ++ [], ⟨[] ++ p, [], trodAll_append (arg _ (fun _ _ => rfl)) (res _ _ _), var _, rfl, ?_, ?_⟩, ?_⟩⟩
  · intro b off hp
    have hp' : MemPlace.cell b off ∈ p ++ [] := by simpa using hp
    have := hlt _ hp'
    rw [hb.frozen this]
    exact hfz b off hp'
  · intro ha
    have := hnd ha
    simpa using this
  · intro x hx _
    simpa using hx
end
end Go.Proofs.Ytbfccpbijimjmaa
