/-
  The walks of the laws of frames: more.
-/
import Derived.Test.YtgjehbhjgogmfaaLaw06
set_option linter.unusedVariables false
set_option linter.unusedSimpArgs false
namespace Go.Proofs.Ytgjehbhjgogmfaa
open Go
def SOk (W : World) (d : SD) : Prop := d.bs.length ≤ d.c ∧ d.c ≤ 9223372036854775807 ∧ Rd [Base W] d.p (d.bs.map byteV)
theorem bytess_open {H : Type} {enc : TypeId × Value → H} {W : World} {base b0 : Nat} {spare : Nat → Bool} {held : Bool} {r : _root_.Go.Reach} {v : Value} {d : DataW H} {ps : List MemPlace} (hval : Value.okWide Try.prog W r b0 27 v) (h : DataW.Trod enc Try.prog W base spare held 27 v d ps) :
    ∃ (p : Option Addr) (os : List SD) (c : Nat), v = .slice p os.length c ∧ os.length ≤ c ∧ c ≤ 9223372036854775807 ∧ Rd [Base W] p (os.flatMap slV) ∧ ∀ o ∈ os, SOk W o := by
  obtain ⟨a, len, cap, rfl⟩ := WideShapes.okWide_slice uBs hval
  obtain ⟨fuel, hf⟩ := h
  obtain ⟨p, xs, c, h1, h2⟩ := sl_arg slV (SOk W) uBs cB (by decide) (fun _ => rfl) (fun n cs' y hl h => by
    obtain ⟨p, xs, c, h1, h2, h3, h4⟩ := bytes_arg uB uU8 cU8 h
    exact ⟨⟨p, c, xs⟩, h1, h2, h3, h4⟩) hf
  simp [Value.cells] at h1
  obtain ⟨rfl, rfl, rfl⟩ := h1
  exact ⟨_, xs, _, rfl, h2⟩
/-! ### Plain -/
def totN (l : List SD) : Nat := (l.map fun d => d.bs.length).sum
theorem totN_take {l : List SD} {k : Nat} {d : SD} (h : l[k]? = some d) : totN (l.take (k + 1)) = totN (l.take k) + d.bs.length := by
  rw [take_one h]; unfold totN; rw [List.map_append, List.sum_append]; simp
theorem totN_le (l : List SD) (k : Nat) : totN (l.take k) ≤ totN l := by
  have : totN l = totN (l.take k) + totN (l.drop k) := by
    unfold totN
    rw [← List.sum_append, ← List.map_append, List.take_append_drop]
  omega
def fines (l : List SD) : List SD := l.filter fun d => decide (Fine d.bs)
theorem fines_take {l : List SD} {k : Nat} {d : SD} (h : l[k]? = some d) : fines (l.take (k + 1)) = fines (l.take k) ++ if Fine d.bs then [d] else [] := by
  rw [take_one h]; unfold fines; rw [List.filter_append]
  by_cases hf : Fine d.bs <;> simp [hf]
theorem fines_fine {l : List SD} : ∀ x ∈ (fines l).map (·.bs), Fine x := fun x hx => by
  obtain ⟨d, hd, rfl⟩ := List.mem_map.1 hx
  unfold fines at hd
  simpa using (List.mem_filter.1 hd).2
theorem fines_len (l : List SD) : (fines l).length ≤ l.length := List.length_filter_le _ _
theorem encs_fines_len (l : List SD) : (encs ((fines l).map (·.bs))).length ≤ totN l + 2 * l.length := by
  induction l with
  | nil => simp [fines, encs, totN]
  | cons d r ih =>
    have e1 : totN (d :: r) = d.bs.length + totN r := by unfold totN; simp
    rw [e1, List.length_cons]
    unfold fines at ih ⊢
    by_cases hf : Fine d.bs
    · rw [List.filter_cons_of_pos (by simpa using hf), List.map_cons, encs_cons, List.length_append, putP_len hf]; omega
    · rw [List.filter_cons_of_neg (by simpa using hf)]; omega
theorem cut_all {xs : List (List UInt8)} (h : ∀ x ∈ xs, Fine x) : CutIs (encs xs) xs (encs xs).length 0 := ⟨h, rfl, [], by rw [List.append_nil], rfl⟩
/-- Pieces: what was cut, with what is cut of what is left and more. -/
theorem cut_join {a b : List UInt8} {xs ys : List (List UInt8)} {n k : Nat} {e : Int} (ha : a = encs xs) (hx : ∀ x ∈ xs, Fine x) (hb : CutIs b ys k e) : CutIs (a ++ b) (xs ++ ys) (a.length + k) e := by
  obtain ⟨h1, rfl, r, rfl, h3⟩ := hb
  refine ⟨fun x h => (List.mem_append.1 h).elim (hx x) (h1 x), by rw [encs_append, List.length_append, ha], r, by rw [ha, encs_append, List.append_assoc], h3⟩
theorem cut_err {a b : List UInt8} {xs : List (List UInt8)} {n : Nat} {e : Int} (h : CutIs a xs n e) (he : e ≠ 0) : CutIs (a ++ b) xs n e := by
  obtain ⟨h1, rfl, r, rfl, h3⟩ := h
  refine ⟨h1, rfl, r ++ b, by rw [List.append_assoc], ?_⟩
  rw [first_err (by rw [h3]; exact he), h3]
section
variable {W w : World} {F : List Asn}
theorem great_spec {p : Option Addr} {c : Nat} {os : List SD} (hr : Rd F p (os.flatMap slV)) (hm : os.length ≤ 9223372036854775807) (hS : St W F w) :
    CallR Try.prog 17 #[.slice p os.length c] w fun v w' => ∃ b, v = .bool b ∧ (b = false → os.length + totN os < 20000) ∧ St W F w' := by
  refine F17_of ⟨fun vs w => ∃ (k : Nat) (n : Int), vs = [.int .i64 n, .int .i64 k] ∧ k ≤ os.length ∧ (os.length : Int) ≤ n ∧ (n ≤ 40000 ∨ n = os.length) ∧ (n < 20000 → n = os.length + totN (os.take k)) ∧ St W F w, leftN os.length, ⟨0, os.length, rfl, by omega, by omega, .inr rfl, fun _ => by simp [totN], hS⟩, fun n x w hI => ?_⟩
  clear hS
  obtain ⟨k, n', he, hk, hn0, hn1, hn2, hS⟩ := hI
  cases he
  have fin : (n ≥ 20000 ∨ k = os.length) → ∀ w, St W F w → ∃ b, Value.bool (decide (n ≥ 20000)) = .bool b ∧ (b = false → os.length + totN os < 20000) ∧ St W F w := fun h w hS => by
    refine ⟨_, rfl, fun hb => ?_, hS⟩
    have hb := of_decide_eq_false hb
    rcases h with h | h
    · exact absurd h hb
    · rw [h, List.take_length] at hn2
      have := hn2 (by omega)
      omega
  refine Bif.i (fun hlt => Bif.i (fun h2 => ?_) fun h2 => ?_) fun hge => fin (.inr (by have := of_decide_eq_false hge; omega)) w hS
  · have hlt : k < os.length := by have := of_decide_eq_true hlt; omega
    have h2 := of_decide_eq_true h2
    have hn3 := hn2 h2
    have hx : os[k]? = some (os[k]'hlt) := List.getElem?_eq_getElem _
    generalize os[k]'hlt = d at hx
    have ht := totN_take hx
    refine IxP.one hr hS rfl hlt (sl_at hx) fun a ha => LdL.at ha ?_
    rw [up hlt (by omega)]
    have hmin : ∃ q : Nat, (if (20000 : Int) < (d.bs.length : Int) then (20000 : Int) else (d.bs.length : Int)) = (q : Int) ∧ q ≤ 20000 ∧ (q < 20000 → q = d.bs.length) := by
      by_cases h : (20000 : Int) < (d.bs.length : Int)
      · exact ⟨20000, by rw [if_pos h]; rfl, by omega, fun h => by omega⟩
      · exact ⟨d.bs.length, by rw [if_neg h], by omega, fun _ => rfl⟩
    obtain ⟨q, hq, hq1, hq2⟩ := hmin
    rw [hq, w64 (n := n + (q : Int)) (by omega) (by omega)]
    refine ⟨⟨k + 1, n + q, rfl, by omega, by omega, .inl (by omega), fun h => ?_, hS⟩, by show os.length - (k + 1) < os.length - k; omega⟩
    rw [ht]
    have := hq2 (by omega)
    push_cast
    omega
  · have h2 := of_decide_eq_false h2
    exact fin (.inl (by omega)) w hS
theorem Back_walk {W : World} {p : Option Addr} {os : List SD} {c : Nat} (hr : Rd [Base W] p (os.flatMap slV)) (hc : os.length ≤ c) (hcm : c ≤ 9223372036854775807) (hok : ∀ o ∈ os, SOk W o) :
    CallR Try.prog 4 #[.slice p os.length c] W fun v w' => v = .bool true ∧ ∃ r, St W (Base W :: r) w' := by
  refine F4_of ((head_spec (St.base W)).of fun v w ⟨hv, hS⟩ => ⟨_, hv, (great_spec hr (by omega) hS).of fun v w ⟨b, hv, hb, hS⟩ => ⟨_, hv, Bif.i (fun _ => ⟨rfl, [], hS⟩) fun hb' => ?_⟩⟩)
  have hsz := hb hb'
  clear hb hb'
  refine ⟨fun vs w => ∃ (k : Nat) (p1 : Option Addr) (c1 : Nat) (p2 : Option Addr) (c2 : Nat), vs = [.slice p1 (fines (os.take k)).length c1, .slice p2 (encs ((fines (os.take k)).map (·.bs))).length c2, .int .i64 k] ∧ k ≤ os.length ∧
      St W [SlA 22 1 slV p1 c1 (fines (os.take k)), OwnB p2 c2 (encs ((fines (os.take k)).map (·.bs))), Base W] w, leftN os.length, ⟨0, none, 0, none, 0, rfl, by omega, SlA.nil (OwnS.nil _ _ _ hS)⟩, fun wp wn wc ap an ac x w hI => ?_⟩
  clear hS
  obtain ⟨k, p1, c1, p2, c2, he, hk, hS⟩ := hI
  cases he
  have hfl : (fines (os.take k)).length ≤ 20000 := by
    have := fines_len (os.take k)
    rw [List.length_take] at this
    omega
  have hel : (encs ((fines (os.take k)).map (·.bs))).length ≤ 60000 := by
    have h1 := encs_fines_len (os.take k)
    have h2 := totN_le os k
    rw [List.length_take] at h1
    omega
  refine Bif.i (fun hlt => ?_) fun hge => ?_
  · have hlt : k < os.length := by have := of_decide_eq_true hlt; omega
    have hx : os[k]? = some (os[k]'hlt) := List.getElem?_eq_getElem _
    have hxo := hok _ (List.getElem_mem hlt)
    generalize os[k]'hlt = d at hx hxo
    have ht := totN_take hx
    have ht2 := totN_le os (k + 1)
    have hft := fines_take hx
    have hr3 : ∀ {A B : Asn}, Rd [A, B, Base W] p (os.flatMap slV) := fun {A B} => (hr.cons _).cons _
    refine IxP.one hr3 hS rfl hlt (sl_at hx) fun a ha => LdL.at ha ?_
    refine (Put_spec ((hxo.2.2.cons _).cons _) rfl hS).of fun v w ⟨p3, c3, hv, hS⟩ => ⟨_, _, _, hv, ?_⟩
    have hr4 : ∀ {A B C : Asn}, Rd [A, B, C, Base W] p (os.flatMap slV) := fun {A B C} => ((hr.cons _).cons _).cons _
    refine ⟨fun vs w => vs = [.bool (decide (Fine d.bs))] ∧ St W [OwnB p3 c3 (putP d.bs), SlA 22 1 slV wp wc (fines (os.take k)), OwnB ap ac (encs ((fines (os.take k)).map (·.bs))), Base W] w, ?_, fun fine w hJ => ?_⟩
    · refine IxP.one hr4 hS rfl hlt (sl_at hx) fun a ha => LdL.at ha (Bif.i (fun h1 => ?_) fun h1 => ⟨?_, hS⟩)
      · have h1 := of_decide_eq_true h1
        refine IxP.one hr4 hS rfl hlt (sl_at hx) fun a ha => LdL.at ha ⟨?_, hS⟩
        congr 2
        rw [decide_eq_decide]
        unfold Fine
        omega
      · have h1 := of_decide_eq_false h1
        rw [decide_eq_false (fun h => h1 (by have := h.1; omega))]
    clear hS
    obtain ⟨he, hS⟩ := hJ
    cases he
    refine ⟨fun vs w => vs = [] ∧ St W [OwnB p3 c3 (putP d.bs), SlA 22 1 slV wp wc (fines (os.take k)), OwnB ap ac (encs ((fines (os.take k)).map (·.bs))), Base W] w, Bif.no ?_ (Bif.i (fun hf => ?_) fun _ => ⟨rfl, hS⟩), fun w hJ => ?_⟩
    · by_cases hf : Fine d.bs
      · rw [decide_eq_true hf, putP_len hf]; simp
        omega
      · rw [decide_eq_false hf, putP_not hf]; simp
    · have hf := of_decide_eq_true hf
      refine IxP.one hr4 hS rfl hlt (sl_at hx) fun a ha => LdL.at ha (Bif.no ?_ ⟨rfl, hS⟩)
      rw [putP_len hf, w64 (by omega) (by have := hf.2; omega)]
      simp
    clear hS
    obtain ⟨_, hS⟩ := hJ
    rw [up hlt (by omega)]
    refine Bif.i (fun hf => ?_) fun hf => ?_
    · have hf := of_decide_eq_true hf
      rw [if_pos hf] at hft
      have em : (fines (os.take (k + 1))).map (·.bs) = (fines (os.take k)).map (·.bs) ++ [d.bs] := by rw [hft, List.map_append]; rfl
      refine IxP.one hr4 hS rfl hlt (sl_at hx) fun a ha => LdL.at ha (NewC.i hS fun b w hS => ?_)
      have hS : St W [Row b 22 (List.flatMap slV [d]), OwnB p3 c3 (putP d.bs), SlA 22 1 slV wp wc (fines (os.take k)), OwnB ap ac (encs ((fines (os.take k)).map (·.bs))), Base W] w := hS
      refine append_el (os := fines (os.take k)) (xs := [d]) slV1 uBs (.inr ⟨_, uBs⟩) iB sB zB rfl 2 hS rfl (Rd.n 0 rfl fun F => Rd.all) rfl slVn (by rw [bB]; simp only [List.length_cons, List.length_nil]; omega) (by simp only [List.length_cons, List.length_nil]; omega) fun p4 c4 w hS => ⟨_, _, _, rfl, ?_⟩
      rw [← hft] at hS ⊢
      have hS : St W [OwnB ap ac (encs ((fines (os.take k)).map (·.bs))), OwnB p3 c3 (putP d.bs), SlA 22 1 slV p4 c4 (fines (os.take (k + 1))), Base W] w := St.mv 2 0 hS.drop rfl
      refine append_b hS (Rd.n 0 rfl fun F => OwnS.rd F) rfl (by rw [putP_len hf]; have := hf.2; omega) fun p5 c5 w hS => ⟨_, _, _, rfl, ?_⟩
      have ee : encs ((fines (os.take k)).map (·.bs)) ++ putP d.bs = encs ((fines (os.take (k + 1))).map (·.bs)) := by rw [em, encs_append, encs_one]
      rw [ee] at hS ⊢
      exact ⟨⟨k + 1, p4, c4, p5, c5, rfl, by omega, (St.del 1 hS rfl).p1⟩, by show os.length - (k + 1) < os.length - k; omega⟩
    · have hf := of_decide_eq_false hf
      rw [if_neg hf, List.append_nil] at hft
      rw [← hft] at hS ⊢
      exact ⟨⟨k + 1, wp, wc, ap, ac, rfl, by omega, hS.drop⟩, by show os.length - (k + 1) < os.length - k; omega⟩
  · have hk2 : k = os.length := by have := of_decide_eq_false hge; omega
    subst hk2
    rw [List.take_length] at hS hfl hel ⊢
    have hle := (OwnS.le hS.p1).2
    refine (Cut_spec (Rd.n 1 rfl fun F => OwnS.rd F) rfl hle (by omega) hS).of fun v w ⟨p3, c3, L, m, e, hv, hcut, hS⟩ => ⟨_, _, _, _, _, hv, Bif.yes rfl ?_⟩
    obtain ⟨e1, e2, e3⟩ := hcut.uniq (cut_all fines_fine)
    have hLl : L.length ≤ 1000000 := by
      have := congrArg List.length e1
      rw [List.length_map, List.length_map] at this
      omega
    refine (Same_spec (Rd.n 0 rfl fun F => SlA.rd F) (Rd.n 2 rfl fun F => SlA.rd F) (fun d hd => Rd.n 1 rfl fun F => ctsA.rd hd F) (fun d hd => ?_) hLl hS).of fun v w ⟨hv, hS⟩ => ⟨_, hv, Bif.yes (decide_eq_true e1) (Bif.yes (by rw [e2]; simp) ⟨by rw [e3]; rfl, _, hS.p4⟩)⟩
    have hdo : d ∈ os := (List.mem_filter.1 hd).1
    exact ((((hok d hdo).2.2.cons _).cons _).cons _).cons _
end
end Go.Proofs.Ytgjehbhjgogmfaa
