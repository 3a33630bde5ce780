/-
  Contracts of the document's answer to who waits.
-/
import Derived.Test.YtdecmdbojmdaeaaQueueC
set_option linter.unusedVariables false
set_option linter.unusedSimpArgs false
namespace Go.Proofs.Ytdecmdbojmdaeaa
open Go
theorem uOnes : Try.prog.underlying 39 = some (.slice 53) := Try.underlying39
theorem iOne : Try.prog.info? 53 = some Try.t53 := by kernel_rfl
theorem sOne : Try.t53.size = 2 := rfl
theorem zOne : Try.t53.zero = some (.agg #[.string ⟨#[]⟩, .int .i64 0]) := rfl
theorem bOne : Try.t53.bytes = 24 := rfl
def oV (x : Name × Int) : List Value := [.string x.1, .int .i64 x.2]
theorem oV2 (x : Name × Int) : (oV x).length = 2 := rfl
theorem oVn (x : Name × Int) : ∀ v ∈ oV x, NotAgg v := fun v hv => by simp [oV] at hv; rcases hv with rfl | rfl <;> trivial
def RefQ (r : Nat) (G : QG) : Asn := exA fun x : Option Addr × Nat => sepA [Row r 41 [.slice x.1 G.length x.2], SlA 53 2 oV x.1 x.2 G]
section
variable {W w : World} {F : List Asn} {r : Nat} {G : QG}
theorem RefQ.open_ (h : St W (RefQ r G :: F) w) : ∃ p c, St W (Row r 41 [.slice p G.length c] :: SlA 53 2 oV p c G :: F) w := by
  obtain ⟨⟨p, c⟩, h⟩ := h.of_ex
  exact ⟨p, c, h.of_sep⟩
theorem RefQ.shut {p : Option Addr} {c : Nat} (h : St W (Row r 41 [.slice p G.length c] :: SlA 53 2 oV p c G :: F) w) : St W (RefQ r G :: F) w := St.to_ex (p, c) (St.to_sep (l := [_, _]) h)

theorem RNew_spec (hS : St W F w) : CallR Try.prog 11 #[] w fun v w' => ∃ r, v = .pointer (some ⟨r, 0, none⟩) ∧ St W (RefQ r [] :: F) w' := by
  refine F11_of (NewC.i hS fun b w1 hS => ⟨b, rfl, RefQ.shut (p := none) (c := 0) (St.p1 (SlA.nil hS))⟩)

theorem RWhere_spec (id : Int) (hall : G.length ≤ 100) (hS : St W (RefQ r G :: F) w) :
    CallR Try.prog 20 #[.pointer (some ⟨r, 0, none⟩), .int .i64 id] w fun v w' => v = .tuple #[.string ((gW G id).getD ⟨#[]⟩), .bool (gW G id).isSome] ∧ St W (RefQ r G :: F) w' := by
  obtain ⟨p, c, hS⟩ := RefQ.open_ hS
  refine F20_of ⟨fun vs w => ∃ k : Nat, k ≤ G.length ∧ vs = [.int .i64 k] ∧ gW G id = gW (G.drop k) id ∧ St W (Row r 41 [.slice p G.length c] :: SlA 53 2 oV p c G :: F) w, leftN G.length, ⟨0, Nat.zero_le _, rfl, rfl, hS⟩, fun i w hI => ?_⟩
  obtain ⟨k, hk, he, hg, hS⟩ := hI
  cases he
  refine NilP.i (LdL.a 0 hS rfl rfl (Bif.i (fun hlt => ?_) fun hge => ?_))
  · have hlt : k < G.length := by have := of_decide_eq_true hlt; omega
    have hx : G[k]? = some G[k] := List.getElem?_eq_getElem hlt
    have hdr : G.drop k = G[k] :: G.drop (k + 1) := List.drop_eq_getElem_cons hlt
    refine NilP.i (LdL.a 0 hS rfl rfl (IxP.el oV2 (by decide) (Rd.n 1 rfl SlA.rd) hS rfl hlt hx fun a ha => LdI.at (ha 1 _ rfl) (Bif.i (fun he => ?_) fun hne => ?_)))
    · have he : G[k].2 = id := by simpa using he
      have hg : gW G id = some G[k].1 := by rw [hg, hdr]; simp [gW, he]
      refine NilP.i (LdL.a 0 hS rfl rfl (IxP.el oV2 (by decide) (Rd.n 1 rfl SlA.rd) hS rfl hlt hx fun a ha => LdS.at (ha 0 _ rfl) ?_))
      rw [hg]
      exact ⟨rfl, RefQ.shut hS⟩
    · have hne : G[k].2 ≠ id := by simpa using hne
      rw [up hlt (by omega)]
      refine ⟨⟨k + 1, by omega, rfl, ?_, hS⟩, by show G.length - (k + 1) < G.length - k; omega⟩
      rw [hg, hdr]
      simp [gW, hne]
  · have hk2 : k = G.length := by have := of_decide_eq_false hge; omega
    subst hk2
    rw [List.drop_length] at hg
    rw [hg]
    exact ⟨rfl, RefQ.shut hS⟩

theorem gL_take (G : QG) (n : Name) {k : Nat} (hk : k < G.length) : gL (G.take (k + 1)) n = gL (G.take k) n ++ if G[k].1 = n then [G[k].2] else [] := by
  have htk : G.take (k + 1) = G.take k ++ [G[k]] := by rw [List.take_add_one, List.getElem?_eq_getElem hk]; rfl
  rw [htk, gL_app]
  congr 1
  unfold gL
  by_cases h : G[k].1 = n <;> simp [h]
theorem gL_len (G : QG) (n : Name) : (gL G n).length ≤ G.length := by
  unfold gL; rw [List.length_map]; exact List.length_filter_le _ _

theorem RList_spec (n : Name) (hall : G.length ≤ 100) (hS : St W (RefQ r G :: F) w) :
    CallR Try.prog 24 #[.pointer (some ⟨r, 0, none⟩), .string n] w fun v w' => ∃ p c, v = .slice p (gL G n).length c ∧ St W (SlA 3 1 iV p c (gL G n) :: RefQ r G :: F) w' := by
  obtain ⟨p, c, hS⟩ := RefQ.open_ hS
  refine F24_of ⟨fun vs w => ∃ (k : Nat) (p' : Option Addr) (c' : Nat), k ≤ G.length ∧ vs = [.slice p' (gL (G.take k) n).length c', .int .i64 k] ∧ St W (SlA 3 1 iV p' c' (gL (G.take k) n) :: Row r 41 [.slice p G.length c] :: SlA 53 2 oV p c G :: F) w, leftN G.length, ⟨0, none, 0, Nat.zero_le _, rfl, SlA.nil hS⟩, fun op on oc i w hI => ?_⟩
  obtain ⟨k, p', c', hk, he, hS⟩ := hI
  cases he
  refine NilP.i (LdL.a 1 hS rfl rfl (Bif.i (fun hlt => ?_) fun hge => ?_))
  · have hlt : k < G.length := by have := of_decide_eq_true hlt; omega
    have hx : G[k]? = some G[k] := List.getElem?_eq_getElem hlt
    have hm : leftN G.length [.int .i64 ((k + 1 : Nat) : Int)] w < leftN G.length [.int .i64 (k : Int)] w := by show G.length - (k + 1) < G.length - k; omega
    have hln := gL_len (G.take k) n
    simp only [List.length_take] at hln
    rw [up hlt (by omega)]
    refine NilP.i (LdL.a 1 hS rfl rfl (IxP.el oV2 (by decide) (Rd.n 2 rfl SlA.rd) hS rfl hlt hx fun a ha => LdS.at (ha 0 _ rfl) (Bif.i (fun he => ?_) fun hne => ?_)))
    · rw [bytes_beq] at he
      have he : G[k].1 = n := of_decide_eq_true he
      refine NilP.i (LdL.a 1 hS rfl rfl (IxP.el oV2 (by decide) (Rd.n 2 rfl SlA.rd) hS rfl hlt hx fun a ha => LdI.at (ha 1 _ rfl) (NewC.i hS fun b w1 hS => ?_)))
      refine append_el (os := gL (G.take k) n) (xs := [G[k].2]) iV1 uIs (.inr ⟨_, uIs⟩) iInt sInt zInt rfl 1 hS rfl (Rd.n 0 rfl fun F => Rd.all) rfl iVn (by rw [bInt]; simp; omega) (by simp; omega) fun p2 c2 w2 hS => ⟨_, _, _, rfl, ⟨k + 1, p2, c2, by omega, ?_, ?_⟩, hm⟩
      · rw [gL_take G n hlt, if_pos he]
      · rw [gL_take G n hlt, if_pos he]; exact hS.drop
    · rw [bytes_beq] at hne
      have hne : ¬ G[k].1 = n := of_decide_eq_false hne
      refine ⟨⟨k + 1, op, oc, by omega, ?_, ?_⟩, hm⟩
      · rw [gL_take G n hlt, if_neg hne, List.append_nil]
      · rw [gL_take G n hlt, if_neg hne, List.append_nil]; exact hS
  · have hk2 : k = G.length := by have := of_decide_eq_false hge; omega
    subst hk2
    rw [List.take_length] at hS ⊢
    exact ⟨op, oc, rfl, (RefQ.shut hS.p1.p2.p1 |> fun h => h.p1)⟩

theorem gDrop_take (G : QG) (id : Int) {k : Nat} (hk : k < G.length) : gDrop (G.take (k + 1)) id = gDrop (G.take k) id ++ if G[k].2 = id then [] else [G[k]] := by
  have htk : G.take (k + 1) = G.take k ++ [G[k]] := by rw [List.take_add_one, List.getElem?_eq_getElem hk]; rfl
  unfold gDrop
  rw [htk, List.filter_append]
  congr 1
  by_cases h : G[k].2 = id <;> simp [h]
theorem RDrop_spec (id : Int) (hall : G.length ≤ 100) (hS : St W (RefQ r G :: F) w) :
    CallR Try.prog 16 #[.pointer (some ⟨r, 0, none⟩), .int .i64 id] w fun v w' => v = .bool (gW G id).isSome ∧ St W (RefQ r (gDrop G id) :: F) w' := by
  refine F16_of ((RWhere_spec id hall hS).of fun v w1 ⟨hv, hS⟩ => ⟨_, _, hv, ?_⟩)
  obtain ⟨p, c, hS⟩ := RefQ.open_ hS
  refine ⟨fun vs w => ∃ (k : Nat) (p' : Option Addr) (c' : Nat), k ≤ G.length ∧ vs = [.slice p' (gDrop (G.take k) id).length c', .int .i64 k] ∧ St W (SlA 53 2 oV p' c' (gDrop (G.take k) id) :: Row r 41 [.slice p G.length c] :: SlA 53 2 oV p c G :: F) w, leftN G.length, ⟨0, none, 0, Nat.zero_le _, rfl, SlA.nil hS⟩, fun op on oc i w hI => ?_⟩
  obtain ⟨k, p', c', hk, he, hS⟩ := hI
  cases he
  refine NilP.i (LdL.a 1 hS rfl rfl (Bif.i (fun hlt => ?_) fun hge => ?_))
  · have hlt : k < G.length := by have := of_decide_eq_true hlt; omega
    have hx : G[k]? = some G[k] := List.getElem?_eq_getElem hlt
    have hm : leftN G.length [.int .i64 ((k + 1 : Nat) : Int)] w < leftN G.length [.int .i64 (k : Int)] w := by show G.length - (k + 1) < G.length - k; omega
    have hln := gDrop_len (G.take k) id
    simp only [List.length_take] at hln
    rw [up hlt (by omega)]
    refine NilP.i (LdL.a 1 hS rfl rfl (IxP.el oV2 (by decide) (Rd.n 2 rfl SlA.rd) hS rfl hlt hx fun a ha => LdI.at (ha 1 _ rfl) (Bif.i (fun hne => ?_) fun he => ?_)))
    · have hne : ¬ G[k].2 = id := by simpa using hne
      refine NilP.i (LdL.a 1 hS rfl rfl (IxP.el oV2 (by decide) (Rd.n 2 rfl SlA.rd) hS rfl hlt hx fun a ha => LdS.at (ha 0 _ rfl) (LdI.at (ha 1 _ rfl) (NewC.i hS fun b w1 hS => ?_))))
      refine append_el (os := gDrop (G.take k) id) (xs := [G[k]]) oV2 uOnes (.inr ⟨_, uOnes⟩) iOne sOne zOne rfl 1 hS rfl (Rd.n 0 rfl fun F => Rd.all) rfl oVn (by rw [bOne]; simp; omega) (by simp; omega) fun p2 c2 w2 hS => ⟨_, _, _, rfl, ⟨k + 1, p2, c2, by omega, ?_, ?_⟩, hm⟩
      · rw [gDrop_take G id hlt, if_neg hne]
      · rw [gDrop_take G id hlt, if_neg hne]; exact hS.drop
    · have he : G[k].2 = id := by simpa using he
      refine ⟨⟨k + 1, op, oc, by omega, ?_, ?_⟩, hm⟩
      · rw [gDrop_take G id hlt, if_pos he, List.append_nil]
      · rw [gDrop_take G id hlt, if_pos he, List.append_nil]; exact hS
  · have hk2 : k = G.length := by have := of_decide_eq_false hge; omega
    subst hk2
    rw [List.take_length] at hS
    refine NilP.i (St1.a 1 hS rfl (Nat.le_of_ble_eq_true rfl) fun w3 hS => ⟨rfl, RefQ.shut (p := op) (c := oc) ?_⟩)
    rw [List.take_length] at hS
    exact St.del 2 (St.p1 hS) rfl

theorem RPut_spec (n : Name) (id : Int) (hall : G.length ≤ 64) (hS : St W (RefQ r G :: F) w) :
    CallR Try.prog 18 #[.pointer (some ⟨r, 0, none⟩), .string n, .int .i64 id] w fun v w' => v = .int .i64 (gPut G n id).2 ∧ St W (RefQ r (gPut G n id).1 :: F) w' := by
  refine F18_of ((RWhere_spec id (by omega) hS).of fun v w1 ⟨hv, hS⟩ => ⟨_, _, hv, Bif.i (fun h => ?_) fun h => ?_⟩)
  · unfold gPut; rw [if_pos h]; exact ⟨rfl, hS⟩
  refine (RList_spec n (by omega) hS).of fun v w2 ⟨p1, c1, hv, hS⟩ => ⟨_, _, _, hv, Bif.i (fun h8 => ?_) fun h8 => ?_⟩
  · have h8 : 8 ≤ (gL G n).length := by have := of_decide_eq_true h8; omega
    unfold gPut; rw [if_neg (by simp [h]), if_pos (.inl h8)]; exact ⟨rfl, hS.drop⟩
  have h8 : ¬ 8 ≤ (gL G n).length := by have := of_decide_eq_false h8; omega
  obtain ⟨p, c, hS⟩ := RefQ.open_ hS.drop
  refine NilP.i (LdL.a 0 hS rfl rfl (Bif.i (fun h64 => ?_) fun h64 => ?_))
  · have h64 : 64 ≤ G.length := by have := of_decide_eq_true h64; omega
    unfold gPut; rw [if_neg (by simp [h]), if_pos (.inr h64)]; exact ⟨rfl, RefQ.shut hS⟩
  have h64 : ¬ 64 ≤ G.length := by have := of_decide_eq_false h64; omega
  have hp : gPut G n id = (G ++ [(n, id)], 0) := by
    unfold gPut
    rw [if_neg (by simp [h]), if_neg (by omega)]
  rw [hp]
  refine NilP.i (LdL.a 0 hS rfl rfl (NewC.i hS fun b w3 hS => ?_))
  refine append_el (os := G) (xs := [(n, id)]) oV2 uOnes (.inr ⟨_, uOnes⟩) iOne sOne zOne rfl 2 hS rfl (Rd.n 0 rfl fun F => Rd.all) rfl oVn (by rw [bOne]; simp; omega) (by simp; omega) fun p2 c2 w4 hS => ⟨_, _, _, rfl, NilP.i (St1.a 1 hS rfl (Nat.le_of_ble_eq_true rfl) fun w5 hS => ⟨rfl, RefQ.shut (p := p2) (c := c2) hS.drop⟩)⟩

theorem RTake_spec (n : Name) (hok : QOk G) (hS : St W (RefQ r G :: F) w) :
    CallR Try.prog 14 #[.pointer (some ⟨r, 0, none⟩), .string n] w fun v w' => v = .tuple #[.int .i64 (gTake G n).2.1, .bool (gTake G n).2.2] ∧ St W (RefQ r (gTake G n).1 :: F) w' := by
  have hall := hok.all
  refine F14_of ((RList_spec n (by omega) hS).of fun v w1 ⟨p1, c1, hv, hS⟩ => ⟨_, _, _, hv, ?_⟩)
  unfold gTake
  cases hl : gL G n with
  | nil => exact Bif.i (fun _ => ⟨rfl, hS.drop⟩) fun h => by simp at h
  | cons i rr =>
    rw [hl] at hS
    refine Bif.i (fun h => by simp at h; omega) fun _ => ?_
    refine IxP.el (os := i :: rr) (k := 0) (x := i) iV1 (by decide) (Rd.n 0 rfl SlA.rd) hS rfl (by simp) rfl fun a ha => LdI.at (ha 0 _ rfl) ?_
    refine (RDrop_spec i (by omega) (hS.p1)).of fun v w2 ⟨hv, hS⟩ => ⟨_, hv, ?_⟩
    exact IxP.el (os := i :: rr) (k := 0) (x := i) iV1 (by decide) (Rd.n 1 rfl SlA.rd) hS rfl (by simp) rfl fun a ha => LdI.at (ha 0 _ rfl) ⟨rfl, hS.p1.drop⟩

/-- Two rows of numbers are held against each other. -/
theorem Same_spec {p1 p2 : Option Addr} {c1 c2 : Nat} {xs ys : List Int} (hx : Rd F p1 (xs.flatMap iV)) (hy : Rd F p2 (ys.flatMap iV)) (hl : xs.length ≤ 1000000) (hS : St W F w) :
    CallR Try.prog 22 #[.slice p1 xs.length c1, .slice p2 ys.length c2] w fun v w' => v = .bool (decide (xs = ys)) ∧ St W F w' := by
  refine F22_of (Bif.i (fun h => ?_) fun h => ?_)
  · have h : ¬ xs = ys := fun e => by rw [e] at h; simp at h
    rw [decide_eq_false h]; exact ⟨rfl, hS⟩
  have hlen : xs.length = ys.length := by simp at h; omega
  refine ⟨fun vs w => ∃ k : Nat, k ≤ xs.length ∧ vs = [.int .i64 k] ∧ (∀ j, j < k → xs[j]? = ys[j]?) ∧ St W F w, leftN xs.length, ⟨0, Nat.zero_le _, rfl, fun j hj => by omega, hS⟩, fun i w hI => ?_⟩
  obtain ⟨k, hk, he, hall, hS⟩ := hI
  cases he
  refine Bif.i (fun hlt => ?_) fun hge => ?_
  · have hlt : k < xs.length := by have := of_decide_eq_true hlt; omega
    have hlt2 : k < ys.length := by omega
    have e1 : xs[k]? = some xs[k] := List.getElem?_eq_getElem hlt
    have e2 : ys[k]? = some ys[k] := List.getElem?_eq_getElem hlt2
    refine ⟨StC W F, StC.start hS, ?_⟩
    have hx0 := flat_at iV1 e1 (j := 0) rfl
    have hy0 := flat_at iV1 e2 (j := 0) rfl
    obtain ⟨a1, ha1, _⟩ := hx.of hS hx0
    obtain ⟨a2, ha2, _⟩ := hy.of hS hy0
    refine ⟨a1, ha1, ⟨by omega, by omega⟩, a2, ha2, ⟨by omega, by omega⟩, xs[k], fun G w h => LdI.at ?_ ⟨rfl, h⟩, ys[k], fun G w h => LdI.at ?_ ⟨rfl, h⟩, fun G w h => ?_⟩
    · have := (hx.app (pts G)).at1 h ha1 hx0
      rwa [Nat.add_zero] at this
    · have := (hy.app (pts G)).at1 h ha2 hy0
      rwa [Nat.add_zero] at this
    have hS := StC.ends h
    refine Bif.i (fun hne => ?_) fun heq => ?_
    · have hne : xs[k] ≠ ys[k] := by simpa using hne
      have : ¬ xs = ys := fun e => hne (by simp [e])
      rw [decide_eq_false this]; exact ⟨rfl, hS⟩
    · have heq : xs[k] = ys[k] := by simpa using heq
      rw [up hlt (by omega)]
      refine ⟨⟨k + 1, by omega, rfl, fun j hj => ?_, hS⟩, by show xs.length - (k + 1) < xs.length - k; omega⟩
      by_cases hjk : j = k
      · subst hjk; rw [e1, e2, heq]
      · exact hall j (by omega)
  · have hk2 : k = xs.length := by have := of_decide_eq_false hge; omega
    subst hk2
    have : xs = ys := List.ext_getElem? fun j => by
      rcases Nat.lt_or_ge j xs.length with h | h
      · exact hall j h
      · rw [List.getElem?_eq_none h, List.getElem?_eq_none (by omega)]
    rw [decide_eq_true this]; exact ⟨rfl, hS⟩
end
end Go.Proofs.Ytdecmdbojmdaeaa
