/-
  Contracts of the document's answer to alarms.
-/
import Derived.Test.YtgmpnonjhpopdaaLaw08b
set_option linter.unusedVariables false
set_option linter.unusedSimpArgs false
namespace Go.Proofs.Ytgmpnonjhpopdaa
open Go
theorem uAs : Try.prog.underlying 40 = some (.slice 70) := Try.underlying40
theorem iA : Try.prog.info? 70 = some Try.t70 := by kernel_rfl
theorem sA : Try.t70.size = 2 := rfl
theorem zA : Try.t70.zero = some (.agg #[.int .i64 0, .int .i64 0]) := rfl
theorem bA : Try.t70.bytes = 16 := rfl
def aV (x : Al) : List Value := [.int .i64 x.1, .int .i64 x.2]
theorem aV2 (x : Al) : (aV x).length = 2 := rfl
theorem aVn (x : Al) : ∀ v ∈ aV x, NotAgg v := fun v hv => by simp [aV] at hv; rcases hv with rfl | rfl <;> trivial
theorem ins_none {x : Al} : ∀ {l : List Al}, (∀ z ∈ l, ¬ leA x z) → insA x l = l ++ [x]
  | [], _ => rfl
  | y :: r, h => by
    simp only [insA]
    rw [if_neg (h y List.mem_cons_self), ins_none fun z hz => h z (List.mem_cons_of_mem _ hz), List.cons_append]
theorem ins_some {x y : Al} : ∀ {l : List Al}, (∃ z ∈ l, leA x z) → insA x (l ++ [y]) = insA x l ++ [y]
  | [], ⟨z, hz, _⟩ => by cases hz
  | u :: r, ⟨z, hz, hl⟩ => by
    simp only [insA, List.cons_append]
    by_cases hu : leA x u
    · rw [if_pos hu, if_pos hu]; rfl
    · rw [if_neg hu, if_neg hu, ins_some (l := r) ((List.mem_cons.1 hz).elim (fun e => absurd (e ▸ hl) hu) fun hz => ⟨z, hz, hl⟩), List.cons_append]
theorem ins_here {x y : Al} : ∀ {l : List Al}, (∀ z ∈ l, ¬ leA x z) → leA x y → insA x (l ++ [y]) = l ++ [x] ++ [y]
  | [], _, hy => by simp only [insA, List.nil_append]; rw [if_pos hy]; rfl
  | u :: r, h, hy => by
    simp only [insA, List.cons_append]
    rw [if_neg (h u List.mem_cons_self), ins_here (fun z hz => h z (List.mem_cons_of_mem _ hz)) hy]
theorem take_one {α : Type} {l : List α} {k : Nat} {x : α} (h : l[k]? = some x) : l.take (k + 1) = l.take k ++ [x] := by rw [List.take_add_one, h]; rfl
def RefC (r : Nat) (G : ClG) : Asn := exA fun x : Option Addr × Nat => sepA [Row r 42 [.slice x.1 G.al.length x.2, .int .i64 G.now], SlA 70 2 aV x.1 x.2 G.al]
section
variable {W w : World} {F : List Asn} {r : Nat} {G : ClG}
theorem RefC.open_ (h : St W (RefC r G :: F) w) : ∃ p c, St W (Row r 42 [.slice p G.al.length c, .int .i64 G.now] :: SlA 70 2 aV p c G.al :: F) w := by
  obtain ⟨⟨p, c⟩, h⟩ := h.of_ex
  exact ⟨p, c, h.of_sep⟩
theorem RefC.shut {p : Option Addr} {c : Nat} (h : St W (Row r 42 [.slice p G.al.length c, .int .i64 G.now] :: SlA 70 2 aV p c G.al :: F) w) : St W (RefC r G :: F) w := St.to_ex (p, c) (St.to_sep (l := [_, _]) h)
theorem RNew_spec (hS : St W F w) : CallR Try.prog 11 #[] w fun v w' => ∃ r, v = .pointer (some ⟨r, 0, none⟩) ∧ St W (RefC r ⟨0, []⟩ :: F) w' :=
  F11_of (NewC.i hS fun b w1 hS => ⟨b, rfl, RefC.shut (G := ⟨0, []⟩) (p := none) (c := 0) (St.p1 (SlA.nil hS))⟩)
theorem getA_cons (x : Al) (l : List Al) (id : Int) : getA (x :: l) id = if x.1 = id then some x.2 else getA l id := by
  unfold getA
  rw [List.find?_cons]
  by_cases h : x.1 = id <;> simp [h]
theorem RAt_spec (id : Int) (hall : G.al.length ≤ 1024) (hS : St W (RefC r G :: F) w) :
    CallR Try.prog 20 #[.pointer (some ⟨r, 0, none⟩), .int .i64 id] w fun v w' => v = .tuple #[.int .i64 ((getA G.al id).getD 0), .bool (getA G.al id).isSome] ∧ St W (RefC r G :: F) w' := by
  obtain ⟨p, c, hS⟩ := RefC.open_ hS
  refine F20_of ⟨fun vs w => ∃ k : Nat, k ≤ G.al.length ∧ vs = [.int .i64 k] ∧ getA G.al id = getA (G.al.drop k) id ∧ St W (Row r 42 [.slice p G.al.length c, .int .i64 G.now] :: SlA 70 2 aV p c G.al :: F) w, leftN G.al.length, ⟨0, Nat.zero_le _, rfl, rfl, hS⟩, fun i w hI => ?_⟩
  obtain ⟨k, hk, he, hg, hS⟩ := hI
  cases he
  refine NilP.i (LdL.a 0 hS rfl rfl (Bif.i (fun hlt => ?_) fun hge => ?_))
  · have hlt : k < G.al.length := by have := of_decide_eq_true hlt; omega
    have hx : G.al[k]? = some G.al[k] := List.getElem?_eq_getElem hlt
    have hdr : G.al.drop k = G.al[k] :: G.al.drop (k + 1) := List.drop_eq_getElem_cons hlt
    rw [hdr, getA_cons] at hg
    refine NilP.i (LdL.a 0 hS rfl rfl (IxP.el aV2 (by decide) (Rd.n 1 rfl SlA.rd) hS rfl hlt hx fun a ha => LdI.at (ha 0 _ rfl) (Bif.i (fun he => ?_) fun hne => ?_)))
    · have he : G.al[k].1 = id := by simpa using he
      rw [if_pos he] at hg
      refine NilP.i (LdL.a 0 hS rfl rfl (IxP.el aV2 (by decide) (Rd.n 1 rfl SlA.rd) hS rfl hlt hx fun a ha => LdI.at (ha 1 _ rfl) ?_))
      rw [hg]
      exact ⟨rfl, RefC.shut hS⟩
    · have hne : G.al[k].1 ≠ id := by simpa using hne
      rw [if_neg hne] at hg
      rw [up hlt (by omega)]
      exact ⟨⟨k + 1, by omega, rfl, hg, hS⟩, by show G.al.length - (k + 1) < G.al.length - k; omega⟩
  · have hk2 : k = G.al.length := by have := of_decide_eq_false hge; omega
    subst hk2
    rw [List.drop_length] at hg
    rw [hg]
    exact ⟨rfl, RefC.shut hS⟩
theorem delA_take {l : List Al} (id : Int) {k : Nat} {x : Al} (hx : l[k]? = some x) : delA (l.take (k + 1)) id = delA (l.take k) id ++ if x.1 = id then [] else [x] := by
  rw [take_one hx]
  unfold delA
  rw [List.filter_append]
  congr 1
  by_cases h : x.1 = id <;> simp [h]
theorem delA_len (l : List Al) (id : Int) : (delA l id).length ≤ l.length := (delA_sub l id).length_le
theorem without_spec (id : Int) {l : List Al} {p : Option Addr} {c : Nat} (hr : Rd F p (l.flatMap aV)) (hall : l.length ≤ 1024) (hS : St W F w) :
    CallR Try.prog 25 #[.slice p l.length c, .int .i64 id] w fun v w' => ∃ p' c', v = .slice p' (delA l id).length c' ∧ St W (SlA 70 2 aV p' c' (delA l id) :: F) w' := by
  refine F25_of ⟨fun vs w => ∃ (k : Nat) (p' : Option Addr) (c' : Nat), k ≤ l.length ∧ vs = [.slice p' (delA (l.take k) id).length c', .int .i64 k] ∧ St W (SlA 70 2 aV p' c' (delA (l.take k) id) :: F) w, leftN l.length, ⟨0, none, 0, Nat.zero_le _, rfl, SlA.nil hS⟩, fun op on oc i w hI => ?_⟩
  obtain ⟨k, p', c', hk, he, hS⟩ := hI
  cases he
  refine Bif.i (fun hlt => ?_) fun hge => ?_
  · have hlt : k < l.length := by have := of_decide_eq_true hlt; omega
    have hx : l[k]? = some l[k] := List.getElem?_eq_getElem hlt
    have hm : ∀ (w : World) a, leftN l.length [a, .int .i64 ((k + 1 : Nat) : Int)] w < leftN l.length [a, .int .i64 (k : Int)] w := fun w a => by show l.length - (k + 1) < l.length - k; omega
    have hln := delA_len (l.take k) id
    have htl : (l.take k).length ≤ l.length := by rw [List.length_take]; omega
    have hdt := delA_take id hx
    generalize l[k]'hlt = x at hx hdt
    rw [up hlt (by omega)]
    refine IxP.el aV2 (by decide) (hr.cons _) hS rfl hlt hx fun a ha => LdI.at (ha 0 _ rfl) (Bif.i (fun he => ?_) fun hne => ?_)
    · have he : x.1 ≠ id := by simpa using he
      rw [if_neg he] at hdt
      refine IxP.el aV2 (by decide) (hr.cons _) hS rfl hlt hx fun a ha => LdI.at (ha 0 _ rfl) (LdI.at (ha 1 _ rfl) (NewC.i hS fun b w1 hS => ?_))
      refine append_el (os := delA (l.take k) id) (xs := [x]) aV2 uAs (.inr ⟨_, uAs⟩) iA sA zA rfl 1 hS rfl (Rd.n 0 rfl fun F => Rd.all) rfl aVn (by rw [bA]; simp; omega) (by simp; omega) fun p2 c2 w2 hS => ⟨_, _, _, rfl, ⟨k + 1, p2, c2, by omega, ?_, ?_⟩, by show l.length - (k + 1) < l.length - k; omega⟩
      · rw [hdt]
      · rw [hdt]; exact hS.drop
    · have hne : x.1 = id := by simpa using hne
      rw [if_pos hne, List.append_nil] at hdt
      refine ⟨⟨k + 1, op, oc, by omega, ?_, ?_⟩, by show l.length - (k + 1) < l.length - k; omega⟩
      · rw [hdt]
      · rw [hdt]; exact hS
  · have hk2 : k = l.length := by have := of_decide_eq_false hge; omega
    subst hk2
    rw [List.take_length] at hS ⊢
    exact ⟨op, oc, rfl, hS⟩
theorem RDrop_spec (id : Int) (hall : G.al.length ≤ 1024) (hS : St W (RefC r G :: F) w) :
    CallR Try.prog 13 #[.pointer (some ⟨r, 0, none⟩), .int .i64 id] w fun v w' => v = .bool (cDrop G id).2 ∧ St W (RefC r (cDrop G id).1 :: F) w' := by
  refine F13_of ((RAt_spec id hall hS).of fun v w1 ⟨hv, hS⟩ => ⟨_, _, hv, ?_⟩)
  obtain ⟨p, c, hS⟩ := RefC.open_ hS
  refine NilP.i (LdL.a 0 hS rfl rfl ((without_spec id (Rd.n 1 rfl SlA.rd) hall hS).of fun v w ⟨p', c', hv, hS⟩ => ⟨_, _, _, hv, NilP.i (St1.a 1 hS rfl (by simp) fun w hS => ⟨rfl, ?_⟩)⟩))
  have hS : St W (SlA 70 2 aV p' c' (delA G.al id) :: Row r 42 [.slice p' (delA G.al id).length c', .int .i64 G.now] :: SlA 70 2 aV p c G.al :: F) w := hS
  exact RefC.shut (G := ⟨G.now, delA G.al id⟩) (St.p1 (St.del 2 hS rfl))
theorem RSet_spec (id tm : Int) (hG : COk G) (hS : St W (RefC r G :: F) w) :
    CallR Try.prog 18 #[.pointer (some ⟨r, 0, none⟩), .int .i64 id, .int .i64 tm] w fun v w' => v = .int .i64 (cSet G id tm).2 ∧ St W (RefC r (cSet G id tm).1 :: F) w' := by
  have hall := hG.many
  have hS0 := hS
  obtain ⟨p, c, hS⟩ := RefC.open_ hS
  have hno : tm ≤ G.now ∨ tm > 2199023255552 → ∀ w, St W (RefC r G :: F) w → Value.int .i64 1 = .int .i64 (cSet G id tm).2 ∧ St W (RefC r (cSet G id tm).1 :: F) w := fun h w hS => by
    unfold cSet; rw [if_pos h]; exact ⟨rfl, hS⟩
  refine F18_of (NilP.i (LdI.a 0 hS rfl rfl (Bif.i (fun h => hno (.inl (of_decide_eq_true h)) w hS0) fun h => Bif.i (fun h2 => hno (.inr (of_decide_eq_true h2)) w hS0) fun h2 => ?_)))
  have h := of_decide_eq_false h
  have h2 := of_decide_eq_false h2
  clear hS
  refine (RAt_spec id hall hS0).of fun v w ⟨hv, hS⟩ => ⟨_, _, hv, ?_⟩
  clear hS0
  have hset : ¬ ((getA G.al id).isNone ∧ G.al.length ≥ 1024) → cSet G id tm = (⟨G.now, insA (id, tm) (delA G.al id)⟩, 0) := fun h3 => by
    unfold cSet; rw [if_neg (by omega), if_neg h3]
  refine ⟨fun vs w => vs = [] ∧ ¬ ((getA G.al id).isNone ∧ G.al.length ≥ 1024) ∧ St W (RefC r G :: F) w, Bif.i (fun h3 => ?_) fun h3 => ⟨rfl, ?_, hS⟩, fun w hJ => ?_⟩
  · obtain ⟨p, c, hS⟩ := RefC.open_ hS
    refine NilP.i (LdL.a 0 hS rfl rfl (Bif.i (fun h4 => ?_) fun h4 => ⟨rfl, ?_, RefC.shut hS⟩))
    · have h4 := of_decide_eq_true h4
      have hs : cSet G id tm = (G, 2) := by
        unfold cSet; rw [if_neg (by omega), if_pos ⟨by simpa using h3, by omega⟩]
      rw [hs]; exact ⟨rfl, RefC.shut hS⟩
    · have h4 := of_decide_eq_false h4
      rintro ⟨_, h5⟩
      omega
  · rintro ⟨h5, _⟩
    cases hg : getA G.al id with
    | none => rw [hg] at h3; simp at h3
    | some t => rw [hg] at h5; simp at h5
  obtain ⟨_, h3, hS⟩ := hJ
  rw [hset h3]
  clear hset h3
  obtain ⟨p, c, hS⟩ := RefC.open_ hS
  refine NilP.i (LdL.a 0 hS rfl rfl ((without_spec id (Rd.n 1 rfl SlA.rd) hall hS).of fun v w ⟨q, d, hv, hS⟩ => ⟨_, _, _, hv, ?_⟩))
  have hne : ∀ y ∈ delA G.al id, y.1 ≠ id := fun y hy => (delA_mem.1 hy).2
  have hl := delA_len G.al id
  dsimp only
  generalize delA G.al id = l at hS hne hl ⊢
  generalize hxx : (id, tm) = x
  have hx1 : x.1 = id := by rw [← hxx]
  have hx2 : x.2 = tm := by rw [← hxx]
  clear hxx
  refine ⟨fun vs w => ∃ (k : Nat) (p' : Option Addr) (c' : Nat) (out : List Al) (dn : Bool), k ≤ l.length ∧ vs = [.slice p' out.length c', .bool dn, .int .i64 k] ∧ ((dn = true ∧ out = insA x (l.take k) ∧ ∃ z ∈ l.take k, leA x z) ∨ (dn = false ∧ out = l.take k ∧ ∀ z ∈ l.take k, ¬ leA x z)) ∧
      St W (SlA 70 2 aV p' c' out :: SlA 70 2 aV q d l :: Row r 42 [.slice p G.al.length c, .int .i64 G.now] :: SlA 70 2 aV p c G.al :: F) w, leftN l.length, ⟨0, none, 0, [], false, Nat.zero_le _, rfl, .inr ⟨rfl, rfl, by simp⟩, SlA.nil hS⟩, fun op on oc dn i w hI => ?_⟩
  clear hS
  obtain ⟨k, p', c', out, dn', hk, he, hdn, hS⟩ := hI
  cases he
  have hol : out.length ≤ k + 1 ∧ out.length ≤ l.length + 1 := by
    have htl : (l.take k).length = k := by rw [List.length_take]; omega
    rcases hdn with ⟨_, rfl, _⟩ | ⟨_, rfl, _⟩
    · rw [(insA_perm _ _).length_eq, List.length_cons, htl]; omega
    · rw [htl]; omega
  have add : ∀ (out : List Al) (p' : Option Addr) (c' : Nat) (y : Al) (b : Nat) (w : World) (F1 : Value → World → Prop), out.length ≤ l.length + 1 → St W (Row b 70 (List.flatMap aV [y]) :: SlA 70 2 aV p' c' out :: SlA 70 2 aV q d l :: Row r 42 [.slice p G.al.length c, .int .i64 G.now] :: SlA 70 2 aV p c G.al :: F) w → (∀ p2 c2 w, St W (SlA 70 2 aV p2 c2 (out ++ [y]) :: SlA 70 2 aV q d l :: Row r 42 [.slice p G.al.length c, .int .i64 G.now] :: SlA 70 2 aV p c G.al :: F) w → F1 (.slice p2 (out ++ [y]).length c2) w) → Run Try.prog (Builtin.append_ #[40, 40] 40 #[.slice p' out.length c', .slice (some ⟨b, 0, none⟩) 1 1]) w F1 := fun out p' c' y b w F1 hol hS hK => by
    refine append_el (os := out) (xs := [y]) aV2 uAs (.inr ⟨_, uAs⟩) iA sA zA rfl 1 hS rfl (Rd.n 0 rfl fun F => Rd.all) rfl aVn (by rw [bA]; simp; omega) (by simp; omega) fun p2 c2 w2 hS => hK p2 c2 w2 (St.drop hS)
  refine Bif.i (fun hlt => ?_) fun hge => ?_
  · have hlt : k < l.length := by have := of_decide_eq_true hlt; omega
    have hy : l[k]? = some l[k] := List.getElem?_eq_getElem hlt
    generalize l[k]'hlt = y at hy
    have hyn : y.1 ≠ id := hne y (List.mem_of_getElem? hy)
    have htk := take_one hy
    have hle : leA x y ↔ tm < y.2 ∨ (y.2 = tm ∧ id < y.1) := by
      unfold leA
      rw [hx1, hx2]
      omega
    refine ⟨fun vs w => ∃ (p' : Option Addr) (c' : Nat) (o2 : List Al) (dn : Bool), vs = [.slice p' o2.length c', .bool dn] ∧ o2.length ≤ l.length + 1 ∧ ((dn = true ∧ o2 ++ [y] = insA x (l.take (k + 1)) ∧ ∃ z ∈ l.take (k + 1), leA x z) ∨ (dn = false ∧ o2 ++ [y] = l.take (k + 1) ∧ ∀ z ∈ l.take (k + 1), ¬ leA x z)) ∧
        St W (SlA 70 2 aV p' c' o2 :: SlA 70 2 aV q d l :: Row r 42 [.slice p G.al.length c, .int .i64 G.now] :: SlA 70 2 aV p c G.al :: F) w, ?_, fun op on oc dn2 w hJ => ?_⟩
    · rcases hdn with ⟨rfl, rfl, z, hz, hzl⟩ | ⟨rfl, rfl, hall2⟩
      · exact Bif.no rfl ⟨_, _, _, true, rfl, hol.2, .inl ⟨rfl, by rw [htk, ins_some ⟨z, hz, hzl⟩], z, by rw [htk]; exact List.mem_append_left _ hz, hzl⟩, hS⟩
      · have stay : ¬ leA x y → ∃ (p2 : Option Addr) (c2 : Nat) (o2 : List Al) (dn : Bool), [Value.slice op (l.take k).length oc, .bool false] = [.slice p2 o2.length c2, .bool dn] ∧ o2.length ≤ l.length + 1 ∧ ((dn = true ∧ o2 ++ [y] = insA x (l.take (k + 1)) ∧ ∃ z ∈ l.take (k + 1), leA x z) ∨ (dn = false ∧ o2 ++ [y] = l.take (k + 1) ∧ ∀ z ∈ l.take (k + 1), ¬ leA x z)) ∧
            St W (SlA 70 2 aV p2 c2 o2 :: SlA 70 2 aV q d l :: Row r 42 [.slice p G.al.length c, .int .i64 G.now] :: SlA 70 2 aV p c G.al :: F) w := fun hn => by
          refine ⟨op, oc, l.take k, false, rfl, hol.2, .inr ⟨rfl, by rw [htk], fun z hz => ?_⟩, hS⟩
          rw [htk] at hz
          rcases List.mem_append.1 hz with hz | hz
          · exact hall2 z hz
          · simp at hz; subst hz; exact hn
        have go : leA x y → ∀ (p2 : Option Addr) (c2 : Nat) (w : World), St W (SlA 70 2 aV p2 c2 (l.take k ++ [x]) :: SlA 70 2 aV q d l :: Row r 42 [.slice p G.al.length c, .int .i64 G.now] :: SlA 70 2 aV p c G.al :: F) w → ∃ (p3 : Option Addr) (c3 : Nat) (o2 : List Al) (dn : Bool), [Value.slice p2 (l.take k ++ [x]).length c2, .bool true] = [.slice p3 o2.length c3, .bool dn] ∧ o2.length ≤ l.length + 1 ∧ ((dn = true ∧ o2 ++ [y] = insA x (l.take (k + 1)) ∧ ∃ z ∈ l.take (k + 1), leA x z) ∨ (dn = false ∧ o2 ++ [y] = l.take (k + 1) ∧ ∀ z ∈ l.take (k + 1), ¬ leA x z)) ∧
            St W (SlA 70 2 aV p3 c3 o2 :: SlA 70 2 aV q d l :: Row r 42 [.slice p G.al.length c, .int .i64 G.now] :: SlA 70 2 aV p c G.al :: F) w := fun hy2 p2 c2 w hS => by
          refine ⟨p2, c2, l.take k ++ [x], true, rfl, ?_, .inl ⟨rfl, by rw [htk, ins_here hall2 hy2], y, by rw [htk]; simp, hy2⟩, hS⟩
          rw [List.length_append, List.length_take]
          simp
          omega
        have hrow : ∀ b w, St W (Row b 70 [Value.int .i64 id, Value.int .i64 tm] :: SlA 70 2 aV op oc (l.take k) :: SlA 70 2 aV q d l :: Row r 42 [.slice p G.al.length c, .int .i64 G.now] :: SlA 70 2 aV p c G.al :: F) w → St W (Row b 70 (List.flatMap aV [x]) :: SlA 70 2 aV op oc (l.take k) :: SlA 70 2 aV q d l :: Row r 42 [.slice p G.al.length c, .int .i64 G.now] :: SlA 70 2 aV p c G.al :: F) w := fun b w h => by
          have e : List.flatMap aV [x] = [Value.int .i64 id, Value.int .i64 tm] := by
            show [Value.int .i64 x.1, Value.int .i64 x.2] = _
            rw [hx1, hx2]
          rw [e]; exact h
        refine Bif.yes rfl (IxP.el aV2 (by decide) (Rd.n 1 rfl SlA.rd) hS rfl hlt hy fun a ha => LdI.at (ha 1 _ rfl) (Bif.i (fun h4 => ?_) fun h4 => ?_))
        · have h4 := of_decide_eq_true h4
          refine NewC.i hS fun b w hS => add _ _ _ x b w _ hol.2 (hrow b w hS) fun p2 c2 w hS => ⟨_, _, _, rfl, go (hle.2 (.inl h4)) p2 c2 w hS⟩
        · have h4 := of_decide_eq_false h4
          refine IxP.el aV2 (by decide) (Rd.n 1 rfl SlA.rd) hS rfl hlt hy fun a ha => LdI.at (ha 1 _ rfl) (Bif.i (fun h5 => ?_) fun h5 => ?_)
          · have h5 : y.2 = tm := by simpa using h5
            refine IxP.el aV2 (by decide) (Rd.n 1 rfl SlA.rd) hS rfl hlt hy fun a ha => LdI.at (ha 0 _ rfl) (Bif.i (fun h6 => ?_) fun h6 => ?_)
            · have h6 := of_decide_eq_true h6
              refine NewC.i hS fun b w hS => add _ _ _ x b w _ hol.2 (hrow b w hS) fun p2 c2 w hS => ⟨_, _, _, rfl, go (hle.2 (.inr ⟨h5, h6⟩)) p2 c2 w hS⟩
            · have h6 := of_decide_eq_false h6
              exact stay (fun hh => by rw [hle] at hh; omega)
          · have h5 : ¬ y.2 = tm := by simpa using h5
            exact stay (fun hh => by rw [hle] at hh; omega)
    clear hS hol hdn
    obtain ⟨p2, c2, o2, dn3, he, hol, hdn, hS⟩ := hJ
    cases he
    refine IxP.el aV2 (by decide) (Rd.n 1 rfl SlA.rd) hS rfl hlt hy fun a ha => LdI.at (ha 0 _ rfl) (LdI.at (ha 1 _ rfl) (NewC.i hS fun b w hS => add _ _ _ y b w _ hol hS fun p3 c3 w hS => ⟨_, _, _, rfl, ?_⟩))
    rw [up hlt (by omega)]
    exact ⟨⟨k + 1, p3, c3, o2 ++ [y], dn2, by omega, rfl, hdn, hS⟩, by show l.length - (k + 1) < l.length - k; omega⟩
  · have hk2 : k = l.length := by have := of_decide_eq_false hge; omega
    subst hk2
    rw [List.take_length] at hdn
    rcases hdn with ⟨rfl, rfl, _⟩ | ⟨rfl, rfl, hall2⟩
    · refine Bif.no rfl (NilP.i (St1.a 2 hS rfl (by simp) fun w hS => ⟨rfl, ?_⟩))
      have hS : St W (SlA 70 2 aV op oc (insA x l) :: SlA 70 2 aV q d l :: Row r 42 [.slice op (insA x l).length oc, .int .i64 G.now] :: SlA 70 2 aV p c G.al :: F) w := hS
      exact RefC.shut (G := ⟨G.now, insA x l⟩) (St.p1 (St.del 1 (St.del 3 hS rfl) rfl))
    · have hrow : ∀ b w, St W (Row b 70 [Value.int .i64 id, Value.int .i64 tm] :: SlA 70 2 aV op oc out :: SlA 70 2 aV q d out :: Row r 42 [.slice p G.al.length c, .int .i64 G.now] :: SlA 70 2 aV p c G.al :: F) w → St W (Row b 70 (List.flatMap aV [x]) :: SlA 70 2 aV op oc out :: SlA 70 2 aV q d out :: Row r 42 [.slice p G.al.length c, .int .i64 G.now] :: SlA 70 2 aV p c G.al :: F) w := fun b w h => by
        have e : List.flatMap aV [x] = [Value.int .i64 id, Value.int .i64 tm] := by
          show [Value.int .i64 x.1, Value.int .i64 x.2] = _
          rw [hx1, hx2]
        rw [e]; exact h
      refine Bif.yes rfl (NewC.i hS fun b w hS => add _ _ _ x b w _ hol.2 (hrow b w hS) fun p2 c2 w hS => ⟨_, _, _, rfl, NilP.i (St1.a 2 hS rfl (by simp) fun w hS => ⟨rfl, ?_⟩)⟩)
      rw [ins_none hall2]
      have hS : St W (SlA 70 2 aV p2 c2 (out ++ [x]) :: SlA 70 2 aV q d out :: Row r 42 [.slice p2 (out ++ [x]).length c2, .int .i64 G.now] :: SlA 70 2 aV p c G.al :: F) w := hS
      exact RefC.shut (G := ⟨G.now, out ++ [x]⟩) (St.p1 (St.del 1 (St.del 3 hS rfl) rfl))
theorem RTick_spec (n : Int) (hn : -9223372036854775808 ≤ n ∧ n ≤ 9223372036854775807) (hG : COk G) (hS : St W (RefC r G :: F) w) :
    CallR Try.prog 15 #[.pointer (some ⟨r, 0, none⟩), .int .i64 n] w fun v w' => ∃ p' c', v = .tuple #[.slice p' (cTick G n).2.1.length c', .int .i64 (cTick G n).2.2] ∧ St W (RefC r (cTick G n).1 :: SlA 3 1 iV p' c' (cTick G n).2.1 :: F) w' := by
  have hall := hG.many
  have hn0 := hG.now0
  have hn1 := hG.now1
  have hmn : maxN = 1099511627776 := rfl
  have hS0 := hS
  obtain ⟨p, c, hS⟩ := RefC.open_ hS
  have hno : n < 0 ∨ n > maxN - G.now → ∀ w, St W (RefC r G :: F) w → ∃ p' c', Value.tuple #[.slice none 0 0, .int .i64 1] = .tuple #[.slice p' (cTick G n).2.1.length c', .int .i64 (cTick G n).2.2] ∧ St W (RefC r (cTick G n).1 :: SlA 3 1 iV p' c' (cTick G n).2.1 :: F) w := fun h w hS => by
    unfold cTick
    rw [if_pos h]
    exact ⟨none, 0, rfl, (SlA.nil hS).p1⟩
  refine F15_of (Bif.i (fun h => hno (.inl (of_decide_eq_true h)) w hS0) fun h => NilP.i (LdI.a 0 hS rfl rfl ?_))
  have h := of_decide_eq_false h
  rw [w64 (n := 1099511627776 - G.now) (by omega) (by omega)]
  refine Bif.i (fun h2 => hno (.inr (of_decide_eq_true h2)) w hS0) fun h2 => ?_
  have h2 := of_decide_eq_false h2
  clear hS0 hno
  have t1 := tick_ok (G := G) (n := n) (by omega) (by omega)
  rw [t1]
  dsimp only
  refine NilP.i (LdI.a 0 hS rfl rfl (NilP.i ?_))
  rw [w64 (n := G.now + n) (by omega) (by omega)]
  refine St1.a 0 hS rfl (by simp) fun w hS => ?_
  have hS : St W (Row r 42 [.slice p G.al.length c, .int .i64 (G.now + n)] :: SlA 70 2 aV p c G.al :: F) w := hS
  generalize G.now + n = t at hS ⊢
  generalize G.al = l at hS hall ⊢
  refine ⟨fun vs w => ∃ (k : Nat) (p1 : Option Addr) (c1 : Nat) (p2 : Option Addr) (c2 : Nat), k ≤ l.length ∧ vs = [.slice p1 (((l.take k).filter fun x => decide (x.2 ≤ t)).map (fun x : Al => x.1)).length c1, .slice p2 ((l.take k).filter fun x => decide (¬ x.2 ≤ t)).length c2, .int .i64 k] ∧
      St W (SlA 3 1 iV p1 c1 (((l.take k).filter fun x => decide (x.2 ≤ t)).map (fun x : Al => x.1)) :: SlA 70 2 aV p2 c2 ((l.take k).filter fun x => decide (¬ x.2 ≤ t)) :: Row r 42 [.slice p l.length c, .int .i64 t] :: SlA 70 2 aV p c l :: F) w, leftN l.length, ⟨0, none, 0, none, 0, Nat.zero_le _, rfl, SlA.nil (SlA.nil hS)⟩, fun op on oc lp ln lc i w hI => ?_⟩
  clear hS
  obtain ⟨k, p1, c1, p2, c2, hk, he, hS⟩ := hI
  cases he
  refine NilP.i (LdL.a 2 hS rfl rfl (Bif.i (fun hlt => ?_) fun hge => ?_))
  · have hlt : k < l.length := by have := of_decide_eq_true hlt; omega
    have hy : l[k]? = some l[k] := List.getElem?_eq_getElem hlt
    generalize l[k]'hlt = y at hy
    have htk := take_one hy
    have htl : (l.take k).length ≤ l.length := by rw [List.length_take]; omega
    have hl1 : (((l.take k).filter fun x => decide (x.2 ≤ t)).map (fun x : Al => x.1)).length ≤ l.length := by rw [List.length_map]; exact Nat.le_trans (List.length_filter_le _ _) htl
    have hl2 : ((l.take k).filter fun x => decide (¬ x.2 ≤ t)).length ≤ l.length := Nat.le_trans (List.length_filter_le _ _) htl
    have hC := Is.refl W (SlA 3 1 iV op oc (((l.take k).filter fun x => decide (x.2 ≤ t)).map (fun x : Al => x.1)) :: SlA 70 2 aV lp lc ((l.take k).filter fun x => decide (¬ x.2 ≤ t)) :: Row r 42 [.slice p l.length c, .int .i64 t] :: SlA 70 2 aV p c l :: F)
    refine ⟨StC W _, StC.start hS, NilP.i (NilP.i ⟨_, _, _, QtL.a 2 hC rfl rfl, IxP.elC hC aV2 (by decide) (Rd.n 3 rfl SlA.rd) hS rfl hlt hy fun a ha => ⟨_, QtI.at fun G w hw => ha hw 1 _ rfl, _, QtI.a 2 hC rfl rfl, fun G w hw => ?_⟩⟩)⟩
    have hS := StC.ends hw
    rw [up hlt (by omega)]
    refine Bif.i (fun h4 => ?_) fun h4 => ?_
    · have h4 := of_decide_eq_true h4
      have e1 : (l.take (k + 1)).filter (fun x => decide (x.2 ≤ t)) = (l.take k).filter (fun x => decide (x.2 ≤ t)) ++ [y] := by rw [htk, List.filter_append, List.filter_cons_of_pos (by simpa using h4)]; rfl
      have e2 : (l.take (k + 1)).filter (fun x => decide (¬ x.2 ≤ t)) = (l.take k).filter (fun x => decide (¬ x.2 ≤ t)) := by rw [htk, List.filter_append, List.filter_cons_of_neg (by simpa using h4)]; simp
      refine NilP.i (LdL.a 2 hS rfl rfl (IxP.el aV2 (by decide) (Rd.n 3 rfl SlA.rd) hS rfl hlt hy fun a ha => LdI.at (ha 0 _ rfl) (NewC.i hS fun b w hS => ?_)))
      refine append_el (xs := [y.1]) iV1 uIs (.inr ⟨_, uIs⟩) iInt sInt zInt rfl 1 hS rfl (Rd.n 0 rfl fun F => Rd.all) rfl iVn (by rw [bInt]; simp only [List.length_cons, List.length_nil]; omega) (by simp only [List.length_cons, List.length_nil]; omega) fun p3 c3 w hS => ⟨_, _, _, rfl, ⟨k + 1, p3, c3, lp, lc, by omega, ?_, ?_⟩, by show l.length - (k + 1) < l.length - k; omega⟩
      · rw [e1, e2, List.map_append]; rfl
      · rw [e1, e2, List.map_append]; exact St.drop hS
    · have h4 := of_decide_eq_false h4
      have e1 : (l.take (k + 1)).filter (fun x => decide (x.2 ≤ t)) = (l.take k).filter (fun x => decide (x.2 ≤ t)) := by rw [htk, List.filter_append, List.filter_cons_of_neg (by simpa using h4)]; simp
      have e2 : (l.take (k + 1)).filter (fun x => decide (¬ x.2 ≤ t)) = (l.take k).filter (fun x => decide (¬ x.2 ≤ t)) ++ [y] := by rw [htk, List.filter_append, List.filter_cons_of_pos (by simpa using h4)]; rfl
      refine NilP.i (LdL.a 2 hS rfl rfl (IxP.el aV2 (by decide) (Rd.n 3 rfl SlA.rd) hS rfl hlt hy fun a ha => LdI.at (ha 0 _ rfl) (LdI.at (ha 1 _ rfl) (NewC.i hS fun b w hS => ?_))))
      refine append_el (xs := [y]) aV2 uAs (.inr ⟨_, uAs⟩) iA sA zA rfl 2 hS rfl (Rd.n 0 rfl fun F => Rd.all) rfl aVn (by rw [bA]; simp only [List.length_cons, List.length_nil]; omega) (by simp only [List.length_cons, List.length_nil]; omega) fun p3 c3 w hS => ⟨_, _, _, rfl, ⟨k + 1, op, oc, p3, c3, by omega, ?_, ?_⟩, by show l.length - (k + 1) < l.length - k; omega⟩
      · rw [e1, e2]
      · rw [e1, e2]; exact St.drop hS
  · have hk2 : k = l.length := by have := of_decide_eq_false hge; omega
    subst hk2
    rw [List.take_length] at hS ⊢
    refine NilP.i (St1.a 2 hS rfl (by simp) fun w hS => ⟨_, _, rfl, ?_⟩)
    have hS : St W (SlA 3 1 iV op oc ((l.filter fun x => decide (x.2 ≤ t)).map (fun x : Al => x.1)) :: SlA 70 2 aV lp lc (l.filter fun x => decide (¬ x.2 ≤ t)) :: Row r 42 [.slice lp (l.filter fun x => decide (¬ x.2 ≤ t)).length lc, .int .i64 t] :: SlA 70 2 aV p c l :: F) w := hS
    have h3 : St W (SlA 70 2 aV lp lc (l.filter fun x => decide (¬ x.2 ≤ t)) :: Row r 42 [.slice lp (l.filter fun x => decide (¬ x.2 ≤ t)).length lc, .int .i64 t] :: SlA 3 1 iV op oc ((l.filter fun x => decide (x.2 ≤ t)).map (fun x : Al => x.1)) :: F) w := St.mv 0 2 (St.del 3 hS rfl) rfl
    exact RefC.shut (G := ⟨t, l.filter fun x => decide (¬ x.2 ≤ t)⟩) h3.p1
end
end Go.Proofs.Ytgmpnonjhpopdaa
