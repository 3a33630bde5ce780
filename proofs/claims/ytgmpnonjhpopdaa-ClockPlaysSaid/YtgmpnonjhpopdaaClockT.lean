/-
  The contract of a clock's Tick.
-/
import Derived.Test.YtgmpnonjhpopdaaClockC
set_option linter.unusedVariables false
set_option linter.unusedSimpArgs false
namespace Go.Proofs.Ytgmpnonjhpopdaa
open Go
def leftZ (n : Nat) : List Value → World → Nat := fun vs _ => match vs.head? with
  | some (.slice _ i _) => n - i
  | _ => 0
theorem filt_split {t : Int} {done rest : List Al} (h1 : ∀ x ∈ done, x.2 ≤ t) (h2 : ∀ x ∈ rest, ¬ x.2 ≤ t) : ((done ++ rest).filter fun x => decide (x.2 ≤ t)) = done ∧ ((done ++ rest).filter fun x => decide (¬ x.2 ≤ t)) = rest := by
  constructor
  · rw [List.filter_append, List.filter_eq_self.2 (fun x hx => by simpa using h1 x hx), List.filter_eq_nil_iff.2 (fun x hx => by simpa using h2 x hx), List.append_nil]
  · rw [List.filter_append, List.filter_eq_nil_iff.2 (fun x hx => by simpa using h1 x hx), List.filter_eq_self.2 (fun x hx => by simpa using h2 x hx), List.nil_append]
section
variable {W w : World} {F : List Asn} {c m : Nat} {p : Option Addr} {cap : Nat} {l : List AD} {D : List (Int × Nat)} {G : ClG} {al : List Al}
/-- The first one of a heap is the first one of the row. -/
theorem CRep.head {x : Al} {r : List Al} {d : AD} (h : CRep l D (x :: r)) (hd : l[0]? = some d) : keyD d = x := by
  have hlt := (List.getElem?_eq_some_iff.1 hd).1
  have hm : keyD d ∈ x :: r := by
    rw [← h.keys.mem_iff]
    exact List.mem_map.2 ⟨coreD d, List.mem_map.2 ⟨d, List.mem_of_getElem? hd, rfl⟩, rfl⟩
  have h1 : leA x (keyD d) := by
    rcases List.mem_cons.1 hm with e | e
    · rw [e]; exact (leA_ord.total _ _).elim id id
    · exact (List.pairwise_cons.1 h.srt.1).1 _ e
  have hx : x ∈ (l.map coreD).map (·.2) := h.keys.mem_iff.2 List.mem_cons_self
  obtain ⟨cc, hc, e⟩ := List.mem_map.1 hx
  obtain ⟨y, hy, rfl⟩ := List.mem_map.1 hc
  obtain ⟨k, hk⟩ := List.getElem?_of_mem hy
  have h2 : leA (keyD d) x := by
    have := h.heap.least leA_ord k (List.getElem?_eq_some_iff.1 hk).1
    rw [fK_at hd, fK_at hk] at this
    rw [← e]; exact this
  exact leA_anti h2 h1
theorem delA_head {x : Al} {r : List Al} (h : ((x :: r).map (·.1)).Nodup) : delA (x :: r) x.1 = r := by
  simp only [List.map_cons, List.nodup_cons] at h
  unfold delA
  rw [List.filter_cons_of_neg (by simp), List.filter_eq_self]
  intro y hy
  have : y.1 ≠ x.1 := fun e => h.1 (by rw [← e]; exact List.mem_map.2 ⟨y, hy, rfl⟩)
  simpa using this
theorem Tick_spec (n : Int) (hn : -9223372036854775808 ≤ n ∧ n ≤ 9223372036854775807) (hS : St W (ClockA c G :: F) w) :
    CallR Try.prog 14 #[.pointer (some ⟨c, 0, none⟩), .int .i64 n] w fun v w' => ∃ p' c', v = .tuple #[.slice p' (cTick G n).2.1.length c', .int .i64 (cTick G n).2.2] ∧ St W (ClockA c (cTick G n).1 :: SlA 3 1 iV p' c' (cTick G n).2.1 :: F) w' := by
  have hG := ClockA.ok hS
  have hn0 := hG.now0
  have hn1 := hG.now1
  have hmn : maxN = 1099511627776 := rfl
  have htk := hG.tick n
  have hno : n < 0 ∨ n > maxN - G.now → ∀ w, St W (ClockA c G :: F) w → ∃ p' c', Value.tuple #[.slice none 0 0, .int .i64 1] = .tuple #[.slice p' (cTick G n).2.1.length c', .int .i64 (cTick G n).2.2] ∧ St W (ClockA c (cTick G n).1 :: SlA 3 1 iV p' c' (cTick G n).2.1 :: F) w := fun h w hS => by
    unfold cTick
    rw [if_pos h]
    exact ⟨none, 0, rfl, (SlA.nil hS).p1⟩
  refine F14_of (Bif.i (fun h => hno (.inl (of_decide_eq_true h)) w hS) fun h => ?_)
  have h := of_decide_eq_false h
  have hS0 := hS
  obtain ⟨m, p, cap, l, D, hR, _, hS⟩ := ClockA.open_ hS
  refine NilP.i (LdI.a 0 hS rfl rfl ?_)
  rw [w64 (n := 1099511627776 - G.now) (by omega) (by omega)]
  refine Bif.i (fun h2 => hno (.inr (of_decide_eq_true h2)) w hS0) fun h2 => ?_
  have h2 := of_decide_eq_false h2
  clear hS0
  have hnc : ¬ (n < 0 ∨ n > maxN - G.now) := by omega
  unfold cTick at htk ⊢
  rw [if_neg hnc] at htk ⊢
  dsimp only at htk ⊢
  refine NilP.i (LdI.a 0 hS rfl rfl (NilP.i ?_))
  rw [w64 (n := G.now + n) (by omega) (by omega)]
  refine St1.a 0 hS rfl (by simp) fun w hS => ?_
  have hS : St W (HL c (G.now + n) (some m) p cap l (MapOf (Value.int .i64) ptV m D :: F)) w := hS
  generalize ht : G.now + n = t at hS htk ⊢
  have hS : St W (HL c t (some m) p cap l (MapOf (Value.int .i64) ptV m D :: SlA 3 1 iV none 0 (List.map (·.1) ([] : List Al)) :: F)) w := St.mv 0 4 (SlA.nil (α := Int) (e := 3) (size := 1) (f := iV) (p := none) hS) rfl
  refine ⟨fun vs w => ∃ p cap l D done rest p1 c1, vs = [.slice p1 (done.map (fun x : Al => x.1)).length c1] ∧ G.al = done ++ rest ∧ (∀ x ∈ done, x.2 ≤ t) ∧ CRep l D rest ∧ St W (HL c t (some m) p cap l (MapOf (Value.int .i64) ptV m D :: SlA 3 1 iV p1 c1 (done.map (fun x : Al => x.1)) :: F)) w, leftZ (G.al.length + 1), ⟨p, cap, l, D, [], G.al, none, 0, rfl, rfl, by simp, hR, hS⟩, fun p2 n2 c2 w hI => ?_⟩
  clear hR hS
  obtain ⟨p, cap, l, D, done, rest, p1, c1, he, hal, hdone, hR, hS⟩ := hI
  cases he
  have hlen := hR.len
  have hmany := hG.many
  have fin : ∀ w, (∀ x ∈ rest, ¬ x.2 ≤ t) → St W (HL c t (some m) p cap l (MapOf (Value.int .i64) ptV m D :: SlA 3 1 iV p2 c2 (done.map (fun x : Al => x.1)) :: F)) w → ∃ p' c', Value.tuple #[.slice p2 (done.map (fun x : Al => x.1)).length c2, .int .i64 0] = .tuple #[.slice p' ((G.al.filter fun x => decide (x.2 ≤ t)).map (fun x : Al => x.1)).length c', .int .i64 0] ∧ St W (ClockA c ⟨t, G.al.filter fun x => decide (¬ x.2 ≤ t)⟩ :: SlA 3 1 iV p' c' ((G.al.filter fun x => decide (x.2 ≤ t)).map (fun x : Al => x.1)) :: F) w := fun w hrest hS => by
    obtain ⟨e1, e2⟩ := filt_split hdone hrest
    rw [hal] at htk ⊢
    rw [e1, e2]
    rw [e2] at htk
    exact ⟨p2, c2, rfl, ClockA.shut (G := ⟨t, rest⟩) hR htk hS⟩
  have hC := Is.refl W (HL c t (some m) p cap l (MapOf (Value.int .i64) ptV m D :: SlA 3 1 iV p2 c2 (done.map (fun x : Al => x.1)) :: F))
  refine ⟨StC W _, StC.start hS, NilP.i ⟨_, _, _, QtL.a 0 hC rfl rfl, Bif.i (fun hlt => ?_) fun hge => ?_⟩⟩
  · have hlt : 0 < l.length := by have := of_decide_eq_true hlt; omega
    obtain ⟨d, hd⟩ := get_of hlt
    obtain ⟨x, r, rfl⟩ : ∃ x r, rest = x :: r := by
      cases rest with
      | nil => rw [List.length_nil] at hlen; omega
      | cons x r => exact ⟨x, r, rfl⟩
    have hkx := hR.head hd
    refine NilP.i (NilP.i ⟨_, _, _, QtL.a 0 hC rfl rfl, IxP.elC hC pt1 (by decide) HL.rd hS rfl hlt hd fun a26 h26 => ⟨_, QtP.at fun G w hw => h26 hw 0 _ rfl, NilP.i ⟨_, QtI.at fun G w hw => HL.al hC hw hd (j := 1) rfl, _, QtI.a 0 hC rfl rfl, fun G' w hw => ?_⟩⟩⟩)
    have hS := StC.ends hw
    have hxt : d.tm = x.2 := by rw [← hkx]; rfl
    have hxi : d.id = x.1 := by rw [← hkx]; rfl
    refine Bif.i (fun hle => ?_) fun hle => ?_
    · have hle := of_decide_eq_true hle
      have hk := MapOf.keys kI (hS.at 3 rfl)
      refine NilP.i ((Pop_spec hR.ok hR.heap hd hS).of fun v w ⟨d', l', hcd, hv, ho, hh, hp, hS⟩ => ?_)
      subst hv
      obtain ⟨b', id', tm', pl'⟩ := d'
      simp only [coreD, Prod.mk.injEq] at hcd
      obtain ⟨rfl, rfl, rfl⟩ := hcd
      have hC2 := Is.refl W (rowD ⟨d.b, d.id, d.tm, pl'⟩ :: HL c t (some m) p cap l' (MapOf (Value.int .i64) ptV m D :: SlA 3 1 iV p2 c2 (done.map (fun x : Al => x.1)) :: F))
      refine ⟨_, assert_pt _, _, rfl, StC W _, StC.start hS, NilP.i (NilP.i ⟨_, QtM.a 1 hC2 rfl rfl, _, QtI.a 0 hC2 rfl rfl, ?_⟩)⟩
      refine Ef.n (α := Unit) (V := fun _ => .tuple #[]) (B := fun _ => [MapOf (Value.int .i64) ptV m (adel D d.id)]) () 4 hC2 rfl (fun G' w h => delete_i kI uM 0 h rfl d.id fun w' h => ⟨(), rfl, ?_⟩) fun _ => ⟨rfl, trivial, fun G' w h => NilP.i ?_⟩
      · exact Is.back 4 rfl (B := [_]) h
      have hS := StC.ends h
      have hS : St W (rowD ⟨d.b, d.id, d.tm, pl'⟩ :: HL c t (some m) p cap l' (MapOf (Value.int .i64) ptV m (adel D d.id) :: SlA 3 1 iV p2 c2 (done.map (fun x : Al => x.1)) :: F)) w := hS
      refine LdI.a 0 hS rfl rfl (NewC.i hS fun b68 w hS => ?_)
      have hS : St W (Row b68 3 (List.flatMap iV [d.id]) :: rowD ⟨d.b, d.id, d.tm, pl'⟩ :: HL c t (some m) p cap l' (MapOf (Value.int .i64) ptV m (adel D d.id) :: SlA 3 1 iV p2 c2 (done.map (fun x : Al => x.1)) :: F)) w := hS
      have hdl : (done.map (fun x : Al => x.1)).length ≤ 1024 := by
        have := congrArg List.length hal
        rw [List.length_append] at this
        rw [List.length_map]; omega
      have hal' : G.al.length = done.length + 1 + r.length := by rw [hal, List.length_append, List.length_cons]; omega
      refine append_el (os := done.map (fun x : Al => x.1)) (xs := [d.id]) iV1 uIs (.inr ⟨_, uIs⟩) iInt sInt zInt rfl 6 hS rfl (Rd.all) rfl iVn (by rw [bInt]; simp only [List.length_cons, List.length_nil]; omega) (by simp only [List.length_cons, List.length_nil]; omega) fun p3 c3 w hS => ⟨_, _, _, rfl, ?_⟩
      have hS : St W (Row b68 3 (List.flatMap iV [d.id]) :: rowD ⟨d.b, d.id, d.tm, pl'⟩ :: HL c t (some m) p cap l' (MapOf (Value.int .i64) ptV m (adel D d.id) :: SlA 3 1 iV p3 c3 (done.map (fun x : Al => x.1) ++ [d.id]) :: F)) w := hS
      have hS := hS.drop.drop
      have ed : done.map (fun x : Al => x.1) ++ [d.id] = (done ++ [x]).map (fun x : Al => x.1) := by rw [List.map_append, hxi]; rfl
      rw [ed] at hS ⊢
      have hR' := hR.del (d := d) hk ho hh hp
      rw [show delA (x :: r) d.id = r by rw [hxi]; exact delA_head hR.srt.2] at hR'
      refine ⟨⟨p, cap, l', _, done ++ [x], r, p3, c3, rfl, by rw [hal]; simp, fun y hy => ?_, hR', hS⟩, ?_⟩
      · rcases List.mem_append.1 hy with hy | hy
        · exact hdone y hy
        · simp at hy; subst hy; rw [← hxt]; exact hle
      · show G.al.length + 1 - ((done ++ [x]).map (fun x : Al => x.1)).length < G.al.length + 1 - (done.map (fun x : Al => x.1)).length
        rw [List.length_map, List.length_map, List.length_append, List.length_cons, List.length_nil]; omega
    · have hle : ¬ d.tm ≤ t := of_decide_eq_false hle
      refine fin w (fun y hy => ?_) hS
      rcases List.mem_cons.1 hy with rfl | hy
      · rw [← hxt]; exact hle
      · have h3 : x.2 < y.2 ∨ (x.2 = y.2 ∧ x.1 ≤ y.1) := (List.pairwise_cons.1 hR.srt.1).1 y hy
        have h4 : d.tm ≤ y.2 := by rw [hxt]; rcases h3 with h3 | h3 <;> omega
        exact fun h5 => hle (Int.le_trans h4 h5)
  · have hge := of_decide_eq_false hge
    have h0 : rest = [] := List.eq_nil_of_length_eq_zero (by omega)
    subst h0
    exact fun G' w h => fin w (by simp) (StC.ends h)
end
end Go.Proofs.Ytgmpnonjhpopdaa
