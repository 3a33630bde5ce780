/-
  The contract of frame.Cut.
-/
import Derived.Test.YtgjehbhjgogmfaaFrameR
set_option linter.unusedVariables false
set_option linter.unusedSimpArgs false
set_option maxRecDepth 100000
namespace Go.Proofs.Ytgjehbhjgogmfaa
open Go
theorem cut_res (w : World) (K : List Value → Prop) (q : Option Addr) (m d : Nat) (x y : Int) (e : Env) : resL Try.prog Try.f12.results.toList ((4, .int .i64 y) :: (3, .int .i64 x) :: (2, .slice q m d) :: e) w K = K [.slice q m d, .int .i64 x, .int .i64 y] := by kernel_rfl
section
variable {W w : World} {F : List Asn} {p : Option Addr} {n c : Nat} {bs : List UInt8}
theorem Cut_spec (hr : Rd F p (bs.map byteV)) (hl : bs.length = n) (hc : n ≤ c) (hn : n ≤ 1000000) (hS : St W F w) :
    CallR Try.prog 12 #[.slice p n c] w fun v w' => ∃ p' c' L, ∃ m : Nat, ∃ e, v = .tuple #[.slice p' (List.length L) c', .int .i64 (m : Int), .int .i64 e] ∧ CutIs bs (L.map (·.bs)) m e ∧ St W (SlA 22 1 slV p' c' L :: ctsA L :: F) w' := by
  refine (callsIn_wide (n := 0)).1 (callsIn_of_wp_marks Try.func12 cut_body trivial ?_)
  have hW : Wide Fence.wide := .inl rfl
  have ha : Agree 22 [(0, .slice p n c)] { tmps := #[.slice p n c] ++ Array.replicate (Try.f12.ntmps - (#[Value.slice p n c]).size) undef, defers := [] } := by
    rw [cut_n]
    refine ⟨rfl, by simp, fun t v ht => ?_⟩
    have := mem_of_eget ht
    simp only [List.mem_cons, List.not_mem_nil, or_false, Prod.mk.injEq] at this
    rw [this.1, this.2, Array.getD_eq_getD_getElem?, Array.getElem?_append_left (by simp)]
    rfl
  generalize ({ tmps := #[.slice p n c] ++ Array.replicate (Try.f12.ntmps - (#[Value.slice p n c]).size) undef, defers := [] } : Act) = a at ha
  rw [cut_eq]
  refine wpIn_seq (reg_in hW tame0 (K := fun e' w' => e' = [(4, .int .i64 0), (3, .int .i64 0), (2, .slice none 0 0), (0, .slice p n c)] ∧ w' = w) (by rw [ops_0]; exact ⟨rfl, rfl⟩) ha ?_)
  rintro e1 a1 w1 ⟨rfl, rfl⟩ ha
  refine wpIn_seq (reg_in hW tame1 (K := fun e' w' => ∃ b5, e' = [(5, .pointer (some ⟨b5, 0, none⟩)), (4, .int .i64 0), (3, .int .i64 0), (2, .slice none 0 0), (0, .slice p n c)] ∧ St W (Row b5 27 [.slice none 0 0] :: F) w') (by rw [ops_1]; exact NewC.i hS fun b w hS => ⟨b, rfl, hS⟩) ha ?_)
  clear hS
  rintro e1 a1 w ⟨b5, rfl, hS⟩ ha
  refine wpIn_seq (reg_in hW tame2 (K := fun e' w' => ∃ b6 b7, e' = [(7, .pointer (some ⟨b7, 0, none⟩)), (6, .pointer (some ⟨b6, 0, none⟩)), (5, .pointer (some ⟨b5, 0, none⟩)), (4, .int .i64 0), (3, .int .i64 0), (2, .slice none 0 0), (0, .slice p n c)] ∧ St W (Row b7 24 [.int .i64 0] :: Row b6 3 [.int .i64 0] :: Row b5 27 [.slice none 0 0] :: F) w') (by
    rw [ops_2]
    refine NewC.i hS fun b6 w hS => NewC.i hS fun b7 w hS => ?_
    have hS : St W (Row b7 24 [.int .i64 0] :: Row b6 3 [.int .i64 0] :: Row b5 27 [.slice none 0 0] :: F) w := hS
    exact St1.n 1 hS rfl (by simp) fun w hS => St1.n 0 hS rfl (by simp) fun w hS => ⟨b6, b7, rfl, hS⟩) ha ?_)
  clear hS
  rintro e1 a1 w ⟨b6, b7, rfl, hS⟩ ha
  refine wpIn_seq (wpIn_seq (reg_in hW tame3 (K := fun e' w' => ∃ cb ce, e' = [(11, .func (.func 20) #[] #[.pointer (some ⟨cb, 0, none⟩), .pointer (some ⟨ce, 0, none⟩)]), (10, .slice p n c), (7, .pointer (some ⟨b7, 0, none⟩)), (6, .pointer (some ⟨b6, 0, none⟩)), (5, .pointer (some ⟨b5, 0, none⟩)), (4, .int .i64 0), (3, .int .i64 0), (2, .slice none 0 0), (0, .slice p n c)] ∧
      St W (Row ce 38 [.pointer (some ⟨b7, 0, none⟩)] :: Row cb 22 [.slice p n c] :: Row b7 24 [.int .i64 0] :: Row b6 3 [.int .i64 0] :: Row b5 27 [.slice none 0 0] :: F) w') (by
    rw [ops_3]
    exact (frames_spec hS).of fun v w' ⟨cb, ce, hv, hS⟩ => ⟨cb, ce, by rw [hv], hS⟩) ha ?_))
  clear hS
  rintro e1 a w ⟨cb, ce, rfl, hS⟩ ha
  refine wpIn_block (wpIn_rangeFunc fun fn _ => ?_)
  have hg : a.eval (.tmp 11) = .func (.func 20) #[] #[.pointer (some ⟨cb, 0, none⟩), .pointer (some ⟨ce, 0, none⟩)] := ha.val 11 _ rfl
  have h1 := (hS.alloc (.deferred (some []))).alloc (.loop (recC fn a.tmps w.heap.size .ready))
  rw [World.size_alloc] at h1
  refine ⟨w.heap.size + 1, [{ target := .collected w.heap.size, args := #[] }], (w.alloc (.deferred (some []))).alloc (.loop (recC fn a.tmps w.heap.size .ready)), { target := .fn (.func 20) #[.pointer (some ⟨cb, 0, none⟩), .pointer (some ⟨ce, 0, none⟩)], args := #[.func (.yield (w.heap.size + 1)) #[] #[]] }, (w.alloc (.deferred (some []))).alloc (.loop (recC fn a.tmps w.heap.size .ready)), 20,
    #[.func (.yield (w.heap.size + 1)) #[] #[], .pointer (some ⟨cb, 0, none⟩), .pointer (some ⟨ce, 0, none⟩)], (w.alloc (.deferred (some []))).alloc (.loop (recC fn a.tmps w.heap.size .ready)), run_enterLoop_outer _ _ _ _ _, ?_, fun _ _ => trivial, ?_, (fun h => by cases h), ?_⟩
  · simp only [resolve, hg]
    simp [go_sem]
  · have hb : bodyOk Try.prog 20 = true := by kernel_rfl
    simp only [invoke]
    exact callFunc_run hb _ _
  generalize w.heap.size = D at h1
  generalize D + 1 = l at h1
  generalize (w.alloc (.deferred (some []))).alloc (.loop (recC fn a.tmps D .ready)) = w1 at h1
  clear hS hg
  have hS : St W (CutL (recC fn a.tmps D .ready) l D b5 b6 b7 ce cb p n c none 0 [] 0 0 F) w1 := by
    have h2 := St.mv 6 4 (St.mv 6 3 (St.mv 6 2 h1 rfl) rfl) rfl
    exact St.mv 0 5 (SlA.nil (St.mv 0 5 (ctsA.nil h2) rfl)) rfl
  have ht : Agree 22 [(6, .pointer (some ⟨b6, 0, none⟩)), (5, .pointer (some ⟨b5, 0, none⟩))] { tmps := a.tmps, defers := [] } := by
    have := ha.pick (e' := [(6, .pointer (some ⟨b6, 0, none⟩)), (5, .pointer (some ⟨b5, 0, none⟩))]) fun y hy => by
      simp only [List.mem_cons, List.not_mem_nil, or_false] at hy
      rcases hy with rfl | rfl <;> rfl
    exact ⟨rfl, this.size, this.val⟩
  refine Wide.calls hW (Calls.mono (it_spec ht hr hl hc hn hS) fun e w2 ⟨v, he, hv, p', c', L, m, er, hcut, hS⟩ => ?_)
  subst he
  obtain ⟨hl1, hS⟩ := hS.turn (o' := .loop (recC fn a.tmps D .exhausted))
  refine ⟨none, _, run_endLoop hl1 (by simp [recC]), ?_⟩
  have hd0 : a.defers = [] := ha.defers
  have ha7 : Agree 22 [(7, .pointer (some ⟨b7, 0, none⟩)), (6, .pointer (some ⟨b6, 0, none⟩)), (5, .pointer (some ⟨b5, 0, none⟩))] (bare { a with defers := [{ target := .collected D, args := #[] }] ++ a.defers }) := by
    have := ha.pick (e' := [(7, .pointer (some ⟨b7, 0, none⟩)), (6, .pointer (some ⟨b6, 0, none⟩)), (5, .pointer (some ⟨b5, 0, none⟩))]) fun y hy => by
      simp only [List.mem_cons, List.not_mem_nil, or_false] at hy
      rcases hy with rfl | rfl | rfl <;> rfl
    exact ⟨rfl, this.size, this.val⟩
  have hS := St.draws hS
  refine wpIn_seq (reg_still rfl mixed lex7 bare7 (K := fun e' w' => ∃ e0, e' = (4, .int .i64 er) :: (3, .int .i64 (m : Int)) :: (2, .slice p' L.length c') :: e0) (by
    rw [ops_7]
    exact LdL.n 2 hS rfl rfl (LdI.n 3 hS rfl rfl (LdI.n 4 hS rfl rfl ⟨_, rfl⟩))) ha7 ?_)
  rintro e1 a1 ⟨e0, rfl⟩ ha1 hd1
  refine wpIn_ret ?_
  show LeavesInM Fence.wide 0 Try.prog Try.f12 a1.tmps _ a1.defers .returning _
  rw [hd1, hd0]
  obtain ⟨hD, hS⟩ := (St.p1 hS).turn (o' := .deferred none)
  refine ⟨by simp, .inl ⟨D, _, rfl, run_takeDeferred hD, ?_⟩⟩
  have hres := fun w => results_run (P := Try.prog) (fn := Try.f12) (a := bare a1) (R := fun v w' => v = .tuple #[.slice p' L.length c', .int .i64 (m : Int), .int .i64 er]) (w := w) (by rw [cut_res]; rfl) ha1
  obtain ⟨v, hv, hR⟩ := hres _
  refine ⟨v, hv, v, rfl, p', c', L, m, er, hR, hcut, ?_⟩
  exact St.del 2 (St.del 2 (hS.drop.drop.drop.drop.drop) rfl) rfl
end
end Go.Proofs.Ytgjehbhjgogmfaa
