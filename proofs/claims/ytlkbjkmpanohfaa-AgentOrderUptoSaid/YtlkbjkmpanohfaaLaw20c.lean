/-
  The walk of the law of the order in which an agent speaks.
-/
import Derived.Test.YtlkbjkmpanohfaaOrdP
set_option linter.unusedVariables false
set_option linter.unusedSimpArgs false
namespace Go.Proofs.Ytlkbjkmpanohfaa
open Go
theorem RProof2_spec {W w : World} {F : List Asn} {p q : Option Addr} {d e : Nat} {k : List UInt8} {ws : List (List UInt8)} (hr : Rd F p (k.map byteV)) (hk : k.length ≤ 400000) (hrw : Rd F q (ws.map strV)) (hwl : ws.length ≤ 1000) (hS : St W F w) :
    CallR Try.prog 11 #[.slice p k.length d, .slice q ws.length e] w fun v w' => v = .string (mkS (proofP k ws)) ∧ St W F w' := by
  refine F11_of ⟨fun vs w => ∃ p i c, vs = [.slice p (textsP (ws.take i)).length c, .int .i64 ((i : Nat) : Int)] ∧ i ≤ ws.length ∧ (∀ s ∈ ws.take i, s.length ≤ 255) ∧ St W (OwnS 5 1 p (textsP (ws.take i)).length c ((textsP (ws.take i)).map byteV) :: F) w, leftN ws.length, ⟨none, 0, 0, rfl, by omega, by simp, OwnS.nil _ _ _ hS⟩, fun p1 n1 c1 x w hI => ?_⟩
  obtain ⟨p2, i, c2, he, hi, ha, hS⟩ := hI
  cases he
  have hbl := textsP_len (ws.take i)
  have hbt := bulk_short ha
  rw [List.length_take] at hbt
  refine Bif.i (fun hlt => ?_) fun hge => ?_
  · have hlt : i < ws.length := by have := of_decide_eq_true hlt; omega
    have hx : ws[i]? = some (ws[i]'hlt) := List.getElem?_eq_getElem _
    generalize ws[i]'hlt = s at hx
    refine IxP.one (hrw.cons _) hS rfl hlt (strV_get hx) fun a ha' => LdS.at ha' ?_
    rw [mkS_size]
    refine Bif.i (fun h => ?_) fun h => ?_
    · have h := of_decide_eq_true h
      unfold proofP
      rw [shorts_take hx (by omega)]
      exact ⟨rfl, hS.drop⟩
    have h := of_decide_eq_false h
    refine IxP.one (hrw.cons _) hS rfl hlt (strV_get hx) fun a ha' => LdS.at ha' ?_
    refine (RText_spec s (by omega) hS).of fun v w ⟨p3, c3, hv, hS⟩ => ⟨_, _, _, hv, ?_⟩
    have hsn := textsP_snoc ws i hx
    have hbl2 := textsP_len (ws.take (i + 1))
    have hbt2 := bulk_short (take_all hx ha (by omega))
    rw [List.length_take] at hbt2
    have hle : (textsP (ws.take (i + 1))).length = (textsP (ws.take i)).length + (textP s).length := by rw [hsn, List.length_append]
    refine append_sl uB (.inr ⟨_, uB⟩) iU8 sU8 zU8 rfl hS.p1 (xs := (textP s).map byteV) (OwnS.rd F) (by simp) notAgg_byteV (by rw [bU8]; omega) (by omega) fun p4 c4 w hS => ⟨_, _, _, rfl, ?_⟩
    rw [← List.map_append, ← hsn, ← hle] at hS
    rw [up hlt (by omega), ← hle]
    exact ⟨⟨p4, i + 1, c4, rfl, by omega, take_all hx ha (by omega), hS.p1.drop⟩, by show ws.length - (i + 1) < ws.length - i; omega⟩
  have hi2 : i = ws.length := by have := of_decide_eq_false hge; omega
  subst hi2
  rw [List.take_length] at hS ha hbl hbt ⊢
  have hl := macP_len k (textsP ws)
  refine (RMac_spec (hr.cons _) (by omega) (OwnS.rd F) (by omega) hS).of fun v w ⟨hv, hS⟩ => ?_
  unfold proofP
  rw [if_pos (shorts_all ha)]
  generalize macP k (textsP ws) = m at hl hv ⊢
  have z : (arrB m).size = 32 := by rw [arrB_size, hl]
  refine ⟨_, z, hv, NewC.i hS fun b w hS => ⟨z, StA.r 0 hS rfl (by rw [z]; rfl) (arrB_notAgg _) fun w hS => ?_⟩⟩
  have hS : St W (Row b 57 (m.map byteV) :: OwnS 5 1 p1 (textsP ws).length c1 ((textsP ws).map byteV) :: F) w := hS
  refine SlP.allS 0 hS rfl (fun F => Rd.all) hl (Nat.le_refl _) rfl fun p' hr' => ?_
  exact (RHex_spec hr' (by omega) hS).of fun v w ⟨hv, hS⟩ => ⟨_, hv, rfl, St.dropL [_, _] hS⟩
theorem greatPlan_small {W w : World} {F : List Asn} (P : PlanD) (hP : P.ten.size + P.tok.size + P.sec.size + P.nam.size ≤ 1048576) (hS : St W F w) : CallR Try.prog 9 #[.agg #[.string P.ten, .string P.tok, .string P.sec, .string P.nam, .int .i64 P.ttl, .int .i64 P.every]] w fun v w' => ∃ b, v = .bool b ∧ (b = false → P.sec.size ≤ 3000) ∧ St W F w' := by
  refine F9_of (NewC.i hS fun b7 w hS => LdS.a 0 hS rfl rfl (LdS.a 0 hS rfl rfl (LdS.a 0 hS rfl rfl (LdS.a 0 hS rfl rfl ⟨_, rfl, fun h => ?_, hS.drop⟩))))
  rw [w64 (n := (P.ten.size : Int) + P.tok.size) (by omega) (by omega), w64 (n := (P.ten.size : Int) + P.tok.size + P.sec.size) (by omega) (by omega), w64 (by omega) (by omega)] at h
  have h := of_decide_eq_false h
  omega
/-! ### Plain -/
theorem drop_cons {α : Type} {l r : List α} {k : Nat} {a : α} (h : l.drop k = a :: r) : l[k]? = some a ∧ l.drop (k + 1) = r := by
  refine ⟨?_, ?_⟩
  · have : (l.drop k)[0]? = some a := by rw [h]; rfl
    rw [List.getElem?_drop] at this; exact this
  · rw [← List.drop_drop, h]; rfl
theorem Fine.line {P : PlanD} {o : OpD} {S' S : List Int} {a : ActD} {r : List ActD} (h : Fine P o S' S (a :: r)) : ∃ n : Nat, n ≤ 999 ∧ a.line = n := by
  cases h with
  | opened h _ => exact ⟨_, h, rfl⟩
  | hello h _ _ => exact ⟨_, h, rfl⟩
  | proof h _ _ _ => exact ⟨_, h, rfl⟩
  | ticket h _ _ _ => exact ⟨_, h, rfl⟩
  | claim _ _ _ _ => exact ⟨0, by omega, rfl⟩
theorem start_len (P : PlanD) (G : AG) (b : Nat) : (startP P G b).2.length ≤ 2 := by
  unfold startP
  split
  · simp
  · simp [openP]
theorem called_len (P : PlanD) (G : AG) (m : MsgD) (now : Int) (b : Nat) : (calledP P G m now b).2.length ≤ 2 := by
  unfold calledP
  split
  · simp
  · split
    · simp
    · split
      · simp [openP]
      · simp
theorem hear_len (P : PlanD) (G : AG) (no : Int) (m : MsgD) (now : Int) (b : Nat) : (hearP P G no m now b).2.length ≤ 2 := by
  unfold hearP
  cases lineOf G no with
  | none => simp
  | some d =>
    dsimp only
    split
    · simp
    · split
      · split <;> simp
      · split
        · split
          · split <;> simp
          · simp
        · exact called_len P G m now b
theorem does_len (P : PlanD) (G : AG) (o : OpD) (b : Nat) : (doesP P G o b).2.length ≤ 2 := by
  unfold doesP
  split
  · unfold tickP
    split
    · exact start_len P G b
    · split <;> simp
  · split
    · simp
    · split
      · exact start_len P G b
      · split
        · exact hear_len P G o.line o.m o.now b
        · simp
def jV (x : Int) : Value := .int .i64 x
theorem jV_set (S : List Int) (n : Nat) (x : Int) : (S.map jV).set n (.int .i64 x) = (S.set n x).map jV := by rw [List.map_set]; rfl
theorem jV_get {S : List Int} {n : Nat} {x : Int} (h : S[n]? = some x) : (S.map jV)[n]? = some (.int .i64 x) := by rw [List.getElem?_map, h]; rfl
section
variable {W : World}
theorem Order_walk {P : PlanD} {X : Nat} (hP : PlanOk P ∧ P.ten.size + P.tok.size + P.sec.size + P.nam.size ≤ X) {p : Option Addr} {os : List OpD} {c : Nat} (hr : Rd [Base W] p (os.flatMap opC)) (hc : os.length ≤ c) (hcm : c ≤ 9223372036854775807) (_hok : ∀ o ∈ os, True) (hX : X ≤ 1048576) :
    CallR Try.prog 3 #[planV P, .slice p os.length c] W fun v w' => v = .bool true ∧ ∃ r, St W (Base W :: r) w' := by
  refine F3_of (NewC.i (St.base W) fun b9 w hS => ?_)
  have hS : St W [Row b9 23 (planC P), Base W] w := hS
  refine (head_spec hS).of fun v w ⟨hv, hS⟩ => ⟨_, hv, ?_⟩
  refine LdS.a 0 hS rfl rfl (LdS.a 0 hS rfl rfl (LdS.a 0 hS rfl rfl (LdS.a 0 hS rfl rfl (LdI.a 0 hS rfl rfl (LdI.a 0 hS rfl rfl ?_)))))
  refine (New_spec P hP.1 hS).of fun v w ⟨a, hv, hS⟩ => ⟨_, hv, Bif.no rfl ?_⟩
  refine (greatOps_spec ((hr.cons _).cons _) (by omega) hS).of fun v w ⟨bg, hv, hlen, hS⟩ => ⟨_, hv, Bif.i (fun _ => Bif.yes rfl ⟨rfl, _, hS.p2⟩) fun hbg => ?_⟩
  have hlen := hlen hbg
  refine LdS.a 1 hS rfl rfl (LdS.a 1 hS rfl rfl (LdS.a 1 hS rfl rfl (LdS.a 1 hS rfl rfl (LdI.a 1 hS rfl rfl (LdI.a 1 hS rfl rfl ?_)))))
  refine (greatPlan_small P (by have := hP.2; omega) hS).of fun v w ⟨bp, hv, hsec, hS⟩ => ⟨_, hv, Bif.i (fun _ => Bif.yes rfl ⟨rfl, _, hS.p2⟩) fun hbp => ?_⟩
  have hsec := hsec hbp
  refine MkS.i hS (by decide) (Int.le_refl _) (by decide) (by decide) fun b35 w hS => ?_
  obtain ⟨S0, hS0, hl0⟩ : ∃ S : List Int, List.replicate (Int.toNat 1001) (Value.int .i64 0) = S.map jV ∧ S.length = 1001 := ⟨List.replicate (Int.toNat 1001) 0, by rw [List.map_replicate]; rfl, by rw [List.length_replicate]; rfl⟩
  rw [hS0] at hS
  clear hS0
  have hS : St W [AgentA a P ⟨false, 0, 0, 1, []⟩, Row b35 3 (S0.map jV), Row b9 23 (planC P), Base W] w := hS.p1
  refine ⟨fun vs w => ∃ (i : Nat) (G : AG) (S : List Int), vs = [.int .i64 i] ∧ i ≤ os.length ∧ StepsOk S G ∧ St W [AgentA a P G, Row b35 3 (S.map jV), Row b9 23 (planC P), Base W] w, leftN os.length, ⟨0, _, S0, rfl, by omega, ⟨hl0, by simp⟩, hS⟩, fun x w hI => ?_⟩
  clear hS
  obtain ⟨i, G, S, he, hi, hSt, hS⟩ := hI
  cases he
  refine Bif.i (fun hlt => ?_) fun hge => ⟨rfl, _, hS.p3⟩
  have hlt : i < os.length := by have := of_decide_eq_true hlt; omega
  have hx : os[i]? = some (os[i]'hlt) := List.getElem?_eq_getElem _
  generalize os[i]'hlt = o at hx
  rw [up hlt (by omega)]
  refine IxP.el op8 (by decide) (((hr.cons _).cons _).cons _) hS rfl hlt hx fun a2 h2 => LdI.at (h2 0 _ rfl) (LdI.at (h2 1 _ rfl) (LdI.at (h2 2 _ rfl) (LdS.at (h2 3 _ rfl) (LdS.at (h2 4 _ rfl) (LdI.at (h2 5 _ rfl) (LdI.at (h2 6 _ rfl) (LdI.at (h2 7 _ rfl) ?_)))))))
  refine NewC.i hS fun b50 w hS => St1.a 0 hS rfl (by simp) fun w hS => St1.a 0 hS rfl (by simp) fun w hS => St1.a 0 hS rfl (by simp) fun w hS => St1.a 0 hS rfl (by simp) fun w hS => St1.a 0 hS rfl (by simp) fun w hS => St1.a 0 hS rfl (by simp) fun w hS => St1.a 0 hS rfl (by simp) fun w hS => St1.a 0 hS rfl (by simp) fun w hS => ?_
  have hS : St W [Row b50 34 (opC o), AgentA a P G, Row b35 3 (S.map jV), Row b9 23 (planC P), Base W] w := hS
  refine LdI.a 0 hS rfl rfl (LdI.a 0 hS rfl rfl (LdI.a 0 hS rfl rfl (LdS.a 0 hS rfl rfl (LdS.a 0 hS rfl rfl (LdI.a 0 hS rfl rfl (LdI.a 0 hS rfl rfl (LdI.a 0 hS rfl rfl ?_)))))))
  have hS := hS.p1
  have hG := (AgentA.ok hS).1
  refine (does_spec o hS).of fun v w ⟨p1, c1, b1, hv, hS⟩ => ⟨_, _, _, hv, ?_⟩
  obtain ⟨S', hF, hSt'⟩ := fine_does (P := P) (o := o) hSt hG b1
  have hdl := does_len P G o b1
  generalize (doesP P G o b1).1 = G' at hS hSt'
  generalize (doesP P G o b1).2 = acts at hS hF hdl hv
  clear hv h2
  have hl' := hSt'.1
  refine ⟨fun vs w => ∃ (k : Nat) (S : List Int), vs = [.int .i64 k] ∧ k ≤ acts.length ∧ S.length = 1001 ∧ Fine P o S' S (acts.drop k) ∧ St W [ActsA p1 c1 acts, AgentA a P G', Row b50 34 (opC o), Row b35 3 (S.map jV), Row b9 23 (planC P), Base W] w, leftN acts.length, ⟨0, S, rfl, by omega, hSt.1, hF, hS⟩, fun y w hJ => ?_⟩
  clear hS hF hSt
  obtain ⟨k, S, he, hk, hl, hF, hS⟩ := hJ
  cases he
  refine Bif.i (fun hlt2 => ?_) fun hge => ?_
  rotate_left
  · have hge : acts.length ≤ k := by have := of_decide_eq_false hge; omega
    rw [List.drop_eq_nil_of_le hge] at hF
    cases hF
    exact ⟨⟨i + 1, G', S', rfl, by omega, hSt', St.del 1 hS.drop rfl⟩, by show os.length - (i + 1) < os.length - i; omega⟩
  have hlt2 : k < acts.length := by have := of_decide_eq_true hlt2; omega
  cases hd : acts.drop k with
  | nil => rw [List.drop_eq_nil_iff] at hd; omega
  | cons act r =>
  rw [hd] at hF
  obtain ⟨hx, hr1⟩ := drop_cons hd
  obtain ⟨n, hn, hline⟩ := hF.line
  have hrA : Rd [ActsA p1 c1 acts, AgentA a P G', Row b50 34 (opC o), Row b35 3 (S.map jV), Row b9 23 (planC P), Base W] p1 (acts.flatMap actC) := SlA.rd _
  refine IxP.el actC7 (by decide) hrA hS rfl hlt2 hx fun a75 h75 => LdI.at (h75 1 _ rfl) (Bif.no (by rw [hline]; exact decide_eq_false (by omega)) (Bif.no (by rw [hline]; exact decide_eq_false (by omega)) ?_))
  refine IxP.el actC7 (by decide) hrA hS rfl hlt2 hx fun a77 h77 => LdI.at (by rw [Addr.add_add]; exact h77 2 _ rfl) (LdS.at (by rw [Addr.add_add]; exact h77 3 _ rfl) (LdS.at (by rw [Addr.add_add]; exact h77 4 _ rfl) (LdI.at (by rw [Addr.add_add]; exact h77 5 _ rfl) (LdI.at (by rw [Addr.add_add]; exact h77 6 _ rfl) ?_))))
  refine NewC.i hS fun b83 w hS => St1.a 0 hS rfl (by simp) fun w hS => St1.a 0 hS rfl (by simp) fun w hS => St1.a 0 hS rfl (by simp) fun w hS => St1.a 0 hS rfl (by simp) fun w hS => St1.a 0 hS rfl (by simp) fun w hS => ?_
  have hS : St W [Row b83 32 (msgC act.m), ActsA p1 c1 acts, AgentA a P G', Row b50 34 (opC o), Row b35 3 (S.map jV), Row b9 23 (planC P), Base W] w := hS
  clear h75 h77
  have hrA := hrA.cons (Row b83 32 (msgC act.m))
  refine IxP.el actC7 (by decide) hrA hS rfl hlt2 hx fun a90 h90 => LdI.at (h90 0 _ rfl) ?_
  have hup := up hlt2 (by omega)
  rw [hup]
  have fin : ∀ {S2 : List Int} {w : World}, S2.length = 1001 → Fine P o S' S2 r → St W [Row b83 32 (msgC act.m), ActsA p1 c1 acts, AgentA a P G', Row b50 34 (opC o), Row b35 3 (S2.map jV), Row b9 23 (planC P), Base W] w →
      (∃ (k' : Nat) (S : List Int), [Value.int .i64 ((k + 1 : Nat) : Int)] = [.int .i64 k'] ∧ k' ≤ acts.length ∧ S.length = 1001 ∧ Fine P o S' S (acts.drop k') ∧ St W [ActsA p1 c1 acts, AgentA a P G', Row b50 34 (opC o), Row b35 3 (S.map jV), Row b9 23 (planC P), Base W] w) ∧ leftN acts.length [.int .i64 ((k + 1 : Nat) : Int)] w < leftN acts.length [.int .i64 (k : Int)] w := fun {S2 w} hl2 hF2 hS => ⟨⟨k + 1, S2, rfl, by omega, hl2, by rw [hr1]; exact hF2, hS.drop⟩, by show acts.length - (k + 1) < acts.length - k; omega⟩
  have row : ∀ {K : Addr → Prop}, K ⟨b35, n, none⟩ → IxP (some ⟨b35, 0, none⟩) (Int.toNat 1001) act.line 1 K := fun {K} hK => IxP.row hline (by show n < 1001; omega) hK
  have put_ : ∀ {x : Int} {K : World → Prop} {w : World}, St W [Row b83 32 (msgC act.m), ActsA p1 c1 acts, AgentA a P G', Row b50 34 (opC o), Row b35 3 (S.map jV), Row b9 23 (planC P), Base W] w → (∀ w, St W [Row b83 32 (msgC act.m), ActsA p1 c1 acts, AgentA a P G', Row b50 34 (opC o), Row b35 3 ((S.set n x).map jV), Row b9 23 (planC P), Base W] w → K w) → St1 ⟨b35, n, none⟩ (.int .i64 x) w K := fun {x K w} hS hK => St1.n 4 hS rfl (by rw [List.length_map]; omega) fun w hS => by
    rw [jV_set] at hS
    exact hK w hS
  have get_ : ∀ {x : Int} {K : Int → Prop} {w : World}, St W [Row b83 32 (msgC act.m), ActsA p1 c1 acts, AgentA a P G', Row b50 34 (opC o), Row b35 3 (S.map jV), Row b9 23 (planC P), Base W] w → S[n]? = some x → K x → LdI .i64 ⟨b35, n, none⟩ w K := fun {x K w} hS hx hK => LdI.n 4 hS rfl (jV_get hx) hK
  cases hF with
  | @opened _ n' r hn' hF =>
    have hnn : n' = n := by have : ((n' : Nat) : Int) = n := hline; omega
    subst hnn
    obtain ⟨hx1, _⟩ := drop_cons hr1
    have hlt3 : k + 1 < acts.length := (List.getElem?_eq_some_iff.1 hx1).1
    refine Bif.yes rfl (Bif.no (decide_eq_false (by omega)) ?_)
    refine IxP.el actC7 (by decide) hrA hS rfl hlt3 hx1 fun a92 h92 => LdI.at (h92 1 _ rfl) (Bif.no (by show (((n' : Nat) : Int) != n') = false; simp) ?_)
    refine IxP.el actC7 (by decide) hrA hS rfl hlt3 hx1 fun a94 h94 => LdI.at (by rw [Addr.add_add]; exact h94 2 _ rfl) (Bif.no rfl ?_)
    exact row (put_ hS fun w hS => fin (by rw [List.length_set]; exact hl) hF hS)
  | @hello _ n' r hn' hg hF =>
    have hnn : n' = n := by have : ((n' : Nat) : Int) = n := hline; omega
    subst hnn
    refine Bif.no rfl (LdI.a 0 hS rfl rfl (Bif.yes rfl ?_))
    refine row (get_ hS hg (Bif.no rfl (LdS.a 0 hS rfl rfl (LdS.a 5 hS rfl rfl (Bif.no (by simp [helloM, sayA]) (LdS.a 0 hS rfl rfl (LdS.a 5 hS rfl rfl (Bif.no (by simp [helloM, sayA]) ?_))))))))
    exact row (put_ hS fun w hS => fin (by rw [List.length_set]; exact hl) hF hS)
  | @proof _ n' r hn' hg hk2 hF =>
    have hnn : n' = n := by have : ((n' : Nat) : Int) = n := hline; omega
    subst hnn
    refine Bif.no rfl (LdI.a 0 hS rfl rfl (Bif.no rfl (Bif.yes rfl ?_)))
    have hconv : ∀ {F' : List Asn} {w : World} {K : Value → World → Prop}, St W F' w → (∀ b c w', (bsOf P.sec).length ≤ c → St W (Row b 5 ((bsOf P.sec).map byteV ++ List.replicate (c - (bsOf P.sec).length) (.int .u8 0)) :: F') w' → K (.slice (some ⟨b, 0, none⟩) (bsOf P.sec).length c) w') → Run Try.prog (convert 9 40 (.string P.sec)) w K := fun {F' w K} h hK => by
      rw [strB]; exact bytes_i uS uB uU8 h hK
    have hC := Is.refl W [Row b83 32 (msgC ⟨3, proofOf P o.m.A, e0, 0, 0⟩), ActsA p1 c1 acts, AgentA a P G', Row b50 34 (opC o), Row b35 3 (S.map jV), Row b9 23 (planC P), Base W]
    refine ⟨StC W _, StC.start hS, row ⟨2, QtI.at fun G0 w hw => hC.cell 4 rfl (jV_get hg) hw, Bif.no rfl ⟨2, QtI.at fun G0 w hw => by rw [Addr.add_add]; exact hC.cell 3 rfl (by rw [← hk2]; rfl) hw, Bif.no rfl
      ⟨proofOf P o.m.A, QtS.at fun G0 w hw => hC.cell 0 rfl rfl hw, P.sec, QtS.at fun G0 w hw => hC.cell 5 rfl rfl hw, P.ten, QtS.at fun G0 w hw => hC.cell 5 rfl rfl hw, P.tok, QtS.at fun G0 w hw => hC.cell 5 rfl rfl hw, o.m.A, QtS.at fun G0 w hw => by rw [Addr.add_add]; exact hC.cell 3 rfl rfl hw, ?_⟩⟩⟩⟩
    refine Ef.n0 (α := { y : Nat × Nat // (bsOf P.sec).length ≤ y.2 }) (V := fun y => .slice (some ⟨y.1.1, 0, none⟩) (bsOf P.sec).length y.1.2) (B := fun y => Row y.1.1 5 ((bsOf P.sec).map byteV ++ List.replicate (y.1.2 - (bsOf P.sec).length) (Value.int .u8 0)) :: [Row b83 32 (msgC ⟨3, proofOf P o.m.A, e0, 0, 0⟩), ActsA p1 c1 acts, AgentA a P G', Row b50 34 (opC o), Row b35 3 (S.map jV), Row b9 23 (planC P), Base W]) ⟨(0, (bsOf P.sec).length), Nat.le_refl _⟩ hC (fun G0 w h => hconv h fun b c w' hle h => ⟨_, _, _, rfl, ⟨(b, c), hle⟩, rfl, h⟩) fun y => ?_
    have hC2 := Is.refl W (Row y.1.1 5 ((bsOf P.sec).map byteV ++ List.replicate (y.1.2 - (bsOf P.sec).length) (Value.int .u8 0)) :: [Row b83 32 (msgC ⟨3, proofOf P o.m.A, e0, 0, 0⟩), ActsA p1 c1 acts, AgentA a P G', Row b50 34 (opC o), Row b35 3 (S.map jV), Row b9 23 (planC P), Base W])
    refine ⟨_, _, _, rfl, ⟨QtS.at fun G0 w hw => by rw [Addr.add_add]; exact hC2.cell 4 rfl rfl hw, QtS.at fun G0 w hw => hC2.cell 6 rfl rfl hw, QtS.at fun G0 w hw => hC2.cell 6 rfl rfl hw, QtS.at fun G0 w hw => hC2.cell 1 rfl rfl hw⟩, fun b162 => ?_⟩
    have hpr : proofOf P o.m.A = mkS (proofP (bsOf P.sec) [bsOf P.ten, bsOf P.tok, bsOf o.m.A]) := rfl
    generalize hLL : [Row b83 32 (msgC ⟨3, proofOf P o.m.A, e0, 0, 0⟩), ActsA p1 c1 acts, AgentA a P G', Row b50 34 (opC o), Row b35 3 (S.map jV), Row b9 23 (planC P), Base W] = LL at hC2 ⊢
    refine Ef.n0 (α := Unit) (V := fun _ => .string (proofOf P o.m.A)) (B := fun _ => LL) () (hC2.push b162 _) (fun G0 w h => ?_) fun _ => ⟨_, rfl, ?_⟩
    · have h2 : St W (Row b162 9 ([bsOf P.ten, bsOf P.tok, bsOf o.m.A].map strV) :: Row y.1.1 5 ((bsOf P.sec).map byteV ++ List.replicate (y.1.2 - (bsOf P.sec).length) (Value.int .u8 0)) :: (LL ++ pts G0)) w := by
        have e : [bsOf P.ten, bsOf P.tok, bsOf o.m.A].map strV = [Value.string P.ten, Value.string P.tok, Value.string o.m.A] := by
          simp only [List.map_cons, List.map_nil, strV]
          rw [← strB, ← strB, ← strB]
        rw [e]
        have h : St W (Pt b162 (.cells #[(Value.string P.ten), (Value.string P.tok), (Value.string o.m.A)] 9) :: Row y.1.1 5 ((bsOf P.sec).map byteV ++ List.replicate (y.1.2 - (bsOf P.sec).length) (Value.int .u8 0)) :: (LL ++ pts G0)) w := h
        exact h.imp Pt.row
      have hrk : Rd (Row b162 9 ([bsOf P.ten, bsOf P.tok, bsOf o.m.A].map strV) :: Row y.1.1 5 ((bsOf P.sec).map byteV ++ List.replicate (y.1.2 - (bsOf P.sec).length) (Value.int .u8 0)) :: (LL ++ pts G0)) (some ⟨y.1.1, 0, none⟩) ((bsOf P.sec).map byteV) := by
        refine Rd.cons (Rd.row 0 fun i v hi => ?_) _
        rw [Nat.zero_add, List.getElem?_append_left (List.getElem?_eq_some_iff.1 hi).1]; exact hi
      exact (RProof2_spec hrk (by rw [bsOf_len]; omega) Rd.all (by simp) h2).of fun v w' ⟨hv, h⟩ => ⟨_, hv, (), by rw [hpr], h.drop.drop⟩
    subst hLL
    refine ⟨QtS.at fun G0 w hw => (Is.refl W _).cell 0 rfl rfl hw, fun G0 w h => ?_⟩
    have hS := StC.ends h
    refine Bif.no (by simp) ?_
    exact row (put_ hS fun w hS => fin (by rw [List.length_set]; exact hl) hF hS)
  | @ticket _ n' tk r hn' hz hg hF =>
    have hnn : n' = n := by have : ((n' : Nat) : Int) = n := hline; omega
    subst hnn
    refine Bif.no rfl (LdI.a 0 hS rfl rfl (Bif.no rfl (Bif.no rfl (Bif.yes rfl ?_))))
    refine row (get_ hS hg (Bif.no rfl (Bif.no (by show (((n' : Nat) : Int) == 0) = false; simpa using hz) ?_)))
    exact row (put_ hS fun w hS => fin (by rw [List.length_set]; exact hl) hF hS)
  | @claim _ x m r hg hx3 hm hF =>
    have hnn : 0 = n := by have : ((0 : Nat) : Int) = n := hline; omega
    subst hnn
    have hm1 : (m.k == 1) = false := by rcases hm with h | h <;> rw [h] <;> rfl
    have hm3 : (m.k == 3) = false := by rcases hm with h | h <;> rw [h] <;> rfl
    have hm12 : (m.k == 12) = false := by rcases hm with h | h <;> rw [h] <;> rfl
    refine Bif.no rfl (LdI.a 0 hS rfl rfl (Bif.no hm1 (Bif.no hm3 (Bif.no hm12 ?_))))
    refine ⟨fun vs w => vs = [.bool true] ∧ St W [Row b83 32 (msgC m), ActsA p1 c1 acts, AgentA a P G', Row b50 34 (opC o), Row b35 3 (S.map jV), Row b9 23 (planC P), Base W] w, ?_, fun x2 w hJ => ?_⟩
    · refine Bif.i (fun h => ⟨by rw [show ((sayA ((0 : Nat) : Int) m).m.k == 6) = true from h], hS⟩) fun h => ⟨?_, hS⟩
      have h : (m.k == 6) = false := h
      rcases hm with h6 | h8
      · rw [h6] at h; cases h
      · show [Value.bool (m.k == 8)] = _
        rw [h8]; rfl
    clear hS
    obtain ⟨he, hS⟩ := hJ
    cases he
    refine Bif.yes rfl (row (get_ hS hg (Bif.no (decide_eq_false (by omega)) (Bif.no rfl ?_))))
    exact fin hl hF hS
end
end Go.Proofs.Ytlkbjkmpanohfaa
