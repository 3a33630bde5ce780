/-
  The rules once more, by the place of a part in the list.
-/
import Derived.Test.YtbfccpbijimjmaaRules
set_option linter.unusedVariables false
set_option linter.unusedSimpArgs false
namespace Go.Proofs.Ytbfccpbijimjmaa
open Go

theorem Rd.n {l : List Asn} {A : Asn} {p : Option Addr} {cs : List Value} (n : Nat) (hn : nth l n = some A) (h : ∀ F, Rd (A :: F) p cs) : Rd l p cs := (h (del l n)).perm (nth_perm hn)
theorem St.bk {W w : World} {l B : List Asn} (n : Nat) (h : St W (B ++ Go.Proofs.Ytbfccpbijimjmaa.del l n) w) {A : Asn} (hn : nth l n = some A) : St W (put l n B) w := St.back n hn h
theorem St.dropL {W w : World} : ∀ (r : List Asn) {l : List Asn}, St W (r ++ l) w → St W l w
  | [], _, h => h
  | _ :: r, _, h => St.dropL r h.drop
theorem St.keep {W w : World} (l : List Asn) {r : List Asn} (h : St W (l ++ r) w) : St W l w := St.dropL r (h.perm List.perm_append_comm)
theorem Is.ends {W : World} {C : Cls} {l : List Asn} (h : Is W C l) {G : List (Nat × Obj)} {w : World} (hw : C.p G w) : St W l w := StC.ends (W := W) (l := l) (G := G) ((h G w).1 hw)
theorem Is.start {W w : World} {C : Cls} {l : List Asn} (h : St W l w) : (StC W l).p [] w := StC.start h

section
variable {W w : World} {l : List Asn} {b : Nat} {t : TypeId} {cs : List Value} {o j k0 : Nat} {C : Cls}
theorem St.cell (n : Nat) (hS : St W l w) (hn : nth l n = some (Row b t cs)) {v : Value} (h : cs[k0]? = some v) : w.cell? ⟨b, k0, none⟩ = some v := (hS.at n hn).ld h
theorem LdI.n {k : IntKind} {x : Int} {F : Int → Prop} (n : Nat) (hS : St W l w) (hn : nth l n = some (Row b t cs)) (h : cs[k0]? = some (.int k x)) (hF : F x) : LdI k ⟨b, k0, none⟩ w F := ⟨x, hS.cell n hn h, hF⟩
theorem LdB.n {x : Bool} {F : Bool → Prop} (n : Nat) (hS : St W l w) (hn : nth l n = some (Row b t cs)) (h : cs[k0]? = some (.bool x)) (hF : F x) : LdB ⟨b, k0, none⟩ w F := ⟨x, hS.cell n hn h, hF⟩
theorem LdS.n {x : ByteArray} {F : ByteArray → Prop} (n : Nat) (hS : St W l w) (hn : nth l n = some (Row b t cs)) (h : cs[k0]? = some (.string x)) (hF : F x) : LdS ⟨b, k0, none⟩ w F := ⟨x, hS.cell n hn h, hF⟩
theorem LdP.n {x : Option Addr} {F : Option Addr → Prop} (n : Nat) (hS : St W l w) (hn : nth l n = some (Row b t cs)) (h : cs[k0]? = some (.pointer x)) (hF : F x) : LdP ⟨b, k0, none⟩ w F := ⟨x, hS.cell n hn h, hF⟩
theorem LdL.n {p : Option Addr} {m c : Nat} {F : Option Addr → Nat → Nat → Prop} (n : Nat) (hS : St W l w) (hn : nth l n = some (Row b t cs)) (h : cs[k0]? = some (.slice p m c)) (hF : F p m c) : LdL ⟨b, k0, none⟩ w F := ⟨p, m, c, hS.cell n hn h, hF⟩
theorem LdM.n {x : Option Nat} {F : Option Nat → Prop} (n : Nat) (hS : St W l w) (hn : nth l n = some (Row b t cs)) (h : cs[k0]? = some (.map x)) (hF : F x) : LdM ⟨b, k0, none⟩ w F := ⟨x, hS.cell n hn h, hF⟩
theorem LdV.n {x : Value} {F : Value → Prop} (n : Nat) (hS : St W l w) (hn : nth l n = some (Row b t cs)) (h : cs[k0]? = some x) (hF : F x) : LdV ⟨b, k0, none⟩ w F := ⟨x, hS.cell n hn h, hF⟩
theorem LdI.a {k : IntKind} {x : Int} {F : Int → Prop} (n : Nat) (hS : St W l w) (hn : nth l n = some (Row b t cs)) (h : cs[o + j]? = some (.int k x)) (hF : F x) : LdI k (Addr.add ⟨b, o, none⟩ j) w F := by rw [add_at]; exact LdI.n n hS hn h hF
theorem LdB.a {x : Bool} {F : Bool → Prop} (n : Nat) (hS : St W l w) (hn : nth l n = some (Row b t cs)) (h : cs[o + j]? = some (.bool x)) (hF : F x) : LdB (Addr.add ⟨b, o, none⟩ j) w F := by rw [add_at]; exact LdB.n n hS hn h hF
theorem LdS.a {x : ByteArray} {F : ByteArray → Prop} (n : Nat) (hS : St W l w) (hn : nth l n = some (Row b t cs)) (h : cs[o + j]? = some (.string x)) (hF : F x) : LdS (Addr.add ⟨b, o, none⟩ j) w F := by rw [add_at]; exact LdS.n n hS hn h hF
theorem LdP.a {x : Option Addr} {F : Option Addr → Prop} (n : Nat) (hS : St W l w) (hn : nth l n = some (Row b t cs)) (h : cs[o + j]? = some (.pointer x)) (hF : F x) : LdP (Addr.add ⟨b, o, none⟩ j) w F := by rw [add_at]; exact LdP.n n hS hn h hF
theorem LdL.a {p : Option Addr} {m c : Nat} {F : Option Addr → Nat → Nat → Prop} (n : Nat) (hS : St W l w) (hn : nth l n = some (Row b t cs)) (h : cs[o + j]? = some (.slice p m c)) (hF : F p m c) : LdL (Addr.add ⟨b, o, none⟩ j) w F := by rw [add_at]; exact LdL.n n hS hn h hF
theorem LdM.a {x : Option Nat} {F : Option Nat → Prop} (n : Nat) (hS : St W l w) (hn : nth l n = some (Row b t cs)) (h : cs[o + j]? = some (.map x)) (hF : F x) : LdM (Addr.add ⟨b, o, none⟩ j) w F := by rw [add_at]; exact LdM.n n hS hn h hF
theorem LdV.a {x : Value} {F : Value → Prop} (n : Nat) (hS : St W l w) (hn : nth l n = some (Row b t cs)) (h : cs[o + j]? = some x) (hF : F x) : LdV (Addr.add ⟨b, o, none⟩ j) w F := by rw [add_at]; exact LdV.n n hS hn h hF
theorem St1.n {v : Value} {F : World → Prop} (n : Nat) (hS : St W l w) (hn : nth l n = some (Row b t cs)) (h : k0 < cs.length) (hF : ∀ w', St W (put l n [Row b t (cs.set k0 v)]) w' → F w') : St1 ⟨b, k0, none⟩ v w F :=
  St1.i (hS.at n hn) h fun w' h => hF w' (St.back n hn h)
theorem St1.a {v : Value} {F : World → Prop} (n : Nat) (hS : St W l w) (hn : nth l n = some (Row b t cs)) (h : o + j < cs.length) (hF : ∀ w', St W (put l n [Row b t (cs.set (o + j) v)]) w' → F w') : St1 (Addr.add ⟨b, o, none⟩ j) v w F := by
  rw [add_at]; exact St1.n n hS hn h hF
/-- What is new stands last. -/
theorem St.last {A : Asn} (h : St W (A :: l) w) : St W (l ++ [A]) w := h.perm (List.perm_append_singleton A l).symm
theorem NewC.n {c : Array Value} {e : TypeId} {F : Nat → World → Prop} (hS : St W l w) (hF : ∀ b w', St W (l ++ [Row b e c.toList]) w' → F b w') : NewC c e w F := NewC.i hS fun b w' h => hF b w' h.last

/-- A call that needs one part, and leaves others in its place. -/
theorem CallR.n {α : Type} {P : Program} {f : FuncId} {args : Array Value} {V : α → Value} {B : α → List Asn} {A : Asn} {R : Value → World → Prop} (n : Nat) (hS : St W l w) (hn : nth l n = some A)
    (spec : St W (A :: del l n) w → CallR P f args w fun v w' => ∃ x, v = V x ∧ St W (B x ++ del l n) w') (hF : ∀ x w', St W (put l n (B x)) w' → R (V x) w') : CallR P f args w R :=
  (spec (hS.at n hn)).of fun v w' ⟨x, hv, h⟩ => by subst hv; exact hF x w' (St.back n hn h)
theorem CallR.n0 {α : Type} {P : Program} {f : FuncId} {args : Array Value} {V : α → Value} {B : α → List Asn} {R : Value → World → Prop} (hS : St W l w)
    (spec : St W l w → CallR P f args w fun v w' => ∃ x, v = V x ∧ St W (B x ++ l) w') (hF : ∀ x w', St W (l ++ B x) w' → R (V x) w') : CallR P f args w R :=
  (spec hS).of fun v w' ⟨x, hv, h⟩ => by subst hv; exact hF x w' (h.perm List.perm_append_comm)

/-! ### In a drawn region -/
theorem Is.at (hC : Is W C l) {A : Asn} {G : List (Nat × Obj)} (n : Nat) (hn : nth l n = some A) (h : C.p G w) : St W (A :: (del l n ++ pts G)) w := by
  have h' := ((hC G w).1 h).at n (nth_app (pts G) hn).1
  rwa [(nth_app (pts G) hn).2.1] at h'
theorem Is.back (n : Nat) {A : Asn} (hn : nth l n = some A) {B : List Asn} {G : List (Nat × Obj)} {w' : World} (h : St W (B ++ (del l n ++ pts G)) w') : St W (put l n B ++ pts G) w' := by
  have h1 := nth_app (pts G) hn
  rw [← h1.2.1] at h
  have h2 := St.back n h1.1 h
  rwa [h1.2.2] at h2
theorem Is.cell (hC : Is W C l) (n : Nat) (hn : nth l n = some (Row b t cs)) {v : Value} (h : cs[k0]? = some v) {G : List (Nat × Obj)} (hw : C.p G w) : w.cell? ⟨b, k0, none⟩ = some v := (hC.at n hn hw).ld h
theorem QtI.n {k : IntKind} {x : Int} (n : Nat) (hC : Is W C l) (hn : nth l n = some (Row b t cs)) (h : cs[k0]? = some (.int k x)) : Qt C (.int k x) fun w K => LdI k ⟨b, k0, none⟩ w fun x => K (.int k x) w := fun G w hw => ⟨x, hC.cell n hn h hw, rfl, hw⟩
theorem QtB.n {x : Bool} (n : Nat) (hC : Is W C l) (hn : nth l n = some (Row b t cs)) (h : cs[k0]? = some (.bool x)) : Qt C (.bool x) fun w K => LdB ⟨b, k0, none⟩ w fun x => K (.bool x) w := fun G w hw => ⟨x, hC.cell n hn h hw, rfl, hw⟩
theorem QtS.n {x : ByteArray} (n : Nat) (hC : Is W C l) (hn : nth l n = some (Row b t cs)) (h : cs[k0]? = some (.string x)) : Qt C (.string x) fun w K => LdS ⟨b, k0, none⟩ w fun x => K (.string x) w := fun G w hw => ⟨x, hC.cell n hn h hw, rfl, hw⟩
theorem QtP.n {x : Option Addr} (n : Nat) (hC : Is W C l) (hn : nth l n = some (Row b t cs)) (h : cs[k0]? = some (.pointer x)) : Qt C (.pointer x) fun w K => LdP ⟨b, k0, none⟩ w fun x => K (.pointer x) w := fun G w hw => ⟨x, hC.cell n hn h hw, rfl, hw⟩
theorem QtL.n {p : Option Addr} {m c : Nat} (n : Nat) (hC : Is W C l) (hn : nth l n = some (Row b t cs)) (h : cs[k0]? = some (.slice p m c)) : Qt C (.slice p m c) fun w K => LdL ⟨b, k0, none⟩ w fun p m c => K (.slice p m c) w := fun G w hw => ⟨p, m, c, hC.cell n hn h hw, rfl, hw⟩
theorem QtM.n {x : Option Nat} (n : Nat) (hC : Is W C l) (hn : nth l n = some (Row b t cs)) (h : cs[k0]? = some (.map x)) : Qt C (.map x) fun w K => LdM ⟨b, k0, none⟩ w fun x => K (.map x) w := fun G w hw => ⟨x, hC.cell n hn h hw, rfl, hw⟩
theorem QtV.n {x : Value} (n : Nat) (hC : Is W C l) (hn : nth l n = some (Row b t cs)) (h : cs[k0]? = some x) : Qt C x fun w K => LdV ⟨b, k0, none⟩ w fun x => K x w := fun G w hw => ⟨x, hC.cell n hn h hw, rfl, hw⟩
theorem QtI.a {k : IntKind} {x : Int} (n : Nat) (hC : Is W C l) (hn : nth l n = some (Row b t cs)) (h : cs[o + j]? = some (.int k x)) : Qt C (.int k x) fun w K => LdI k (Addr.add ⟨b, o, none⟩ j) w fun x => K (.int k x) w := by rw [add_at]; exact QtI.n n hC hn h
theorem QtB.a {x : Bool} (n : Nat) (hC : Is W C l) (hn : nth l n = some (Row b t cs)) (h : cs[o + j]? = some (.bool x)) : Qt C (.bool x) fun w K => LdB (Addr.add ⟨b, o, none⟩ j) w fun x => K (.bool x) w := by rw [add_at]; exact QtB.n n hC hn h
theorem QtS.a {x : ByteArray} (n : Nat) (hC : Is W C l) (hn : nth l n = some (Row b t cs)) (h : cs[o + j]? = some (.string x)) : Qt C (.string x) fun w K => LdS (Addr.add ⟨b, o, none⟩ j) w fun x => K (.string x) w := by rw [add_at]; exact QtS.n n hC hn h
theorem QtP.a {x : Option Addr} (n : Nat) (hC : Is W C l) (hn : nth l n = some (Row b t cs)) (h : cs[o + j]? = some (.pointer x)) : Qt C (.pointer x) fun w K => LdP (Addr.add ⟨b, o, none⟩ j) w fun x => K (.pointer x) w := by rw [add_at]; exact QtP.n n hC hn h
theorem QtL.a {p : Option Addr} {m c : Nat} (n : Nat) (hC : Is W C l) (hn : nth l n = some (Row b t cs)) (h : cs[o + j]? = some (.slice p m c)) : Qt C (.slice p m c) fun w K => LdL (Addr.add ⟨b, o, none⟩ j) w fun p m c => K (.slice p m c) w := by rw [add_at]; exact QtL.n n hC hn h
theorem QtM.a {x : Option Nat} (n : Nat) (hC : Is W C l) (hn : nth l n = some (Row b t cs)) (h : cs[o + j]? = some (.map x)) : Qt C (.map x) fun w K => LdM (Addr.add ⟨b, o, none⟩ j) w fun x => K (.map x) w := by rw [add_at]; exact QtM.n n hC hn h
theorem QtV.a {x : Value} (n : Nat) (hC : Is W C l) (hn : nth l n = some (Row b t cs)) (h : cs[o + j]? = some x) : Qt C x fun w K => LdV (Addr.add ⟨b, o, none⟩ j) w fun x => K x w := by rw [add_at]; exact QtV.n n hC hn h
/-- Back to the class, where the part is as it was. -/
theorem Is.same (hC : Is W C l) (n : Nat) {A : Asn} (hn : nth l n = some A) {G : List (Nat × Obj)} {w : World} (h : St W (A :: (del l n ++ pts G)) w) : C.p G w := (hC G w).2 (by
  have h1 := nth_app (pts G) hn
  rw [← h1.2.1] at h
  exact h.perm (nth_perm h1.1).symm)
/-- A quiet operation that needs one part. -/
theorem Qt.n {X : Value} {A : Asn} {Op : World → (Value → World → Prop) → Prop} (n : Nat) (hC : Is W C l) (hn : nth l n = some A)
    (spec : ∀ G w, St W (A :: (del l n ++ pts G)) w → Op w fun v w' => v = X ∧ C.p G w') : Qt C X Op := fun G w hw => spec G w (hC.at n hn hw)
/-- An operation that needs one part, and leaves others in its place. -/
theorem Ef.n {α : Type} {V : α → Value} {B : α → List Asn} {A : Asn} {Op : World → (Value → World → Prop) → Prop} {K : Value → Cls → Prop} (x0 : α) (n : Nat) (hC : Is W C l) (hn : nth l n = some A)
    (spec : ∀ G w, St W (A :: (del l n ++ pts G)) w → Op w fun v w' => ∃ x, v = V x ∧ St W (put l n (B x) ++ pts G) w')
    (hK : ∀ x, K (V x) (StC W (put l n (B x)))) : Ef C Op K :=
  ⟨α, x0, V, fun x => StC W (put l n (B x)), fun G w hw => spec G w (hC.at n hn hw), hK⟩
/-- An operation that leaves some behind the parts. -/
theorem Ef.n0 {α : Type} {V : α → Value} {B : α → List Asn} {Op : World → (Value → World → Prop) → Prop} {K : Value → Cls → Prop} (x0 : α) (hC : Is W C l)
    (spec : ∀ G w, St W (l ++ pts G) w → Op w fun v w' => ∃ x, v = V x ∧ St W (B x ++ pts G) w')
    (hK : ∀ x, K (V x) (StC W (B x))) : Ef C Op K :=
  ⟨α, x0, V, fun x => StC W (B x), fun G w hw => spec G w ((hC G w).1 hw), hK⟩
theorem Ef.st {v : Value} {K : Value → Cls → Prop} (n : Nat) (hC : Is W C l) (hn : nth l n = some (Row b t cs)) (h : k0 < cs.length)
    (hK : K (.tuple #[]) (StC W (put l n [Row b t (cs.set k0 v)]))) : Ef C (fun w K => St1 ⟨b, k0, none⟩ v w fun w' => K (.tuple #[]) w') K :=
  ⟨Unit, (), fun _ => .tuple #[], fun _ => StC W (put l n [Row b t (cs.set k0 v)]), fun G w hw => St1.i (hC.at n hn hw) h fun w' h' => ⟨(), rfl, Is.back n hn h'⟩, fun _ => hK⟩
theorem Ef.sta {v : Value} {K : Value → Cls → Prop} (n : Nat) (hC : Is W C l) (hn : nth l n = some (Row b t cs)) (h : o + j < cs.length)
    (hK : K (.tuple #[]) (StC W (put l n [Row b t (cs.set (o + j) v)]))) : Ef C (fun w K => St1 (Addr.add ⟨b, o, none⟩ j) v w fun w' => K (.tuple #[]) w') K := by
  rw [add_at]; exact Ef.st n hC hn h hK
end
end Go.Proofs.Ytbfccpbijimjmaa
