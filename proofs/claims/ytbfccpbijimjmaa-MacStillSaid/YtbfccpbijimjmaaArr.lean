/-
  Arrays, read and written whole.
-/
import Derived.Test.YtbfccpbijimjmaaSl
set_option linter.unusedVariables false
set_option linter.unusedSimpArgs false
namespace Go.Proofs.Ytbfccpbijimjmaa
open Go
section
variable {P : Program} {W w : World} {l : List Asn} {b : Nat} {t : TypeId} {cs : List Value} {n : Nat} {C : Cls}
theorem ldA_run (hc : ∀ j v, cs[j]? = some v → w.cell? (Addr.add ⟨b, 0, none⟩ j) = some v) (hl : cs.length = n) : (loadCells ⟨b, 0, none⟩ n).run P w = .ok cs.toArray w := by
  have := run_loadCells_list (P := P) w ⟨b, 0, none⟩ cs hc
  rwa [hl] at this
theorem LdA.r {F : Array Value → Prop} (i : Nat) (hS : St W l w) (hn : nth l i = some (Row b t cs)) (hl : cs.length = n) (hF : F cs.toArray) : LdA P n ⟨b, 0, none⟩ w F :=
  ⟨cs.toArray, by simpa using hl, ldA_run (fun j v hj => by rw [add_at, Nat.zero_add]; exact hS.cell i hn hj) hl, hF⟩
theorem QtA.r (i : Nat) (hC : Is W C l) (hn : nth l i = some (Row b t cs)) (hl : cs.length = n) : Qt C (.agg cs.toArray) fun w K => LdA P n ⟨b, 0, none⟩ w fun cs => K (.agg cs) w := fun G w hw =>
  ⟨cs.toArray, by simpa using hl, ldA_run (fun j v hj => by rw [add_at, Nat.zero_add]; exact hC.cell i hn hj hw) hl, rfl, hw⟩
theorem stA_i {r : List Asn} {arr : Array Value} {F : World → Prop} (hS : St W (Row b t cs :: r) w) (hl : arr.size = cs.length) (hna : ∀ v ∈ arr.toList, NotAgg v) (hF : ∀ w', St W (Row b t arr.toList :: r) w' → F w') : StA P ⟨b, 0, none⟩ arr w F := by
  obtain ⟨w', h1, h2⟩ := storeCells_st (P := P) (o := 0) arr.toList 0 cs w hS (by simp; omega) hna
  rw [setAll_eq _ _ _ (by simp; omega)] at h2
  have e : splice cs (0 + 0) arr.toList = arr.toList := by
    unfold splice
    simp [List.drop_of_length_le, hl]
  rw [e] at h2
  exact ⟨w', h1, hF w' h2⟩
theorem StA.r {arr : Array Value} {F : World → Prop} (i : Nat) (hS : St W l w) (hn : nth l i = some (Row b t cs)) (hl : arr.size = cs.length) (hna : ∀ v ∈ arr.toList, NotAgg v) (hF : ∀ w', St W (put l i [Row b t arr.toList]) w' → F w') : StA P ⟨b, 0, none⟩ arr w F :=
  stA_i (hS.at i hn) hl hna fun w' h => hF w' (St.back i hn (B := [_]) h)
theorem Ef.stA {arr : Array Value} {K : Value → Cls → Prop} (i : Nat) (hC : Is W C l) (hn : nth l i = some (Row b t cs)) (hs : arr.size = n) (hl : arr.size = cs.length) (hna : ∀ v ∈ arr.toList, NotAgg v)
    (hK : K (.tuple #[]) (StC W (put l i [Row b t arr.toList]))) : Ef C (fun w K => Array.size arr = n ∧ StA P ⟨b, 0, none⟩ arr w fun w' => K (.tuple #[]) w') K :=
  ⟨Unit, (), fun _ => .tuple #[], fun _ => StC W (put l i [Row b t arr.toList]), fun G w hw => ⟨hs, stA_i (hC.at i hn hw) hl hna fun w' h => ⟨(), rfl, Is.back i hn h⟩⟩, fun _ => hK⟩
/-- The same, at a part that was just drawn. -/
theorem Ef.stP {c : Array Value} {arr : Array Value} {K : Value → Cls → Prop} (i : Nat) (hC : Is W C l) (hn : nth l i = some (Pt b (.cells c t))) (hs : arr.size = n) (hl : arr.size = c.toList.length) (hna : ∀ v ∈ arr.toList, NotAgg v)
    (hK : K (.tuple #[]) (StC W (put l i [Row b t arr.toList]))) : Ef C (fun w K => Array.size arr = n ∧ StA P ⟨b, 0, none⟩ arr w fun w' => K (.tuple #[]) w') K :=
  ⟨Unit, (), fun _ => .tuple #[], fun _ => StC W (put l i [Row b t arr.toList]), fun G w hw => ⟨hs, stA_i ((hC.at i hn hw).imp Pt.row) hl hna fun w' h => ⟨(), rfl, Is.back i hn h⟩⟩, fun _ => hK⟩
/-- A cell of a row of one's own. -/
theorem IxP.row {N k : Nat} {i : Int} {K : Addr → Prop} (hi : i = (k : Int)) (hk : k < N) (hK : K ⟨b, k, none⟩) : IxP (some ⟨b, 0, none⟩) N i 1 K := by
  subst hi
  refine ⟨_, rfl, ⟨by omega, by omega⟩, ?_⟩
  rw [add_at, Int.toNat_natCast, Nat.mul_one, Nat.zero_add]; exact hK
end
end Go.Proofs.Ytbfccpbijimjmaa
