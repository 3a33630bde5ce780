/-
  What is put behind a row: a text; zeros.
-/
import Derived.Test.YtbfccpbijimjmaaSl
set_option linter.unusedVariables false
set_option linter.unusedSimpArgs false
namespace Go.Proofs.Ytbfccpbijimjmaa
open Go
section
variable {P : Program} {W w : World} {r : List Asn} {sT xT ty e : TypeId} {inf : TypeInfo} {z : Value} {size : Nat} {p : Option Addr} {n c m : Nat} {cs xs : List Value} {x : Value}
theorem append_str (hu : P.underlying sT = some (.slice e)) (hx : P.underlying xT = some .string) (hi : P.info? e = some inf) (hs : inf.size = 1) (hz : inf.zero = some z) (hzs : z.cells.size = 1) {l : List UInt8} {F : Value → World → Prop}
    (hS : St W (OwnS e 1 p n c cs :: r) w) (hb : (n + l.length) * inf.bytes ≤ 140737488355328) (h63 : ((n + l.length : Nat) : Int) ≤ 9223372036854775807)
    (hF : ∀ p' c' w', St W (OwnS e 1 p' (n + l.length) c' (cs ++ l.map byteV) :: r) w' → F (.slice p' (n + l.length) c') w') :
    Run P (Builtin.append_ #[sT, xT] ty #[.slice p n c, .string (mkS l)]) w F :=
  append_i hu (.inl hx) hi hs hz hzs hS (fun s => by simp [Builtin.lenOf, mkS_size]) (fun s hh => by
    have e1 : (mkS l).extract 0 l.length = mkS l := by
      apply ByteArray.ext
      simp [mkS, ByteArray.data_extract]
    simp only [Builtin.firstCells, e1, Sem.run_pure]
    congr 1
    apply Array.ext'
    simp [mkS, byteV, Function.comp_def]) (by simp) notAgg_byteV hb h63 hF
theorem zeroCells_u8 (m : Nat) : Builtin.zeroCells #[Value.int .u8 0] m = ((List.replicate m (0 : UInt8)).map byteV).toArray := by
  unfold Builtin.zeroCells
  apply Array.ext'
  refine List.ext_getElem? fun j => ?_
  rw [Array.toList_map, Array.toList_range, List.getElem?_map]
  simp only [List.map_replicate, List.size_toArray, List.length_cons, List.length_nil, Nat.zero_add, Nat.mul_one, Nat.mod_one]
  rcases Nat.lt_or_ge j m with h | h
  · rw [List.getElem?_range h, List.getElem?_replicate, if_pos h]; rfl
  · rw [List.getElem?_eq_none (by simpa using h), List.getElem?_replicate, if_neg (by omega)]; rfl
set_option maxRecDepth 4000 in
set_option maxHeartbeats 1000000 in
/-- Zeros that are made and put behind are put behind as a text of zeros is. -/
theorem zeros_run {stT : TypeId} (hu : P.underlying sT = some (.slice e)) (hk : P.underlying xT = some (.int .i64)) (ht : P.underlying stT = some .string) (hi : P.info? e = some inf) (hs : inf.size = 1) (hby : inf.bytes = 1) (hz : inf.zero = some (.int .u8 0)) (hm : m ≤ 1000000) (hn : n ≤ 1000000) :
    (Builtin.append_ #[sT, xT] ty #[.slice p n c, .int .i64 (m : Int)]).run P w = (Builtin.append_ #[sT, stT] ty #[.slice p n c, .string (mkS (List.replicate m 0))]).run P w := by
  have hw : IntKind.i64.wrap (m : Int) = (m : Int) := IntWalk.i64_in _ ⟨by omega, by omega⟩
  have hb1 : ¬ ((281474976710656 : Int) < (m : Int)) := by omega
  have h63b : ¬ ((9223372036854775807 : Int) < (n : Int)) := by omega
  have hw0 : IntKind.i64.wrap 0 = 0 := by decide
  have hb2 : ¬ ((m : Int) < 0) := by omega
  have h63 : ¬ ((9223372036854775807 : Int) < (n : Int) + (m : Int)) := by omega
  have hz0 : ∀ s, Sem.run P (if m = 0 then (pure #[] : Sem (Array Value)) else do pure (Builtin.zeroCells (← zeroValue e).cells m)) s = .ok ((List.replicate m (0 : UInt8)).map byteV).toArray s := fun s => by
    split
    · rename_i h; subst h; rfl
    · have : (Value.int IntKind.u8 0).cells = #[Value.int .u8 0] := rfl
      simp only [zeroValue, typeInfo, Sem.run_bind, run_program, Result.andThen_ok, hi, hz, Sem.run_pure, this, zeroCells_u8]
  have hf : ∀ s, Sem.run P (Builtin.firstCells 1 m (.string (mkS (List.replicate m (0 : UInt8))))) s = .ok ((List.replicate m (0 : UInt8)).map byteV).toArray s := fun s => by
    have e1 : (mkS (List.replicate m (0 : UInt8))).extract 0 m = mkS (List.replicate m 0) := by
      apply ByteArray.ext
      simp [mkS, ByteArray.data_extract]
    simp only [Builtin.firstCells, e1, Sem.run_pure]
    congr 1
    apply Array.ext'
    simp [mkS, byteV]
  have hsz : (mkS (List.replicate m (0 : UInt8))).size = m := by rw [mkS_size, List.length_replicate]
  generalize mkS (List.replicate m (0 : UInt8)) = q at hf hsz ⊢
  have h48 : Builtin.nextslicecap (n + m) c * 1 ≤ 281474976710656 ∨ n + m ≤ c := by
    by_cases hfit : n + m ≤ c
    · exact .inr hfit
    · exact .inl (growslice_fits (by omega) (by omega))
  have hz1 : ∀ s, ¬ m = 0 → Sem.run P (zeroValue e) s = .ok (Value.int .u8 0) s := fun s _ => by
    simp only [zeroValue, typeInfo, Sem.run_bind, run_program, Result.andThen_ok, hi, hz, Sem.run_pure]
  by_cases hfit : n + m ≤ c
  · by_cases hm0 : m = 0
    · subst hm0
      cases p <;> simp [Builtin.append_, run_underlying hu, run_underlying hk, run_underlying ht, sizeOf, typeInfo, hi, hs, hby, asInt, asIntOf, hw, hw0, hf, hsz, Builtin.lenOf, show n ≤ c by omega]
    · cases p <;> simp [Builtin.append_, run_underlying hu, run_underlying hk, run_underlying ht, sizeOf, typeInfo, hi, hs, hby, asInt, asIntOf, hw, hb1, hb2, hf, hsz, hfit, Builtin.lenOf, hm0, zeroValue, hz, Value.cells, zeroCells_u8]
  · rcases h48 with h48 | h48
    · have h48' : ¬ (281474976710656 < Builtin.nextslicecap (n + m) c * 1) := by omega
      rw [Nat.mul_one] at h48'
      by_cases hm0 : m = 0
      · subst hm0
        have h48n : ¬ (281474976710656 < Builtin.nextslicecap n c) := h48'
        cases p <;> simp [Builtin.append_, run_underlying hu, run_underlying hk, run_underlying ht, sizeOf, typeInfo, hi, hs, hby, asInt, asIntOf, hw, hw0, hf, hsz, h63, h63b, Builtin.lenOf, hfit, show ¬ n ≤ c by omega, h48n, zeroValue, hz]
      · cases p <;> simp [Builtin.append_, run_underlying hu, run_underlying hk, run_underlying ht, sizeOf, typeInfo, hi, hs, hby, asInt, asIntOf, hw, hb1, hb2, hf, hsz, hfit, h63, h48', Builtin.lenOf, hm0, zeroValue, hz, Value.cells, zeroCells_u8]
    · exact absurd h48 hfit
/-- Zeros are put behind. -/
theorem append_zeros (stT : TypeId) (hu : P.underlying sT = some (.slice e)) (hk : P.underlying xT = some (.int .i64)) (ht : P.underlying stT = some .string) (hi : P.info? e = some inf) (hs : inf.size = 1) (hby : inf.bytes = 1) (hz : inf.zero = some (.int .u8 0)) (hm : m ≤ 1000000) (hn : n ≤ 1000000) {F : Value → World → Prop}
    (hS : St W (OwnS e 1 p n c cs :: r) w) (hF : ∀ p' c' w', St W (OwnS e 1 p' (n + m) c' (cs ++ (List.replicate m (0 : UInt8)).map byteV) :: r) w' → F (.slice p' (n + m) c') w') :
    Run P (Builtin.append_ #[sT, xT] ty #[.slice p n c, .int .i64 (m : Int)]) w F := by
  have := append_str (P := P) (ty := ty) hu ht hi hs hz rfl (l := List.replicate m 0) (F := F) hS (by rw [List.length_replicate, hby]; omega) (by rw [List.length_replicate]; omega) (by rw [List.length_replicate]; exact hF)
  unfold Run at this ⊢
  rw [zeros_run hu hk ht hi hs hby hz hm hn]
  exact this
end
end Go.Proofs.Ytbfccpbijimjmaa
