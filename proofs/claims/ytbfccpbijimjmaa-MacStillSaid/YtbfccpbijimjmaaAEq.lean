/-
  Rows of bytes that are compared whole; a library's search for a byte.
-/
import Derived.Test.YtbfccpbijimjmaaBits
import Derived.Test.YtbfccpbijimjmaaFns
import Derived.ChangeKeysEq
import Derived.Laws.StructEq
import Derived.Lib.Bytealg
set_option linter.unusedVariables false
set_option linter.unusedSimpArgs false
namespace Go.Proofs.Ytbfccpbijimjmaa
open Go
def arrB (l : List UInt8) : Array Value := (l.map byteV).toArray
theorem arrB_size (l : List UInt8) : (arrB l).size = l.length := by simp [arrB]
theorem arrB_notAgg (l : List UInt8) : ∀ v ∈ (arrB l).toList, NotAgg v := fun v hv => notAgg_byteV v (by simpa [arrB] using hv)
theorem eqItems_bytes {P : Program} {w : World} {e : TypeId} (hu : P.underlying e = some (.int .u8)) (d : Nat) (xs ys : List UInt8) (hl : xs.length = ys.length) : ∀ is : List Nat, (∀ i ∈ is, i < xs.length) →
    (Op.eqItems (d + 1) e 1 (arrB xs) (arrB ys) is).run P w = .ok (is.all fun i => xs[i]? == ys[i]?) w
  | [], _ => by simp [Op.eqItems]
  | i :: is, h => by
    have hi := h i List.mem_cons_self
    have ih := eqItems_bytes (w := w) hu d xs ys hl is fun j hj => h j (List.mem_cons_of_mem _ hj)
    have hx : xs[i]? = some xs[i] := List.getElem?_eq_getElem hi
    have hy : ys[i]? = some (ys[i]'(by omega)) := List.getElem?_eq_getElem _
    have hpl : P.plainKey e = true := by simp [Program.plainKey, hu]
    have px : (part e (arrB xs) (i * 1)).run P w = .ok (byteV xs[i]) w := run_part_plain w hpl (by rw [Nat.mul_one]; simp [arrB, hi])
    have py : (part e (arrB ys) (i * 1)).run P w = .ok (byteV (ys[i]'(by omega))) w := run_part_plain w hpl (by rw [Nat.mul_one]; simp [arrB, hl ▸ hi])
    have pe : (Op.equalIn (d + 1) e (byteV xs[i]) (byteV (ys[i]'(by omega)))).run P w = .ok (xs[i] == ys[i]'(by omega)) w := by
      unfold byteV
      rw [run_equalIn_int w d e .u8 .u8 _ _ hu]
      congr 1
      rw [Bool.eq_iff_iff]
      simp only [beq_iff_eq]
      constructor
      · intro h; exact UInt8.toNat_inj.1 (by omega)
      · intro h; rw [h]
    simp only [Op.eqItems, Sem.run_bind, px, py, pe, Result.andThen_ok, List.all_cons, hx, hy]
    cases hb : xs[i] == ys[i]'(by omega) with
    | true =>
      have : (some xs[i] == some (ys[i]'(by omega))) = true := by simpa using hb
      rw [this]
      simpa using ih
    | false =>
      have : (some xs[i] == some (ys[i]'(by omega))) = false := by simpa using hb
      rw [this]
      simp
theorem eqB_run {P : Program} {t e : TypeId} {n : Nat} {i : TypeInfo} (ht : P.underlying t = some (.array n e)) (he : P.underlying e = some (.int .u8)) (hi : P.info? e = some i) (hc : P.cellsOf e = 1) (hg : P.eqGuardType P.depth t = false) {xs ys : List UInt8} (hx : xs.length = n) (hy : ys.length = n) (o1 o2 : Operand) (w : World) :
    Sem.run P (do eqGuard .eql t o1 o2 (Value.agg (arrB xs)) (Value.agg (arrB ys)); binOp .eql t (Value.agg (arrB xs)) (Value.agg (arrB ys))) w = .ok (.bool (decide (xs = ys))) w := by
  simp only [Sem.run_bind, run_eqGuard_agg w .eql t o1 o2 _ _ hg, Result.andThen_ok, run_eql_struct]
  rw [show (10000 : Nat) = 9999 + 1 from rfl, run_equalIn_array w 9999 _ _ ht hi, hc, show (9999 : Nat) = 9998 + 1 from rfl, eqItems_bytes he 9998 xs ys (by omega) (List.range n) (fun j hj => by rw [hx]; simpa using hj)]
  simp only [Result.andThen_ok]
  congr 2
  rw [Bool.eq_iff_iff]
  simp only [List.all_eq_true, List.mem_range, beq_iff_eq, decide_eq_true_eq]
  constructor
  · intro h
    refine List.ext_getElem? fun j => ?_
    rcases Nat.lt_or_ge j n with hj | hj
    · exact h j hj
    · rw [List.getElem?_eq_none (by omega), List.getElem?_eq_none (by omega)]
  · intro h; rw [h]; intro _ _; rfl
end Go.Proofs.Ytbfccpbijimjmaa
