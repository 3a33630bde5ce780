/-
  Methods that are called through an interface.
-/
import Derived.Test.YtgmpnonjhpopdaaSl
import Derived.Test.YtgmpnonjhpopdaaFns
import Derived.BigCall
set_option linter.unusedVariables false
set_option linter.unusedSimpArgs false
namespace Go.Proofs.Ytgmpnonjhpopdaa
open Go
def mrow (P : Program) (t : TypeId) (name : String) : Option (Nat × Option (FuncId × Bool)) := (P.info? t).bind fun i => (i.methods.find? (·.name == name)).map fun m => (m.path.size, m.func)
theorem mLen : mrow Try.prog 64 "Len" = some (0, some (48, false)) := by decide +kernel
theorem uP : Try.prog.underlying 64 = some (.pointer 58) := Try.underlying64
theorem uL : Try.prog.underlying 58 = some (.slice 61) := Try.underlying58
section
variable {P : Program} {w : World} {t l e : TypeId} {name : String} {f : FuncId} {vs : List Value} {K : Value → World → Prop}
theorem meth_row (h0 : 0 < P.types.size) {b : Bool} (hm : mrow P t name = some (0, some (f, b))) : ∃ k i m, P.types.size + Made.depth = k + 1 ∧ P.info? t = some i ∧ i.methods.find? (·.name == name) = some m ∧ m.path = #[] ∧ m.func = some (f, b) := by
  unfold mrow at hm
  obtain ⟨i, hi, hm⟩ := Option.bind_eq_some_iff.1 hm
  obtain ⟨m, hf, hm⟩ := Option.map_eq_some_iff.1 hm
  simp only [Prod.mk.injEq] at hm
  exact ⟨P.types.size + Made.depth - 1, i, m, by omega, hi, hf, Array.eq_empty_of_size_eq_zero hm.1, hm.2⟩
theorem inv_val0 {a : Addr} {p : Option Addr} {n c : Nat} (h0 : 0 < P.types.size) (ht : P.underlying t = some (.pointer l)) (hl : P.underlying l = some (.slice e)) (hm : mrow P t name = some (0, some (f, false))) (hb : bodyOk P f = true) (hc : w.cell? a = some (.slice p n c))
    (h : CallR P f (.slice p n c :: vs).toArray w K) : InvK P name (.iface t (.pointer (some a))) vs w K := by
  obtain ⟨k, i, m, hk, hi, hf, hpath, h2⟩ := meth_row h0 hm
  have hw : ∀ (nm : String) (w : World), (Builtin.ssaWrapNilChk_ #[t] t #[.pointer (some a), strVal "", strVal nm]).run P w = .ok (.pointer (some a)) w := fun _ _ => rfl
  have hld : (load a).run P w = .ok (.slice p n c) w := by unfold load; simp [Sem.run, hc]
  refine ⟨f, (.slice p n c :: vs).toArray, ?_, h⟩
  simp [invoke, callMethod, hk, method, typeInfo, hi, hf, hpath, follow, h2, receiverAt, run_underlying ht, Place.get, hw, asAddr, loadVar, isAgg, run_underlying hl, hld, hc, callFunc_run hb]
theorem inv_ptr0 {a : Option Addr} (h0 : 0 < P.types.size) (ht : P.underlying t = some (.pointer l)) (hm : mrow P t name = some (0, some (f, true))) (hb : bodyOk P f = true)
    (h : CallR P f (.pointer a :: vs).toArray w K) : InvK P name (.iface t (.pointer a)) vs w K := by
  obtain ⟨k, i, m, hk, hi, hf, hpath, h2⟩ := meth_row h0 hm
  refine ⟨f, (.pointer a :: vs).toArray, ?_, h⟩
  simp [invoke, callMethod, hk, method, typeInfo, hi, hf, hpath, follow, h2, receiverAt, run_underlying ht, Place.get, callFunc_run hb]
end
theorem types0 : 0 < Try.prog.types.size := by decide +kernel
theorem inv_val {w : World} {a : Addr} {name : String} {f : FuncId} {vs : List Value} {p : Option Addr} {n c : Nat} {K : Value → World → Prop} (hm : mrow Try.prog 64 name = some (0, some (f, false))) (hb : bodyOk Try.prog f = true) (hc : w.cell? a = some (.slice p n c))
    (h : CallR Try.prog f (.slice p n c :: vs).toArray w K) : InvK Try.prog name (.iface 64 (.pointer (some a))) vs w K := inv_val0 types0 uP uL hm hb hc h
theorem inv_ptr {w : World} {a : Option Addr} {name : String} {f : FuncId} {vs : List Value} {K : Value → World → Prop} (hm : mrow Try.prog 64 name = some (0, some (f, true))) (hb : bodyOk Try.prog f = true)
    (h : CallR Try.prog f (.pointer a :: vs).toArray w K) : InvK Try.prog name (.iface 64 (.pointer a)) vs w K := inv_ptr0 types0 uP hm hb h
end Go.Proofs.Ytgmpnonjhpopdaa
