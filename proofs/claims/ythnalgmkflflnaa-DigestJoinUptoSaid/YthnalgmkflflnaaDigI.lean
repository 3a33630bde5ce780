/-
  A library's search for a byte.
-/
import Derived.Test.YthnalgmkflflnaaAEq
import Derived.Test.YthnalgmkflflnaaDigQ
import Derived.BigCall
import Derived.BigGuard
import Derived.Deep.Draws
import Derived.Laws.Strings3
set_option linter.unusedVariables false
set_option linter.unusedSimpArgs false
namespace Go.Proofs.Ythnalgmkflflnaa
open Go Go.RowKit Go.Lib
set_option maxHeartbeats 1000000 in
set_option maxRecDepth 100000 in
theorem Ib_spec (s : ByteArray) (c : Int) (w : World) : CallR Try.prog 22 #[.string s, .int .u8 c] w fun v w' => v = .int .i64 (Lib.indexByte s.data.toList c.toNat.toUInt8) ∧ w' = w := by
  unfold CallR
  refine calls_of_wp Try.func22 rfl ?_
  go_wp2
  rw [run_callFunc_extern Try.func28 (by kernel_rfl) (by kernel_rfl) (by kernel_rfl) (e := Extern.BytealgIndexByte.indexByte) (by kernel_rfl), Lib.run_indexByteString]
  simp only [Result.andThen]
  rw [Oper.upon_value]
  go_wp2
  go_ret
  exact ⟨_, rfl, rfl, rfl⟩
end Go.Proofs.Ythnalgmkflflnaa
