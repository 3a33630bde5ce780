/-
  Messages and acts, as they lie; whether two are alike.
-/
import Derived.Test.YtlkbjkmpanohfaaMacG
set_option linter.unusedVariables false
set_option linter.unusedSimpArgs false
namespace Go.Proofs.Ytlkbjkmpanohfaa
open Go
structure MsgD where
  k : Int
  A : ByteArray
  B : ByteArray
  N : Int
  M : Int
deriving DecidableEq, Inhabited
structure ActD where
  k : Int
  line : Int
  m : MsgD
deriving DecidableEq, Inhabited
abbrev msgV (m : MsgD) : Value := .agg #[.int .i64 m.k, .string m.A, .string m.B, .int .i64 m.N, .int .i64 m.M]
def actC (a : ActD) : List Value := [.int .i64 a.k, .int .i64 a.line, .int .i64 a.m.k, .string a.m.A, .string a.m.B, .int .i64 a.m.N, .int .i64 a.m.M]
abbrev actV (a : ActD) : Value := .agg #[.int .i64 a.k, .int .i64 a.line, .int .i64 a.m.k, .string a.m.A, .string a.m.B, .int .i64 a.m.N, .int .i64 a.m.M]
theorem uInt : Try.prog.underlying 3 = some (.int .i64) := Try.underlying3
theorem uI64 : Try.prog.underlying 2 = some (.int .i64) := Try.underlying2
/-- The fields, as far as a comparison looks. -/
def eqF (d : Nat) (xs ys : Array Value) : List (Bool × TypeId × Nat) → Sem Bool
  | [] => pure true
  | f :: fs => match f.1 with
    | true => do
      let a ← part f.2.1 xs f.2.2
      let b ← part f.2.1 ys f.2.2
      let r ← Op.equalIn d f.2.1 a b
      if (!r) = true then pure false else eqF d xs ys fs
    | false => eqF d xs ys fs
def trip (f : Field) : Bool × TypeId × Nat := (decide (f.name ≠ "_"), f.type, f.offset)
theorem eqF_of (d : Nat) (xs ys : Array Value) : ∀ fs : List Field, Op.eqFields d xs ys fs = eqF d xs ys (fs.map trip)
  | [] => rfl
  | f :: fs => by
    have ih := eqF_of d xs ys fs
    simp only [Op.eqFields, List.map_cons, eqF, trip]
    by_cases h : f.name ≠ "_"
    · rw [if_pos h, decide_eq_true h]
      simp only [ih]
    · rw [if_neg h, decide_eq_false h, ih]
theorem fMsg : (Try.prog.fieldsOf 32).toList.map trip = [(true, 3, 0), (true, 9, 1), (true, 9, 2), (true, 2, 3), (true, 2, 4)] := by kernel_rfl
theorem uMsg : Try.prog.underlying 32 = some (.struct (Try.prog.fieldsOf 32)) := by kernel_rfl
theorem hMsg : Try.prog.stoodInHeld 32 = false := by kernel_rfl
theorem gMsg : Try.prog.eqGuardType Try.prog.depth 32 = false := by kernel_rfl
theorem iMsg : Try.prog.info? 32 = some Try.t32 := by kernel_rfl
theorem sMsg : Try.t32.size = 5 := rfl
theorem fAct : (Try.prog.fieldsOf 38).toList.map trip = [(true, 3, 0), (true, 3, 1), (true, 32, 2)] := by kernel_rfl
theorem uAct : Try.prog.underlying 38 = some (.struct (Try.prog.fieldsOf 38)) := by kernel_rfl
theorem hAct : Try.prog.stoodInHeld 38 = false := by kernel_rfl
theorem gAct : Try.prog.eqGuardType Try.prog.depth 38 = false := by kernel_rfl
theorem pInt : Try.prog.plainKey 3 = true := by kernel_rfl
theorem pI64 : Try.prog.plainKey 2 = true := by kernel_rfl
theorem pS : Try.prog.plainKey 9 = true := by kernel_rfl
theorem beqI (a b : Int) : (a == b) = decide (a = b) := by rw [Bool.eq_iff_iff]; simp
section
variable (k l N M : Int) (A B : ByteArray) (w : World)
theorem mp0 : (part 3 #[.int .i64 k, .string A, .string B, .int .i64 N, .int .i64 M] 0).run Try.prog w = .ok (.int .i64 k) w := run_part_plain w pInt rfl
theorem mp1 : (part 9 #[.int .i64 k, .string A, .string B, .int .i64 N, .int .i64 M] 1).run Try.prog w = .ok (.string A) w := run_part_plain w pS rfl
theorem mp2 : (part 9 #[.int .i64 k, .string A, .string B, .int .i64 N, .int .i64 M] 2).run Try.prog w = .ok (.string B) w := run_part_plain w pS rfl
theorem mp3 : (part 2 #[.int .i64 k, .string A, .string B, .int .i64 N, .int .i64 M] 3).run Try.prog w = .ok (.int .i64 N) w := run_part_plain w pI64 rfl
theorem mp4 : (part 2 #[.int .i64 k, .string A, .string B, .int .i64 N, .int .i64 M] 4).run Try.prog w = .ok (.int .i64 M) w := run_part_plain w pI64 rfl
theorem ap0 (k' : Int) : (part 3 #[.int .i64 k, .int .i64 l, .int .i64 k', .string A, .string B, .int .i64 N, .int .i64 M] 0).run Try.prog w = .ok (.int .i64 k) w := run_part_plain w pInt rfl
theorem ap1 (k' : Int) : (part 3 #[.int .i64 k, .int .i64 l, .int .i64 k', .string A, .string B, .int .i64 N, .int .i64 M] 1).run Try.prog w = .ok (.int .i64 l) w := run_part_plain w pInt rfl
end
theorem eqMsg_run (d : Nat) (a b : MsgD) (w : World) : (Op.equalIn (d + 2) 32 (msgV a) (msgV b)).run Try.prog w = .ok (decide (a = b)) w := by
  obtain ⟨k, A, B, N, M⟩ := a
  obtain ⟨k', A', B', N', M'⟩ := b
  rw [show d + 2 = (d + 1) + 1 from rfl, run_equalIn_struct w (d + 1) _ _ _ uMsg hMsg, eqF_of, fMsg]
  simp only [eqF, Sem.run_bind, mp0, mp1, mp2, mp3, mp4, Result.andThen_ok, run_equalIn_int w d 3 .i64 .i64 _ _ uInt, run_equalIn_int w d 2 .i64 .i64 _ _ uI64, run_equalIn_string w d 9 _ _ uS, bytes_beq, beqI, Sem.run_ite, Sem.run_pure]
  by_cases h1 : k = k'
  · by_cases h2 : A = A'
    · by_cases h3 : B = B'
      · by_cases h4 : N = N'
        · by_cases h5 : M = M'
          · simp [h1, h2, h3, h4, h5]
          · simp [h1, h2, h3, h4, h5]
        · simp [h1, h2, h3, h4]
      · simp [h1, h2, h3]
    · simp [h1, h2]
  · simp [h1]
theorem msg_part (a : ActD) (w : World) : (part 32 #[.int .i64 a.k, .int .i64 a.line, .int .i64 a.m.k, .string a.m.A, .string a.m.B, .int .i64 a.m.N, .int .i64 a.m.M] 2).run Try.prog w = .ok (msgV a.m) w := by
  simp [part, isAgg, run_underlying uMsg, sizeOf, typeInfo, iMsg, sMsg]
theorem eqMsg {o1 o2 : Operand} (a b : MsgD) (w : World) : Sem.run Try.prog (do eqGuard .eql 32 o1 o2 (msgV a) (msgV b); binOp .eql 32 (msgV a) (msgV b)) w = .ok (.bool (decide (a = b))) w := by
  simp only [Sem.run_bind, run_eqGuard_agg w .eql 32 o1 o2 _ _ gMsg, Result.andThen_ok, run_eql_struct]
  rw [show (10000 : Nat) = 9998 + 2 from rfl, eqMsg_run]
  rfl
theorem eqAct {o1 o2 : Operand} (a b : ActD) (w : World) : Sem.run Try.prog (do eqGuard .eql 38 o1 o2 (actV a) (actV b); binOp .eql 38 (actV a) (actV b)) w = .ok (.bool (decide (a = b))) w := by
  simp only [Sem.run_bind, run_eqGuard_agg w .eql 38 o1 o2 _ _ gAct, Result.andThen_ok, run_eql_struct]
  rw [show (10000 : Nat) = 9999 + 1 from rfl, run_equalIn_struct w 9999 _ _ _ uAct hAct, eqF_of, fAct]
  simp only [eqF, Sem.run_bind, ap0, ap1, msg_part, Sem.run_ite, Sem.run_pure, Result.andThen_ok, run_equalIn_int w 9998 3 .i64 .i64 _ _ uInt, show (9999 : Nat) = 9997 + 2 from rfl, eqMsg_run, beqI]
  obtain ⟨k, l, m⟩ := a
  obtain ⟨k', l', m'⟩ := b
  by_cases h1 : k = k'
  · by_cases h2 : l = l'
    · by_cases h3 : m = m'
      · simp [h1, h2, h3]
      · simp [h1, h2, h3]
    · simp [h1, h2]
  · simp [h1]
theorem uHear : ∃ a b c, Try.prog.underlying 63 = some (.func a b c) := ⟨_, _, _, Try.underlying63⟩
theorem bin_func (t : TypeId) (x y : Value) (hx : (∃ f a b, x = .func f a b) ∨ x = .nilFunc) (hy : y = .nilFunc) (w : World) : (binOp .eql t x y).run Try.prog w = ((Op.equalIn 10000 t x y).run Try.prog w).andThen fun b w' => .ok (.bool b) w' := by
  subst hy
  rcases hx with ⟨f, a, b, rfl⟩ | rfl <;> (simp only [binOp]; simp [Op.equal, Op.maxDepth])
theorem equal_func (d : Nat) (f : Fn) (x y : Array Value) (w : World) : (Op.equalIn (d + 1) 63 (.func f x y) .nilFunc).run Try.prog w = .ok false w := by
  obtain ⟨a, b, c, hu⟩ := uHear
  simp [Op.equalIn, run_underlying hu]
theorem equal_nilF (d : Nat) (w : World) : (Op.equalIn (d + 1) 63 .nilFunc .nilFunc).run Try.prog w = .ok true w := by
  obtain ⟨a, b, c, hu⟩ := uHear
  simp [Op.equalIn, run_underlying hu]
theorem guard_func {o1 o2 : Operand} {x : Value} (hx : (∃ f a b, x = .func f a b) ∨ x = .nilFunc) (w : World) : (eqGuard .eql 63 o1 o2 x .nilFunc).run Try.prog w = .ok () w := by
  rcases hx with ⟨f, a, b, rfl⟩ | rfl <;> rfl
theorem eqNil {o1 o2 : Operand} (f : Fn) (x y : Array Value) (w : World) : Sem.run Try.prog (do eqGuard .eql 63 o1 o2 (.func f x y) Value.nilFunc; binOp .eql 63 (.func f x y) Value.nilFunc) w = .ok (.bool false) w := by
  simp only [Sem.run_bind, guard_func (.inl ⟨f, x, y, rfl⟩) w, Result.andThen_ok, bin_func _ _ _ (.inl ⟨f, x, y, rfl⟩) rfl]
  rw [show (10000 : Nat) = 9999 + 1 from rfl, equal_func]; rfl
theorem eqNil2 {o1 o2 : Operand} (w : World) : Sem.run Try.prog (do eqGuard .eql 63 o1 o2 Value.nilFunc Value.nilFunc; binOp .eql 63 Value.nilFunc Value.nilFunc) w = .ok (.bool true) w := by
  simp only [Sem.run_bind, guard_func (.inr rfl) w, Result.andThen_ok, bin_func _ _ _ (.inr rfl) rfl]
  rw [show (10000 : Nat) = 9999 + 1 from rfl, equal_nilF]; rfl
end Go.Proofs.Ytlkbjkmpanohfaa
