/-
  The code of frame.Cut, by its parts: what each part asks.
-/
import Derived.Test.YtgjehbhjgogmfaaRound
import Derived.Test.YtgjehbhjgogmfaaFrameC
set_option linter.unusedVariables false
set_option linter.unusedSimpArgs false
set_option maxRecDepth 100000
namespace Go.Proofs.Ytgjehbhjgogmfaa
open Go
noncomputable def cutC : Code := Try.f12.body.getD .skip
noncomputable def cR (i : Nat) : Code := (flat cutC).getD i .skip
def opsOf : Code → Array Oper
  | .region _ ops _ => ops
  | _ => #[]
def rngA : Code → Code
  | .block _ (.rangeFunc _ _ a _) => a
  | _ => .skip
def rngB : Code → Code
  | .block _ (.rangeFunc _ _ _ b) => b
  | _ => .skip
def sq (i : Nat) : Code → Code
  | .seq a b => match i with | 0 => a | _ => b
  | _ => .skip
def inB : Code → Code
  | .block _ b => b
  | _ => .skip
noncomputable def cutA : Code := rngA (cR 4)
noncomputable def cutB : Code := rngB (cR 4)
theorem cut_body : Try.f12.body = some cutC := by kernel_rfl
theorem cut_n : Try.f12.ntmps = 22 := by kernel_rfl
theorem cut_eq : cutC = .seq (.region 0 (opsOf (cR 0)) false) (.seq (.region 1 (opsOf (cR 1)) false) (.seq (.region 2 (opsOf (cR 2)) false)
    (.seq (.seq (.region 3 (opsOf (cR 3)) false) (.block 0 (.rangeFunc (.tmp 11) #[12, 13] cutA cutB))) (.seq (.region 7 (opsOf (cR 5)) true) .ret)))) := by kernel_rfl
theorem cutA_eq : cutA = .seq (.region 4 (opsOf (sq 0 cutA)) false) (.region 5 (opsOf (sq 1 cutA)) false) := by kernel_rfl
theorem cutB_eq : cutB = .block 1 (.region 6 (opsOf (inB cutB)) false) := by kernel_rfl
theorem tame0 : (opsOf (cR 0)).toList.all tame = true := by kernel_rfl
theorem tame1 : (opsOf (cR 1)).toList.all tame = true := by kernel_rfl
theorem tame2 : (opsOf (cR 2)).toList.all tame = true := by kernel_rfl
theorem tame3 : (opsOf (cR 3)).toList.all tame = true := by kernel_rfl
theorem tame4 : (opsOf (sq 0 cutA)).toList.all tame = true := by kernel_rfl
theorem tame5 : (opsOf (sq 1 cutA)).toList.all tame = true := by kernel_rfl
theorem tame6 : (opsOf (inB cutB)).toList.all tame = true := by kernel_rfl
theorem bare7 : (opsOf (cR 5)).toList.all (fun o => o.guard.isNone) = true := by kernel_rfl
theorem lex7 : Region.lexB .any (opsOf (cR 5)) = true := by kernel_rfl
theorem mixed : Try.prog.follows .mixedOrders = true := by kernel_rfl
section
variable (p : Option Addr) (n c : Nat) (w : World) (K : Env → World → Prop) (b5 b6 b7 : Nat)
theorem ops_0 : ops0 Try.prog 22 (opsOf (cR 0)).toList [(0, .slice p n c)] w K = K [(4, .int .i64 0), (3, .int .i64 0), (2, .slice none 0 0), (0, .slice p n c)] w := by kernel_rfl
theorem ops_1 (e : Env) : ops0 Try.prog 22 (opsOf (cR 1)).toList e w K = (NewC #[.slice none 0 0] 27 w fun b w => K ((5, .pointer (some ⟨b, 0, none⟩)) :: e) w) := by kernel_rfl
theorem ops_2 (e : Env) : ops0 Try.prog 22 (opsOf (cR 2)).toList e w K = (NewC #[.int .i64 0] 3 w fun b w => NewC #[.int .i64 0] 24 w fun b' w =>
    St1 ⟨b, 0, none⟩ (.int .i64 0) w fun w => St1 ⟨b', 0, none⟩ (.int .i64 0) w fun w => K ((7, .pointer (some ⟨b', 0, none⟩)) :: (6, .pointer (some ⟨b, 0, none⟩)) :: e) w) := by kernel_rfl
theorem ops_3 : ops0 Try.prog 22 (opsOf (cR 3)).toList [(7, .pointer (some ⟨b7, 0, none⟩)), (6, .pointer (some ⟨b6, 0, none⟩)), (5, .pointer (some ⟨b5, 0, none⟩)), (4, .int .i64 0), (3, .int .i64 0), (2, .slice none 0 0), (0, .slice p n c)] w K =
    CallR Try.prog 19 #[.slice p n c, .pointer (some ⟨b7, 0, none⟩)] w fun v w => K [(11, v), (10, .slice p n c), (7, .pointer (some ⟨b7, 0, none⟩)), (6, .pointer (some ⟨b6, 0, none⟩)), (5, .pointer (some ⟨b5, 0, none⟩)), (4, .int .i64 0), (3, .int .i64 0), (2, .slice none 0 0), (0, .slice p n c)] w := by kernel_rfl
theorem ops_4 (x : Int) (e : Env) : ops0 Try.prog 22 (opsOf (sq 0 cutA)).toList ((13, .slice p n c) :: (12, .int .i64 x) :: e) w K = K ((8, .int .i64 x) :: (13, .slice p n c) :: (12, .int .i64 x) :: e) w := by kernel_rfl
theorem ops_5 (x : Int) (e : Env) : ops0 Try.prog 22 (opsOf (sq 1 cutA)).toList ((8, .int .i64 x) :: (13, .slice p n c) :: e) w K = K ((9, .slice p n c) :: (8, .int .i64 x) :: (13, .slice p n c) :: e) w := by kernel_rfl
theorem ops_6 (x : Int) : ops0 Try.prog 22 (opsOf (inB cutB)).toList [(9, .slice p n c), (8, .int .i64 x), (6, .pointer (some ⟨b6, 0, none⟩)), (5, .pointer (some ⟨b5, 0, none⟩))] w K =
    LdL ⟨b5, 0, none⟩ w fun q m d => NewC #[.slice p n c] 22 w fun b w => Run Try.prog (Builtin.append_ #[27, 27] 27 #[.slice q m d, .slice (some ⟨b, 0, none⟩) 1 1]) w fun v w => AsL v fun q' m' d' =>
      St1 ⟨b5, 0, none⟩ (.slice q' m' d') w fun w => St1 ⟨b6, 0, none⟩ (.int .i64 x) w fun w => K [(18, .int .i64 x), (17, .slice q' m' d'), (16, .slice (some ⟨b, 0, none⟩) 1 1), (15, .slice p n c), (14, .slice q m d), (9, .slice p n c), (8, .int .i64 x), (6, .pointer (some ⟨b6, 0, none⟩)), (5, .pointer (some ⟨b5, 0, none⟩))] w := by kernel_rfl
theorem ops_7 : opsS Try.prog 22 (opsOf (cR 5)).toList [(7, .pointer (some ⟨b7, 0, none⟩)), (6, .pointer (some ⟨b6, 0, none⟩)), (5, .pointer (some ⟨b5, 0, none⟩))] w K =
    LdL ⟨b5, 0, none⟩ w fun q m d => LdI .i64 ⟨b6, 0, none⟩ w fun x => LdI .i64 ⟨b7, 0, none⟩ w fun y => K [(4, .int .i64 y), (3, .int .i64 x), (2, .slice q m d), (21, .int .i64 y), (20, .int .i64 x), (19, .slice q m d), (7, .pointer (some ⟨b7, 0, none⟩)), (6, .pointer (some ⟨b6, 0, none⟩)), (5, .pointer (some ⟨b5, 0, none⟩))] w := by kernel_rfl
end
end Go.Proofs.Ytgjehbhjgogmfaa
