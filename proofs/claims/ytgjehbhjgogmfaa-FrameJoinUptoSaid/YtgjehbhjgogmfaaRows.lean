/-
  No cell of these rows narrows 'for every input' (looked for: loops, veiled, ifaces, maps, wideKeys, modest, calm, conditions, laid).
  DERIVED. THE GIVEN ROWS OF THIS SEAT. 6 by the template 'for every input the law returns true; each argument reads behind the call as it read before'; 0 by the template 'total and deterministic' (their statements: YtgjehbhjgogmfaaTotals.lean).
  GIVEN WITH THE SEED: the statements are not yours to turn. If you find one false, say at which input.
  Laid BY PROGRAM, IN A SANDBOX (cutbox-rows.mjs): the forced cells as the released guide's own fill.sh prints them over the translation 26811114e33563c7… (all of the seat's roots in one cut). By AI agents, Wed Nov 11 2026. No macro, syntax, notation, axiom, sorry.
-/
import Derived.Test.YtgjehbhjgogmfaaChecked
import GoSem.Claim
import GoSem.ClaimJoined
import GoSem.ClaimMapViews
import Derived.JoinedTies
import Derived.KernelRfl
namespace Go.Proofs.Ytgjehbhjgogmfaa
/- THE CELL 'sum', in the pinned program and in every row, IS THE sha256 OF THE DUMP (.gsa) THAT YtgjehbhjgogmfaaProg.lean LOADS. Nothing in Lean hashes anything: it is a label: what it is worth is what the hold of that sum in a sandbox is worth. -/
noncomputable def Try.pinned : Pinned := { name := "ytgjehbhjgogmfaa", sum := "26811114e33563c76cfc81b174dd4a2bb839481e2bd9624527f77422c34d1b4f", checked := Try.checked }
namespace Rows
def none {H : Type} : Left H := { results := [], args := [] }

/-- 'subwaylaw06.FrameTells': WHATEVER THE INPUT: true; the input reads as it did. -/
def frameTellsSpec : ChangeSpec := { name := "frameTells", fn := fun _ => fun
  | [d] => { results := [.lit (.bool true)], args := [d] }
  | _ => none }
def frameTellsRow : OpenClaim := { program := "ytgjehbhjgogmfaa", sum := "26811114e33563c76cfc81b174dd4a2bb839481e2bd9624527f77422c34d1b4f", func := "subway/subwaylaw06.FrameTells", spec := "frameTells", unfollowed := true, recurses := true, apart := false }
def FrameTellsSaid : Prop := frameTellsRow.holds Try.pinned (OpenSpec.ofChange frameTellsSpec)

/-- ITS FALSE NEIGHBOUR: 'it returns false'. Refute it at one input. -/
def frameTellsWrong : ChangeSpec := { name := "frameTells", fn := fun _ => fun
  | [d] => { results := [.lit (.bool false)], args := [d] }
  | _ => none }
def FrameTellsWrongFalsely : Prop := frameTellsRow.holds Try.pinned (OpenSpec.ofChange frameTellsWrong)

/-- 'subwaylaw06.FrameBack': WHATEVER THE INPUT: true; the input reads as it did. -/
def frameBackSpec : ChangeSpec := { name := "frameBack", fn := fun _ => fun
  | [d] => { results := [.lit (.bool true)], args := [d] }
  | _ => none }
def frameBackRow : OpenClaim := { program := "ytgjehbhjgogmfaa", sum := "26811114e33563c76cfc81b174dd4a2bb839481e2bd9624527f77422c34d1b4f", func := "subway/subwaylaw06.FrameBack", spec := "frameBack", unfollowed := true, recurses := true, apart := false }
def FrameBackSaid : Prop := frameBackRow.holds Try.pinned (OpenSpec.ofChange frameBackSpec)

/-- ITS FALSE NEIGHBOUR: 'it returns false'. Refute it at one input. -/
def frameBackWrong : ChangeSpec := { name := "frameBack", fn := fun _ => fun
  | [d] => { results := [.lit (.bool false)], args := [d] }
  | _ => none }
def FrameBackWrongFalsely : Prop := frameBackRow.holds Try.pinned (OpenSpec.ofChange frameBackWrong)

/-- 'subwaylaw06.FramePieces': WHATEVER THE INPUT: true; the input reads as it did. -/
def framePiecesSpec : ChangeSpec := { name := "framePieces", fn := fun _ => fun
  | [d1, d2] => { results := [.lit (.bool true)], args := [d1, d2] }
  | _ => none }
def framePiecesRow : OpenClaim := { program := "ytgjehbhjgogmfaa", sum := "26811114e33563c76cfc81b174dd4a2bb839481e2bd9624527f77422c34d1b4f", func := "subway/subwaylaw06.FramePieces", spec := "framePieces", unfollowed := true, recurses := true, apart := false }
def FramePiecesSaid : Prop := framePiecesRow.holds Try.pinned (OpenSpec.ofChange framePiecesSpec)

/-- ITS FALSE NEIGHBOUR: 'it returns false'. Refute it at one input. -/
def framePiecesWrong : ChangeSpec := { name := "framePieces", fn := fun _ => fun
  | [d1, d2] => { results := [.lit (.bool false)], args := [d1, d2] }
  | _ => none }
def FramePiecesWrongFalsely : Prop := framePiecesRow.holds Try.pinned (OpenSpec.ofChange framePiecesWrong)

/-- 'subwaylaw06.FramePrefix': WHATEVER THE INPUT: true; the input reads as it did. -/
def framePrefixSpec : ChangeSpec := { name := "framePrefix", fn := fun _ => fun
  | [d] => { results := [.lit (.bool true)], args := [d] }
  | _ => none }
def framePrefixRow : OpenClaim := { program := "ytgjehbhjgogmfaa", sum := "26811114e33563c76cfc81b174dd4a2bb839481e2bd9624527f77422c34d1b4f", func := "subway/subwaylaw06.FramePrefix", spec := "framePrefix", unfollowed := true, recurses := true, apart := false }
def FramePrefixSaid : Prop := framePrefixRow.holds Try.pinned (OpenSpec.ofChange framePrefixSpec)

/-- ITS FALSE NEIGHBOUR: 'it returns false'. Refute it at one input. -/
def framePrefixWrong : ChangeSpec := { name := "framePrefix", fn := fun _ => fun
  | [d] => { results := [.lit (.bool false)], args := [d] }
  | _ => none }
def FramePrefixWrongFalsely : Prop := framePrefixRow.holds Try.pinned (OpenSpec.ofChange framePrefixWrong)

/-- 'subwaylaw06.FrameJoin': WHATEVER THE INPUT: true; the input reads as it did. -/
def frameJoinSpec : ChangeSpec := { name := "frameJoin", fn := fun _ => fun
  | [d1, d2] => { results := [.lit (.bool true)], args := [d1, d2] }
  | _ => none }
def frameJoinRow : OpenClaim := { program := "ytgjehbhjgogmfaa", sum := "26811114e33563c76cfc81b174dd4a2bb839481e2bd9624527f77422c34d1b4f", func := "subway/subwaylaw06.FrameJoin", spec := "frameJoin", unfollowed := true, recurses := true, apart := false }
def FrameJoinSaid : Prop := frameJoinRow.holds Try.pinned (OpenSpec.ofChange frameJoinSpec)

/-- ITS FALSE NEIGHBOUR: 'it returns false'. Refute it at one input. -/
def frameJoinWrong : ChangeSpec := { name := "frameJoin", fn := fun _ => fun
  | [d1, d2] => { results := [.lit (.bool false)], args := [d1, d2] }
  | _ => none }
def FrameJoinWrongFalsely : Prop := frameJoinRow.holds Try.pinned (OpenSpec.ofChange frameJoinWrong)

/-- 'subwaylaw06.FrameCuts': WHATEVER THE INPUT: true; the input reads as it did. -/
def frameCutsSpec : ChangeSpec := { name := "frameCuts", fn := fun _ => fun
  | [d] => { results := [.lit (.bool true)], args := [d] }
  | _ => none }
def frameCutsRow : OpenClaim := { program := "ytgjehbhjgogmfaa", sum := "26811114e33563c76cfc81b174dd4a2bb839481e2bd9624527f77422c34d1b4f", func := "subway/subwaylaw06.FrameCuts", spec := "frameCuts", unfollowed := true, recurses := true, apart := false }
def FrameCutsSaid : Prop := frameCutsRow.holds Try.pinned (OpenSpec.ofChange frameCutsSpec)

/-- ITS FALSE NEIGHBOUR: 'it returns false'. Refute it at one input. -/
def frameCutsWrong : ChangeSpec := { name := "frameCuts", fn := fun _ => fun
  | [d] => { results := [.lit (.bool false)], args := [d] }
  | _ => none }
def FrameCutsWrongFalsely : Prop := frameCutsRow.holds Try.pinned (OpenSpec.ofChange frameCutsWrong)

/- THE SECOND FORM. 'bulk': how many values and letters a reading holds, each counted each time it is reached (what is shared counts as often as it is met; a slice's spare places count too). A statement '..UptoSaid' is the law's where the arguments, and the package variables that the reading takes, are together of bulk at most 1048576: NARROWER than '..Said'. Prove '..Said' where nothing that the law and all that it calls make is longer than what came in: it says more and counts as full. Else prove '..UptoSaid'. A law counts once. -/
mutual
def uptoBulk {H : Type} : DataW H → Nat
  | .lit (.string bytes) => bytes.length + 1
  | .lit _ => 1
  | .nil => 1
  | .ptr d => uptoBulk d + 1
  | .slice elems spare => uptoBulkAll elems + uptoBulkAll spare + 1
  | .agg parts => uptoBulkAll parts + 1
  | .iface _ d => uptoBulk d + 1
  | .map entries => uptoBulkEntries entries + 1
  | .held _ => 1
def uptoBulkAll {H : Type} : List (DataW H) → Nat
  | [] => 0
  | d :: r => uptoBulk d + uptoBulkAll r
def uptoBulkEntries {H : Type} : List (Lit × DataW H) → Nat
  | [] => 0
  | x :: r => uptoBulkEntry x + uptoBulkEntries r
def uptoBulkEntry {H : Type} : Lit × DataW H → Nat
  | (.string bytes, d) => bytes.length + uptoBulk d + 1
  | (_, d) => uptoBulk d + 1
 end
def uptoSmall : (H : Type) → List (DataW H) → Bool := fun _ ds => decide (uptoBulkAll ds ≤ 1048576)
def OpenSpec.upto (s : _root_.Go.ChangeSpec) : _root_.Go.OpenSpec := { _root_.Go.OpenSpec.ofChange s with cond := some uptoSmall }

/-- 'subwaylaw06.FrameTells', WHERE WHAT IT READS IS OF BULK AT MOST 1048576: true; the input reads as it did. -/
def frameTellsUptoRow : OpenClaim := { program := "ytgjehbhjgogmfaa", sum := "26811114e33563c76cfc81b174dd4a2bb839481e2bd9624527f77422c34d1b4f", func := "subway/subwaylaw06.FrameTells", spec := "frameTells", unfollowed := true, recurses := true, apart := false, narrowed := true }
def FrameTellsUptoSaid : Prop := frameTellsUptoRow.holds Try.pinned (OpenSpec.upto frameTellsSpec)

/-- 'subwaylaw06.FrameBack', WHERE WHAT IT READS IS OF BULK AT MOST 1048576: true; the input reads as it did. -/
def frameBackUptoRow : OpenClaim := { program := "ytgjehbhjgogmfaa", sum := "26811114e33563c76cfc81b174dd4a2bb839481e2bd9624527f77422c34d1b4f", func := "subway/subwaylaw06.FrameBack", spec := "frameBack", unfollowed := true, recurses := true, apart := false, narrowed := true }
def FrameBackUptoSaid : Prop := frameBackUptoRow.holds Try.pinned (OpenSpec.upto frameBackSpec)

/-- 'subwaylaw06.FramePieces', WHERE WHAT IT READS IS OF BULK AT MOST 1048576: true; the input reads as it did. -/
def framePiecesUptoRow : OpenClaim := { program := "ytgjehbhjgogmfaa", sum := "26811114e33563c76cfc81b174dd4a2bb839481e2bd9624527f77422c34d1b4f", func := "subway/subwaylaw06.FramePieces", spec := "framePieces", unfollowed := true, recurses := true, apart := false, narrowed := true }
def FramePiecesUptoSaid : Prop := framePiecesUptoRow.holds Try.pinned (OpenSpec.upto framePiecesSpec)

/-- 'subwaylaw06.FramePrefix', WHERE WHAT IT READS IS OF BULK AT MOST 1048576: true; the input reads as it did. -/
def framePrefixUptoRow : OpenClaim := { program := "ytgjehbhjgogmfaa", sum := "26811114e33563c76cfc81b174dd4a2bb839481e2bd9624527f77422c34d1b4f", func := "subway/subwaylaw06.FramePrefix", spec := "framePrefix", unfollowed := true, recurses := true, apart := false, narrowed := true }
def FramePrefixUptoSaid : Prop := framePrefixUptoRow.holds Try.pinned (OpenSpec.upto framePrefixSpec)

/-- 'subwaylaw06.FrameJoin', WHERE WHAT IT READS IS OF BULK AT MOST 1048576: true; the input reads as it did. -/
def frameJoinUptoRow : OpenClaim := { program := "ytgjehbhjgogmfaa", sum := "26811114e33563c76cfc81b174dd4a2bb839481e2bd9624527f77422c34d1b4f", func := "subway/subwaylaw06.FrameJoin", spec := "frameJoin", unfollowed := true, recurses := true, apart := false, narrowed := true }
def FrameJoinUptoSaid : Prop := frameJoinUptoRow.holds Try.pinned (OpenSpec.upto frameJoinSpec)

/-- 'subwaylaw06.FrameCuts', WHERE WHAT IT READS IS OF BULK AT MOST 1048576: true; the input reads as it did. -/
def frameCutsUptoRow : OpenClaim := { program := "ytgjehbhjgogmfaa", sum := "26811114e33563c76cfc81b174dd4a2bb839481e2bd9624527f77422c34d1b4f", func := "subway/subwaylaw06.FrameCuts", spec := "frameCuts", unfollowed := true, recurses := true, apart := false, narrowed := true }
def FrameCutsUptoSaid : Prop := frameCutsUptoRow.holds Try.pinned (OpenSpec.upto frameCutsSpec)

end Rows
end Go.Proofs.Ytgjehbhjgogmfaa
