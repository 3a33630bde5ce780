/-
  No cell of these rows narrows 'for every input' (looked for: loops, veiled, ifaces, maps, wideKeys, modest, calm, conditions, laid).
  DERIVED. THE GIVEN ROWS OF THIS SEAT. 6 by the template 'for every input the law returns true; each argument reads behind the call as it read before'; 0 by the template 'total and deterministic' (their statements: YtdecmdbojmdaeaaTotals.lean).
  GIVEN WITH THE SEED: the statements are not yours to turn. If you find one false, say at which input.
  Laid BY PROGRAM, IN A SANDBOX (cutbox-rows.mjs): the forced cells as the released guide's own fill.sh prints them over the translation c4b7e3fe635cbf13… (all of the seat's roots in one cut). By AI agents, Wed Nov 11 2026. No macro, syntax, notation, axiom, sorry.
-/
import Derived.Test.YtdecmdbojmdaeaaChecked
import GoSem.Claim
import GoSem.ClaimJoined
import GoSem.ClaimMapViews
import Derived.JoinedTies
import Derived.KernelRfl
namespace Go.Proofs.Ytdecmdbojmdaeaa
/- THE CELL 'sum', in the pinned program and in every row, IS THE sha256 OF THE DUMP (.gsa) THAT YtdecmdbojmdaeaaProg.lean LOADS. Nothing in Lean hashes anything: it is a label: what it is worth is what the hold of that sum in a sandbox is worth. -/
noncomputable def Try.pinned : Pinned := { name := "ytdecmdbojmdaeaa", sum := "c4b7e3fe635cbf13ffde35f129d96ac8e6f02820c272769c34d995af7cac0371", checked := Try.checked }
namespace Rows
def none {H : Type} : Left H := { results := [], args := [] }

/-- 'subwaylaw14.QueuePlays': WHATEVER THE INPUT: true; the input reads as it did. -/
def queuePlaysSpec : ChangeSpec := { name := "queuePlays", fn := fun _ => fun
  | [d] => { results := [.lit (.bool true)], args := [d] }
  | _ => none }
def queuePlaysRow : OpenClaim := { program := "ytdecmdbojmdaeaa", sum := "c4b7e3fe635cbf13ffde35f129d96ac8e6f02820c272769c34d995af7cac0371", func := "subway/subwaylaw14.QueuePlays", spec := "queuePlays", apart := false }
def QueuePlaysSaid : Prop := queuePlaysRow.holds Try.pinned (OpenSpec.ofChange queuePlaysSpec)

/-- ITS FALSE NEIGHBOUR: 'it returns false'. Refute it at one input. -/
def queuePlaysWrong : ChangeSpec := { name := "queuePlays", fn := fun _ => fun
  | [d] => { results := [.lit (.bool false)], args := [d] }
  | _ => none }
def QueuePlaysWrongFalsely : Prop := queuePlaysRow.holds Try.pinned (OpenSpec.ofChange queuePlaysWrong)

/-- 'subwaylaw14.QueueOrder': WHATEVER THE INPUT: true; the input reads as it did. -/
def queueOrderSpec : ChangeSpec := { name := "queueOrder", fn := fun _ => fun
  | [d1, d2] => { results := [.lit (.bool true)], args := [d1, d2] }
  | _ => none }
def queueOrderRow : OpenClaim := { program := "ytdecmdbojmdaeaa", sum := "c4b7e3fe635cbf13ffde35f129d96ac8e6f02820c272769c34d995af7cac0371", func := "subway/subwaylaw14.QueueOrder", spec := "queueOrder", apart := false }
def QueueOrderSaid : Prop := queueOrderRow.holds Try.pinned (OpenSpec.ofChange queueOrderSpec)

/-- ITS FALSE NEIGHBOUR: 'it returns false'. Refute it at one input. -/
def queueOrderWrong : ChangeSpec := { name := "queueOrder", fn := fun _ => fun
  | [d1, d2] => { results := [.lit (.bool false)], args := [d1, d2] }
  | _ => none }
def QueueOrderWrongFalsely : Prop := queueOrderRow.holds Try.pinned (OpenSpec.ofChange queueOrderWrong)

/-- 'subwaylaw14.QueueBounds': WHATEVER THE INPUT: true; the input reads as it did. -/
def queueBoundsSpec : ChangeSpec := { name := "queueBounds", fn := fun _ => fun
  | [d] => { results := [.lit (.bool true)], args := [d] }
  | _ => none }
def queueBoundsRow : OpenClaim := { program := "ytdecmdbojmdaeaa", sum := "c4b7e3fe635cbf13ffde35f129d96ac8e6f02820c272769c34d995af7cac0371", func := "subway/subwaylaw14.QueueBounds", spec := "queueBounds", apart := false }
def QueueBoundsSaid : Prop := queueBoundsRow.holds Try.pinned (OpenSpec.ofChange queueBoundsSpec)

/-- ITS FALSE NEIGHBOUR: 'it returns false'. Refute it at one input. -/
def queueBoundsWrong : ChangeSpec := { name := "queueBounds", fn := fun _ => fun
  | [d] => { results := [.lit (.bool false)], args := [d] }
  | _ => none }
def QueueBoundsWrongFalsely : Prop := queueBoundsRow.holds Try.pinned (OpenSpec.ofChange queueBoundsWrong)

/-- 'subwaylaw14.QueueApart': WHATEVER THE INPUT: true; the input reads as it did. -/
def queueApartSpec : ChangeSpec := { name := "queueApart", fn := fun _ => fun
  | [d1, d2] => { results := [.lit (.bool true)], args := [d1, d2] }
  | _ => none }
def queueApartRow : OpenClaim := { program := "ytdecmdbojmdaeaa", sum := "c4b7e3fe635cbf13ffde35f129d96ac8e6f02820c272769c34d995af7cac0371", func := "subway/subwaylaw14.QueueApart", spec := "queueApart", apart := false }
def QueueApartSaid : Prop := queueApartRow.holds Try.pinned (OpenSpec.ofChange queueApartSpec)

/-- ITS FALSE NEIGHBOUR: 'it returns false'. Refute it at one input. -/
def queueApartWrong : ChangeSpec := { name := "queueApart", fn := fun _ => fun
  | [d1, d2] => { results := [.lit (.bool false)], args := [d1, d2] }
  | _ => none }
def QueueApartWrongFalsely : Prop := queueApartRow.holds Try.pinned (OpenSpec.ofChange queueApartWrong)

/-- 'subwaylaw14.QueueWhere': WHATEVER THE INPUT: true; the input reads as it did. -/
def queueWhereSpec : ChangeSpec := { name := "queueWhere", fn := fun _ => fun
  | [d] => { results := [.lit (.bool true)], args := [d] }
  | _ => none }
def queueWhereRow : OpenClaim := { program := "ytdecmdbojmdaeaa", sum := "c4b7e3fe635cbf13ffde35f129d96ac8e6f02820c272769c34d995af7cac0371", func := "subway/subwaylaw14.QueueWhere", spec := "queueWhere", apart := false }
def QueueWhereSaid : Prop := queueWhereRow.holds Try.pinned (OpenSpec.ofChange queueWhereSpec)

/-- ITS FALSE NEIGHBOUR: 'it returns false'. Refute it at one input. -/
def queueWhereWrong : ChangeSpec := { name := "queueWhere", fn := fun _ => fun
  | [d] => { results := [.lit (.bool false)], args := [d] }
  | _ => none }
def QueueWhereWrongFalsely : Prop := queueWhereRow.holds Try.pinned (OpenSpec.ofChange queueWhereWrong)

/-- 'subwaylaw14.QueueDrain': WHATEVER THE INPUT: true; the input reads as it did. -/
def queueDrainSpec : ChangeSpec := { name := "queueDrain", fn := fun _ => fun
  | [d1, d2] => { results := [.lit (.bool true)], args := [d1, d2] }
  | _ => none }
def queueDrainRow : OpenClaim := { program := "ytdecmdbojmdaeaa", sum := "c4b7e3fe635cbf13ffde35f129d96ac8e6f02820c272769c34d995af7cac0371", func := "subway/subwaylaw14.QueueDrain", spec := "queueDrain", apart := false }
def QueueDrainSaid : Prop := queueDrainRow.holds Try.pinned (OpenSpec.ofChange queueDrainSpec)

/-- ITS FALSE NEIGHBOUR: 'it returns false'. Refute it at one input. -/
def queueDrainWrong : ChangeSpec := { name := "queueDrain", fn := fun _ => fun
  | [d1, d2] => { results := [.lit (.bool false)], args := [d1, d2] }
  | _ => none }
def QueueDrainWrongFalsely : Prop := queueDrainRow.holds Try.pinned (OpenSpec.ofChange queueDrainWrong)

/- THE SECOND FORM. 'bulk': how many values and letters a reading holds, each counted each time it is reached (what is shared counts as often as it is met; a slice's spare places count too). A statement '..UptoSaid' is the law's where the arguments, and the package variables that the reading takes, are together of bulk at most 1048576: NARROWER than '..Said'. Prove '..Said' where nothing that the law and all that it calls make is longer than what came in: it says more and counts as full. Else prove '..UptoSaid'. A law counts once. -/
mutual
def uptoBulk {H : Type} : DataW H → Nat
  | .lit (.string bytes) => bytes.length + 1
  | .lit _ => 1
  | .nil => 1
  | .ptr d => uptoBulk d + 1
  | .slice elems spare => uptoBulkAll elems + uptoBulkAll spare + 1
  | .agg parts => uptoBulkAll parts + 1
  | .iface _ d => uptoBulk d + 1
  | .map entries => uptoBulkEntries entries + 1
  | .held _ => 1
def uptoBulkAll {H : Type} : List (DataW H) → Nat
  | [] => 0
  | d :: r => uptoBulk d + uptoBulkAll r
def uptoBulkEntries {H : Type} : List (Lit × DataW H) → Nat
  | [] => 0
  | x :: r => uptoBulkEntry x + uptoBulkEntries r
def uptoBulkEntry {H : Type} : Lit × DataW H → Nat
  | (.string bytes, d) => bytes.length + uptoBulk d + 1
  | (_, d) => uptoBulk d + 1
 end
def uptoSmall : (H : Type) → List (DataW H) → Bool := fun _ ds => decide (uptoBulkAll ds ≤ 1048576)
def OpenSpec.upto (s : _root_.Go.ChangeSpec) : _root_.Go.OpenSpec := { _root_.Go.OpenSpec.ofChange s with cond := some uptoSmall }

/-- 'subwaylaw14.QueuePlays', WHERE WHAT IT READS IS OF BULK AT MOST 1048576: true; the input reads as it did. -/
def queuePlaysUptoRow : OpenClaim := { program := "ytdecmdbojmdaeaa", sum := "c4b7e3fe635cbf13ffde35f129d96ac8e6f02820c272769c34d995af7cac0371", func := "subway/subwaylaw14.QueuePlays", spec := "queuePlays", apart := false, narrowed := true }
def QueuePlaysUptoSaid : Prop := queuePlaysUptoRow.holds Try.pinned (OpenSpec.upto queuePlaysSpec)

/-- 'subwaylaw14.QueueOrder', WHERE WHAT IT READS IS OF BULK AT MOST 1048576: true; the input reads as it did. -/
def queueOrderUptoRow : OpenClaim := { program := "ytdecmdbojmdaeaa", sum := "c4b7e3fe635cbf13ffde35f129d96ac8e6f02820c272769c34d995af7cac0371", func := "subway/subwaylaw14.QueueOrder", spec := "queueOrder", apart := false, narrowed := true }
def QueueOrderUptoSaid : Prop := queueOrderUptoRow.holds Try.pinned (OpenSpec.upto queueOrderSpec)

/-- 'subwaylaw14.QueueBounds', WHERE WHAT IT READS IS OF BULK AT MOST 1048576: true; the input reads as it did. -/
def queueBoundsUptoRow : OpenClaim := { program := "ytdecmdbojmdaeaa", sum := "c4b7e3fe635cbf13ffde35f129d96ac8e6f02820c272769c34d995af7cac0371", func := "subway/subwaylaw14.QueueBounds", spec := "queueBounds", apart := false, narrowed := true }
def QueueBoundsUptoSaid : Prop := queueBoundsUptoRow.holds Try.pinned (OpenSpec.upto queueBoundsSpec)

/-- 'subwaylaw14.QueueApart', WHERE WHAT IT READS IS OF BULK AT MOST 1048576: true; the input reads as it did. -/
def queueApartUptoRow : OpenClaim := { program := "ytdecmdbojmdaeaa", sum := "c4b7e3fe635cbf13ffde35f129d96ac8e6f02820c272769c34d995af7cac0371", func := "subway/subwaylaw14.QueueApart", spec := "queueApart", apart := false, narrowed := true }
def QueueApartUptoSaid : Prop := queueApartUptoRow.holds Try.pinned (OpenSpec.upto queueApartSpec)

/-- 'subwaylaw14.QueueWhere', WHERE WHAT IT READS IS OF BULK AT MOST 1048576: true; the input reads as it did. -/
def queueWhereUptoRow : OpenClaim := { program := "ytdecmdbojmdaeaa", sum := "c4b7e3fe635cbf13ffde35f129d96ac8e6f02820c272769c34d995af7cac0371", func := "subway/subwaylaw14.QueueWhere", spec := "queueWhere", apart := false, narrowed := true }
def QueueWhereUptoSaid : Prop := queueWhereUptoRow.holds Try.pinned (OpenSpec.upto queueWhereSpec)

/-- 'subwaylaw14.QueueDrain', WHERE WHAT IT READS IS OF BULK AT MOST 1048576: true; the input reads as it did. -/
def queueDrainUptoRow : OpenClaim := { program := "ytdecmdbojmdaeaa", sum := "c4b7e3fe635cbf13ffde35f129d96ac8e6f02820c272769c34d995af7cac0371", func := "subway/subwaylaw14.QueueDrain", spec := "queueDrain", apart := false, narrowed := true }
def QueueDrainUptoSaid : Prop := queueDrainUptoRow.holds Try.pinned (OpenSpec.upto queueDrainSpec)

end Rows
end Go.Proofs.Ytdecmdbojmdaeaa
