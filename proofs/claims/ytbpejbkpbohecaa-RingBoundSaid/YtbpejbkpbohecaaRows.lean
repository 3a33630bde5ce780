/-
  No cell of these rows narrows 'for every input' (looked for: loops, veiled, ifaces, maps, wideKeys, modest, calm, conditions, laid).
  DERIVED. THE GIVEN ROWS OF THIS SEAT. 6 by the template 'for every input the law returns true; each argument reads behind the call as it read before'; 0 by the template 'total and deterministic' (their statements: YtbpejbkpbohecaaTotals.lean).
  GIVEN WITH THE SEED: the statements are not yours to turn. If you find one false, say at which input.
  Laid BY PROGRAM, IN A SANDBOX (cutbox-rows.mjs): the forced cells as the released guide's own fill.sh prints them over the translation afecfb5429343bef… (all of the seat's roots in one cut). By AI agents, Wed Nov 11 2026. No macro, syntax, notation, axiom, sorry.
-/
import Derived.Test.YtbpejbkpbohecaaChecked
import GoSem.Claim
import GoSem.ClaimJoined
import GoSem.ClaimMapViews
import Derived.JoinedTies
import Derived.KernelRfl
namespace Go.Proofs.Ytbpejbkpbohecaa
/- THE CELL 'sum', in the pinned program and in every row, IS THE sha256 OF THE DUMP (.gsa) THAT YtbpejbkpbohecaaProg.lean LOADS. Nothing in Lean hashes anything: it is a label: what it is worth is what the hold of that sum in a sandbox is worth. -/
noncomputable def Try.pinned : Pinned := { name := "ytbpejbkpbohecaa", sum := "afecfb5429343bef1c9279e48eb5f243106746a4152d0cd59efa077d67750dec", checked := Try.checked }
namespace Rows
def none {H : Type} : Left H := { results := [], args := [] }

/-- 'subwaylaw07.RingPlays': WHATEVER THE INPUT: true; the input reads as it did. -/
def ringPlaysSpec : ChangeSpec := { name := "ringPlays", fn := fun _ => fun
  | [d1, d2] => { results := [.lit (.bool true)], args := [d1, d2] }
  | _ => none }
def ringPlaysRow : OpenClaim := { program := "ytbpejbkpbohecaa", sum := "afecfb5429343bef1c9279e48eb5f243106746a4152d0cd59efa077d67750dec", func := "subway/subwaylaw07.RingPlays", spec := "ringPlays", apart := false }
def RingPlaysSaid : Prop := ringPlaysRow.holds Try.pinned (OpenSpec.ofChange ringPlaysSpec)

/-- ITS FALSE NEIGHBOUR: 'it returns false'. Refute it at one input. -/
def ringPlaysWrong : ChangeSpec := { name := "ringPlays", fn := fun _ => fun
  | [d1, d2] => { results := [.lit (.bool false)], args := [d1, d2] }
  | _ => none }
def RingPlaysWrongFalsely : Prop := ringPlaysRow.holds Try.pinned (OpenSpec.ofChange ringPlaysWrong)

/-- 'subwaylaw07.RingOrder': WHATEVER THE INPUT: true; the input reads as it did. -/
def ringOrderSpec : ChangeSpec := { name := "ringOrder", fn := fun _ => fun
  | [d1, d2] => { results := [.lit (.bool true)], args := [d1, d2] }
  | _ => none }
def ringOrderRow : OpenClaim := { program := "ytbpejbkpbohecaa", sum := "afecfb5429343bef1c9279e48eb5f243106746a4152d0cd59efa077d67750dec", func := "subway/subwaylaw07.RingOrder", spec := "ringOrder", apart := false }
def RingOrderSaid : Prop := ringOrderRow.holds Try.pinned (OpenSpec.ofChange ringOrderSpec)

/-- ITS FALSE NEIGHBOUR: 'it returns false'. Refute it at one input. -/
def ringOrderWrong : ChangeSpec := { name := "ringOrder", fn := fun _ => fun
  | [d1, d2] => { results := [.lit (.bool false)], args := [d1, d2] }
  | _ => none }
def RingOrderWrongFalsely : Prop := ringOrderRow.holds Try.pinned (OpenSpec.ofChange ringOrderWrong)

/-- 'subwaylaw07.RingBound': WHATEVER THE INPUT: true; the input reads as it did. -/
def ringBoundSpec : ChangeSpec := { name := "ringBound", fn := fun _ => fun
  | [d1, d2] => { results := [.lit (.bool true)], args := [d1, d2] }
  | _ => none }
def ringBoundRow : OpenClaim := { program := "ytbpejbkpbohecaa", sum := "afecfb5429343bef1c9279e48eb5f243106746a4152d0cd59efa077d67750dec", func := "subway/subwaylaw07.RingBound", spec := "ringBound", apart := false }
def RingBoundSaid : Prop := ringBoundRow.holds Try.pinned (OpenSpec.ofChange ringBoundSpec)

/-- ITS FALSE NEIGHBOUR: 'it returns false'. Refute it at one input. -/
def ringBoundWrong : ChangeSpec := { name := "ringBound", fn := fun _ => fun
  | [d1, d2] => { results := [.lit (.bool false)], args := [d1, d2] }
  | _ => none }
def RingBoundWrongFalsely : Prop := ringBoundRow.holds Try.pinned (OpenSpec.ofChange ringBoundWrong)

/-- 'subwaylaw07.RingOwn': WHATEVER THE INPUT: true; the input reads as it did. -/
def ringOwnSpec : ChangeSpec := { name := "ringOwn", fn := fun _ => fun
  | [d1, d2] => { results := [.lit (.bool true)], args := [d1, d2] }
  | _ => none }
def ringOwnRow : OpenClaim := { program := "ytbpejbkpbohecaa", sum := "afecfb5429343bef1c9279e48eb5f243106746a4152d0cd59efa077d67750dec", func := "subway/subwaylaw07.RingOwn", spec := "ringOwn", apart := false }
def RingOwnSaid : Prop := ringOwnRow.holds Try.pinned (OpenSpec.ofChange ringOwnSpec)

/-- ITS FALSE NEIGHBOUR: 'it returns false'. Refute it at one input. -/
def ringOwnWrong : ChangeSpec := { name := "ringOwn", fn := fun _ => fun
  | [d1, d2] => { results := [.lit (.bool false)], args := [d1, d2] }
  | _ => none }
def RingOwnWrongFalsely : Prop := ringOwnRow.holds Try.pinned (OpenSpec.ofChange ringOwnWrong)

/-- 'subwaylaw07.RingPieces': WHATEVER THE INPUT: true; the input reads as it did. -/
def ringPiecesSpec : ChangeSpec := { name := "ringPieces", fn := fun _ => fun
  | [d1, d2, d3] => { results := [.lit (.bool true)], args := [d1, d2, d3] }
  | _ => none }
def ringPiecesRow : OpenClaim := { program := "ytbpejbkpbohecaa", sum := "afecfb5429343bef1c9279e48eb5f243106746a4152d0cd59efa077d67750dec", func := "subway/subwaylaw07.RingPieces", spec := "ringPieces", apart := false }
def RingPiecesSaid : Prop := ringPiecesRow.holds Try.pinned (OpenSpec.ofChange ringPiecesSpec)

/-- ITS FALSE NEIGHBOUR: 'it returns false'. Refute it at one input. -/
def ringPiecesWrong : ChangeSpec := { name := "ringPieces", fn := fun _ => fun
  | [d1, d2, d3] => { results := [.lit (.bool false)], args := [d1, d2, d3] }
  | _ => none }
def RingPiecesWrongFalsely : Prop := ringPiecesRow.holds Try.pinned (OpenSpec.ofChange ringPiecesWrong)

/-- 'subwaylaw07.RingLooks': WHATEVER THE INPUT: true; the input reads as it did. -/
def ringLooksSpec : ChangeSpec := { name := "ringLooks", fn := fun _ => fun
  | [d1, d2] => { results := [.lit (.bool true)], args := [d1, d2] }
  | _ => none }
def ringLooksRow : OpenClaim := { program := "ytbpejbkpbohecaa", sum := "afecfb5429343bef1c9279e48eb5f243106746a4152d0cd59efa077d67750dec", func := "subway/subwaylaw07.RingLooks", spec := "ringLooks", apart := false }
def RingLooksSaid : Prop := ringLooksRow.holds Try.pinned (OpenSpec.ofChange ringLooksSpec)

/-- ITS FALSE NEIGHBOUR: 'it returns false'. Refute it at one input. -/
def ringLooksWrong : ChangeSpec := { name := "ringLooks", fn := fun _ => fun
  | [d1, d2] => { results := [.lit (.bool false)], args := [d1, d2] }
  | _ => none }
def RingLooksWrongFalsely : Prop := ringLooksRow.holds Try.pinned (OpenSpec.ofChange ringLooksWrong)

/- THE SECOND FORM. 'bulk': how many values and letters a reading holds, each counted each time it is reached (what is shared counts as often as it is met; a slice's spare places count too). A statement '..UptoSaid' is the law's where the arguments, and the package variables that the reading takes, are together of bulk at most 1048576: NARROWER than '..Said'. Prove '..Said' where nothing that the law and all that it calls make is longer than what came in: it says more and counts as full. Else prove '..UptoSaid'. A law counts once. -/
mutual
def uptoBulk {H : Type} : DataW H → Nat
  | .lit (.string bytes) => bytes.length + 1
  | .lit _ => 1
  | .nil => 1
  | .ptr d => uptoBulk d + 1
  | .slice elems spare => uptoBulkAll elems + uptoBulkAll spare + 1
  | .agg parts => uptoBulkAll parts + 1
  | .iface _ d => uptoBulk d + 1
  | .map entries => uptoBulkEntries entries + 1
  | .held _ => 1
def uptoBulkAll {H : Type} : List (DataW H) → Nat
  | [] => 0
  | d :: r => uptoBulk d + uptoBulkAll r
def uptoBulkEntries {H : Type} : List (Lit × DataW H) → Nat
  | [] => 0
  | x :: r => uptoBulkEntry x + uptoBulkEntries r
def uptoBulkEntry {H : Type} : Lit × DataW H → Nat
  | (.string bytes, d) => bytes.length + uptoBulk d + 1
  | (_, d) => uptoBulk d + 1
 end
def uptoSmall : (H : Type) → List (DataW H) → Bool := fun _ ds => decide (uptoBulkAll ds ≤ 1048576)
def OpenSpec.upto (s : _root_.Go.ChangeSpec) : _root_.Go.OpenSpec := { _root_.Go.OpenSpec.ofChange s with cond := some uptoSmall }

/-- 'subwaylaw07.RingPlays', WHERE WHAT IT READS IS OF BULK AT MOST 1048576: true; the input reads as it did. -/
def ringPlaysUptoRow : OpenClaim := { program := "ytbpejbkpbohecaa", sum := "afecfb5429343bef1c9279e48eb5f243106746a4152d0cd59efa077d67750dec", func := "subway/subwaylaw07.RingPlays", spec := "ringPlays", apart := false, narrowed := true }
def RingPlaysUptoSaid : Prop := ringPlaysUptoRow.holds Try.pinned (OpenSpec.upto ringPlaysSpec)

/-- 'subwaylaw07.RingOrder', WHERE WHAT IT READS IS OF BULK AT MOST 1048576: true; the input reads as it did. -/
def ringOrderUptoRow : OpenClaim := { program := "ytbpejbkpbohecaa", sum := "afecfb5429343bef1c9279e48eb5f243106746a4152d0cd59efa077d67750dec", func := "subway/subwaylaw07.RingOrder", spec := "ringOrder", apart := false, narrowed := true }
def RingOrderUptoSaid : Prop := ringOrderUptoRow.holds Try.pinned (OpenSpec.upto ringOrderSpec)

/-- 'subwaylaw07.RingBound', WHERE WHAT IT READS IS OF BULK AT MOST 1048576: true; the input reads as it did. -/
def ringBoundUptoRow : OpenClaim := { program := "ytbpejbkpbohecaa", sum := "afecfb5429343bef1c9279e48eb5f243106746a4152d0cd59efa077d67750dec", func := "subway/subwaylaw07.RingBound", spec := "ringBound", apart := false, narrowed := true }
def RingBoundUptoSaid : Prop := ringBoundUptoRow.holds Try.pinned (OpenSpec.upto ringBoundSpec)

/-- 'subwaylaw07.RingOwn', WHERE WHAT IT READS IS OF BULK AT MOST 1048576: true; the input reads as it did. -/
def ringOwnUptoRow : OpenClaim := { program := "ytbpejbkpbohecaa", sum := "afecfb5429343bef1c9279e48eb5f243106746a4152d0cd59efa077d67750dec", func := "subway/subwaylaw07.RingOwn", spec := "ringOwn", apart := false, narrowed := true }
def RingOwnUptoSaid : Prop := ringOwnUptoRow.holds Try.pinned (OpenSpec.upto ringOwnSpec)

/-- 'subwaylaw07.RingPieces', WHERE WHAT IT READS IS OF BULK AT MOST 1048576: true; the input reads as it did. -/
def ringPiecesUptoRow : OpenClaim := { program := "ytbpejbkpbohecaa", sum := "afecfb5429343bef1c9279e48eb5f243106746a4152d0cd59efa077d67750dec", func := "subway/subwaylaw07.RingPieces", spec := "ringPieces", apart := false, narrowed := true }
def RingPiecesUptoSaid : Prop := ringPiecesUptoRow.holds Try.pinned (OpenSpec.upto ringPiecesSpec)

/-- 'subwaylaw07.RingLooks', WHERE WHAT IT READS IS OF BULK AT MOST 1048576: true; the input reads as it did. -/
def ringLooksUptoRow : OpenClaim := { program := "ytbpejbkpbohecaa", sum := "afecfb5429343bef1c9279e48eb5f243106746a4152d0cd59efa077d67750dec", func := "subway/subwaylaw07.RingLooks", spec := "ringLooks", apart := false, narrowed := true }
def RingLooksUptoSaid : Prop := ringLooksUptoRow.holds Try.pinned (OpenSpec.upto ringLooksSpec)

end Rows
end Go.Proofs.Ytbpejbkpbohecaa
