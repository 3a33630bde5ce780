/-
  No cell of these rows narrows 'for every input' (looked for: loops, veiled, ifaces, maps, wideKeys, modest, calm, conditions, laid).
  DERIVED. THE GIVEN ROWS OF THIS SEAT. 6 by the template 'for every input the law returns true; each argument reads behind the call as it read before'; 0 by the template 'total and deterministic' (their statements: YtbfccpbijimjmaaTotals.lean).
  GIVEN WITH THE SEED: the statements are not yours to turn. If you find one false, say at which input.
  Laid BY PROGRAM, IN A SANDBOX (cutbox-rows.mjs): the forced cells as the released guide's own fill.sh prints them over the translation e33a298f75aa9655… (all of the seat's roots in one cut). By AI agents, Wed Nov 11 2026. No macro, syntax, notation, axiom, sorry.
-/
import Derived.Test.YtbfccpbijimjmaaChecked
import GoSem.Claim
import GoSem.ClaimJoined
import GoSem.ClaimMapViews
import Derived.JoinedTies
import Derived.KernelRfl
namespace Go.Proofs.Ytbfccpbijimjmaa
/- THE CELL 'sum', in the pinned program and in every row, IS THE sha256 OF THE DUMP (.gsa) THAT YtbfccpbijimjmaaProg.lean LOADS. Nothing in Lean hashes anything: it is a label: what it is worth is what the hold of that sum in a sandbox is worth. -/
noncomputable def Try.pinned : Pinned := { name := "ytbfccpbijimjmaa", sum := "e33a298f75aa965561d2efb7221110ff8dc68784db14112d80ed5ec9beac5dc0", checked := Try.checked }
namespace Rows
def none {H : Type} : Left H := { results := [], args := [] }

/-- 'subwaylaw03.MacTells': WHATEVER THE INPUT: true; the input reads as it did. -/
def macTellsSpec : ChangeSpec := { name := "macTells", fn := fun _ => fun
  | [d1, d2, d3] => { results := [.lit (.bool true)], args := [d1, d2, d3] }
  | _ => none }
def macTellsRow : OpenClaim := { program := "ytbfccpbijimjmaa", sum := "e33a298f75aa965561d2efb7221110ff8dc68784db14112d80ed5ec9beac5dc0", func := "subway/subwaylaw03.MacTells", spec := "macTells", unfollowed := true, recurses := true, apart := false }
def MacTellsSaid : Prop := macTellsRow.holds Try.pinned (OpenSpec.ofChange macTellsSpec)

/-- ITS FALSE NEIGHBOUR: 'it returns false'. Refute it at one input. -/
def macTellsWrong : ChangeSpec := { name := "macTells", fn := fun _ => fun
  | [d1, d2, d3] => { results := [.lit (.bool false)], args := [d1, d2, d3] }
  | _ => none }
def MacTellsWrongFalsely : Prop := macTellsRow.holds Try.pinned (OpenSpec.ofChange macTellsWrong)

/-- 'subwaylaw03.MacKeys': WHATEVER THE INPUT: true; the input reads as it did. -/
def macKeysSpec : ChangeSpec := { name := "macKeys", fn := fun _ => fun
  | [d1, d2, d3] => { results := [.lit (.bool true)], args := [d1, d2, d3] }
  | _ => none }
def macKeysRow : OpenClaim := { program := "ytbfccpbijimjmaa", sum := "e33a298f75aa965561d2efb7221110ff8dc68784db14112d80ed5ec9beac5dc0", func := "subway/subwaylaw03.MacKeys", spec := "macKeys", unfollowed := true, recurses := true, apart := false }
def MacKeysSaid : Prop := macKeysRow.holds Try.pinned (OpenSpec.ofChange macKeysSpec)

/-- ITS FALSE NEIGHBOUR: 'it returns false'. Refute it at one input. -/
def macKeysWrong : ChangeSpec := { name := "macKeys", fn := fun _ => fun
  | [d1, d2, d3] => { results := [.lit (.bool false)], args := [d1, d2, d3] }
  | _ => none }
def MacKeysWrongFalsely : Prop := macKeysRow.holds Try.pinned (OpenSpec.ofChange macKeysWrong)

/-- 'subwaylaw03.MacWords': WHATEVER THE INPUT: true; the input reads as it did. -/
def macWordsSpec : ChangeSpec := { name := "macWords", fn := fun _ => fun
  | [d1, d2] => { results := [.lit (.bool true)], args := [d1, d2] }
  | _ => none }
def macWordsRow : OpenClaim := { program := "ytbfccpbijimjmaa", sum := "e33a298f75aa965561d2efb7221110ff8dc68784db14112d80ed5ec9beac5dc0", func := "subway/subwaylaw03.MacWords", spec := "macWords", unfollowed := true, recurses := true, apart := false }
def MacWordsSaid : Prop := macWordsRow.holds Try.pinned (OpenSpec.ofChange macWordsSpec)

/-- ITS FALSE NEIGHBOUR: 'it returns false'. Refute it at one input. -/
def macWordsWrong : ChangeSpec := { name := "macWords", fn := fun _ => fun
  | [d1, d2] => { results := [.lit (.bool false)], args := [d1, d2] }
  | _ => none }
def MacWordsWrongFalsely : Prop := macWordsRow.holds Try.pinned (OpenSpec.ofChange macWordsWrong)

/-- 'subwaylaw03.MacSame': WHATEVER THE INPUT: true; the input reads as it did. -/
def macSameSpec : ChangeSpec := { name := "macSame", fn := fun _ => fun
  | [d1, d2, d3] => { results := [.lit (.bool true)], args := [d1, d2, d3] }
  | _ => none }
def macSameRow : OpenClaim := { program := "ytbfccpbijimjmaa", sum := "e33a298f75aa965561d2efb7221110ff8dc68784db14112d80ed5ec9beac5dc0", func := "subway/subwaylaw03.MacSame", spec := "macSame", unfollowed := true, recurses := true, apart := false }
def MacSameSaid : Prop := macSameRow.holds Try.pinned (OpenSpec.ofChange macSameSpec)

/-- ITS FALSE NEIGHBOUR: 'it returns false'. Refute it at one input. -/
def macSameWrong : ChangeSpec := { name := "macSame", fn := fun _ => fun
  | [d1, d2, d3] => { results := [.lit (.bool false)], args := [d1, d2, d3] }
  | _ => none }
def MacSameWrongFalsely : Prop := macSameRow.holds Try.pinned (OpenSpec.ofChange macSameWrong)

/-- 'subwaylaw03.MacInner': WHATEVER THE INPUT: true; the input reads as it did. -/
def macInnerSpec : ChangeSpec := { name := "macInner", fn := fun _ => fun
  | [d1, d2] => { results := [.lit (.bool true)], args := [d1, d2] }
  | _ => none }
def macInnerRow : OpenClaim := { program := "ytbfccpbijimjmaa", sum := "e33a298f75aa965561d2efb7221110ff8dc68784db14112d80ed5ec9beac5dc0", func := "subway/subwaylaw03.MacInner", spec := "macInner", unfollowed := true, recurses := true, apart := false }
def MacInnerSaid : Prop := macInnerRow.holds Try.pinned (OpenSpec.ofChange macInnerSpec)

/-- ITS FALSE NEIGHBOUR: 'it returns false'. Refute it at one input. -/
def macInnerWrong : ChangeSpec := { name := "macInner", fn := fun _ => fun
  | [d1, d2] => { results := [.lit (.bool false)], args := [d1, d2] }
  | _ => none }
def MacInnerWrongFalsely : Prop := macInnerRow.holds Try.pinned (OpenSpec.ofChange macInnerWrong)

/-- 'subwaylaw03.MacStill': WHATEVER THE INPUT: true; the input reads as it did. -/
def macStillSpec : ChangeSpec := { name := "macStill", fn := fun _ => fun
  | [d1, d2, d3] => { results := [.lit (.bool true)], args := [d1, d2, d3] }
  | _ => none }
def macStillRow : OpenClaim := { program := "ytbfccpbijimjmaa", sum := "e33a298f75aa965561d2efb7221110ff8dc68784db14112d80ed5ec9beac5dc0", func := "subway/subwaylaw03.MacStill", spec := "macStill", unfollowed := true, recurses := true, apart := false }
def MacStillSaid : Prop := macStillRow.holds Try.pinned (OpenSpec.ofChange macStillSpec)

/-- ITS FALSE NEIGHBOUR: 'it returns false'. Refute it at one input. -/
def macStillWrong : ChangeSpec := { name := "macStill", fn := fun _ => fun
  | [d1, d2, d3] => { results := [.lit (.bool false)], args := [d1, d2, d3] }
  | _ => none }
def MacStillWrongFalsely : Prop := macStillRow.holds Try.pinned (OpenSpec.ofChange macStillWrong)

/- THE SECOND FORM. 'bulk': how many values and letters a reading holds, each counted each time it is reached (what is shared counts as often as it is met; a slice's spare places count too). A statement '..UptoSaid' is the law's where the arguments, and the package variables that the reading takes, are together of bulk at most 1048576: NARROWER than '..Said'. Prove '..Said' where nothing that the law and all that it calls make is longer than what came in: it says more and counts as full. Else prove '..UptoSaid'. A law counts once. -/
mutual
def uptoBulk {H : Type} : DataW H → Nat
  | .lit (.string bytes) => bytes.length + 1
  | .lit _ => 1
  | .nil => 1
  | .ptr d => uptoBulk d + 1
  | .slice elems spare => uptoBulkAll elems + uptoBulkAll spare + 1
  | .agg parts => uptoBulkAll parts + 1
  | .iface _ d => uptoBulk d + 1
  | .map entries => uptoBulkEntries entries + 1
  | .held _ => 1
def uptoBulkAll {H : Type} : List (DataW H) → Nat
  | [] => 0
  | d :: r => uptoBulk d + uptoBulkAll r
def uptoBulkEntries {H : Type} : List (Lit × DataW H) → Nat
  | [] => 0
  | x :: r => uptoBulkEntry x + uptoBulkEntries r
def uptoBulkEntry {H : Type} : Lit × DataW H → Nat
  | (.string bytes, d) => bytes.length + uptoBulk d + 1
  | (_, d) => uptoBulk d + 1
 end
def uptoSmall : (H : Type) → List (DataW H) → Bool := fun _ ds => decide (uptoBulkAll ds ≤ 1048576)
def OpenSpec.upto (s : _root_.Go.ChangeSpec) : _root_.Go.OpenSpec := { _root_.Go.OpenSpec.ofChange s with cond := some uptoSmall }

/-- 'subwaylaw03.MacTells', WHERE WHAT IT READS IS OF BULK AT MOST 1048576: true; the input reads as it did. -/
def macTellsUptoRow : OpenClaim := { program := "ytbfccpbijimjmaa", sum := "e33a298f75aa965561d2efb7221110ff8dc68784db14112d80ed5ec9beac5dc0", func := "subway/subwaylaw03.MacTells", spec := "macTells", unfollowed := true, recurses := true, apart := false, narrowed := true }
def MacTellsUptoSaid : Prop := macTellsUptoRow.holds Try.pinned (OpenSpec.upto macTellsSpec)

/-- 'subwaylaw03.MacKeys', WHERE WHAT IT READS IS OF BULK AT MOST 1048576: true; the input reads as it did. -/
def macKeysUptoRow : OpenClaim := { program := "ytbfccpbijimjmaa", sum := "e33a298f75aa965561d2efb7221110ff8dc68784db14112d80ed5ec9beac5dc0", func := "subway/subwaylaw03.MacKeys", spec := "macKeys", unfollowed := true, recurses := true, apart := false, narrowed := true }
def MacKeysUptoSaid : Prop := macKeysUptoRow.holds Try.pinned (OpenSpec.upto macKeysSpec)

/-- 'subwaylaw03.MacWords', WHERE WHAT IT READS IS OF BULK AT MOST 1048576: true; the input reads as it did. -/
def macWordsUptoRow : OpenClaim := { program := "ytbfccpbijimjmaa", sum := "e33a298f75aa965561d2efb7221110ff8dc68784db14112d80ed5ec9beac5dc0", func := "subway/subwaylaw03.MacWords", spec := "macWords", unfollowed := true, recurses := true, apart := false, narrowed := true }
def MacWordsUptoSaid : Prop := macWordsUptoRow.holds Try.pinned (OpenSpec.upto macWordsSpec)

/-- 'subwaylaw03.MacSame', WHERE WHAT IT READS IS OF BULK AT MOST 1048576: true; the input reads as it did. -/
def macSameUptoRow : OpenClaim := { program := "ytbfccpbijimjmaa", sum := "e33a298f75aa965561d2efb7221110ff8dc68784db14112d80ed5ec9beac5dc0", func := "subway/subwaylaw03.MacSame", spec := "macSame", unfollowed := true, recurses := true, apart := false, narrowed := true }
def MacSameUptoSaid : Prop := macSameUptoRow.holds Try.pinned (OpenSpec.upto macSameSpec)

/-- 'subwaylaw03.MacInner', WHERE WHAT IT READS IS OF BULK AT MOST 1048576: true; the input reads as it did. -/
def macInnerUptoRow : OpenClaim := { program := "ytbfccpbijimjmaa", sum := "e33a298f75aa965561d2efb7221110ff8dc68784db14112d80ed5ec9beac5dc0", func := "subway/subwaylaw03.MacInner", spec := "macInner", unfollowed := true, recurses := true, apart := false, narrowed := true }
def MacInnerUptoSaid : Prop := macInnerUptoRow.holds Try.pinned (OpenSpec.upto macInnerSpec)

/-- 'subwaylaw03.MacStill', WHERE WHAT IT READS IS OF BULK AT MOST 1048576: true; the input reads as it did. -/
def macStillUptoRow : OpenClaim := { program := "ytbfccpbijimjmaa", sum := "e33a298f75aa965561d2efb7221110ff8dc68784db14112d80ed5ec9beac5dc0", func := "subway/subwaylaw03.MacStill", spec := "macStill", unfollowed := true, recurses := true, apart := false, narrowed := true }
def MacStillUptoSaid : Prop := macStillUptoRow.holds Try.pinned (OpenSpec.upto macStillSpec)

end Rows
end Go.Proofs.Ytbfccpbijimjmaa
