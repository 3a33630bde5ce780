/-
  No cell of these rows narrows 'for every input' (looked for: loops, veiled, ifaces, maps, wideKeys, modest, calm, conditions, laid).
  DERIVED. THE GIVEN ROWS OF THIS SEAT. 6 by the template 'for every input the law returns true; each argument reads behind the call as it read before'; 0 by the template 'total and deterministic' (their statements: YthnalgmkflflnaaTotals.lean).
  GIVEN WITH THE SEED: the statements are not yours to turn. If you find one false, say at which input.
  Laid BY PROGRAM, IN A SANDBOX (cutbox-rows.mjs): the forced cells as the released guide's own fill.sh prints them over the translation cf4ba806da31f3fc… (all of the seat's roots in one cut). By AI agents, Wed Nov 11 2026. No macro, syntax, notation, axiom, sorry.
-/
import Derived.Test.YthnalgmkflflnaaChecked
import GoSem.Claim
import GoSem.ClaimJoined
import GoSem.ClaimMapViews
import Derived.JoinedTies
import Derived.KernelRfl
namespace Go.Proofs.Ythnalgmkflflnaa
/- THE CELL 'sum', in the pinned program and in every row, IS THE sha256 OF THE DUMP (.gsa) THAT YthnalgmkflflnaaProg.lean LOADS. Nothing in Lean hashes anything: it is a label: what it is worth is what the hold of that sum in a sandbox is worth. -/
noncomputable def Try.pinned : Pinned := { name := "ythnalgmkflflnaa", sum := "cf4ba806da31f3fc4213732abfb4b2f6e04095b078befc929da0edbaff9f8e50", checked := Try.checked }
namespace Rows
def none {H : Type} : Left H := { results := [], args := [] }

/-- 'subwaylaw02.DigestTells': WHATEVER THE INPUT: true; the input reads as it did. -/
def digestTellsSpec : ChangeSpec := { name := "digestTells", fn := fun _ => fun
  | [d1, d2] => { results := [.lit (.bool true)], args := [d1, d2] }
  | _ => none }
def digestTellsRow : OpenClaim := { program := "ythnalgmkflflnaa", sum := "cf4ba806da31f3fc4213732abfb4b2f6e04095b078befc929da0edbaff9f8e50", func := "subway/subwaylaw02.DigestTells", spec := "digestTells", inPlace := ["internal/bytealg.IndexByteString"], apart := false }
def DigestTellsSaid : Prop := digestTellsRow.holds Try.pinned (OpenSpec.ofChange digestTellsSpec)

/-- ITS FALSE NEIGHBOUR: 'it returns false'. Refute it at one input. -/
def digestTellsWrong : ChangeSpec := { name := "digestTells", fn := fun _ => fun
  | [d1, d2] => { results := [.lit (.bool false)], args := [d1, d2] }
  | _ => none }
def DigestTellsWrongFalsely : Prop := digestTellsRow.holds Try.pinned (OpenSpec.ofChange digestTellsWrong)

/-- 'subwaylaw02.DigestLengths': WHATEVER THE INPUT: true; the input reads as it did. -/
def digestLengthsSpec : ChangeSpec := { name := "digestLengths", fn := fun _ => fun
  | [d1, d2] => { results := [.lit (.bool true)], args := [d1, d2] }
  | _ => none }
def digestLengthsRow : OpenClaim := { program := "ythnalgmkflflnaa", sum := "cf4ba806da31f3fc4213732abfb4b2f6e04095b078befc929da0edbaff9f8e50", func := "subway/subwaylaw02.DigestLengths", spec := "digestLengths", inPlace := ["internal/bytealg.IndexByteString"], apart := false }
def DigestLengthsSaid : Prop := digestLengthsRow.holds Try.pinned (OpenSpec.ofChange digestLengthsSpec)

/-- ITS FALSE NEIGHBOUR: 'it returns false'. Refute it at one input. -/
def digestLengthsWrong : ChangeSpec := { name := "digestLengths", fn := fun _ => fun
  | [d1, d2] => { results := [.lit (.bool false)], args := [d1, d2] }
  | _ => none }
def DigestLengthsWrongFalsely : Prop := digestLengthsRow.holds Try.pinned (OpenSpec.ofChange digestLengthsWrong)

/-- 'subwaylaw02.DigestBack': WHATEVER THE INPUT: true; the input reads as it did. -/
def digestBackSpec : ChangeSpec := { name := "digestBack", fn := fun _ => fun
  | [d1, d2, d3, d4] => { results := [.lit (.bool true)], args := [d1, d2, d3, d4] }
  | _ => none }
def digestBackRow : OpenClaim := { program := "ythnalgmkflflnaa", sum := "cf4ba806da31f3fc4213732abfb4b2f6e04095b078befc929da0edbaff9f8e50", func := "subway/subwaylaw02.DigestBack", spec := "digestBack", inPlace := ["internal/bytealg.IndexByteString"], apart := false }
def DigestBackSaid : Prop := digestBackRow.holds Try.pinned (OpenSpec.ofChange digestBackSpec)

/-- ITS FALSE NEIGHBOUR: 'it returns false'. Refute it at one input. -/
def digestBackWrong : ChangeSpec := { name := "digestBack", fn := fun _ => fun
  | [d1, d2, d3, d4] => { results := [.lit (.bool false)], args := [d1, d2, d3, d4] }
  | _ => none }
def DigestBackWrongFalsely : Prop := digestBackRow.holds Try.pinned (OpenSpec.ofChange digestBackWrong)

/-- 'subwaylaw02.DigestStill': WHATEVER THE INPUT: true; the input reads as it did. -/
def digestStillSpec : ChangeSpec := { name := "digestStill", fn := fun _ => fun
  | [d1, d2] => { results := [.lit (.bool true)], args := [d1, d2] }
  | _ => none }
def digestStillRow : OpenClaim := { program := "ythnalgmkflflnaa", sum := "cf4ba806da31f3fc4213732abfb4b2f6e04095b078befc929da0edbaff9f8e50", func := "subway/subwaylaw02.DigestStill", spec := "digestStill", inPlace := ["internal/bytealg.IndexByteString"], apart := false }
def DigestStillSaid : Prop := digestStillRow.holds Try.pinned (OpenSpec.ofChange digestStillSpec)

/-- ITS FALSE NEIGHBOUR: 'it returns false'. Refute it at one input. -/
def digestStillWrong : ChangeSpec := { name := "digestStill", fn := fun _ => fun
  | [d1, d2] => { results := [.lit (.bool false)], args := [d1, d2] }
  | _ => none }
def DigestStillWrongFalsely : Prop := digestStillRow.holds Try.pinned (OpenSpec.ofChange digestStillWrong)

/-- 'subwaylaw02.DigestJoin': WHATEVER THE INPUT: true; the input reads as it did. -/
def digestJoinSpec : ChangeSpec := { name := "digestJoin", fn := fun _ => fun
  | [d1, d2] => { results := [.lit (.bool true)], args := [d1, d2] }
  | _ => none }
def digestJoinRow : OpenClaim := { program := "ythnalgmkflflnaa", sum := "cf4ba806da31f3fc4213732abfb4b2f6e04095b078befc929da0edbaff9f8e50", func := "subway/subwaylaw02.DigestJoin", spec := "digestJoin", inPlace := ["internal/bytealg.IndexByteString"], apart := false }
def DigestJoinSaid : Prop := digestJoinRow.holds Try.pinned (OpenSpec.ofChange digestJoinSpec)

/-- ITS FALSE NEIGHBOUR: 'it returns false'. Refute it at one input. -/
def digestJoinWrong : ChangeSpec := { name := "digestJoin", fn := fun _ => fun
  | [d1, d2] => { results := [.lit (.bool false)], args := [d1, d2] }
  | _ => none }
def DigestJoinWrongFalsely : Prop := digestJoinRow.holds Try.pinned (OpenSpec.ofChange digestJoinWrong)

/-- 'subwaylaw02.DigestDigits': WHATEVER THE INPUT: true; the input reads as it did. -/
def digestDigitsSpec : ChangeSpec := { name := "digestDigits", fn := fun _ => fun
  | [d] => { results := [.lit (.bool true)], args := [d] }
  | _ => none }
def digestDigitsRow : OpenClaim := { program := "ythnalgmkflflnaa", sum := "cf4ba806da31f3fc4213732abfb4b2f6e04095b078befc929da0edbaff9f8e50", func := "subway/subwaylaw02.DigestDigits", spec := "digestDigits", inPlace := ["internal/bytealg.IndexByteString"], apart := false }
def DigestDigitsSaid : Prop := digestDigitsRow.holds Try.pinned (OpenSpec.ofChange digestDigitsSpec)

/-- ITS FALSE NEIGHBOUR: 'it returns false'. Refute it at one input. -/
def digestDigitsWrong : ChangeSpec := { name := "digestDigits", fn := fun _ => fun
  | [d] => { results := [.lit (.bool false)], args := [d] }
  | _ => none }
def DigestDigitsWrongFalsely : Prop := digestDigitsRow.holds Try.pinned (OpenSpec.ofChange digestDigitsWrong)

/- THE SECOND FORM. 'bulk': how many values and letters a reading holds, each counted each time it is reached (what is shared counts as often as it is met; a slice's spare places count too). A statement '..UptoSaid' is the law's where the arguments, and the package variables that the reading takes, are together of bulk at most 1048576: NARROWER than '..Said'. Prove '..Said' where nothing that the law and all that it calls make is longer than what came in: it says more and counts as full. Else prove '..UptoSaid'. A law counts once. -/
mutual
def uptoBulk {H : Type} : DataW H → Nat
  | .lit (.string bytes) => bytes.length + 1
  | .lit _ => 1
  | .nil => 1
  | .ptr d => uptoBulk d + 1
  | .slice elems spare => uptoBulkAll elems + uptoBulkAll spare + 1
  | .agg parts => uptoBulkAll parts + 1
  | .iface _ d => uptoBulk d + 1
  | .map entries => uptoBulkEntries entries + 1
  | .held _ => 1
def uptoBulkAll {H : Type} : List (DataW H) → Nat
  | [] => 0
  | d :: r => uptoBulk d + uptoBulkAll r
def uptoBulkEntries {H : Type} : List (Lit × DataW H) → Nat
  | [] => 0
  | x :: r => uptoBulkEntry x + uptoBulkEntries r
def uptoBulkEntry {H : Type} : Lit × DataW H → Nat
  | (.string bytes, d) => bytes.length + uptoBulk d + 1
  | (_, d) => uptoBulk d + 1
 end
def uptoSmall : (H : Type) → List (DataW H) → Bool := fun _ ds => decide (uptoBulkAll ds ≤ 1048576)
def OpenSpec.upto (s : _root_.Go.ChangeSpec) : _root_.Go.OpenSpec := { _root_.Go.OpenSpec.ofChange s with cond := some uptoSmall }

/-- 'subwaylaw02.DigestTells', WHERE WHAT IT READS IS OF BULK AT MOST 1048576: true; the input reads as it did. -/
def digestTellsUptoRow : OpenClaim := { program := "ythnalgmkflflnaa", sum := "cf4ba806da31f3fc4213732abfb4b2f6e04095b078befc929da0edbaff9f8e50", func := "subway/subwaylaw02.DigestTells", spec := "digestTells", inPlace := ["internal/bytealg.IndexByteString"], apart := false, narrowed := true }
def DigestTellsUptoSaid : Prop := digestTellsUptoRow.holds Try.pinned (OpenSpec.upto digestTellsSpec)

/-- 'subwaylaw02.DigestLengths', WHERE WHAT IT READS IS OF BULK AT MOST 1048576: true; the input reads as it did. -/
def digestLengthsUptoRow : OpenClaim := { program := "ythnalgmkflflnaa", sum := "cf4ba806da31f3fc4213732abfb4b2f6e04095b078befc929da0edbaff9f8e50", func := "subway/subwaylaw02.DigestLengths", spec := "digestLengths", inPlace := ["internal/bytealg.IndexByteString"], apart := false, narrowed := true }
def DigestLengthsUptoSaid : Prop := digestLengthsUptoRow.holds Try.pinned (OpenSpec.upto digestLengthsSpec)

/-- 'subwaylaw02.DigestBack', WHERE WHAT IT READS IS OF BULK AT MOST 1048576: true; the input reads as it did. -/
def digestBackUptoRow : OpenClaim := { program := "ythnalgmkflflnaa", sum := "cf4ba806da31f3fc4213732abfb4b2f6e04095b078befc929da0edbaff9f8e50", func := "subway/subwaylaw02.DigestBack", spec := "digestBack", inPlace := ["internal/bytealg.IndexByteString"], apart := false, narrowed := true }
def DigestBackUptoSaid : Prop := digestBackUptoRow.holds Try.pinned (OpenSpec.upto digestBackSpec)

/-- 'subwaylaw02.DigestStill', WHERE WHAT IT READS IS OF BULK AT MOST 1048576: true; the input reads as it did. -/
def digestStillUptoRow : OpenClaim := { program := "ythnalgmkflflnaa", sum := "cf4ba806da31f3fc4213732abfb4b2f6e04095b078befc929da0edbaff9f8e50", func := "subway/subwaylaw02.DigestStill", spec := "digestStill", inPlace := ["internal/bytealg.IndexByteString"], apart := false, narrowed := true }
def DigestStillUptoSaid : Prop := digestStillUptoRow.holds Try.pinned (OpenSpec.upto digestStillSpec)

/-- 'subwaylaw02.DigestJoin', WHERE WHAT IT READS IS OF BULK AT MOST 1048576: true; the input reads as it did. -/
def digestJoinUptoRow : OpenClaim := { program := "ythnalgmkflflnaa", sum := "cf4ba806da31f3fc4213732abfb4b2f6e04095b078befc929da0edbaff9f8e50", func := "subway/subwaylaw02.DigestJoin", spec := "digestJoin", inPlace := ["internal/bytealg.IndexByteString"], apart := false, narrowed := true }
def DigestJoinUptoSaid : Prop := digestJoinUptoRow.holds Try.pinned (OpenSpec.upto digestJoinSpec)

/-- 'subwaylaw02.DigestDigits', WHERE WHAT IT READS IS OF BULK AT MOST 1048576: true; the input reads as it did. -/
def digestDigitsUptoRow : OpenClaim := { program := "ythnalgmkflflnaa", sum := "cf4ba806da31f3fc4213732abfb4b2f6e04095b078befc929da0edbaff9f8e50", func := "subway/subwaylaw02.DigestDigits", spec := "digestDigits", inPlace := ["internal/bytealg.IndexByteString"], apart := false, narrowed := true }
def DigestDigitsUptoSaid : Prop := digestDigitsUptoRow.holds Try.pinned (OpenSpec.upto digestDigitsSpec)

end Rows
end Go.Proofs.Ythnalgmkflflnaa
