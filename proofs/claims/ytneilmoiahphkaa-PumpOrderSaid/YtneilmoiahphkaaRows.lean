/-
  No cell of these rows narrows 'for every input' (looked for: loops, veiled, ifaces, maps, wideKeys, modest, calm, conditions, laid).
  DERIVED. THE GIVEN ROWS OF THIS SEAT. 7 by the template 'for every input the law returns true; each argument reads behind the call as it read before'; 0 by the template 'total and deterministic' (their statements: YtneilmoiahphkaaTotals.lean).
  GIVEN WITH THE SEED: the statements are not yours to turn. If you find one false, say at which input.
  Laid BY PROGRAM, IN A SANDBOX (cutbox-rows.mjs): the forced cells as the released guide's own fill.sh prints them over the translation d9da29d745274b14… (all of the seat's roots in one cut). By AI agents, Wed Nov 11 2026. No macro, syntax, notation, axiom, sorry.
-/
import Derived.Test.YtneilmoiahphkaaChecked
import GoSem.Claim
import GoSem.ClaimJoined
import GoSem.ClaimMapViews
import Derived.JoinedTies
import Derived.KernelRfl
namespace Go.Proofs.Ytneilmoiahphkaa
/- THE CELL 'sum', in the pinned program and in every row, IS THE sha256 OF THE DUMP (.gsa) THAT YtneilmoiahphkaaProg.lean LOADS. Nothing in Lean hashes anything: it is a label: what it is worth is what the hold of that sum in a sandbox is worth. -/
noncomputable def Try.pinned : Pinned := { name := "ytneilmoiahphkaa", sum := "d9da29d745274b141e75efb5ae196c09af2255a442de813f29db59fe7ac155f2", checked := Try.checked }
namespace Rows
def none {H : Type} : Left H := { results := [], args := [] }

/-- 'subwaylaw17.PumpOrder': WHATEVER THE INPUT: true; the input reads as it did. -/
def pumpOrderSpec : ChangeSpec := { name := "pumpOrder", fn := fun _ => fun
  | [d1, d2] => { results := [.lit (.bool true)], args := [d1, d2] }
  | _ => none }
def pumpOrderRow : OpenClaim := { program := "ytneilmoiahphkaa", sum := "d9da29d745274b141e75efb5ae196c09af2255a442de813f29db59fe7ac155f2", func := "subway/subwaylaw17.PumpOrder", spec := "pumpOrder", apart := false }
def PumpOrderSaid : Prop := pumpOrderRow.holds Try.pinned (OpenSpec.ofChange pumpOrderSpec)

/-- ITS FALSE NEIGHBOUR: 'it returns false'. Refute it at one input. -/
def pumpOrderWrong : ChangeSpec := { name := "pumpOrder", fn := fun _ => fun
  | [d1, d2] => { results := [.lit (.bool false)], args := [d1, d2] }
  | _ => none }
def PumpOrderWrongFalsely : Prop := pumpOrderRow.holds Try.pinned (OpenSpec.ofChange pumpOrderWrong)

/-- 'subwaylaw17.PumpApart': WHATEVER THE INPUT: true; the input reads as it did. -/
def pumpApartSpec : ChangeSpec := { name := "pumpApart", fn := fun _ => fun
  | [d1, d2] => { results := [.lit (.bool true)], args := [d1, d2] }
  | _ => none }
def pumpApartRow : OpenClaim := { program := "ytneilmoiahphkaa", sum := "d9da29d745274b141e75efb5ae196c09af2255a442de813f29db59fe7ac155f2", func := "subway/subwaylaw17.PumpApart", spec := "pumpApart", apart := false }
def PumpApartSaid : Prop := pumpApartRow.holds Try.pinned (OpenSpec.ofChange pumpApartSpec)

/-- ITS FALSE NEIGHBOUR: 'it returns false'. Refute it at one input. -/
def pumpApartWrong : ChangeSpec := { name := "pumpApart", fn := fun _ => fun
  | [d1, d2] => { results := [.lit (.bool false)], args := [d1, d2] }
  | _ => none }
def PumpApartWrongFalsely : Prop := pumpApartRow.holds Try.pinned (OpenSpec.ofChange pumpApartWrong)

/-- 'subwaylaw17.PumpPieces': WHATEVER THE INPUT: true; the input reads as it did. -/
def pumpPiecesSpec : ChangeSpec := { name := "pumpPieces", fn := fun _ => fun
  | [d1, d2, d3, d4] => { results := [.lit (.bool true)], args := [d1, d2, d3, d4] }
  | _ => none }
def pumpPiecesRow : OpenClaim := { program := "ytneilmoiahphkaa", sum := "d9da29d745274b141e75efb5ae196c09af2255a442de813f29db59fe7ac155f2", func := "subway/subwaylaw17.PumpPieces", spec := "pumpPieces", apart := false }
def PumpPiecesSaid : Prop := pumpPiecesRow.holds Try.pinned (OpenSpec.ofChange pumpPiecesSpec)

/-- ITS FALSE NEIGHBOUR: 'it returns false'. Refute it at one input. -/
def pumpPiecesWrong : ChangeSpec := { name := "pumpPieces", fn := fun _ => fun
  | [d1, d2, d3, d4] => { results := [.lit (.bool false)], args := [d1, d2, d3, d4] }
  | _ => none }
def PumpPiecesWrongFalsely : Prop := pumpPiecesRow.holds Try.pinned (OpenSpec.ofChange pumpPiecesWrong)

/-- 'subwaylaw17.PumpSums': WHATEVER THE INPUT: true; the input reads as it did. -/
def pumpSumsSpec : ChangeSpec := { name := "pumpSums", fn := fun _ => fun
  | [d1, d2] => { results := [.lit (.bool true)], args := [d1, d2] }
  | _ => none }
def pumpSumsRow : OpenClaim := { program := "ytneilmoiahphkaa", sum := "d9da29d745274b141e75efb5ae196c09af2255a442de813f29db59fe7ac155f2", func := "subway/subwaylaw17.PumpSums", spec := "pumpSums", apart := false }
def PumpSumsSaid : Prop := pumpSumsRow.holds Try.pinned (OpenSpec.ofChange pumpSumsSpec)

/-- ITS FALSE NEIGHBOUR: 'it returns false'. Refute it at one input. -/
def pumpSumsWrong : ChangeSpec := { name := "pumpSums", fn := fun _ => fun
  | [d1, d2] => { results := [.lit (.bool false)], args := [d1, d2] }
  | _ => none }
def PumpSumsWrongFalsely : Prop := pumpSumsRow.holds Try.pinned (OpenSpec.ofChange pumpSumsWrong)

/-- 'subwaylaw17.PumpPlays': WHATEVER THE INPUT: true; the input reads as it did. -/
def pumpPlaysSpec : ChangeSpec := { name := "pumpPlays", fn := fun _ => fun
  | [d1, d2] => { results := [.lit (.bool true)], args := [d1, d2] }
  | _ => none }
def pumpPlaysRow : OpenClaim := { program := "ytneilmoiahphkaa", sum := "d9da29d745274b141e75efb5ae196c09af2255a442de813f29db59fe7ac155f2", func := "subway/subwaylaw17.PumpPlays", spec := "pumpPlays", apart := false }
def PumpPlaysSaid : Prop := pumpPlaysRow.holds Try.pinned (OpenSpec.ofChange pumpPlaysSpec)

/-- ITS FALSE NEIGHBOUR: 'it returns false'. Refute it at one input. -/
def pumpPlaysWrong : ChangeSpec := { name := "pumpPlays", fn := fun _ => fun
  | [d1, d2] => { results := [.lit (.bool false)], args := [d1, d2] }
  | _ => none }
def PumpPlaysWrongFalsely : Prop := pumpPlaysRow.holds Try.pinned (OpenSpec.ofChange pumpPlaysWrong)

/-- 'subwaylaw17.PumpEnd': WHATEVER THE INPUT: true; the input reads as it did. -/
def pumpEndSpec : ChangeSpec := { name := "pumpEnd", fn := fun _ => fun
  | [d1, d2] => { results := [.lit (.bool true)], args := [d1, d2] }
  | _ => none }
def pumpEndRow : OpenClaim := { program := "ytneilmoiahphkaa", sum := "d9da29d745274b141e75efb5ae196c09af2255a442de813f29db59fe7ac155f2", func := "subway/subwaylaw17.PumpEnd", spec := "pumpEnd", apart := false }
def PumpEndSaid : Prop := pumpEndRow.holds Try.pinned (OpenSpec.ofChange pumpEndSpec)

/-- ITS FALSE NEIGHBOUR: 'it returns false'. Refute it at one input. -/
def pumpEndWrong : ChangeSpec := { name := "pumpEnd", fn := fun _ => fun
  | [d1, d2] => { results := [.lit (.bool false)], args := [d1, d2] }
  | _ => none }
def PumpEndWrongFalsely : Prop := pumpEndRow.holds Try.pinned (OpenSpec.ofChange pumpEndWrong)

/-- 'subwaylaw17.PumpBreak': WHATEVER THE INPUT: true; the input reads as it did. -/
def pumpBreakSpec : ChangeSpec := { name := "pumpBreak", fn := fun _ => fun
  | [d1, d2, d3] => { results := [.lit (.bool true)], args := [d1, d2, d3] }
  | _ => none }
def pumpBreakRow : OpenClaim := { program := "ytneilmoiahphkaa", sum := "d9da29d745274b141e75efb5ae196c09af2255a442de813f29db59fe7ac155f2", func := "subway/subwaylaw17.PumpBreak", spec := "pumpBreak", apart := false }
def PumpBreakSaid : Prop := pumpBreakRow.holds Try.pinned (OpenSpec.ofChange pumpBreakSpec)

/-- ITS FALSE NEIGHBOUR: 'it returns false'. Refute it at one input. -/
def pumpBreakWrong : ChangeSpec := { name := "pumpBreak", fn := fun _ => fun
  | [d1, d2, d3] => { results := [.lit (.bool false)], args := [d1, d2, d3] }
  | _ => none }
def PumpBreakWrongFalsely : Prop := pumpBreakRow.holds Try.pinned (OpenSpec.ofChange pumpBreakWrong)

/- THE SECOND FORM. 'bulk': how many values and letters a reading holds, each counted each time it is reached (what is shared counts as often as it is met; a slice's spare places count too). A statement '..UptoSaid' is the law's where the arguments, and the package variables that the reading takes, are together of bulk at most 1048576: NARROWER than '..Said'. Prove '..Said' where nothing that the law and all that it calls make is longer than what came in: it says more and counts as full. Else prove '..UptoSaid'. A law counts once. -/
mutual
def uptoBulk {H : Type} : DataW H → Nat
  | .lit (.string bytes) => bytes.length + 1
  | .lit _ => 1
  | .nil => 1
  | .ptr d => uptoBulk d + 1
  | .slice elems spare => uptoBulkAll elems + uptoBulkAll spare + 1
  | .agg parts => uptoBulkAll parts + 1
  | .iface _ d => uptoBulk d + 1
  | .map entries => uptoBulkEntries entries + 1
  | .held _ => 1
def uptoBulkAll {H : Type} : List (DataW H) → Nat
  | [] => 0
  | d :: r => uptoBulk d + uptoBulkAll r
def uptoBulkEntries {H : Type} : List (Lit × DataW H) → Nat
  | [] => 0
  | x :: r => uptoBulkEntry x + uptoBulkEntries r
def uptoBulkEntry {H : Type} : Lit × DataW H → Nat
  | (.string bytes, d) => bytes.length + uptoBulk d + 1
  | (_, d) => uptoBulk d + 1
 end
def uptoSmall : (H : Type) → List (DataW H) → Bool := fun _ ds => decide (uptoBulkAll ds ≤ 1048576)
def OpenSpec.upto (s : _root_.Go.ChangeSpec) : _root_.Go.OpenSpec := { _root_.Go.OpenSpec.ofChange s with cond := some uptoSmall }

/-- 'subwaylaw17.PumpOrder', WHERE WHAT IT READS IS OF BULK AT MOST 1048576: true; the input reads as it did. -/
def pumpOrderUptoRow : OpenClaim := { program := "ytneilmoiahphkaa", sum := "d9da29d745274b141e75efb5ae196c09af2255a442de813f29db59fe7ac155f2", func := "subway/subwaylaw17.PumpOrder", spec := "pumpOrder", apart := false, narrowed := true }
def PumpOrderUptoSaid : Prop := pumpOrderUptoRow.holds Try.pinned (OpenSpec.upto pumpOrderSpec)

/-- 'subwaylaw17.PumpApart', WHERE WHAT IT READS IS OF BULK AT MOST 1048576: true; the input reads as it did. -/
def pumpApartUptoRow : OpenClaim := { program := "ytneilmoiahphkaa", sum := "d9da29d745274b141e75efb5ae196c09af2255a442de813f29db59fe7ac155f2", func := "subway/subwaylaw17.PumpApart", spec := "pumpApart", apart := false, narrowed := true }
def PumpApartUptoSaid : Prop := pumpApartUptoRow.holds Try.pinned (OpenSpec.upto pumpApartSpec)

/-- 'subwaylaw17.PumpPieces', WHERE WHAT IT READS IS OF BULK AT MOST 1048576: true; the input reads as it did. -/
def pumpPiecesUptoRow : OpenClaim := { program := "ytneilmoiahphkaa", sum := "d9da29d745274b141e75efb5ae196c09af2255a442de813f29db59fe7ac155f2", func := "subway/subwaylaw17.PumpPieces", spec := "pumpPieces", apart := false, narrowed := true }
def PumpPiecesUptoSaid : Prop := pumpPiecesUptoRow.holds Try.pinned (OpenSpec.upto pumpPiecesSpec)

/-- 'subwaylaw17.PumpSums', WHERE WHAT IT READS IS OF BULK AT MOST 1048576: true; the input reads as it did. -/
def pumpSumsUptoRow : OpenClaim := { program := "ytneilmoiahphkaa", sum := "d9da29d745274b141e75efb5ae196c09af2255a442de813f29db59fe7ac155f2", func := "subway/subwaylaw17.PumpSums", spec := "pumpSums", apart := false, narrowed := true }
def PumpSumsUptoSaid : Prop := pumpSumsUptoRow.holds Try.pinned (OpenSpec.upto pumpSumsSpec)

/-- 'subwaylaw17.PumpPlays', WHERE WHAT IT READS IS OF BULK AT MOST 1048576: true; the input reads as it did. -/
def pumpPlaysUptoRow : OpenClaim := { program := "ytneilmoiahphkaa", sum := "d9da29d745274b141e75efb5ae196c09af2255a442de813f29db59fe7ac155f2", func := "subway/subwaylaw17.PumpPlays", spec := "pumpPlays", apart := false, narrowed := true }
def PumpPlaysUptoSaid : Prop := pumpPlaysUptoRow.holds Try.pinned (OpenSpec.upto pumpPlaysSpec)

/-- 'subwaylaw17.PumpEnd', WHERE WHAT IT READS IS OF BULK AT MOST 1048576: true; the input reads as it did. -/
def pumpEndUptoRow : OpenClaim := { program := "ytneilmoiahphkaa", sum := "d9da29d745274b141e75efb5ae196c09af2255a442de813f29db59fe7ac155f2", func := "subway/subwaylaw17.PumpEnd", spec := "pumpEnd", apart := false, narrowed := true }
def PumpEndUptoSaid : Prop := pumpEndUptoRow.holds Try.pinned (OpenSpec.upto pumpEndSpec)

/-- 'subwaylaw17.PumpBreak', WHERE WHAT IT READS IS OF BULK AT MOST 1048576: true; the input reads as it did. -/
def pumpBreakUptoRow : OpenClaim := { program := "ytneilmoiahphkaa", sum := "d9da29d745274b141e75efb5ae196c09af2255a442de813f29db59fe7ac155f2", func := "subway/subwaylaw17.PumpBreak", spec := "pumpBreak", apart := false, narrowed := true }
def PumpBreakUptoSaid : Prop := pumpBreakUptoRow.holds Try.pinned (OpenSpec.upto pumpBreakSpec)

end Rows
end Go.Proofs.Ytneilmoiahphkaa
