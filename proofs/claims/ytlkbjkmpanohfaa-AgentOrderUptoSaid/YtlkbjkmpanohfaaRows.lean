/-
  No cell of these rows narrows 'for every input' (looked for: loops, veiled, ifaces, maps, wideKeys, modest, calm, conditions, laid).
  DERIVED. THE GIVEN ROWS OF THIS SEAT. 3 by the template 'for every input the law returns true; each argument reads behind the call as it read before'; 0 by the template 'total and deterministic' (their statements: YtlkbjkmpanohfaaTotals.lean).
  GIVEN WITH THE SEED: the statements are not yours to turn. If you find one false, say at which input.
  Laid BY PROGRAM, IN A SANDBOX (cutbox-rows.mjs): the forced cells as the released guide's own fill.sh prints them over the translation 71cb5b6872ff7c73… (all of the seat's roots in one cut). By AI agents, Wed Nov 11 2026. No macro, syntax, notation, axiom, sorry.
-/
import Derived.Test.YtlkbjkmpanohfaaChecked
import GoSem.Claim
import GoSem.ClaimJoined
import GoSem.ClaimMapViews
import Derived.JoinedTies
import Derived.KernelRfl
namespace Go.Proofs.Ytlkbjkmpanohfaa
/- THE CELL 'sum', in the pinned program and in every row, IS THE sha256 OF THE DUMP (.gsa) THAT YtlkbjkmpanohfaaProg.lean LOADS. Nothing in Lean hashes anything: it is a label: what it is worth is what the hold of that sum in a sandbox is worth. -/
noncomputable def Try.pinned : Pinned := { name := "ytlkbjkmpanohfaa", sum := "71cb5b6872ff7c73c7dc7af4ec20a442aeba3d5bee944472caddcb54e2ec43ab", checked := Try.checked }
namespace Rows
def none {H : Type} : Left H := { results := [], args := [] }

/-- 'subwaylaw20.AgentOrder': WHATEVER THE INPUT: true; the input reads as it did. -/
def agentOrderSpec : ChangeSpec := { name := "agentOrder", fn := fun _ => fun
  | [d1, d2] => { results := [.lit (.bool true)], args := [d1, d2] }
  | _ => none }
def agentOrderRow : OpenClaim := { program := "ytlkbjkmpanohfaa", sum := "71cb5b6872ff7c73c7dc7af4ec20a442aeba3d5bee944472caddcb54e2ec43ab", func := "subway/subwaylaw20.AgentOrder", spec := "agentOrder", unfollowed := true, recurses := true, apart := false }
def AgentOrderSaid : Prop := agentOrderRow.holds Try.pinned (OpenSpec.ofChange agentOrderSpec)

/-- ITS FALSE NEIGHBOUR: 'it returns false'. Refute it at one input. -/
def agentOrderWrong : ChangeSpec := { name := "agentOrder", fn := fun _ => fun
  | [d1, d2] => { results := [.lit (.bool false)], args := [d1, d2] }
  | _ => none }
def AgentOrderWrongFalsely : Prop := agentOrderRow.holds Try.pinned (OpenSpec.ofChange agentOrderWrong)

/-- 'subwaylaw20.AgentLost': WHATEVER THE INPUT: true; the input reads as it did. -/
def agentLostSpec : ChangeSpec := { name := "agentLost", fn := fun _ => fun
  | [d1, d2, d3] => { results := [.lit (.bool true)], args := [d1, d2, d3] }
  | _ => none }
def agentLostRow : OpenClaim := { program := "ytlkbjkmpanohfaa", sum := "71cb5b6872ff7c73c7dc7af4ec20a442aeba3d5bee944472caddcb54e2ec43ab", func := "subway/subwaylaw20.AgentLost", spec := "agentLost", unfollowed := true, recurses := true, apart := false }
def AgentLostSaid : Prop := agentLostRow.holds Try.pinned (OpenSpec.ofChange agentLostSpec)

/-- ITS FALSE NEIGHBOUR: 'it returns false'. Refute it at one input. -/
def agentLostWrong : ChangeSpec := { name := "agentLost", fn := fun _ => fun
  | [d1, d2, d3] => { results := [.lit (.bool false)], args := [d1, d2, d3] }
  | _ => none }
def AgentLostWrongFalsely : Prop := agentLostRow.holds Try.pinned (OpenSpec.ofChange agentLostWrong)

/-- 'subwaylaw20.AgentOther': WHATEVER THE INPUT: true; the input reads as it did. -/
def agentOtherSpec : ChangeSpec := { name := "agentOther", fn := fun _ => fun
  | [d1, d2, d3, d4] => { results := [.lit (.bool true)], args := [d1, d2, d3, d4] }
  | _ => none }
def agentOtherRow : OpenClaim := { program := "ytlkbjkmpanohfaa", sum := "71cb5b6872ff7c73c7dc7af4ec20a442aeba3d5bee944472caddcb54e2ec43ab", func := "subway/subwaylaw20.AgentOther", spec := "agentOther", unfollowed := true, recurses := true, apart := false }
def AgentOtherSaid : Prop := agentOtherRow.holds Try.pinned (OpenSpec.ofChange agentOtherSpec)

/-- ITS FALSE NEIGHBOUR: 'it returns false'. Refute it at one input. -/
def agentOtherWrong : ChangeSpec := { name := "agentOther", fn := fun _ => fun
  | [d1, d2, d3, d4] => { results := [.lit (.bool false)], args := [d1, d2, d3, d4] }
  | _ => none }
def AgentOtherWrongFalsely : Prop := agentOtherRow.holds Try.pinned (OpenSpec.ofChange agentOtherWrong)

/- THE SECOND FORM. 'bulk': how many values and letters a reading holds, each counted each time it is reached (what is shared counts as often as it is met; a slice's spare places count too). A statement '..UptoSaid' is the law's where the arguments, and the package variables that the reading takes, are together of bulk at most 1048576: NARROWER than '..Said'. Prove '..Said' where nothing that the law and all that it calls make is longer than what came in: it says more and counts as full. Else prove '..UptoSaid'. A law counts once. -/
mutual
def uptoBulk {H : Type} : DataW H → Nat
  | .lit (.string bytes) => bytes.length + 1
  | .lit _ => 1
  | .nil => 1
  | .ptr d => uptoBulk d + 1
  | .slice elems spare => uptoBulkAll elems + uptoBulkAll spare + 1
  | .agg parts => uptoBulkAll parts + 1
  | .iface _ d => uptoBulk d + 1
  | .map entries => uptoBulkEntries entries + 1
  | .held _ => 1
def uptoBulkAll {H : Type} : List (DataW H) → Nat
  | [] => 0
  | d :: r => uptoBulk d + uptoBulkAll r
def uptoBulkEntries {H : Type} : List (Lit × DataW H) → Nat
  | [] => 0
  | x :: r => uptoBulkEntry x + uptoBulkEntries r
def uptoBulkEntry {H : Type} : Lit × DataW H → Nat
  | (.string bytes, d) => bytes.length + uptoBulk d + 1
  | (_, d) => uptoBulk d + 1
 end
def uptoSmall : (H : Type) → List (DataW H) → Bool := fun _ ds => decide (uptoBulkAll ds ≤ 1048576)
def OpenSpec.upto (s : _root_.Go.ChangeSpec) : _root_.Go.OpenSpec := { _root_.Go.OpenSpec.ofChange s with cond := some uptoSmall }

/-- 'subwaylaw20.AgentOrder', WHERE WHAT IT READS IS OF BULK AT MOST 1048576: true; the input reads as it did. -/
def agentOrderUptoRow : OpenClaim := { program := "ytlkbjkmpanohfaa", sum := "71cb5b6872ff7c73c7dc7af4ec20a442aeba3d5bee944472caddcb54e2ec43ab", func := "subway/subwaylaw20.AgentOrder", spec := "agentOrder", unfollowed := true, recurses := true, apart := false, narrowed := true }
def AgentOrderUptoSaid : Prop := agentOrderUptoRow.holds Try.pinned (OpenSpec.upto agentOrderSpec)

/-- 'subwaylaw20.AgentLost', WHERE WHAT IT READS IS OF BULK AT MOST 1048576: true; the input reads as it did. -/
def agentLostUptoRow : OpenClaim := { program := "ytlkbjkmpanohfaa", sum := "71cb5b6872ff7c73c7dc7af4ec20a442aeba3d5bee944472caddcb54e2ec43ab", func := "subway/subwaylaw20.AgentLost", spec := "agentLost", unfollowed := true, recurses := true, apart := false, narrowed := true }
def AgentLostUptoSaid : Prop := agentLostUptoRow.holds Try.pinned (OpenSpec.upto agentLostSpec)

/-- 'subwaylaw20.AgentOther', WHERE WHAT IT READS IS OF BULK AT MOST 1048576: true; the input reads as it did. -/
def agentOtherUptoRow : OpenClaim := { program := "ytlkbjkmpanohfaa", sum := "71cb5b6872ff7c73c7dc7af4ec20a442aeba3d5bee944472caddcb54e2ec43ab", func := "subway/subwaylaw20.AgentOther", spec := "agentOther", unfollowed := true, recurses := true, apart := false, narrowed := true }
def AgentOtherUptoSaid : Prop := agentOtherUptoRow.holds Try.pinned (OpenSpec.upto agentOtherSpec)

end Rows
end Go.Proofs.Ytlkbjkmpanohfaa
