/-
  No cell of these rows narrows 'for every input' (looked for: loops, veiled, ifaces, maps, wideKeys, modest, calm, conditions, laid).
  DERIVED. THE GIVEN ROWS OF THIS SEAT. 5 by the template 'for every input the law returns true; each argument reads behind the call as it read before'; 0 by the template 'total and deterministic' (their statements: YtidilepbepkpiaaTotals.lean).
  GIVEN WITH THE SEED: the statements are not yours to turn. If you find one false, say at which input.
  Laid BY PROGRAM, IN A SANDBOX (cutbox-rows.mjs): the forced cells as the released guide's own fill.sh prints them over the translation ca34bd7aea86a297… (all of the seat's roots in one cut). By AI agents, Wed Nov 11 2026. No macro, syntax, notation, axiom, sorry.
-/
import Derived.Test.YtidilepbepkpiaaChecked
import GoSem.Claim
import GoSem.ClaimJoined
import GoSem.ClaimMapViews
import Derived.JoinedTies
import Derived.KernelRfl
namespace Go.Proofs.Ytidilepbepkpiaa
/- THE CELL 'sum', in the pinned program and in every row, IS THE sha256 OF THE DUMP (.gsa) THAT YtidilepbepkpiaaProg.lean LOADS. Nothing in Lean hashes anything: it is a label: what it is worth is what the hold of that sum in a sandbox is worth. -/
noncomputable def Try.pinned : Pinned := { name := "ytidilepbepkpiaa", sum := "ca34bd7aea86a2972f00080f3123acdeeeb11fc0be7b14ba750ed8b0c7d6103e", checked := Try.checked }
namespace Rows
def none {H : Type} : Left H := { results := [], args := [] }

/-- 'blockwaylaw04.ReachReverses': WHATEVER THE INPUT: true; the input reads as it did. -/
def reachReversesSpec : ChangeSpec := { name := "reachReverses", fn := fun _ => fun
  | [d] => { results := [.lit (.bool true)], args := [d] }
  | _ => none }
def reachReversesRow : OpenClaim := { program := "ytidilepbepkpiaa", sum := "ca34bd7aea86a2972f00080f3123acdeeeb11fc0be7b14ba750ed8b0c7d6103e", func := "blockway/blockwaylaw04.ReachReverses", spec := "reachReverses", apart := false }
def ReachReversesSaid : Prop := reachReversesRow.holds Try.pinned (OpenSpec.ofChange reachReversesSpec)

/-- ITS FALSE NEIGHBOUR: 'it returns false'. Refute it at one input. -/
def reachReversesWrong : ChangeSpec := { name := "reachReverses", fn := fun _ => fun
  | [d] => { results := [.lit (.bool false)], args := [d] }
  | _ => none }
def ReachReversesWrongFalsely : Prop := reachReversesRow.holds Try.pinned (OpenSpec.ofChange reachReversesWrong)

/-- 'blockwaylaw04.ReachClosed': WHATEVER THE INPUT: true; the input reads as it did. -/
def reachClosedSpec : ChangeSpec := { name := "reachClosed", fn := fun _ => fun
  | [d] => { results := [.lit (.bool true)], args := [d] }
  | _ => none }
def reachClosedRow : OpenClaim := { program := "ytidilepbepkpiaa", sum := "ca34bd7aea86a2972f00080f3123acdeeeb11fc0be7b14ba750ed8b0c7d6103e", func := "blockway/blockwaylaw04.ReachClosed", spec := "reachClosed", apart := false }
def ReachClosedSaid : Prop := reachClosedRow.holds Try.pinned (OpenSpec.ofChange reachClosedSpec)

/-- ITS FALSE NEIGHBOUR: 'it returns false'. Refute it at one input. -/
def reachClosedWrong : ChangeSpec := { name := "reachClosed", fn := fun _ => fun
  | [d] => { results := [.lit (.bool false)], args := [d] }
  | _ => none }
def ReachClosedWrongFalsely : Prop := reachClosedRow.holds Try.pinned (OpenSpec.ofChange reachClosedWrong)

/-- 'blockwaylaw04.ReachMutual': WHATEVER THE INPUT: true; the input reads as it did. -/
def reachMutualSpec : ChangeSpec := { name := "reachMutual", fn := fun _ => fun
  | [d] => { results := [.lit (.bool true)], args := [d] }
  | _ => none }
def reachMutualRow : OpenClaim := { program := "ytidilepbepkpiaa", sum := "ca34bd7aea86a2972f00080f3123acdeeeb11fc0be7b14ba750ed8b0c7d6103e", func := "blockway/blockwaylaw04.ReachMutual", spec := "reachMutual", apart := false }
def ReachMutualSaid : Prop := reachMutualRow.holds Try.pinned (OpenSpec.ofChange reachMutualSpec)

/-- ITS FALSE NEIGHBOUR: 'it returns false'. Refute it at one input. -/
def reachMutualWrong : ChangeSpec := { name := "reachMutual", fn := fun _ => fun
  | [d] => { results := [.lit (.bool false)], args := [d] }
  | _ => none }
def ReachMutualWrongFalsely : Prop := reachMutualRow.holds Try.pinned (OpenSpec.ofChange reachMutualWrong)

/-- 'blockwaylaw04.ReachFinds': WHATEVER THE INPUT: true; the input reads as it did. -/
def reachFindsSpec : ChangeSpec := { name := "reachFinds", fn := fun _ => fun
  | [d1, d2, d3, d4] => { results := [.lit (.bool true)], args := [d1, d2, d3, d4] }
  | _ => none }
def reachFindsRow : OpenClaim := { program := "ytidilepbepkpiaa", sum := "ca34bd7aea86a2972f00080f3123acdeeeb11fc0be7b14ba750ed8b0c7d6103e", func := "blockway/blockwaylaw04.ReachFinds", spec := "reachFinds", apart := false }
def ReachFindsSaid : Prop := reachFindsRow.holds Try.pinned (OpenSpec.ofChange reachFindsSpec)

/-- ITS FALSE NEIGHBOUR: 'it returns false'. Refute it at one input. -/
def reachFindsWrong : ChangeSpec := { name := "reachFinds", fn := fun _ => fun
  | [d1, d2, d3, d4] => { results := [.lit (.bool false)], args := [d1, d2, d3, d4] }
  | _ => none }
def ReachFindsWrongFalsely : Prop := reachFindsRow.holds Try.pinned (OpenSpec.ofChange reachFindsWrong)

/-- 'blockwaylaw04.ReachShuts': WHATEVER THE INPUT: true; the input reads as it did. -/
def reachShutsSpec : ChangeSpec := { name := "reachShuts", fn := fun _ => fun
  | [d] => { results := [.lit (.bool true)], args := [d] }
  | _ => none }
def reachShutsRow : OpenClaim := { program := "ytidilepbepkpiaa", sum := "ca34bd7aea86a2972f00080f3123acdeeeb11fc0be7b14ba750ed8b0c7d6103e", func := "blockway/blockwaylaw04.ReachShuts", spec := "reachShuts", apart := false }
def ReachShutsSaid : Prop := reachShutsRow.holds Try.pinned (OpenSpec.ofChange reachShutsSpec)

/-- ITS FALSE NEIGHBOUR: 'it returns false'. Refute it at one input. -/
def reachShutsWrong : ChangeSpec := { name := "reachShuts", fn := fun _ => fun
  | [d] => { results := [.lit (.bool false)], args := [d] }
  | _ => none }
def ReachShutsWrongFalsely : Prop := reachShutsRow.holds Try.pinned (OpenSpec.ofChange reachShutsWrong)

/- THE SECOND FORM. 'bulk': how many values and letters a reading holds, each counted each time it is reached (what is shared counts as often as it is met; a slice's spare places count too). A statement '..UptoSaid' is the law's where the arguments, and the package variables that the reading takes, are together of bulk at most 1048576: NARROWER than '..Said'. Prove '..Said' where nothing that the law and all that it calls make is longer than what came in: it says more and counts as full. Else prove '..UptoSaid'. A law counts once. -/
mutual
def uptoBulk {H : Type} : DataW H → Nat
  | .lit (.string bytes) => bytes.length + 1
  | .lit _ => 1
  | .nil => 1
  | .ptr d => uptoBulk d + 1
  | .slice elems spare => uptoBulkAll elems + uptoBulkAll spare + 1
  | .agg parts => uptoBulkAll parts + 1
  | .iface _ d => uptoBulk d + 1
  | .map entries => uptoBulkEntries entries + 1
  | .held _ => 1
def uptoBulkAll {H : Type} : List (DataW H) → Nat
  | [] => 0
  | d :: r => uptoBulk d + uptoBulkAll r
def uptoBulkEntries {H : Type} : List (Lit × DataW H) → Nat
  | [] => 0
  | x :: r => uptoBulkEntry x + uptoBulkEntries r
def uptoBulkEntry {H : Type} : Lit × DataW H → Nat
  | (.string bytes, d) => bytes.length + uptoBulk d + 1
  | (_, d) => uptoBulk d + 1
 end
def uptoSmall : (H : Type) → List (DataW H) → Bool := fun _ ds => decide (uptoBulkAll ds ≤ 1048576)
def OpenSpec.upto (s : _root_.Go.ChangeSpec) : _root_.Go.OpenSpec := { _root_.Go.OpenSpec.ofChange s with cond := some uptoSmall }

/-- 'blockwaylaw04.ReachReverses', WHERE WHAT IT READS IS OF BULK AT MOST 1048576: true; the input reads as it did. -/
def reachReversesUptoRow : OpenClaim := { program := "ytidilepbepkpiaa", sum := "ca34bd7aea86a2972f00080f3123acdeeeb11fc0be7b14ba750ed8b0c7d6103e", func := "blockway/blockwaylaw04.ReachReverses", spec := "reachReverses", apart := false, narrowed := true }
def ReachReversesUptoSaid : Prop := reachReversesUptoRow.holds Try.pinned (OpenSpec.upto reachReversesSpec)

/-- 'blockwaylaw04.ReachClosed', WHERE WHAT IT READS IS OF BULK AT MOST 1048576: true; the input reads as it did. -/
def reachClosedUptoRow : OpenClaim := { program := "ytidilepbepkpiaa", sum := "ca34bd7aea86a2972f00080f3123acdeeeb11fc0be7b14ba750ed8b0c7d6103e", func := "blockway/blockwaylaw04.ReachClosed", spec := "reachClosed", apart := false, narrowed := true }
def ReachClosedUptoSaid : Prop := reachClosedUptoRow.holds Try.pinned (OpenSpec.upto reachClosedSpec)

/-- 'blockwaylaw04.ReachMutual', WHERE WHAT IT READS IS OF BULK AT MOST 1048576: true; the input reads as it did. -/
def reachMutualUptoRow : OpenClaim := { program := "ytidilepbepkpiaa", sum := "ca34bd7aea86a2972f00080f3123acdeeeb11fc0be7b14ba750ed8b0c7d6103e", func := "blockway/blockwaylaw04.ReachMutual", spec := "reachMutual", apart := false, narrowed := true }
def ReachMutualUptoSaid : Prop := reachMutualUptoRow.holds Try.pinned (OpenSpec.upto reachMutualSpec)

/-- 'blockwaylaw04.ReachFinds', WHERE WHAT IT READS IS OF BULK AT MOST 1048576: true; the input reads as it did. -/
def reachFindsUptoRow : OpenClaim := { program := "ytidilepbepkpiaa", sum := "ca34bd7aea86a2972f00080f3123acdeeeb11fc0be7b14ba750ed8b0c7d6103e", func := "blockway/blockwaylaw04.ReachFinds", spec := "reachFinds", apart := false, narrowed := true }
def ReachFindsUptoSaid : Prop := reachFindsUptoRow.holds Try.pinned (OpenSpec.upto reachFindsSpec)

/-- 'blockwaylaw04.ReachShuts', WHERE WHAT IT READS IS OF BULK AT MOST 1048576: true; the input reads as it did. -/
def reachShutsUptoRow : OpenClaim := { program := "ytidilepbepkpiaa", sum := "ca34bd7aea86a2972f00080f3123acdeeeb11fc0be7b14ba750ed8b0c7d6103e", func := "blockway/blockwaylaw04.ReachShuts", spec := "reachShuts", apart := false, narrowed := true }
def ReachShutsUptoSaid : Prop := reachShutsUptoRow.holds Try.pinned (OpenSpec.upto reachShutsSpec)

end Rows
end Go.Proofs.Ytidilepbepkpiaa
