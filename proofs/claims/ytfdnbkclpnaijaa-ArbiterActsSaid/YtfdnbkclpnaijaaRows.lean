/-
  No cell of these rows narrows 'for every input' (looked for: loops, veiled, ifaces, maps, wideKeys, modest, calm, conditions, laid).
  DERIVED. THE GIVEN ROWS OF THIS SEAT. 3 by the template 'for every input the law returns true; each argument reads behind the call as it read before'; 0 by the template 'total and deterministic' (their statements: YtfdnbkclpnaijaaTotals.lean).
  GIVEN WITH THE SEED: the statements are not yours to turn. If you find one false, say at which input.
  Laid BY PROGRAM, IN A SANDBOX (cutbox-rows.mjs): the forced cells as the released guide's own fill.sh prints them over the translation b85eba9ff20dd5f1… (all of the seat's roots in one cut). By AI agents, Wed Nov 11 2026. No macro, syntax, notation, axiom, sorry.
-/
import Derived.Test.YtfdnbkclpnaijaaChecked
import GoSem.Claim
import GoSem.ClaimJoined
import GoSem.ClaimMapViews
import Derived.JoinedTies
import Derived.KernelRfl
namespace Go.Proofs.Ytfdnbkclpnaijaa
/- THE CELL 'sum', in the pinned program and in every row, IS THE sha256 OF THE DUMP (.gsa) THAT YtfdnbkclpnaijaaProg.lean LOADS. Nothing in Lean hashes anything: it is a label: what it is worth is what the hold of that sum in a sandbox is worth. -/
noncomputable def Try.pinned : Pinned := { name := "ytfdnbkclpnaijaa", sum := "b85eba9ff20dd5f1e81ee5f7e9a85463d807c9468257c1633c8a0084a5aa6b0e", checked := Try.checked }
namespace Rows
def none {H : Type} : Left H := { results := [], args := [] }

/-- 'blockwaylaw23.ArbiterBlocks': WHATEVER THE INPUT: true; the input reads as it did. -/
def arbiterBlocksSpec : ChangeSpec := { name := "arbiterBlocks", fn := fun _ => fun
  | [d1, d2] => { results := [.lit (.bool true)], args := [d1, d2] }
  | _ => none }
def arbiterBlocksRow : OpenClaim := { program := "ytfdnbkclpnaijaa", sum := "b85eba9ff20dd5f1e81ee5f7e9a85463d807c9468257c1633c8a0084a5aa6b0e", func := "blockway/blockwaylaw23.ArbiterBlocks", spec := "arbiterBlocks", apart := false }
def ArbiterBlocksSaid : Prop := arbiterBlocksRow.holds Try.pinned (OpenSpec.ofChange arbiterBlocksSpec)

/-- ITS FALSE NEIGHBOUR: 'it returns false'. Refute it at one input. -/
def arbiterBlocksWrong : ChangeSpec := { name := "arbiterBlocks", fn := fun _ => fun
  | [d1, d2] => { results := [.lit (.bool false)], args := [d1, d2] }
  | _ => none }
def ArbiterBlocksWrongFalsely : Prop := arbiterBlocksRow.holds Try.pinned (OpenSpec.ofChange arbiterBlocksWrong)

/-- 'blockwaylaw23.ArbiterFair': WHATEVER THE INPUT: true; the input reads as it did. -/
def arbiterFairSpec : ChangeSpec := { name := "arbiterFair", fn := fun _ => fun
  | [d1, d2] => { results := [.lit (.bool true)], args := [d1, d2] }
  | _ => none }
def arbiterFairRow : OpenClaim := { program := "ytfdnbkclpnaijaa", sum := "b85eba9ff20dd5f1e81ee5f7e9a85463d807c9468257c1633c8a0084a5aa6b0e", func := "blockway/blockwaylaw23.ArbiterFair", spec := "arbiterFair", apart := false }
def ArbiterFairSaid : Prop := arbiterFairRow.holds Try.pinned (OpenSpec.ofChange arbiterFairSpec)

/-- ITS FALSE NEIGHBOUR: 'it returns false'. Refute it at one input. -/
def arbiterFairWrong : ChangeSpec := { name := "arbiterFair", fn := fun _ => fun
  | [d1, d2] => { results := [.lit (.bool false)], args := [d1, d2] }
  | _ => none }
def ArbiterFairWrongFalsely : Prop := arbiterFairRow.holds Try.pinned (OpenSpec.ofChange arbiterFairWrong)

/-- 'blockwaylaw23.ArbiterActs': WHATEVER THE INPUT: true; the input reads as it did. -/
def arbiterActsSpec : ChangeSpec := { name := "arbiterActs", fn := fun _ => fun
  | [d1, d2, d3, d4] => { results := [.lit (.bool true)], args := [d1, d2, d3, d4] }
  | _ => none }
def arbiterActsRow : OpenClaim := { program := "ytfdnbkclpnaijaa", sum := "b85eba9ff20dd5f1e81ee5f7e9a85463d807c9468257c1633c8a0084a5aa6b0e", func := "blockway/blockwaylaw23.ArbiterActs", spec := "arbiterActs", apart := false }
def ArbiterActsSaid : Prop := arbiterActsRow.holds Try.pinned (OpenSpec.ofChange arbiterActsSpec)

/-- ITS FALSE NEIGHBOUR: 'it returns false'. Refute it at one input. -/
def arbiterActsWrong : ChangeSpec := { name := "arbiterActs", fn := fun _ => fun
  | [d1, d2, d3, d4] => { results := [.lit (.bool false)], args := [d1, d2, d3, d4] }
  | _ => none }
def ArbiterActsWrongFalsely : Prop := arbiterActsRow.holds Try.pinned (OpenSpec.ofChange arbiterActsWrong)

/- THE SECOND FORM. 'bulk': how many values and letters a reading holds, each counted each time it is reached (what is shared counts as often as it is met; a slice's spare places count too). A statement '..UptoSaid' is the law's where the arguments, and the package variables that the reading takes, are together of bulk at most 1048576: NARROWER than '..Said'. Prove '..Said' where nothing that the law and all that it calls make is longer than what came in: it says more and counts as full. Else prove '..UptoSaid'. A law counts once. -/
mutual
def uptoBulk {H : Type} : DataW H → Nat
  | .lit (.string bytes) => bytes.length + 1
  | .lit _ => 1
  | .nil => 1
  | .ptr d => uptoBulk d + 1
  | .slice elems spare => uptoBulkAll elems + uptoBulkAll spare + 1
  | .agg parts => uptoBulkAll parts + 1
  | .iface _ d => uptoBulk d + 1
  | .map entries => uptoBulkEntries entries + 1
  | .held _ => 1
def uptoBulkAll {H : Type} : List (DataW H) → Nat
  | [] => 0
  | d :: r => uptoBulk d + uptoBulkAll r
def uptoBulkEntries {H : Type} : List (Lit × DataW H) → Nat
  | [] => 0
  | x :: r => uptoBulkEntry x + uptoBulkEntries r
def uptoBulkEntry {H : Type} : Lit × DataW H → Nat
  | (.string bytes, d) => bytes.length + uptoBulk d + 1
  | (_, d) => uptoBulk d + 1
 end
def uptoSmall : (H : Type) → List (DataW H) → Bool := fun _ ds => decide (uptoBulkAll ds ≤ 1048576)
def OpenSpec.upto (s : _root_.Go.ChangeSpec) : _root_.Go.OpenSpec := { _root_.Go.OpenSpec.ofChange s with cond := some uptoSmall }

/-- 'blockwaylaw23.ArbiterBlocks', WHERE WHAT IT READS IS OF BULK AT MOST 1048576: true; the input reads as it did. -/
def arbiterBlocksUptoRow : OpenClaim := { program := "ytfdnbkclpnaijaa", sum := "b85eba9ff20dd5f1e81ee5f7e9a85463d807c9468257c1633c8a0084a5aa6b0e", func := "blockway/blockwaylaw23.ArbiterBlocks", spec := "arbiterBlocks", apart := false, narrowed := true }
def ArbiterBlocksUptoSaid : Prop := arbiterBlocksUptoRow.holds Try.pinned (OpenSpec.upto arbiterBlocksSpec)

/-- 'blockwaylaw23.ArbiterFair', WHERE WHAT IT READS IS OF BULK AT MOST 1048576: true; the input reads as it did. -/
def arbiterFairUptoRow : OpenClaim := { program := "ytfdnbkclpnaijaa", sum := "b85eba9ff20dd5f1e81ee5f7e9a85463d807c9468257c1633c8a0084a5aa6b0e", func := "blockway/blockwaylaw23.ArbiterFair", spec := "arbiterFair", apart := false, narrowed := true }
def ArbiterFairUptoSaid : Prop := arbiterFairUptoRow.holds Try.pinned (OpenSpec.upto arbiterFairSpec)

/-- 'blockwaylaw23.ArbiterActs', WHERE WHAT IT READS IS OF BULK AT MOST 1048576: true; the input reads as it did. -/
def arbiterActsUptoRow : OpenClaim := { program := "ytfdnbkclpnaijaa", sum := "b85eba9ff20dd5f1e81ee5f7e9a85463d807c9468257c1633c8a0084a5aa6b0e", func := "blockway/blockwaylaw23.ArbiterActs", spec := "arbiterActs", apart := false, narrowed := true }
def ArbiterActsUptoSaid : Prop := arbiterActsUptoRow.holds Try.pinned (OpenSpec.upto arbiterActsSpec)

end Rows
end Go.Proofs.Ytfdnbkclpnaijaa
