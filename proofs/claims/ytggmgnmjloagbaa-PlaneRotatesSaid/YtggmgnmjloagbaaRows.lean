/-
  No cell of these rows narrows 'for every input' (looked for: loops, veiled, ifaces, maps, wideKeys, modest, calm, conditions, laid).
  DERIVED. THE GIVEN ROWS OF THIS SEAT. 6 by the template 'for every input the law returns true; each argument reads behind the call as it read before'; 0 by the template 'total and deterministic' (their statements: YtggmgnmjloagbaaTotals.lean).
  GIVEN WITH THE SEED: the statements are not yours to turn. If you find one false, say at which input.
  Laid BY PROGRAM, IN A SANDBOX (cutbox-rows.mjs): the forced cells as the released guide's own fill.sh prints them over the translation 90d2a8c14e5d0e4f… (all of the seat's roots in one cut). By AI agents, Wed Nov 11 2026. No macro, syntax, notation, axiom, sorry.
-/
import Derived.Test.YtggmgnmjloagbaaChecked
import GoSem.Claim
import GoSem.ClaimJoined
import GoSem.ClaimMapViews
import Derived.JoinedTies
import Derived.KernelRfl
namespace Go.Proofs.Ytggmgnmjloagbaa
/- THE CELL 'sum', in the pinned program and in every row, IS THE sha256 OF THE DUMP (.gsa) THAT YtggmgnmjloagbaaProg.lean LOADS. Nothing in Lean hashes anything: it is a label: what it is worth is what the hold of that sum in a sandbox is worth. -/
noncomputable def Try.pinned : Pinned := { name := "ytggmgnmjloagbaa", sum := "90d2a8c14e5d0e4ffb50d54e164ad4447a9bcff7c67d0d0d321c02923ecdc5c6", checked := Try.checked }
namespace Rows
def none {H : Type} : Left H := { results := [], args := [] }

/-- 'blockwaylaw08.PlaneTurns': WHATEVER THE INPUT: true; the input reads as it did. -/
def planeTurnsSpec : ChangeSpec := { name := "planeTurns", fn := fun _ => fun
  | [d] => { results := [.lit (.bool true)], args := [d] }
  | _ => none }
def planeTurnsRow : OpenClaim := { program := "ytggmgnmjloagbaa", sum := "90d2a8c14e5d0e4ffb50d54e164ad4447a9bcff7c67d0d0d321c02923ecdc5c6", func := "blockway/blockwaylaw08.PlaneTurns", spec := "planeTurns", unfollowed := true, recurses := true, apart := false }
def PlaneTurnsSaid : Prop := planeTurnsRow.holds Try.pinned (OpenSpec.ofChange planeTurnsSpec)

/-- ITS FALSE NEIGHBOUR: 'it returns false'. Refute it at one input. -/
def planeTurnsWrong : ChangeSpec := { name := "planeTurns", fn := fun _ => fun
  | [d] => { results := [.lit (.bool false)], args := [d] }
  | _ => none }
def PlaneTurnsWrongFalsely : Prop := planeTurnsRow.holds Try.pinned (OpenSpec.ofChange planeTurnsWrong)

/-- 'blockwaylaw08.PlaneArea': WHATEVER THE INPUT: true; the input reads as it did. -/
def planeAreaSpec : ChangeSpec := { name := "planeArea", fn := fun _ => fun
  | [d1, d2, d3] => { results := [.lit (.bool true)], args := [d1, d2, d3] }
  | _ => none }
def planeAreaRow : OpenClaim := { program := "ytggmgnmjloagbaa", sum := "90d2a8c14e5d0e4ffb50d54e164ad4447a9bcff7c67d0d0d321c02923ecdc5c6", func := "blockway/blockwaylaw08.PlaneArea", spec := "planeArea", unfollowed := true, recurses := true, apart := false }
def PlaneAreaSaid : Prop := planeAreaRow.holds Try.pinned (OpenSpec.ofChange planeAreaSpec)

/-- ITS FALSE NEIGHBOUR: 'it returns false'. Refute it at one input. -/
def planeAreaWrong : ChangeSpec := { name := "planeArea", fn := fun _ => fun
  | [d1, d2, d3] => { results := [.lit (.bool false)], args := [d1, d2, d3] }
  | _ => none }
def PlaneAreaWrongFalsely : Prop := planeAreaRow.holds Try.pinned (OpenSpec.ofChange planeAreaWrong)

/-- 'blockwaylaw08.PlaneWays': WHATEVER THE INPUT: true; the input reads as it did. -/
def planeWaysSpec : ChangeSpec := { name := "planeWays", fn := fun _ => fun
  | [d1, d2, d3] => { results := [.lit (.bool true)], args := [d1, d2, d3] }
  | _ => none }
def planeWaysRow : OpenClaim := { program := "ytggmgnmjloagbaa", sum := "90d2a8c14e5d0e4ffb50d54e164ad4447a9bcff7c67d0d0d321c02923ecdc5c6", func := "blockway/blockwaylaw08.PlaneWays", spec := "planeWays", unfollowed := true, recurses := true, apart := false }
def PlaneWaysSaid : Prop := planeWaysRow.holds Try.pinned (OpenSpec.ofChange planeWaysSpec)

/-- ITS FALSE NEIGHBOUR: 'it returns false'. Refute it at one input. -/
def planeWaysWrong : ChangeSpec := { name := "planeWays", fn := fun _ => fun
  | [d1, d2, d3] => { results := [.lit (.bool false)], args := [d1, d2, d3] }
  | _ => none }
def PlaneWaysWrongFalsely : Prop := planeWaysRow.holds Try.pinned (OpenSpec.ofChange planeWaysWrong)

/-- 'blockwaylaw08.PlaneSteps': WHATEVER THE INPUT: true; the input reads as it did. -/
def planeStepsSpec : ChangeSpec := { name := "planeSteps", fn := fun _ => fun
  | [d1, d2] => { results := [.lit (.bool true)], args := [d1, d2] }
  | _ => none }
def planeStepsRow : OpenClaim := { program := "ytggmgnmjloagbaa", sum := "90d2a8c14e5d0e4ffb50d54e164ad4447a9bcff7c67d0d0d321c02923ecdc5c6", func := "blockway/blockwaylaw08.PlaneSteps", spec := "planeSteps", unfollowed := true, recurses := true, apart := false }
def PlaneStepsSaid : Prop := planeStepsRow.holds Try.pinned (OpenSpec.ofChange planeStepsSpec)

/-- ITS FALSE NEIGHBOUR: 'it returns false'. Refute it at one input. -/
def planeStepsWrong : ChangeSpec := { name := "planeSteps", fn := fun _ => fun
  | [d1, d2] => { results := [.lit (.bool false)], args := [d1, d2] }
  | _ => none }
def PlaneStepsWrongFalsely : Prop := planeStepsRow.holds Try.pinned (OpenSpec.ofChange planeStepsWrong)

/-- 'blockwaylaw08.PlanePoints': WHATEVER THE INPUT: true; the input reads as it did. -/
def planePointsSpec : ChangeSpec := { name := "planePoints", fn := fun _ => fun
  | [d1, d2, d3, d4, d5] => { results := [.lit (.bool true)], args := [d1, d2, d3, d4, d5] }
  | _ => none }
def planePointsRow : OpenClaim := { program := "ytggmgnmjloagbaa", sum := "90d2a8c14e5d0e4ffb50d54e164ad4447a9bcff7c67d0d0d321c02923ecdc5c6", func := "blockway/blockwaylaw08.PlanePoints", spec := "planePoints", unfollowed := true, recurses := true, apart := false }
def PlanePointsSaid : Prop := planePointsRow.holds Try.pinned (OpenSpec.ofChange planePointsSpec)

/-- ITS FALSE NEIGHBOUR: 'it returns false'. Refute it at one input. -/
def planePointsWrong : ChangeSpec := { name := "planePoints", fn := fun _ => fun
  | [d1, d2, d3, d4, d5] => { results := [.lit (.bool false)], args := [d1, d2, d3, d4, d5] }
  | _ => none }
def PlanePointsWrongFalsely : Prop := planePointsRow.holds Try.pinned (OpenSpec.ofChange planePointsWrong)

/-- 'blockwaylaw08.PlaneRotates': WHATEVER THE INPUT: true; the input reads as it did. -/
def planeRotatesSpec : ChangeSpec := { name := "planeRotates", fn := fun _ => fun
  | [d1, d2, d3] => { results := [.lit (.bool true)], args := [d1, d2, d3] }
  | _ => none }
def planeRotatesRow : OpenClaim := { program := "ytggmgnmjloagbaa", sum := "90d2a8c14e5d0e4ffb50d54e164ad4447a9bcff7c67d0d0d321c02923ecdc5c6", func := "blockway/blockwaylaw08.PlaneRotates", spec := "planeRotates", unfollowed := true, recurses := true, apart := false }
def PlaneRotatesSaid : Prop := planeRotatesRow.holds Try.pinned (OpenSpec.ofChange planeRotatesSpec)

/-- ITS FALSE NEIGHBOUR: 'it returns false'. Refute it at one input. -/
def planeRotatesWrong : ChangeSpec := { name := "planeRotates", fn := fun _ => fun
  | [d1, d2, d3] => { results := [.lit (.bool false)], args := [d1, d2, d3] }
  | _ => none }
def PlaneRotatesWrongFalsely : Prop := planeRotatesRow.holds Try.pinned (OpenSpec.ofChange planeRotatesWrong)

/- THE SECOND FORM. 'bulk': how many values and letters a reading holds, each counted each time it is reached (what is shared counts as often as it is met; a slice's spare places count too). A statement '..UptoSaid' is the law's where the arguments, and the package variables that the reading takes, are together of bulk at most 1048576: NARROWER than '..Said'. Prove '..Said' where nothing that the law and all that it calls make is longer than what came in: it says more and counts as full. Else prove '..UptoSaid'. A law counts once. -/
mutual
def uptoBulk {H : Type} : DataW H → Nat
  | .lit (.string bytes) => bytes.length + 1
  | .lit _ => 1
  | .nil => 1
  | .ptr d => uptoBulk d + 1
  | .slice elems spare => uptoBulkAll elems + uptoBulkAll spare + 1
  | .agg parts => uptoBulkAll parts + 1
  | .iface _ d => uptoBulk d + 1
  | .map entries => uptoBulkEntries entries + 1
  | .held _ => 1
def uptoBulkAll {H : Type} : List (DataW H) → Nat
  | [] => 0
  | d :: r => uptoBulk d + uptoBulkAll r
def uptoBulkEntries {H : Type} : List (Lit × DataW H) → Nat
  | [] => 0
  | x :: r => uptoBulkEntry x + uptoBulkEntries r
def uptoBulkEntry {H : Type} : Lit × DataW H → Nat
  | (.string bytes, d) => bytes.length + uptoBulk d + 1
  | (_, d) => uptoBulk d + 1
 end
def uptoSmall : (H : Type) → List (DataW H) → Bool := fun _ ds => decide (uptoBulkAll ds ≤ 1048576)
def OpenSpec.upto (s : _root_.Go.ChangeSpec) : _root_.Go.OpenSpec := { _root_.Go.OpenSpec.ofChange s with cond := some uptoSmall }

/-- 'blockwaylaw08.PlaneTurns', WHERE WHAT IT READS IS OF BULK AT MOST 1048576: true; the input reads as it did. -/
def planeTurnsUptoRow : OpenClaim := { program := "ytggmgnmjloagbaa", sum := "90d2a8c14e5d0e4ffb50d54e164ad4447a9bcff7c67d0d0d321c02923ecdc5c6", func := "blockway/blockwaylaw08.PlaneTurns", spec := "planeTurns", unfollowed := true, recurses := true, apart := false, narrowed := true }
def PlaneTurnsUptoSaid : Prop := planeTurnsUptoRow.holds Try.pinned (OpenSpec.upto planeTurnsSpec)

/-- 'blockwaylaw08.PlaneArea', WHERE WHAT IT READS IS OF BULK AT MOST 1048576: true; the input reads as it did. -/
def planeAreaUptoRow : OpenClaim := { program := "ytggmgnmjloagbaa", sum := "90d2a8c14e5d0e4ffb50d54e164ad4447a9bcff7c67d0d0d321c02923ecdc5c6", func := "blockway/blockwaylaw08.PlaneArea", spec := "planeArea", unfollowed := true, recurses := true, apart := false, narrowed := true }
def PlaneAreaUptoSaid : Prop := planeAreaUptoRow.holds Try.pinned (OpenSpec.upto planeAreaSpec)

/-- 'blockwaylaw08.PlaneWays', WHERE WHAT IT READS IS OF BULK AT MOST 1048576: true; the input reads as it did. -/
def planeWaysUptoRow : OpenClaim := { program := "ytggmgnmjloagbaa", sum := "90d2a8c14e5d0e4ffb50d54e164ad4447a9bcff7c67d0d0d321c02923ecdc5c6", func := "blockway/blockwaylaw08.PlaneWays", spec := "planeWays", unfollowed := true, recurses := true, apart := false, narrowed := true }
def PlaneWaysUptoSaid : Prop := planeWaysUptoRow.holds Try.pinned (OpenSpec.upto planeWaysSpec)

/-- 'blockwaylaw08.PlaneSteps', WHERE WHAT IT READS IS OF BULK AT MOST 1048576: true; the input reads as it did. -/
def planeStepsUptoRow : OpenClaim := { program := "ytggmgnmjloagbaa", sum := "90d2a8c14e5d0e4ffb50d54e164ad4447a9bcff7c67d0d0d321c02923ecdc5c6", func := "blockway/blockwaylaw08.PlaneSteps", spec := "planeSteps", unfollowed := true, recurses := true, apart := false, narrowed := true }
def PlaneStepsUptoSaid : Prop := planeStepsUptoRow.holds Try.pinned (OpenSpec.upto planeStepsSpec)

/-- 'blockwaylaw08.PlanePoints', WHERE WHAT IT READS IS OF BULK AT MOST 1048576: true; the input reads as it did. -/
def planePointsUptoRow : OpenClaim := { program := "ytggmgnmjloagbaa", sum := "90d2a8c14e5d0e4ffb50d54e164ad4447a9bcff7c67d0d0d321c02923ecdc5c6", func := "blockway/blockwaylaw08.PlanePoints", spec := "planePoints", unfollowed := true, recurses := true, apart := false, narrowed := true }
def PlanePointsUptoSaid : Prop := planePointsUptoRow.holds Try.pinned (OpenSpec.upto planePointsSpec)

/-- 'blockwaylaw08.PlaneRotates', WHERE WHAT IT READS IS OF BULK AT MOST 1048576: true; the input reads as it did. -/
def planeRotatesUptoRow : OpenClaim := { program := "ytggmgnmjloagbaa", sum := "90d2a8c14e5d0e4ffb50d54e164ad4447a9bcff7c67d0d0d321c02923ecdc5c6", func := "blockway/blockwaylaw08.PlaneRotates", spec := "planeRotates", unfollowed := true, recurses := true, apart := false, narrowed := true }
def PlaneRotatesUptoSaid : Prop := planeRotatesUptoRow.holds Try.pinned (OpenSpec.upto planeRotatesSpec)

end Rows
end Go.Proofs.Ytggmgnmjloagbaa
