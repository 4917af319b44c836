/-
  No cell of these rows narrows 'for every input' (looked for: loops, veiled, ifaces, maps, wideKeys, modest, calm, conditions, laid).
  DERIVED. THE GIVEN ROWS OF THIS SEAT. 4 by the template 'for every input the law returns true; each argument reads behind the call as it read before'; 0 by the template 'total and deterministic' (their statements: YtnhmnkldpmomfaaTotals.lean).
  GIVEN WITH THE SEED: the statements are not yours to turn. If you find one false, say at which input.
  Laid BY PROGRAM, IN A SANDBOX (cutbox-rows.mjs): the forced cells as the released guide's own fill.sh prints them over the translation 097bd2ef42ba6c94… (all of the seat's roots in one cut). By AI agents, Wed Nov 11 2026. No macro, syntax, notation, axiom, sorry.
-/
import Derived.Test.YtnhmnkldpmomfaaChecked
import GoSem.Claim
import GoSem.ClaimJoined
import GoSem.ClaimMapViews
import Derived.JoinedTies
import Derived.KernelRfl
namespace Go.Proofs.Ytnhmnkldpmomfaa
/- THE CELL 'sum', in the pinned program and in every row, IS THE sha256 OF THE DUMP (.gsa) THAT YtnhmnkldpmomfaaProg.lean LOADS. Nothing in Lean hashes anything: it is a label: what it is worth is what the hold of that sum in a sandbox is worth. -/
noncomputable def Try.pinned : Pinned := { name := "ytnhmnkldpmomfaa", sum := "097bd2ef42ba6c94a856eb255c5bc1817f036aa6abc2a5a91acba56937c0c87f", checked := Try.checked }
namespace Rows
def none {H : Type} : Left H := { results := [], args := [] }

/-- 'blockwaylaw13.FrameDiffers': WHATEVER THE INPUT: true; the input reads as it did. -/
def frameDiffersSpec : ChangeSpec := { name := "frameDiffers", fn := fun _ => fun
  | [d1, d2] => { results := [.lit (.bool true)], args := [d1, d2] }
  | _ => none }
def frameDiffersRow : OpenClaim := { program := "ytnhmnkldpmomfaa", sum := "097bd2ef42ba6c94a856eb255c5bc1817f036aa6abc2a5a91acba56937c0c87f", func := "blockway/blockwaylaw13.FrameDiffers", spec := "frameDiffers", apart := false }
def FrameDiffersSaid : Prop := frameDiffersRow.holds Try.pinned (OpenSpec.ofChange frameDiffersSpec)

/-- ITS FALSE NEIGHBOUR: 'it returns false'. Refute it at one input. -/
def frameDiffersWrong : ChangeSpec := { name := "frameDiffers", fn := fun _ => fun
  | [d1, d2] => { results := [.lit (.bool false)], args := [d1, d2] }
  | _ => none }
def FrameDiffersWrongFalsely : Prop := frameDiffersRow.holds Try.pinned (OpenSpec.ofChange frameDiffersWrong)

/-- 'blockwaylaw13.FrameCodes': WHATEVER THE INPUT: true; the input reads as it did. -/
def frameCodesSpec : ChangeSpec := { name := "frameCodes", fn := fun _ => fun
  | [d1, d2, d3, d4] => { results := [.lit (.bool true)], args := [d1, d2, d3, d4] }
  | _ => none }
def frameCodesRow : OpenClaim := { program := "ytnhmnkldpmomfaa", sum := "097bd2ef42ba6c94a856eb255c5bc1817f036aa6abc2a5a91acba56937c0c87f", func := "blockway/blockwaylaw13.FrameCodes", spec := "frameCodes", apart := false }
def FrameCodesSaid : Prop := frameCodesRow.holds Try.pinned (OpenSpec.ofChange frameCodesSpec)

/-- ITS FALSE NEIGHBOUR: 'it returns false'. Refute it at one input. -/
def frameCodesWrong : ChangeSpec := { name := "frameCodes", fn := fun _ => fun
  | [d1, d2, d3, d4] => { results := [.lit (.bool false)], args := [d1, d2, d3, d4] }
  | _ => none }
def FrameCodesWrongFalsely : Prop := frameCodesRow.holds Try.pinned (OpenSpec.ofChange frameCodesWrong)

/-- 'blockwaylaw13.FrameBack': WHATEVER THE INPUT: true; the input reads as it did. -/
def frameBackSpec : ChangeSpec := { name := "frameBack", fn := fun _ => fun
  | [d1, d2] => { results := [.lit (.bool true)], args := [d1, d2] }
  | _ => none }
def frameBackRow : OpenClaim := { program := "ytnhmnkldpmomfaa", sum := "097bd2ef42ba6c94a856eb255c5bc1817f036aa6abc2a5a91acba56937c0c87f", func := "blockway/blockwaylaw13.FrameBack", spec := "frameBack", apart := false }
def FrameBackSaid : Prop := frameBackRow.holds Try.pinned (OpenSpec.ofChange frameBackSpec)

/-- ITS FALSE NEIGHBOUR: 'it returns false'. Refute it at one input. -/
def frameBackWrong : ChangeSpec := { name := "frameBack", fn := fun _ => fun
  | [d1, d2] => { results := [.lit (.bool false)], args := [d1, d2] }
  | _ => none }
def FrameBackWrongFalsely : Prop := frameBackRow.holds Try.pinned (OpenSpec.ofChange frameBackWrong)

/-- 'blockwaylaw13.FrameShort': WHATEVER THE INPUT: true; the input reads as it did. -/
def frameShortSpec : ChangeSpec := { name := "frameShort", fn := fun _ => fun
  | [d1, d2] => { results := [.lit (.bool true)], args := [d1, d2] }
  | _ => none }
def frameShortRow : OpenClaim := { program := "ytnhmnkldpmomfaa", sum := "097bd2ef42ba6c94a856eb255c5bc1817f036aa6abc2a5a91acba56937c0c87f", func := "blockway/blockwaylaw13.FrameShort", spec := "frameShort", apart := false }
def FrameShortSaid : Prop := frameShortRow.holds Try.pinned (OpenSpec.ofChange frameShortSpec)

/-- ITS FALSE NEIGHBOUR: 'it returns false'. Refute it at one input. -/
def frameShortWrong : ChangeSpec := { name := "frameShort", fn := fun _ => fun
  | [d1, d2] => { results := [.lit (.bool false)], args := [d1, d2] }
  | _ => none }
def FrameShortWrongFalsely : Prop := frameShortRow.holds Try.pinned (OpenSpec.ofChange frameShortWrong)

/- THE SECOND FORM. 'bulk': how many values and letters a reading holds, each counted each time it is reached (what is shared counts as often as it is met; a slice's spare places count too). A statement '..UptoSaid' is the law's where the arguments, and the package variables that the reading takes, are together of bulk at most 1048576: NARROWER than '..Said'. Prove '..Said' where nothing that the law and all that it calls make is longer than what came in: it says more and counts as full. Else prove '..UptoSaid'. A law counts once. -/
mutual
def uptoBulk {H : Type} : DataW H → Nat
  | .lit (.string bytes) => bytes.length + 1
  | .lit _ => 1
  | .nil => 1
  | .ptr d => uptoBulk d + 1
  | .slice elems spare => uptoBulkAll elems + uptoBulkAll spare + 1
  | .agg parts => uptoBulkAll parts + 1
  | .iface _ d => uptoBulk d + 1
  | .map entries => uptoBulkEntries entries + 1
  | .held _ => 1
def uptoBulkAll {H : Type} : List (DataW H) → Nat
  | [] => 0
  | d :: r => uptoBulk d + uptoBulkAll r
def uptoBulkEntries {H : Type} : List (Lit × DataW H) → Nat
  | [] => 0
  | x :: r => uptoBulkEntry x + uptoBulkEntries r
def uptoBulkEntry {H : Type} : Lit × DataW H → Nat
  | (.string bytes, d) => bytes.length + uptoBulk d + 1
  | (_, d) => uptoBulk d + 1
 end
def uptoSmall : (H : Type) → List (DataW H) → Bool := fun _ ds => decide (uptoBulkAll ds ≤ 1048576)
def OpenSpec.upto (s : _root_.Go.ChangeSpec) : _root_.Go.OpenSpec := { _root_.Go.OpenSpec.ofChange s with cond := some uptoSmall }

/-- 'blockwaylaw13.FrameDiffers', WHERE WHAT IT READS IS OF BULK AT MOST 1048576: true; the input reads as it did. -/
def frameDiffersUptoRow : OpenClaim := { program := "ytnhmnkldpmomfaa", sum := "097bd2ef42ba6c94a856eb255c5bc1817f036aa6abc2a5a91acba56937c0c87f", func := "blockway/blockwaylaw13.FrameDiffers", spec := "frameDiffers", apart := false, narrowed := true }
def FrameDiffersUptoSaid : Prop := frameDiffersUptoRow.holds Try.pinned (OpenSpec.upto frameDiffersSpec)

/-- 'blockwaylaw13.FrameCodes', WHERE WHAT IT READS IS OF BULK AT MOST 1048576: true; the input reads as it did. -/
def frameCodesUptoRow : OpenClaim := { program := "ytnhmnkldpmomfaa", sum := "097bd2ef42ba6c94a856eb255c5bc1817f036aa6abc2a5a91acba56937c0c87f", func := "blockway/blockwaylaw13.FrameCodes", spec := "frameCodes", apart := false, narrowed := true }
def FrameCodesUptoSaid : Prop := frameCodesUptoRow.holds Try.pinned (OpenSpec.upto frameCodesSpec)

/-- 'blockwaylaw13.FrameBack', WHERE WHAT IT READS IS OF BULK AT MOST 1048576: true; the input reads as it did. -/
def frameBackUptoRow : OpenClaim := { program := "ytnhmnkldpmomfaa", sum := "097bd2ef42ba6c94a856eb255c5bc1817f036aa6abc2a5a91acba56937c0c87f", func := "blockway/blockwaylaw13.FrameBack", spec := "frameBack", apart := false, narrowed := true }
def FrameBackUptoSaid : Prop := frameBackUptoRow.holds Try.pinned (OpenSpec.upto frameBackSpec)

/-- 'blockwaylaw13.FrameShort', WHERE WHAT IT READS IS OF BULK AT MOST 1048576: true; the input reads as it did. -/
def frameShortUptoRow : OpenClaim := { program := "ytnhmnkldpmomfaa", sum := "097bd2ef42ba6c94a856eb255c5bc1817f036aa6abc2a5a91acba56937c0c87f", func := "blockway/blockwaylaw13.FrameShort", spec := "frameShort", apart := false, narrowed := true }
def FrameShortUptoSaid : Prop := frameShortUptoRow.holds Try.pinned (OpenSpec.upto frameShortSpec)

end Rows
end Go.Proofs.Ytnhmnkldpmomfaa
