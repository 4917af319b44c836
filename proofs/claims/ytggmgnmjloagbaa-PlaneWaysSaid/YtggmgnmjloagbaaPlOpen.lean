/- A slice of blocks that came in, opened. -/
import Derived.Test.YtggmgnmjloagbaaOpenG
import Derived.Test.YtggmgnmjloagbaaPlCheck
namespace Go.Proofs.Ytggmgnmjloagbaa
open Go.RowKit Go.ChangeShapes Go.WideShapes
set_option linter.unusedVariables false

theorem Try.cells_block : Try.prog.cellsOf 30 = 3 := by kernel_rfl
theorem three_list {cs : List Value} (h : cs.length = 3) : ∃ a b c, cs = [a, b, c] := by
  match cs, h with
  | [a, b, c], _ => exact ⟨a, b, c, rfl⟩
theorem open_blocks {H : Type} {enc : TypeId × Value → H} {w : World} {base : Nat} {spare : Nat → Bool} {held : Bool} {fuel : Nat} {cs : List Value} {x : DataW H × List MemPlace}
    (h : DataW.trod enc Try.prog w base spare held fuel 24 cs = some x) :
    ∃ a len cap l, cs = [.slice a len cap] ∧ (rowB w a len l ∧ len ≤ cap ∧ cap ≤ maxLen) := by
  obtain ⟨a, len, cap, l, h1, h2, h3, _, h4, _, _⟩ := open_rows Bk.cells 3 Bk.size (by omega) (fun _ => True) Try.underlying24 Try.cells_block (fun n cs x hl ht => by
    obtain ⟨v0, v1, v2, rfl⟩ := three_list hl
    obtain ⟨m0, y0, g0⟩ := trod_field (j := 0) (v := v0) Try.underlying30 ht rfl rfl (by kernel_rfl) rfl
    obtain ⟨m1, y1, g1⟩ := trod_field (j := 1) (v := v1) Try.underlying30 ht rfl rfl (by kernel_rfl) rfl
    obtain ⟨m2, y2, g2⟩ := trod_field (j := 2) (v := v2) Try.underlying30 ht rfl rfl (by kernel_rfl) rfl
    obtain ⟨s, hs, _⟩ := DataW.trod_string Try.underlying9 g0
    obtain ⟨p, hp, _⟩ := DataW.trod_int Try.underlying3 g1
    obtain ⟨q, hq, _⟩ := DataW.trod_int Try.underlying3 g2
    simp only [List.cons.injEq, and_true] at hs hp hq
    subst hs hp hq
    exact ⟨⟨s, (p, q)⟩, rfl, trivial⟩) h
  exact ⟨a, len, cap, l, h1, h4, h2, h3⟩
end Go.Proofs.Ytggmgnmjloagbaa
