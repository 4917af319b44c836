/- Arguments opened: a slice of tasks, a slice of truth values. -/
import Derived.Test.YtfdnbkclpnaijaaOpenG
import Derived.Test.YtfdnbkclpnaijaaArActs
namespace Go.Proofs.Ytfdnbkclpnaijaa
open Go.RowKit Go.ChangeShapes Go.WideShapes
set_option linter.unusedVariables false

theorem bools_flat (l : List Bool) : l.flatMap (fun b => [Value.bool b]) = bools l := by
  induction l with
  | nil => rfl
  | cons b l ih => rw [List.flatMap_cons, ih]; rfl
theorem open_bools {H : Type} {enc : TypeId × Value → H} {w : World} {base : Nat} {spare : Nat → Bool} {held : Bool} {fuel : Nat} {cs : List Value} {x : DataW H × List MemPlace}
    (h : DataW.trod enc Try.prog w base spare held fuel 32 cs = some x) :
    ∃ a len cap l, cs = [.slice a len cap] ∧ (RowIn w a len 1 (bools l) ∧ len ≤ cap ∧ cap ≤ maxLen) := by
  obtain ⟨a, len, cap, l, h1, h2, h3, _, h4, _, _⟩ := open_rows (fun b : Bool => [Value.bool b]) 1 (fun _ => rfl) (by omega) (fun _ => True) Try.underlying32 (by kernel_rfl) (fun n cs x hl ht => by
    obtain ⟨b, hb, _⟩ := DataW.trod_bool Try.underlying4 ht
    exact ⟨b, hb, trivial⟩) h
  rw [bools_flat] at h4
  exact ⟨a, len, cap, l, h1, h4, h2, h3⟩
theorem Try.cells_task : Try.prog.cellsOf 31 = 5 := by kernel_rfl
theorem five_list {cs : List Value} (h : cs.length = 5) : ∃ a b c d e, cs = [a, b, c, d, e] := by
  match cs, h with
  | [a, b, c, d, e], _ => exact ⟨a, b, c, d, e, rfl⟩
theorem open_tasks {H : Type} {enc : TypeId × Value → H} {w : World} {base : Nat} {spare : Nat → Bool} {held : Bool} {fuel : Nat} {cs : List Value} {x : DataW H × List MemPlace}
    (h : DataW.trod enc Try.prog w base spare held fuel 24 cs = some x) :
    ∃ a len cap l, cs = [.slice a len cap] ∧ (RowIn w a len 5 (flat l) ∧ (a = none → cap = 0) ∧ len ≤ cap ∧ cap ≤ maxLen) := by
  obtain ⟨a, len, cap, l, h1, h2, h3, h0, h4, _, _⟩ := open_rows Tk.cells 5 (fun _ => rfl) (by omega) (fun _ => True) Try.underlying24 Try.cells_task (fun n cs x hl ht => by
    obtain ⟨v0, v1, v2, v3, v4, rfl⟩ := five_list hl
    obtain ⟨m0, y0, g0⟩ := trod_field (j := 0) (v := v0) Try.underlying31 ht rfl rfl (by kernel_rfl) rfl
    obtain ⟨m1, y1, g1⟩ := trod_field (j := 1) (v := v1) Try.underlying31 ht rfl rfl (by kernel_rfl) rfl
    obtain ⟨m2, y2, g2⟩ := trod_field (j := 2) (v := v2) Try.underlying31 ht rfl rfl (by kernel_rfl) rfl
    obtain ⟨m3, y3, g3⟩ := trod_field (j := 3) (v := v3) Try.underlying31 ht rfl rfl (by kernel_rfl) rfl
    obtain ⟨m4, y4, g4⟩ := trod_field (j := 4) (v := v4) Try.underlying31 ht rfl rfl (by kernel_rfl) rfl
    obtain ⟨p0, h0, _⟩ := DataW.trod_int Try.underlying3 g0
    obtain ⟨p1, h1, _⟩ := DataW.trod_int Try.underlying3 g1
    obtain ⟨p2, h2, _⟩ := DataW.trod_int Try.underlying3 g2
    obtain ⟨p3, h3, _⟩ := DataW.trod_int Try.underlying3 g3
    obtain ⟨p4, h4, _⟩ := DataW.trod_int Try.underlying3 g4
    simp only [List.cons.injEq, and_true] at h0 h1 h2 h3 h4
    subst h0 h1 h2 h3 h4
    exact ⟨⟨p0, p1, p2, p3, p4⟩, rfl, trivial⟩) h
  exact ⟨a, len, cap, l, h1, h4, h0, h2, h3⟩
end Go.Proofs.Ytfdnbkclpnaijaa
