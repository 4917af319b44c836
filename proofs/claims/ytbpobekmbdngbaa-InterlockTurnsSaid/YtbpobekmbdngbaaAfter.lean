/- A region that draws its order, whose operations read, and call functions that make memory of their own and answer numbers. -/
import Derived.Test.YtbpobekmbdngbaaBase
namespace Go.Proofs.Ytbpobekmbdngbaa
open Go.RowKit
set_option linter.unusedVariables false

/-- A world in which nothing of W has turned. -/
structure After (W : World) where
  w : World
  grown : W.grownBy w none

instance (W : World) : Nonempty (After W) := ⟨⟨W, grown_refl W none⟩⟩

theorem wp_region_after {P : Program} {id : Nat} {Q : Exit → Act → World → Prop} {a : Act} {w W : World} {l : List Oper} (hm : P.follows .mixedOrders = true) (hB : Region.lexB .any l.toArray = true)
    (hW : W.grownBy w none)
    (h : wpQuiet P l.toArray (fun w' => ∃ v : After W, w' = v.w) (fun a' => ∀ w', (∃ v : After W, w' = v.w) → Q .normal a' w') l a) : (Code.region id l.toArray true).wp P Q a w :=
  wp_region_quiet (C := fun w' => ∃ v : After W, w' = v.w) hm hB ⟨⟨_, grown_drew hW⟩, rfl⟩ (by simpa using h)

theorem after_call {P : Program} {f : FuncId} {args : Array Value} {W : World} {v : After W} {r : Value}
    (h : Calls P f args v.w fun e w' => e = .returned r ∧ v.w.grownBy w' none) : Calls P f args v.w fun e w'' => e = .returned r ∧ ∃ v' : After W, w'' = v'.w :=
  h.mono fun e w' ⟨he, hg⟩ => ⟨he, ⟨w', grown_trans v.grown hg⟩, rfl⟩
theorem after_same {P : Program} {f : FuncId} {args : Array Value} {W : World} {v : After W} {r : Value}
    (h : Calls P f args v.w fun e w' => e = .returned r ∧ w' = v.w) : Calls P f args v.w fun e w'' => e = .returned r ∧ ∃ v' : After W, w'' = v'.w :=
  h.mono fun e w' ⟨he, hg⟩ => ⟨he, v, hg⟩

/-- The cells of a block, in every such world. -/
theorem after_at {W : World} {b : Nat} {cs : Array Value} {T : TypeId} (hb : W.heap[b]? = some (.cells cs T (0, 0))) :
    ∀ (v : After W) (j : Nat), v.w.cell? ⟨b, j, none⟩ = cs[j]? := fun v j => cell_at (grown_at v.grown hb (by simp))
end Go.Proofs.Ytbpobekmbdngbaa
