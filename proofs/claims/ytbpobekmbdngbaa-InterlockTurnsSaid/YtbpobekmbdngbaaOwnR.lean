/- A row of cells of the call's own, known and written. -/
import Derived.Test.YtbpobekmbdngbaaRow
import Derived.Laws.AppendOwnNone
namespace Go.Proofs.Ytbpobekmbdngbaa
open Go.RowKit
set_option linter.unusedVariables false

/-- Block g holds the cells xs (n elements of size cells), the first of cap. -/
def OwnR (w : World) (g cap n : Nat) (e : TypeId) (size : Nat) (xs : List Value) : Prop :=
  ∃ cur, w.heap[g]? = some (.cells cur e (0, 0)) ∧ n ≤ cap ∧ cap ≤ maxLen ∧ cur.size = cap * size ∧ cur.toList.take (n * size) = xs

theorem OwnR.len {w : World} {g cap n size : Nat} {e : TypeId} {xs : List Value} (h : OwnR w g cap n e size xs) : xs.length = n * size := by
  obtain ⟨cur, hg, h1, h2, h3, h4⟩ := h
  rw [← h4, List.length_take, Array.length_toList, h3]
  have := Nat.mul_le_mul_right size h1
  omega
theorem OwnR.row {w : World} {g cap n size : Nat} {e : TypeId} {xs : List Value} (h : OwnR w g cap n e size xs) : RowIn w (some ⟨g, 0, none⟩) n size xs := by
  have hl := h.len
  obtain ⟨cur, hg, h1, h2, h3, h4⟩ := h
  refine ⟨hl, by omega, .inr ⟨g, 0, rfl, fun i hi => ?_⟩⟩
  rw [cell_at hg, Nat.zero_add, ← h4, List.getElem?_take_of_lt (by omega)]
  simp
theorem OwnR.cell {w : World} {g cap n size i : Nat} {e : TypeId} {xs : List Value} {v : Value} (h : OwnR w g cap n e size xs) (hi : xs[i]? = some v) : w.cell? ⟨g, i, none⟩ = some v := by
  have hl := h.len
  have hlt := (List.getElem?_eq_some_iff.1 hi).1
  obtain ⟨cur, hg, h1, h2, h3, h4⟩ := h
  rw [cell_at hg, ← hi, ← h4, List.getElem?_take_of_lt (by omega)]
  simp
theorem OwnR.free {w : World} {g cap n size : Nat} {e : TypeId} {xs : List Value} (h : OwnR w g cap n e size xs) (j : Nat) : w.frozen? ⟨g, j, none⟩ = false := by
  obtain ⟨cur, hg, _⟩ := h
  exact free_at hg
theorem OwnR.lt {w : World} {g cap n size : Nat} {e : TypeId} {xs : List Value} (h : OwnR w g cap n e size xs) : g < w.heap.size := by
  obtain ⟨cur, hg, _⟩ := h
  exact lt_of_at hg
theorem OwnR.capLe {w : World} {g cap n size : Nat} {e : TypeId} {xs : List Value} (h : OwnR w g cap n e size xs) : n ≤ cap ∧ cap ≤ 9223372036854775807 := by
  obtain ⟨cur, _, h1, h2, _⟩ := h
  unfold maxLen at h2
  exact ⟨h1, by omega⟩
theorem OwnR.kept {w W : World} {g cap n size : Nat} {e : TypeId} {xs : List Value} {r : Option Nat} (h : OwnR w g cap n e size xs) (hg : w.grownBy W r) (hne : some g ≠ r) : OwnR W g cap n e size xs := by
  obtain ⟨cur, h0, h1⟩ := h
  exact ⟨cur, grown_at hg h0 hne, h1⟩
theorem OwnR.set {w : World} {g cap n size i : Nat} {e : TypeId} {xs : List Value} (h : OwnR w g cap n e size xs) (v : Value) : OwnR (w.setCell ⟨g, i, none⟩ v) g cap n e size (xs.set i v) := by
  obtain ⟨cur, hg, h1, h2, h3, h4⟩ := h
  refine ⟨cur.setIfInBounds i v, at_set v hg, h1, h2, by simp [h3], ?_⟩
  rw [Array.toList_setIfInBounds, List.take_set, h4]
theorem ownR_of_owns {w : World} {base n size : Nat} {e : TypeId} {v : Value} {xs : List Value} (h : w.ownsRow base e size v n xs) (hn : 0 < n) : ∃ g cap, v = .slice (some ⟨g, 0, none⟩) n cap ∧ base ≤ g ∧ OwnR w g cap n e size xs := by
  rcases h.2 with ⟨_, h0⟩ | ⟨g, cap, cur, hv, hb, hg, h1, h2, h3, h4⟩
  · omega
  · exact ⟨g, cap, hv, hb, cur, hg, h1, h2, h3, h4⟩
theorem OwnR.owns {w : World} {g cap n size base : Nat} {e : TypeId} {xs : List Value} (h : OwnR w g cap n e size xs) (hb : base ≤ g) : w.ownsRow base e size (.slice (some ⟨g, 0, none⟩) n cap) n xs := by
  have hl := h.len
  obtain ⟨cur, hg, h1, h2, h3, h4⟩ := h
  exact ⟨hl, .inr ⟨g, cap, cur, rfl, hb, hg, h1, h2, h3, h4⟩⟩
/-- A block that is known whole. -/
theorem ownR_block {w : World} {b n size : Nat} {cs : Array Value} {e : TypeId} (hb : w.heap[b]? = some (.cells cs e (0, 0))) (hn : cs.size = n * size) (hm : n ≤ maxLen) : OwnR w b n n e size cs.toList :=
  ⟨cs, hb, Nat.le_refl _, hm, hn, by rw [← hn, ← Array.length_toList, List.take_length]⟩
end Go.Proofs.Ytbpobekmbdngbaa
