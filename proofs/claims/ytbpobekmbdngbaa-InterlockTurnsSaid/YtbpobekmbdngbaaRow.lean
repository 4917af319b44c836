/- Rows of cells that can be read: slices whose elements take any number of cells. -/
import Derived.Test.YtbpobekmbdngbaaBase
namespace Go.Proofs.Ytbpobekmbdngbaa
open Go.RowKit
set_option linter.unusedVariables false

/-- The slice at a, of n elements of size cells each, reads as the cells xs. -/
def RowIn (w : World) (a : Option Addr) (n size : Nat) (xs : List Value) : Prop :=
  xs.length = n * size ∧ n ≤ maxLen ∧ (n = 0 ∨ ∃ b off, a = some ⟨b, off, none⟩ ∧ ∀ i, i < xs.length → w.cell? ⟨b, off + i, none⟩ = xs[i]?)

theorem RowIn.kept {w W : World} {a : Option Addr} {n size : Nat} {xs : List Value} (h : RowIn w a n size xs) (hg : w.grownBy W none) : RowIn W a n size xs := by
  obtain ⟨h1, h2, h3⟩ := h
  refine ⟨h1, h2, ?_⟩
  rcases h3 with h3 | ⟨b, off, rfl, hc⟩
  · exact .inl h3
  · refine .inr ⟨b, off, rfl, fun i hi => ?_⟩
    have h4 := hc i hi
    rw [List.getElem?_eq_getElem hi] at h4 ⊢
    exact (grown_cell hg (lt_of_cell h4) (by simp)).trans h4

/-- Where a block of the call's own is written, a row in another block stays. -/
theorem RowIn.kept_but {w W : World} {a : Option Addr} {n size : Nat} {xs : List Value} {r : Option Nat} (h : RowIn w a n size xs) (hg : w.grownBy W r) (hne : ∀ x, a = some x → some x.block ≠ r) : RowIn W a n size xs := by
  obtain ⟨h1, h2, h3⟩ := h
  refine ⟨h1, h2, ?_⟩
  rcases h3 with h3 | ⟨b, off, rfl, hc⟩
  · exact .inl h3
  · refine .inr ⟨b, off, rfl, fun i hi => ?_⟩
    have h4 := hc i hi
    rw [List.getElem?_eq_getElem hi] at h4 ⊢
    exact (grown_cell hg (lt_of_cell h4) (by simpa using hne ⟨b, off, none⟩ rfl)).trans h4

theorem RowIn.at {w : World} {a : Option Addr} {n size : Nat} {xs : List Value} (h : RowIn w a n size xs) (hn : 0 < n) : ∃ b off, a = some ⟨b, off, none⟩ ∧ ∀ i v, xs[i]? = some v → w.cell? ⟨b, off + i, none⟩ = some v := by
  rcases h.2.2 with h3 | ⟨b, off, rfl, hc⟩
  · omega
  · exact ⟨b, off, rfl, fun i v hv => by rw [hc i (List.getElem?_eq_some_iff.1 hv).1, hv]⟩

theorem rowIn_nil (w : World) (size : Nat) : RowIn w none 0 size [] := ⟨by simp, Nat.zero_le _, .inl rfl⟩

theorem rowIn_owns {w : World} {base e size n : Nat} {v : Value} {xs : List Value} (h : w.ownsRow base e size v n xs) : ∃ a cap, v = .slice a n cap ∧ n ≤ cap ∧ cap ≤ maxLen ∧ RowIn w a n size xs := by
  obtain ⟨h1, h2⟩ := h
  rcases h2 with ⟨rfl, rfl⟩ | ⟨g, cap, cur, rfl, _, hg, hnc, hm, hcs, ht⟩
  · exact ⟨none, 0, rfl, Nat.le_refl _, Nat.zero_le _, h1, Nat.zero_le _, .inl rfl⟩
  · refine ⟨_, cap, rfl, hnc, hm, h1, by omega, .inr ⟨g, 0, rfl, fun i hi => ?_⟩⟩
    rw [cell_at hg, Nat.zero_add, ← ht]
    rw [List.getElem?_take_of_lt (by omega)]
    simp

/-- A part of a row: the elements from lo on, m of them. -/
theorem RowIn.part {w : World} {b off n size : Nat} {xs : List Value} (h : RowIn w (some ⟨b, off, none⟩) n size xs) (lo m : Nat) (hm : lo + m ≤ n) :
    RowIn w (some ⟨b, off + lo * size, none⟩) m size ((xs.drop (lo * size)).take (m * size)) := by
  obtain ⟨h1, h2, h3⟩ := h
  have hle : lo * size + m * size ≤ n * size := by rw [← Nat.add_mul]; exact Nat.mul_le_mul_right _ hm
  refine ⟨by simp; omega, by omega, ?_⟩
  rcases h3 with h3 | ⟨b', off', he, hc⟩
  · left; omega
  · obtain ⟨rfl, rfl⟩ : b' = b ∧ off' = off := by simp at he; exact ⟨he.1.symm, he.2.symm⟩
    refine .inr ⟨_, _, rfl, fun i hi => ?_⟩
    have hi' : i < m * size := by simp at hi; omega
    rw [Nat.add_assoc, hc _ (by omega), List.getElem?_take_of_lt hi', List.getElem?_drop]
end Go.Proofs.Ytbpobekmbdngbaa
