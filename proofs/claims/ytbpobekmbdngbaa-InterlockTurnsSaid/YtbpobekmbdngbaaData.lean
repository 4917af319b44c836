/- Rows of structs, and facts that stay in later worlds. -/
import Derived.Test.YtbpobekmbdngbaaOwnR
import Derived.Test.YtbpobekmbdngbaaTape
namespace Go.Proofs.Ytbpobekmbdngbaa
open Go.RowKit
set_option linter.unusedVariables false

/-! ### Facts that stay -/

/-- A fact that stays where new blocks are made and block R is written. -/
class Stay (R : Option Nat) (w W : World) (A : Prop) (B : outParam Prop) : Prop where
  go : w.grownBy W R → A → B

theorem keep {R : Option Nat} {w W : World} (hg : w.grownBy W R) {A B : Prop} (h : Hid A) [s : Stay R w W A B] : Hid B := Lib.hid (s.go hg h.out)
section
variable {R : Option Nat} {w W : World}
instance {A B A' B' : Prop} [s : Stay R w W A A'] [t : Stay R w W B B'] : Stay R w W (A ∧ B) (A' ∧ B') := ⟨fun hg h => ⟨s.go hg h.1, t.go hg h.2⟩⟩
instance (priority := low) {A : Prop} : Stay R w W A A := ⟨fun _ h => h⟩
instance {w0 : World} : Stay R w W (w0.grownBy w R) (w0.grownBy W R) := ⟨fun hg h => grown_trans h hg⟩
instance {a : Option Addr} {n size : Nat} {xs : List Value} : Stay none w W (RowIn w a n size xs) (RowIn W a n size xs) := ⟨fun hg h => h.kept hg⟩
instance {g cap n size : Nat} {e : TypeId} {xs : List Value} : Stay none w W (OwnR w g cap n e size xs) (OwnR W g cap n e size xs) := ⟨fun hg h => h.kept hg (by simp)⟩
instance {b : Nat} {o : Obj} : Stay none w W (w.heap[b]? = some o) (W.heap[b]? = some o) := ⟨fun hg h => grown_at hg h (by simp)⟩
instance {base e size n : Nat} {v : Value} {xs : List Value} : Stay none w W (w.ownsRow base e size v n xs) (W.ownsRow base e size v n xs) := ⟨fun hg h => h.kept hg (Classical.em _)⟩
instance {m : Nat} : Stay R w W (m ≤ w.heap.size) (m ≤ W.heap.size) := ⟨fun hg h => Nat.le_trans h hg.size⟩
instance {m : Nat} : Stay R w W (m < w.heap.size) (m < W.heap.size) := ⟨fun hg h => Nat.lt_of_lt_of_le h hg.size⟩
end
/-- As RowIn; not in block R. -/
def RowR (R : Option Nat) (w : World) (a : Option Addr) (n size : Nat) (xs : List Value) : Prop := RowIn w a n size xs ∧ ∀ x, a = some x → some x.block ≠ R
instance {R : Option Nat} {w W : World} {a : Option Addr} {n size : Nat} {xs : List Value} : Stay R w W (RowR R w a n size xs) (RowR R W a n size xs) := ⟨fun hg h => ⟨h.1.kept_but hg h.2, h.2⟩⟩
def OwnO (R : Option Nat) (w : World) (g cap n : Nat) (e : TypeId) (size : Nat) (xs : List Value) : Prop := OwnR w g cap n e size xs ∧ some g ≠ R
instance {R : Option Nat} {w W : World} {g cap n size : Nat} {e : TypeId} {xs : List Value} : Stay R w W (OwnO R w g cap n e size xs) (OwnO R W g cap n e size xs) := ⟨fun hg h => ⟨h.1.kept hg h.2, h.2⟩⟩

/-! ### Rows of structs -/
section
variable {α : Type} (c : α → List Value) (s : Nat)
theorem flatC_length (hs : ∀ x, (c x).length = s) (l : List α) : (l.flatMap c).length = l.length * s := by
  induction l with
  | nil => simp
  | cons t l ih => rw [List.flatMap_cons, List.length_append, ih, hs, List.length_cons, Nat.add_mul]; omega
theorem flatC_at (hs : ∀ x, (c x).length = s) {l : List α} {k : Nat} {t : α} (h : l[k]? = some t) : ∀ j, j < s → (l.flatMap c)[k * s + j]? = (c t)[j]? := by
  induction l generalizing k with
  | nil => simp at h
  | cons x l ih =>
    intro j hj
    cases k with
    | zero =>
      simp at h; subst h
      rw [List.flatMap_cons, Nat.zero_mul, Nat.zero_add, List.getElem?_append_left (by rw [hs]; exact hj)]
    | succ k =>
      simp only [List.getElem?_cons_succ] at h
      rw [List.flatMap_cons, List.getElem?_append_right (by rw [hs, Nat.succ_mul]; omega), hs, ← ih h j hj]
      congr 1
      rw [Nat.succ_mul]; omega
/-- The cells of element k. -/
theorem flatC_cell (hs : ∀ x, (c x).length = s) {w : World} {a : Option Addr} {n : Nat} {l : List α} (h : RowIn w a n s (l.flatMap c)) (h0 : 0 < s) {k : Nat} {t : α} (hk : l[k]? = some t) :
    ∃ b off, a = some ⟨b, off, none⟩ ∧ b < w.heap.size ∧ ∀ j v, (c t)[j]? = some v → w.cell? ⟨b, off + k * s + j, none⟩ = some v := by
  have hn : l.length * s = n * s := by rw [← flatC_length c s hs]; exact h.1
  have hkl := (List.getElem?_eq_some_iff.1 hk).1
  have hn' : l.length = n := Nat.eq_of_mul_eq_mul_right h0 hn
  obtain ⟨b, off, rfl, hc⟩ := h.at (by omega)
  have hf := flatC_at c s hs hk
  have key : ∀ j v, (c t)[j]? = some v → w.cell? ⟨b, off + k * s + j, none⟩ = some v := fun j v hj => by
    have hlt := (List.getElem?_eq_some_iff.1 hj).1
    rw [hs] at hlt
    rw [Nat.add_assoc]
    exact hc _ _ ((hf j hlt).trans hj)
  refine ⟨b, off, rfl, ?_, key⟩
  have hne : 0 < (c t).length := by rw [hs]; exact h0
  exact lt_of_cell (key 0 _ (List.getElem?_eq_getElem hne))
end

theorem rowIn_block {w : World} {b n size : Nat} {cs : Array Value} {T : TypeId} (hb : w.heap[b]? = some (.cells cs T (0, 0))) (hn : cs.size = n * size) (hm : n ≤ maxLen) : RowIn w (some ⟨b, 0, none⟩) n size cs.toList := by
  refine ⟨by simpa using hn, hm, .inr ⟨b, 0, rfl, fun i hi => ?_⟩⟩
  rw [cell_at hb, Nat.zero_add]
  simp

/-- The cells of numbers, of truth values. -/
def ints (zs : List Int) : List Value := zs.map (Value.int .i64)
def bools (zs : List Bool) : List Value := zs.map Value.bool
theorem ints_len (zs : List Int) : (ints zs).length = zs.length := by simp [ints]
theorem bools_len (zs : List Bool) : (bools zs).length = zs.length := by simp [bools]
theorem RowIn.int {w : World} {a : Option Addr} {n : Nat} {zs : List Int} (h : RowIn w a n 1 (ints zs)) {k : Nat} {z : Int} (hk : zs[k]? = some z) :
    ∃ b off, a = some ⟨b, off, none⟩ ∧ b < w.heap.size ∧ w.cell? ⟨b, off + k, none⟩ = some (.int .i64 z) := by
  have hlt := (List.getElem?_eq_some_iff.1 hk).1
  have hl := h.1
  rw [ints_len] at hl
  obtain ⟨b, off, rfl, hc⟩ := h.at (by omega)
  have := hc k (.int .i64 z) (by simp [ints, hk])
  exact ⟨b, off, rfl, lt_of_cell this, this⟩
theorem RowIn.bool {w : World} {a : Option Addr} {n : Nat} {zs : List Bool} (h : RowIn w a n 1 (bools zs)) {k : Nat} {z : Bool} (hk : zs[k]? = some z) :
    ∃ b off, a = some ⟨b, off, none⟩ ∧ b < w.heap.size ∧ w.cell? ⟨b, off + k, none⟩ = some (.bool z) := by
  have hlt := (List.getElem?_eq_some_iff.1 hk).1
  have hl := h.1
  rw [bools_len] at hl
  obtain ⟨b, off, rfl, hc⟩ := h.at (by omega)
  have := hc k (.bool z) (by simp [bools, hk])
  exact ⟨b, off, rfl, lt_of_cell this, this⟩
theorem RowIn.len1 {w : World} {a : Option Addr} {n : Nat} {zs : List Int} (h : RowIn w a n 1 (ints zs)) : zs.length = n := by have := h.1; rw [ints_len] at this; omega
theorem RowIn.len1b {w : World} {a : Option Addr} {n : Nat} {zs : List Bool} (h : RowIn w a n 1 (bools zs)) : zs.length = n := by have := h.1; rw [bools_len] at this; omega
/-- A slice of integers that came in, as a row. -/
theorem isRow_rowIn {w : World} {a : Option Addr} {len cap : Nat} {z : List Int} (h : IsRow .i64 w a len cap z) : RowIn w a len 1 (ints (z.take len)) := by
  rcases h with ⟨rfl, rfl, rfl, rfl⟩ | ⟨x, rfl, hl, hm, hz, hc, hwf⟩
  · exact ⟨by simp [ints], Nat.zero_le _, .inl rfl⟩
  · refine ⟨by simp [ints]; omega, by omega, ?_⟩
    by_cases h0 : len = 0
    · exact .inl h0
    obtain ⟨b, off, spot⟩ := x
    have hspot : spot = none := by
      have h0 := hc 0 (by omega)
      simpa [Addr.add] using World.cell?_spot h0
    subst hspot
    refine .inr ⟨b, off, rfl, fun i hi => ?_⟩
    have hi' : i < len := by simp [ints] at hi; omega
    have hci := hc i (by omega)
    have hadd : (⟨b, off, none⟩ : Addr).add i = ⟨b, off + i, none⟩ := by unfold Addr.add; split <;> simp_all
    rw [hadd] at hci
    rw [hci]
    simp [ints, List.getElem?_take_of_lt hi', List.getD_eq_getElem?_getD, List.getElem?_eq_getElem (show i < z.length by omega)]

theorem isRow_kept {k : IntKind} {w W : World} {a : Option Addr} {len cap : Nat} {z : List Int} (h : IsRow k w a len cap z) (hg : w.grownBy W none) : IsRow k W a len cap z := by
  rcases h with h | ⟨x, h1, h2, h3, h4, h5, h6⟩
  · exact .inl h
  · exact .inr ⟨x, h1, h2, h3, h4, fun i hi => (grown_cell hg (lt_of_cell (h5 i hi)) (by simp)).trans (h5 i hi), h6⟩

/-- Compared element by element up to k. -/
theorem take_eq_succ {α : Type} {x y : List α} {k : Nat} {u v : α} (hx : x[k]? = some u) (hy : y[k]? = some v) (h : x.take k = y.take k) : x.take (k + 1) = y.take (k + 1) ↔ u = v := by
  rw [List.take_add_one, List.take_add_one, hx, hy, h]
  simp
end Go.Proofs.Ytbpobekmbdngbaa
