/- Arguments opened: a lock, a slice of truth values. -/
import Derived.Test.YtbpobekmbdngbaaOpenG
import Derived.Test.YtbpobekmbdngbaaLkMem
import Derived.Deep.Matrix
namespace Go.Proofs.Ytbpobekmbdngbaa
open Go.RowKit Go.ChangeShapes Go.WideShapes
set_option linter.unusedVariables false

theorem bools_flat (l : List Bool) : l.flatMap (fun b => [Value.bool b]) = bools l := by
  induction l with
  | nil => rfl
  | cons b l ih => rw [List.flatMap_cons, ih]; rfl
theorem open_bools {H : Type} {enc : TypeId × Value → H} {w : World} {base : Nat} {spare : Nat → Bool} {held : Bool} {fuel : Nat} {cs : List Value} {x : DataW H × List MemPlace}
    (h : DataW.trod enc Try.prog w base spare held fuel 45 cs = some x) :
    ∃ a len cap l, cs = [.slice a len cap] ∧ (RowIn w a len 1 (bools l) ∧ len ≤ cap ∧ cap ≤ maxLen) := by
  obtain ⟨a, len, cap, l, h1, h2, h3, _, h4, _, _⟩ := open_rows (fun b : Bool => [Value.bool b]) 1 (fun _ => rfl) (by omega) (fun _ => True) Try.underlying45 (by kernel_rfl) (fun n cs x hl ht => by
    obtain ⟨b, hb, _⟩ := DataW.trod_bool Try.underlying4 ht
    exact ⟨b, hb, trivial⟩) h
  rw [bools_flat] at h4
  exact ⟨a, len, cap, l, h1, h4, h2, h3⟩
theorem open_lists2 {H : Type} {enc : TypeId × Value → H} {w : World} {base : Nat} {held : Bool} {fuel : Nat} {cs : List Value} {x : DataW H × List MemPlace}
    (h : DataW.trod enc Try.prog w base (fun _ => true) held fuel 24 cs = some x) :
    ∃ a len cap l, cs = [.slice a len cap] ∧ (ListsR none w a len l ∧ (a = none → cap = 0) ∧ len ≤ cap ∧ cap ≤ maxLen) := by
  rcases Go.Deep.open_int_rows Try.underlying24 Try.underlying22 Try.underlying3 (by kernel_rfl) (by kernel_rfl) h with ⟨hcs, _⟩ | ⟨a, len, cap, A, L, C, Z, hcs, hb, hl, hm, _, hr⟩
  · exact ⟨none, 0, 0, [], hcs, ⟨[], ⟨⟨by simp, Nat.zero_le _, .inl rfl⟩, by simp⟩, rfl, fun i xs h => by simp at h⟩, fun _ => rfl, Nat.le_refl _, Nat.zero_le _⟩
  · refine ⟨some a, len, cap, (List.range len).map (fun r => (Z r).take (L r)), hcs, ⟨(List.range len).map (fun r => .slice (A r) (L r) (C r)), rowR_none ⟨by simp, by omega, ?_⟩, by simp, fun i xs hi => ?_⟩, (fun h => by cases h), hl, hm⟩
    · by_cases h0 : len = 0
      · exact .inl h0
      obtain ⟨b, off, spot⟩ := a
      have hspot : spot = none := by
        have h1 := (hr 0 (by omega)).1
        simpa [Addr.add] using World.cell?_spot h1
      subst hspot
      refine .inr ⟨b, off, rfl, fun i hi => ?_⟩
      have hi' : i < len := by simpa using hi
      have h1 := (hr i (by omega)).1
      have hadd : (⟨b, off, none⟩ : Addr).add i = ⟨b, off + i, none⟩ := by unfold Addr.add; split <;> simp_all
      rw [hadd] at h1
      rw [h1]
      simp [hi']
    · have hi' : i < len := by have := (List.getElem?_eq_some_iff.1 hi).1; simpa using this
      obtain ⟨h1, h2, h3, h4, h5, h6, h7⟩ := hr i (by omega)
      obtain rfl : (Z i).take (L i) = xs := by simpa [hi'] using hi
      have hlen : ((Z i).take (L i)).length = L i := by simp; omega
      rw [hlen]
      refine ⟨A i, C i, by simp [hi'], h2, h3, h6, rowR_none (isRow_rowIn (cap := C i) ?_)⟩
      cases hA : A i with
      | none =>
        have hc := h6 hA
        exact .inl ⟨rfl, by omega, hc, List.eq_nil_of_length_eq_zero (by omega)⟩
      | some a' =>
        exact .inr ⟨a', rfl, h2, h3, h4, fun c hc => (h7 a' hA).2 c (by omega), h5⟩
theorem ints_flat (l : List Int) : l.flatMap (fun z => [Value.int .i64 z]) = ints l := by
  induction l with
  | nil => rfl
  | cons z l ih => rw [List.flatMap_cons, ih]; rfl
theorem open_ints2 {H : Type} {enc : TypeId × Value → H} {w : World} {base : Nat} {spare : Nat → Bool} {held : Bool} {fuel : Nat} {cs : List Value} {x : DataW H × List MemPlace}
    (h : DataW.trod enc Try.prog w base spare held fuel 22 cs = some x) :
    ∃ a len cap l, cs = [.slice a len cap] ∧ (RowIn w a len 1 (ints l) ∧ (a = none → cap = 0) ∧ len ≤ cap ∧ cap ≤ maxLen) := by
  obtain ⟨a, len, cap, l, h1, h2, h3, h0, h4, _, _⟩ := open_rows (fun z : Int => [Value.int .i64 z]) 1 (fun _ => rfl) (by omega) (fun _ => True) Try.underlying22 (by kernel_rfl) (fun n cs x hl ht => by
    obtain ⟨b, hb, _⟩ := DataW.trod_int Try.underlying3 ht
    exact ⟨b, hb, trivial⟩) h
  rw [ints_flat] at h4
  exact ⟨a, len, cap, l, h1, h4, h0, h2, h3⟩
theorem Try.cells_lock : Try.prog.cellsOf 26 = 2 := by kernel_rfl
theorem two_list {cs : List Value} (h : cs.length = 2) : ∃ a b, cs = [a, b] := by
  match cs, h with
  | [a, b], _ => exact ⟨a, b, rfl⟩
theorem open_lock {H : Type} {enc : TypeId × Value → H} {w : World} {base : Nat} {held : Bool} {fuel : Nat} {cs : List Value} {x : DataW H × List MemPlace}
    (h : DataW.trod enc Try.prog w base (fun _ => true) held fuel 26 cs = some x) :
    ∃ a1 n1 c1 a2 n2 c2 l, cs = [.slice a1 n1 c1, .slice a2 n2 c2] ∧ LkR none w a1 n1 c1 a2 n2 c2 l := by
  obtain ⟨_, _, _, _, hl, _, _⟩ := DataW.trod_struct Try.underlying26 h
  rw [Try.cells_lock] at hl
  obtain ⟨v0, v1, rfl⟩ := two_list hl
  obtain ⟨m0, y0, g0⟩ := trod_field (j := 0) (v := v0) Try.underlying26 h rfl rfl (by kernel_rfl) rfl
  obtain ⟨m1, y1, g1⟩ := trod_field (j := 1) (v := v1) Try.underlying26 h rfl rfl (by kernel_rfl) rfl
  obtain ⟨a1, n1, c1, own, e1, k1, k2, k3, k4⟩ := open_ints2 g0
  obtain ⟨a2, n2, c2, q, e2, j1, j2, j3, j4⟩ := open_lists2 g1
  simp only [List.cons.injEq, and_true] at e1 e2
  subst e1 e2
  exact ⟨a1, n1, c1, a2, n2, c2, ⟨own, q⟩, rfl, ⟨rowR_none k1, j1⟩, k2, j2, k3, k4, j3, j4⟩
end Go.Proofs.Ytbpobekmbdngbaa
