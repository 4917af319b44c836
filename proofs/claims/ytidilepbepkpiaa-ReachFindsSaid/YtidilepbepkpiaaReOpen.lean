/- Arguments opened: a slice of truth values, a slice of slices of numbers. -/
import Derived.Test.YtidilepbepkpiaaOpenG
import Derived.Test.YtidilepbepkpiaaGrm
import Derived.Deep.Matrix
namespace Go.Proofs.Ytidilepbepkpiaa
open Go.RowKit Go.ChangeShapes Go.WideShapes
set_option linter.unusedVariables false

theorem bools_flat (l : List Bool) : l.flatMap (fun b => [Value.bool b]) = bools l := by
  induction l with
  | nil => rfl
  | cons b l ih => rw [List.flatMap_cons, ih]; rfl
theorem open_bools {H : Type} {enc : TypeId × Value → H} {w : World} {base : Nat} {spare : Nat → Bool} {held : Bool} {fuel : Nat} {cs : List Value} {x : DataW H × List MemPlace}
    (h : DataW.trod enc Try.prog w base spare held fuel 29 cs = some x) :
    ∃ a len cap l, cs = [.slice a len cap] ∧ (RowIn w a len 1 (bools l) ∧ len ≤ cap ∧ cap ≤ maxLen) := by
  obtain ⟨a, len, cap, l, h1, h2, h3, _, h4, _, _⟩ := open_rows (fun b : Bool => [Value.bool b]) 1 (fun _ => rfl) (by omega) (fun _ => True) Try.underlying29 (by kernel_rfl) (fun n cs x hl ht => by
    obtain ⟨b, hb, _⟩ := DataW.trod_bool Try.underlying4 ht
    exact ⟨b, hb, trivial⟩) h
  rw [bools_flat] at h4
  exact ⟨a, len, cap, l, h1, h4, h2, h3⟩
theorem open_lists {H : Type} {enc : TypeId × Value → H} {w : World} {base : Nat} {held : Bool} {fuel : Nat} {cs : List Value} {x : DataW H × List MemPlace}
    (h : DataW.trod enc Try.prog w base (fun _ => true) held fuel 27 cs = some x) :
    ∃ a len cap l, cs = [.slice a len cap] ∧ (ListsR none w a len l ∧ len ≤ cap ∧ cap ≤ maxLen) := by
  rcases Go.Deep.open_int_rows Try.underlying27 Try.underlying22 Try.underlying3 (by kernel_rfl) (by kernel_rfl) h with ⟨hcs, _⟩ | ⟨a, len, cap, A, L, C, Z, hcs, hb, hl, hm, _, hr⟩
  · exact ⟨none, 0, 0, [], hcs, ⟨[], ⟨⟨by simp, Nat.zero_le _, .inl rfl⟩, by simp⟩, rfl, fun i xs h => by simp at h⟩, Nat.le_refl _, Nat.zero_le _⟩
  · refine ⟨some a, len, cap, (List.range len).map (fun r => (Z r).take (L r)), hcs, ⟨(List.range len).map (fun r => .slice (A r) (L r) (C r)), rowR_none ⟨by simp, by omega, ?_⟩, by simp, fun i xs hi => ?_⟩, hl, hm⟩
    · by_cases h0 : len = 0
      · exact .inl h0
      obtain ⟨b, off, spot⟩ := a
      have hspot : spot = none := by
        have h1 := (hr 0 (by omega)).1
        simpa [Addr.add] using World.cell?_spot h1
      subst hspot
      refine .inr ⟨b, off, rfl, fun i hi => ?_⟩
      have hi' : i < len := by simpa using hi
      have h1 := (hr i (by omega)).1
      have hadd : (⟨b, off, none⟩ : Addr).add i = ⟨b, off + i, none⟩ := by unfold Addr.add; split <;> simp_all
      rw [hadd] at h1
      rw [h1]
      simp [hi']
    · have hi' : i < len := by have := (List.getElem?_eq_some_iff.1 hi).1; simpa using this
      obtain ⟨h1, h2, h3, h4, h5, h6, h7⟩ := hr i (by omega)
      obtain rfl : (Z i).take (L i) = xs := by simpa [hi'] using hi
      have hlen : ((Z i).take (L i)).length = L i := by simp; omega
      rw [hlen]
      refine ⟨A i, C i, by simp [hi'], h2, h3, h6, rowR_none (isRow_rowIn (cap := C i) ?_)⟩
      cases hA : A i with
      | none =>
        have hc := h6 hA
        exact .inl ⟨rfl, by omega, hc, List.eq_nil_of_length_eq_zero (by omega)⟩
      | some a' =>
        exact .inr ⟨a', rfl, h2, h3, h4, fun c hc => (h7 a' hA).2 c (by omega), h5⟩
end Go.Proofs.Ytidilepbepkpiaa
