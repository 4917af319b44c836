/- An argument that is a slice of structs, opened as a row. -/
import Derived.Test.YtbpobekmbdngbaaData
import Derived.Test.YtbpobekmbdngbaaOpen
import Derived.ProofKit
import Derived.ChangeArms
import Derived.Deep.Slices
namespace Go.Proofs.Ytbpobekmbdngbaa
open Go.RowKit Go.ChangeShapes Go.WideShapes
set_option linter.unusedVariables false

section
variable {H : Type} {enc : TypeId × Value → H} {P : Program} {w : World} {base : Nat} {spare : Nat → Bool} {held : Bool}

theorem open_rows {α : Type} (c : α → List Value) (s : Nat) (hs : ∀ x, (c x).length = s) (hs0 : 0 < s) (Q : α → Prop) {t e : TypeId} (ht : P.underlying t = some (.slice e)) (hC : P.cellsOf e = s)
    (key : ∀ n cs x, cs.length = s → DataW.trod enc P w base spare held n e cs = some x → ∃ y : α, cs = c y ∧ Q y)
    {fuel : Nat} {cs : List Value} {x : DataW H × List MemPlace} (h : DataW.trod enc P w base spare held fuel t cs = some x) :
    ∃ (a : Option Addr) (len cap : Nat) (l : List α), cs = [.slice a len cap] ∧ len ≤ cap ∧ cap ≤ maxLen ∧ (a = none → cap = 0) ∧ RowIn w a len s (l.flatMap c) ∧ l.length = len ∧ ∀ y ∈ l, Q y := by
  rcases Go.Deep.open_slice ht h with ⟨hcs, _⟩ | ⟨a, len, cap, m, n, D, Pl, hcs, hb, hl, hm, hmm, hx, hi⟩
  · exact ⟨none, 0, 0, [], hcs, Nat.le_refl _, Nat.zero_le _, fun _ => rfl, ⟨by simp, Nat.zero_le _, .inl rfl⟩, rfl, fun _ h => by cases h⟩
  · have hle : len ≤ m := by rw [hmm]; split <;> omega
    have each : ∀ i, i < len → ∃ y : α, Q y ∧ ∀ j, j < s → w.cell? ((a.add (i * s)).add j) = (c y)[j]? := by
      intro i hil
      obtain ⟨cs', hc, ht'⟩ := hi i (by omega)
      rw [hC] at hc
      obtain ⟨_, hcl, hat⟩ := World.cells?_some hc
      obtain ⟨y, rfl, hq⟩ := key _ _ _ hcl ht'
      exact ⟨y, hq, hat⟩
    by_cases h0 : len = 0
    · subst h0
      exact ⟨some a, 0, cap, [], hcs, hl, hm, (fun h => by cases h), ⟨by simp, Nat.zero_le _, .inl rfl⟩, rfl, fun _ h => by cases h⟩
    obtain ⟨y0, _⟩ := each 0 (by omega)
    let f : Nat → α := fun i => if hil : i < len then Classical.choose (each i hil) else y0
    have hf : ∀ i, i < len → Q (f i) ∧ ∀ j, j < s → w.cell? ((a.add (i * s)).add j) = (c (f i))[j]? := fun i hil => by
      have := Classical.choose_spec (each i hil)
      simp only [f, dif_pos hil]
      exact this
    have hlen : ((List.range len).map f).length = len := by simp
    have hat : ∀ i, i < len → ((List.range len).map f)[i]? = some (f i) := fun i hil => by simp [hil]
    refine ⟨some a, len, cap, (List.range len).map f, hcs, hl, hm, (fun h => by cases h), ⟨by rw [flatC_length c s hs, hlen], by omega, .inr ?_⟩, hlen, fun y hy => ?_⟩
    · obtain ⟨b, off, spot⟩ := a
      have hspot : spot = none := by
        have h1 := (hf 0 (by omega)).2 0 (by omega)
        have hne : (c (f 0))[0]? = some ((c (f 0))[0]'(by rw [hs]; omega)) := List.getElem?_eq_getElem _
        rw [hne] at h1
        simpa [Addr.add] using World.cell?_spot h1
      subst hspot
      refine ⟨b, off, rfl, fun i hi => ?_⟩
      rw [flatC_length c s hs, hlen] at hi
      have hq : i / s < len := Nat.div_lt_of_lt_mul (by rw [Nat.mul_comm]; exact hi)
      have hr : i % s < s := Nat.mod_lt _ (by omega)
      have hdm := Nat.div_add_mod i s
      have h1 := (hf (i / s) hq).2 (i % s) hr
      have h2 := flatC_at c s hs (hat (i / s) hq) (i % s) hr
      have hi' : i / s * s + i % s = i := by rw [Nat.mul_comm]; exact hdm
      rw [hi'] at h2
      rw [h2, ← h1]
      congr 1
      have hadd : ∀ o n, (⟨b, o, none⟩ : Addr).add n = ⟨b, o + n, none⟩ := fun o n => by unfold Addr.add; split <;> simp_all
      rw [hadd, hadd]
      congr 1
      omega
    · obtain ⟨i, hi, rfl⟩ := List.mem_map.1 hy
      exact (hf i (by simpa using hi)).1

/-- One-cell fields of a struct. -/
theorem trod_field {t : TypeId} {fs : Array Field} {n : Nat} {cs : List Value} {x : DataW H × List MemPlace} (ht : P.underlying t = some (.struct fs)) (h : DataW.trod enc P w base spare held n t cs = some x) {j : Nat} {f : Field} {v : Value}
    (hf : fs[j]? = some f) (ho : f.offset = j) (hc : P.cellsOf f.type = 1) (hv : cs[j]? = some v) : ∃ m y, DataW.trod enc P w base spare held m f.type [v] = some y := by
  obtain ⟨xs, m, _, _, _, hxl, hall⟩ := DataW.trod_struct ht h
  have h1 := hall j f hf
  rw [ho, hc] at h1
  obtain ⟨hlt, rfl⟩ := List.getElem?_eq_some_iff.1 hv
  have h2 : (cs.drop j).take 1 = [cs[j]] := by rw [List.drop_eq_getElem_cons hlt]; rfl
  rw [h2] at h1
  have hjx : j < xs.length := by rw [hxl]; exact (Array.getElem?_eq_some_iff.1 hf).1
  rw [List.getElem?_eq_getElem hjx] at h1
  exact ⟨m, _, h1⟩
end
end Go.Proofs.Ytbpobekmbdngbaa
