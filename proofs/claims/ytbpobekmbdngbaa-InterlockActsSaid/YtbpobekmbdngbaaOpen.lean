/- Arguments by value, opened: structs and arrays of integers. -/
import Derived.Test.YtbpobekmbdngbaaBase
import Derived.ProofKit
namespace Go.Proofs.Ytbpobekmbdngbaa
open Go.RowKit
set_option linter.unusedVariables false

section
variable {P : Program} {w : World} {r : Reach} {base : Nat} {t u : TypeId} {v : Value}
theorem cellWide_int {k : IntKind} (ht : P.underlying u = some (.int k)) (h : Cell.okWide P w r base u v) : ∃ n, v = .int k n ∧ k.has n := by
  unfold Cell.okWide at h
  rw [ht] at h
  cases v <;> simp [Cell.ok, ht] at h
  obtain ⟨rfl, h⟩ := h
  exact ⟨_, rfl, h⟩
theorem cellWide_string (ht : P.underlying u = some .string) (h : Cell.okWide P w r base u v) : ∃ s, v = .string s := by
  unfold Cell.okWide at h
  rw [ht] at h
  cases v <;> simp [Cell.ok, ht] at h
  exact ⟨_, rfl⟩
theorem cellWide_bool (ht : P.underlying u = some .bool) (h : Cell.okWide P w r base u v) : ∃ s, v = .bool s := by
  unfold Cell.okWide at h
  rw [ht] at h
  cases v <;> simp [Cell.ok, ht] at h
  exact ⟨_, rfl⟩
theorem wf_of_has {k : IntKind} {n : Int} (h : k.has n) : (Lit.int k n).wf = true := by
  simp only [Lit.wf, Bool.and_eq_true, decide_eq_true_eq]; exact h
theorem has_i64 {n : Int} (h : IntKind.i64.has n) : -9223372036854775808 ≤ n ∧ n ≤ 9223372036854775807 := by
  simp [IntKind.has, IntKind.min, IntKind.max, IntKind.signed, IntKind.bits] at h; omega
theorem has_u64 {n : Int} (h : IntKind.u64.has n) : 0 ≤ n ∧ n ≤ 18446744073709551615 := by
  simp [IntKind.has, IntKind.min, IntKind.max, IntKind.signed, IntKind.bits] at h; omega
theorem structWide {fs : Array Field} (ht : P.underlying t = some (.struct fs)) (h : Value.okWide P w r base t v) :
    ∃ cs ts, v = .agg cs ∧ cs.size = P.cellsOf t ∧ P.cellTypes P.depth t = some ts ∧ ∀ (i : Nat) x, cs[i]? = some x → ∃ u, ts[i % ts.length]? = some u ∧ Cell.okWide P w r base u x := by
  unfold Value.okWide at h
  rw [ht] at h
  obtain ⟨cs, h1, h2, ts, h3, _, h4⟩ := h
  exact ⟨cs, ts, h1, h2, h3, h4⟩
theorem arrayWide {n : Nat} {e : TypeId} (ht : P.underlying t = some (.array n e)) (h : Value.okWide P w r base t v) :
    ∃ cs ts, v = .agg cs ∧ cs.size = P.cellsOf t ∧ P.cellTypes P.depth t = some ts ∧ ∀ (i : Nat) x, cs[i]? = some x → ∃ u, ts[i % ts.length]? = some u ∧ Cell.okWide P w r base u x := by
  unfold Value.okWide at h
  rw [ht] at h
  obtain ⟨cs, h1, h2, ts, h3, _, h4⟩ := h
  exact ⟨cs, ts, h1, h2, h3, h4⟩
end
theorem arr2 {cs : Array Value} (h : cs.size = 2) : ∃ c0 c1, cs = #[c0, c1] := by
  obtain ⟨l⟩ := cs
  match l, h with
  | [c0, c1], _ => exact ⟨c0, c1, rfl⟩
theorem arr3 {cs : Array Value} (h : cs.size = 3) : ∃ c0 c1 c2, cs = #[c0, c1, c2] := by
  obtain ⟨l⟩ := cs
  match l, h with
  | [c0, c1, c2], _ => exact ⟨c0, c1, c2, rfl⟩
theorem arr4 {cs : Array Value} (h : cs.size = 4) : ∃ c0 c1 c2 c3, cs = #[c0, c1, c2, c3] := by
  obtain ⟨l⟩ := cs
  match l, h with
  | [c0, c1, c2, c3], _ => exact ⟨c0, c1, c2, c3, rfl⟩
theorem arr5 {cs : Array Value} (h : cs.size = 5) : ∃ c0 c1 c2 c3 c4, cs = #[c0, c1, c2, c3, c4] := by
  obtain ⟨l⟩ := cs
  match l, h with
  | [c0, c1, c2, c3, c4], _ => exact ⟨c0, c1, c2, c3, c4, rfl⟩
theorem arr6 {cs : Array Value} (h : cs.size = 6) : ∃ c0 c1 c2 c3 c4 c5, cs = #[c0, c1, c2, c3, c4, c5] := by
  obtain ⟨l⟩ := cs
  match l, h with
  | [c0, c1, c2, c3, c4, c5], _ => exact ⟨c0, c1, c2, c3, c4, c5, rfl⟩
end Go.Proofs.Ytbpobekmbdngbaa
