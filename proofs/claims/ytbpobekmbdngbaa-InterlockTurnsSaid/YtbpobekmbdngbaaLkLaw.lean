/- The plain law of locks: owners and queues as lists. -/
import Derived.Test.YtbpobekmbdngbaaBase
namespace Go.Proofs.Ytbpobekmbdngbaa
set_option linter.unusedVariables false

structure Lk where
  own : List Int
  q : List (List Int)

/-! ### Valid -/
def rowB (o : Int) : List Int → List Int → Bool
  | _, [] => true
  | seen, r :: l => decide (0 ≤ r ∧ r < 8 ∧ r ∉ seen ∧ r ≠ o) && rowB o (seen ++ [r]) l
def rowsB : List Int → List Int → List (List Int) → Bool
  | seen, o :: os, l :: ls => decide (-1 ≤ o ∧ o < 8) && (rowB o seen l && rowsB (seen ++ l) os ls)
  | _, _, _ => true
def validL (l : Lk) : Bool := decide (l.own.length ≤ 48) && (decide (l.own.length = l.q.length) && rowsB [] l.own l.q)

structure VL (l : Lk) : Prop where
  len : l.own.length = l.q.length
  le : l.own.length ≤ 48
  own : ∀ o ∈ l.own, -1 ≤ o ∧ o < 8
  rob : ∀ x ∈ l.q, ∀ r ∈ x, 0 ≤ r ∧ r < 8
  nodup : l.q.flatten.Nodup
  free : ∀ (c : Nat) (o : Int) (x : List Int), l.own[c]? = some o → l.q[c]? = some x → o ∉ x

theorem rowB_iff (o : Int) (seen l : List Int) : rowB o seen l = true ↔ (∀ r ∈ l, 0 ≤ r ∧ r < 8 ∧ r ≠ o ∧ r ∉ seen) ∧ l.Nodup := by
  induction l generalizing seen with
  | nil => simp [rowB]
  | cons r l ih =>
    simp only [rowB, Bool.and_eq_true, decide_eq_true_eq, ih, List.mem_cons, List.mem_append, List.nodup_cons, forall_eq_or_imp]
    constructor
    · rintro ⟨⟨h1, h2, h3, h4⟩, h5, h6⟩
      exact ⟨⟨⟨h1, h2, h4, h3⟩, fun x hx => ⟨(h5 x hx).1, (h5 x hx).2.1, (h5 x hx).2.2.1, fun k => (h5 x hx).2.2.2 (.inl k)⟩⟩, fun k => (h5 r k).2.2.2 (.inr (.inl rfl)), h6⟩
    · rintro ⟨⟨⟨h1, h2, h4, h3⟩, h5⟩, h7, h6⟩
      refine ⟨⟨h1, h2, h3, h4⟩, fun x hx => ⟨(h5 x hx).1, (h5 x hx).2.1, (h5 x hx).2.2.1, fun k => ?_⟩, h6⟩
      rcases k with k | k | k
      · exact (h5 x hx).2.2.2 k
      · subst k; exact h7 hx
      · cases k
theorem rowsB_iff (seen os : List Int) (ls : List (List Int)) (hl : os.length = ls.length) : rowsB seen os ls = true ↔
    (∀ o ∈ os, -1 ≤ o ∧ o < 8) ∧ (∀ x ∈ ls, ∀ r ∈ x, 0 ≤ r ∧ r < 8) ∧ (∀ r ∈ ls.flatten, r ∉ seen) ∧ ls.flatten.Nodup ∧ ∀ (c : Nat) (o : Int) (x : List Int), os[c]? = some o → ls[c]? = some x → o ∉ x := by
  induction os generalizing seen ls with
  | nil =>
    obtain rfl : ls = [] := List.eq_nil_of_length_eq_zero (by simpa using hl.symm)
    simp [rowsB]
  | cons o os ih =>
    match ls, hl with
    | l :: ls, hl =>
      have hl' : os.length = ls.length := by simpa using hl
      simp only [rowsB, Bool.and_eq_true, decide_eq_true_eq, rowB_iff, ih (seen ++ l) ls hl', List.mem_cons, forall_eq_or_imp, List.flatten_cons, List.nodup_append, List.mem_append]
      constructor
      · rintro ⟨h1, ⟨h2, h3⟩, h4, h5, h6, h7, h8⟩
        refine ⟨⟨h1, h4⟩, ⟨fun r hr => ⟨(h2 r hr).1, (h2 r hr).2.1⟩, h5⟩, fun r hr => ?_, ⟨h3, h7, fun a ha b hb e => h6 b hb (.inr (e ▸ ha))⟩, fun c o' x ho hx => ?_⟩
        · rcases hr with hr | hr
          · exact (h2 r hr).2.2.2
          · exact fun k => h6 r hr (.inl k)
        · cases c with
          | zero =>
            simp at ho hx
            subst ho hx
            exact fun k => (h2 _ k).2.2.1 rfl
          | succ c => exact h8 c o' x (by simpa using ho) (by simpa using hx)
      · rintro ⟨⟨h1, h4⟩, ⟨h2, h5⟩, h6, ⟨h3, h7, h9⟩, h8⟩
        refine ⟨h1, ⟨fun r hr => ⟨(h2 r hr).1, (h2 r hr).2, ?_, h6 r (.inl hr)⟩, h3⟩, h4, h5, fun r hr k => ?_, h7, fun c o' x ho hx => h8 (c + 1) o' x (by simpa using ho) (by simpa using hx)⟩
        · rintro rfl; exact h8 0 r l (by simp) (by simp) hr
        · rcases k with k | k
          · exact h6 r (.inr hr) k
          · exact h9 r k r hr rfl
theorem valid_iff {l : Lk} : validL l = true ↔ VL l := by
  unfold validL
  simp only [Bool.and_eq_true, decide_eq_true_eq]
  constructor
  · rintro ⟨h1, h2, h3⟩
    obtain ⟨g1, g2, g3, g4, g5⟩ := (rowsB_iff _ _ _ h2).1 h3
    exact ⟨h2, h1, g1, g2, g4, g5⟩
  · intro h
    exact ⟨h.le, h.len, (rowsB_iff _ _ _ h.len).2 ⟨h.own, h.rob, by simp, h.nodup, h.free⟩⟩

/-! ### Who waits where -/
def findQ (r : Int) : List (List Int) → Nat → Int
  | [], _ => -1
  | x :: xs, i => if r ∈ x then i else findQ r xs (i + 1)
def waitsL (l : Lk) (r : Int) : Int := findQ r l.q 0
def oAt (l : Lk) (c : Nat) : Int := l.own.getD c (-1)
def qAt (l : Lk) (c : Nat) : List Int := l.q.getD c []
theorem oAt_of {l : Lk} {c : Nat} {o : Int} (h : l.own[c]? = some o) : oAt l c = o := by unfold oAt; rw [List.getD_eq_getElem?_getD, h]; rfl
theorem qAt_of {l : Lk} {c : Nat} {x : List Int} (h : l.q[c]? = some x) : qAt l c = x := by unfold qAt; rw [List.getD_eq_getElem?_getD, h]; rfl
theorem findQ_step {r : Int} {q : List (List Int)} {k : Nat} {x : List Int} (h : q[k]? = some x) : findQ r (q.drop k) k = if r ∈ x then (k : Int) else findQ r (q.drop (k + 1)) (k + 1) := by
  obtain ⟨h1, h2⟩ := List.getElem?_eq_some_iff.1 h
  rw [List.drop_eq_getElem_cons h1, h2, findQ]
theorem findQ_end {r : Int} {q : List (List Int)} {k : Nat} (h : q.length ≤ k) : findQ r (q.drop k) k = -1 := by
  rw [List.drop_eq_nil_of_le h, findQ]
theorem findQ_spec (r : Int) (q : List (List Int)) (i : Nat) : (findQ r q i = -1 ∧ ∀ x ∈ q, r ∉ x) ∨ ∃ (k : Nat) (x : List Int), findQ r q i = ((i + k : Nat) : Int) ∧ q[k]? = some x ∧ r ∈ x := by
  induction q generalizing i with
  | nil => left; simp [findQ]
  | cons x q ih =>
    by_cases h : r ∈ x
    · right; exact ⟨0, x, by simp [findQ, h], rfl, h⟩
    · rcases ih (i + 1) with ⟨h1, h2⟩ | ⟨k, y, h1, h2, h3⟩
      · left
        refine ⟨by simp [findQ, h, h1], fun z hz => ?_⟩
        rcases List.mem_cons.1 hz with rfl | hz
        · exact h
        · exact h2 z hz
      · right; exact ⟨k + 1, y, by rw [findQ, if_neg h, h1]; omega, h2, h3⟩
theorem waits_spec (l : Lk) (r : Int) : (waitsL l r = -1 ∧ ∀ x ∈ l.q, r ∉ x) ∨ ∃ (k : Nat) (x : List Int), waitsL l r = (k : Int) ∧ l.q[k]? = some x ∧ r ∈ x := by
  have := findQ_spec r l.q 0
  simpa [waitsL] using this

/-! ### Errors and results -/
def errC (l : Lk) (r c : Int) : Int := if validL l = false then 20 else if r < 0 ∨ 8 ≤ r ∨ c < 0 ∨ (l.own.length : Int) ≤ c then 19 else 0
def errR (l : Lk) (r : Int) : Int := if validL l = false then 20 else if r < 0 ∨ 8 ≤ r then 19 else 0
def zeroL : Lk := ⟨[], []⟩
def ownE (l : Lk) (r c : Int) : Int := if errC l r c ≠ 0 then errC l r c else if oAt l c.toNat ≠ -1 ∨ r ∈ qAt l c.toNat then 24 else 0
def ownL (l : Lk) (r c : Int) : Lk := ⟨l.own.set c.toNat r, l.q⟩
def relE (l : Lk) (c : Int) : Int := if errC l 0 c ≠ 0 then errC l 0 c else if oAt l c.toNat = -1 then 24 else 0
def relL (l : Lk) (c : Int) : Lk := ⟨l.own.set c.toNat (-1), l.q⟩
def askE (l : Lk) (r c : Int) : Int := if errC l r c ≠ 0 then errC l r c else if 0 ≤ waitsL l r ∨ oAt l c.toNat = r then 24 else 0
def askL (l : Lk) (r c : Int) : Lk := ⟨l.own, l.q.set c.toNat (qAt l c.toNat ++ [r])⟩
def leaveE (l : Lk) (r : Int) : Int := if errR l r ≠ 0 then errR l r else if waitsL l r < 0 then 25 else 0
def leaveL (l : Lk) (r : Int) : Lk := ⟨l.own, l.q.set (waitsL l r).toNat ((qAt l (waitsL l r).toNat).filter (fun x => decide (x ≠ r)))⟩
def grantE (l : Lk) (m : Nat) : Int := if validL l = false then 20 else if m ≠ l.own.length then 19 else 0
/-- Grants of the cells below c. -/
def grantTo (l : Lk) (closed : List Bool) : Nat → Lk × List (Int × Int)
  | 0 => (l, [])
  | c + 1 =>
    match qAt l c with
    | [] => grantTo l closed c
    | r :: rest =>
      if oAt l c = -1 ∧ closed[c]? = some false then
        (⟨(grantTo l closed c).1.own.set c r, (grantTo l closed c).1.q.set c rest⟩, (grantTo l closed c).2 ++ [(r, (c : Int))])
      else grantTo l closed c
def ownedTo (l : Lk) (r : Int) (k : Nat) : List Int := ((List.range k).filter fun c => decide (oAt l c = r)).map fun c : Nat => (c : Int)
def chainGo (l : Lk) (robot : Int) : Nat → Int → List Int → List Int
  | 0, _, out => out
  | n + 1, r, out =>
    if waitsL l r < 0 then out
    else if oAt l (waitsL l r).toNat = -1 ∨ oAt l (waitsL l r).toNat = robot ∨ oAt l (waitsL l r).toNat ∈ out then out
    else chainGo l robot n (oAt l (waitsL l r).toNat) (out ++ [oAt l (waitsL l r).toNat])
def chainL (l : Lk) (robot : Int) : List Int := chainGo l robot 9 robot []
end Go.Proofs.Ytbpobekmbdngbaa
