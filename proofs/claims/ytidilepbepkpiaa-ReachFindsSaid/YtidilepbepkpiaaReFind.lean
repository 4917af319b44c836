/- A search by marks: the plain law. -/
import Derived.Test.YtidilepbepkpiaaReLaw
namespace Go.Proofs.Ytidilepbepkpiaa
set_option linter.unusedVariables false

def unmarked (m : List Bool) : Nat := m.countP (fun b => !b)
theorem unmarked_set {m : List Bool} {y : Nat} (h : m[y]? = some false) : unmarked (m.set y true) + 1 = unmarked m := by
  unfold unmarked
  induction m generalizing y with
  | nil => simp at h
  | cons b m ih =>
    cases y with
    | zero => simp at h; subst h; simp
    | succ y =>
      simp only [List.getElem?_cons_succ] at h
      have := ih h
      simp only [List.set_cons_succ, List.countP_cons]
      omega
theorem unmarked_le (m : List Bool) : unmarked m ≤ m.length := List.countP_le_length

/-- The marks m and the list S of those whose edges are still to be followed. -/
structure Srch (g : Gr) (s : List Bool) (v : Nat) (m : List Bool) (S : List Int) : Prop where
  sound : ∀ w : Nat, m[w]? = some true → Reach g s v w
  start : m[v]? = some true
  todo : ∀ x ∈ S, ∃ y : Nat, x = y ∧ m[y]? = some true
  closed : ∀ u : Nat, m[u]? = some true → (u : Int) ∉ S → ∀ y : Nat, (y : Int) ∈ adj g u → isOpen s y → m[y]? = some true
/-- The same while the first j edges of u have been followed. -/
structure SrchIn (g : Gr) (s : List Bool) (v u j : Nat) (m : List Bool) (S : List Int) : Prop where
  sound : ∀ w : Nat, m[w]? = some true → Reach g s v w
  start : m[v]? = some true
  todo : ∀ x ∈ S, ∃ y : Nat, x = y ∧ m[y]? = some true
  closed : ∀ u' : Nat, m[u']? = some true → (u' : Int) ∉ S → u' ≠ u → ∀ y : Nat, (y : Int) ∈ adj g u' → isOpen s y → m[y]? = some true
  at_u : m[u]? = some true
  part : ∀ y : Nat, (y : Int) ∈ (adj g u).take j → isOpen s y → m[y]? = some true

theorem Srch.begin {g : Gr} {s : List Bool} {v N : Nat} (hv : isOpen s v) (hN : v < N) : Srch g s v ((List.replicate N false).set v true) [(v : Int)] := by
  have hm : ∀ w, ((List.replicate N false).set v true)[w]? = some true → w = v := by
    intro w h
    by_cases e : v = w
    · exact e.symm
    · rw [List.getElem?_set_ne e, List.getElem?_replicate] at h
      split at h <;> simp at h
  refine ⟨fun w h => by rw [hm w h]; exact .base hv, List.getElem?_set_self (by simpa using hN), fun x hx => ?_, fun u h hn => ?_⟩
  · simp at hx; exact ⟨v, hx, List.getElem?_set_self (by simpa using hN)⟩
  · rw [hm u h] at hn; simp at hn
theorem Srch.pop {g : Gr} {s : List Bool} {v u : Nat} {m : List Bool} {S : List Int} (h : Srch g s v m (S ++ [(u : Int)])) : SrchIn g s v u 0 m S := by
  have hu : m[u]? = some true := by
    obtain ⟨y, hy, h1⟩ := h.todo (u : Int) (by simp)
    have : u = y := by omega
    rw [this]; exact h1
  exact ⟨h.sound, h.start, fun x hx => h.todo x (by simp [hx]), fun u' h1 h2 h3 => h.closed u' h1 (by simp [h2]; omega), hu, fun y hy => by simp at hy⟩
theorem Srch.first {g : Gr} {s : List Bool} {v u : Nat} {m : List Bool} {S : List Int} (h : Srch g s v m ((u : Int) :: S)) : SrchIn g s v u 0 m S := by
  have hu : m[u]? = some true := by
    obtain ⟨y, hy, h1⟩ := h.todo (u : Int) (by simp)
    have : u = y := by omega
    rw [this]; exact h1
  exact ⟨h.sound, h.start, fun x hx => h.todo x (by simp [hx]), fun u' h1 h2 h3 => h.closed u' h1 (by simp [h2]; omega), hu, fun y hy => by simp at hy⟩
theorem SrchIn.done {g : Gr} {s : List Bool} {v u j : Nat} {m : List Bool} {S : List Int} (h : SrchIn g s v u j m S) (hj : (adj g u).length ≤ j) : Srch g s v m S := by
  refine ⟨h.sound, h.start, h.todo, fun u' h1 h2 y hy ho => ?_⟩
  by_cases e : u' = u
  · subst e; exact h.part y (by rw [List.take_of_length_le hj]; exact hy) ho
  · exact h.closed u' h1 h2 e y hy ho
theorem take_mem {l : List Int} {j : Nat} {x y : Int} (hx : l[j]? = some x) (h : y ∈ l.take (j + 1)) : y ∈ l.take j ∨ y = x := by
  rw [List.take_add_one, hx] at h
  simpa using h
/-- The edge to x is not followed: x is shut, or marked. -/
theorem SrchIn.skip {g : Gr} {s : List Bool} {v u j x : Nat} {m : List Bool} {S : List Int} (h : SrchIn g s v u j m S) (hx : (adj g u)[j]? = some (x : Int)) (hs : ¬ isOpen s x ∨ m[x]? = some true) : SrchIn g s v u (j + 1) m S := by
  refine ⟨h.sound, h.start, h.todo, h.closed, h.at_u, fun y hy ho => ?_⟩
  rcases take_mem hx hy with h1 | h1
  · exact h.part y h1 ho
  · have : y = x := by omega
    subst this
    rcases hs with hs | hs
    · exact absurd ho hs
    · exact hs
/-- x is marked and put on the list. -/
theorem SrchIn.mark {g : Gr} {s : List Bool} {v u j x : Nat} {m : List Bool} {S S' : List Int} (h : SrchIn g s v u j m S) (hx : (adj g u)[j]? = some (x : Int)) (ho : isOpen s x) (hm : m[x]? = some false)
    (hS : ∀ y, y ∈ S' ↔ y ∈ S ∨ y = (x : Int)) : SrchIn g s v u (j + 1) (m.set x true) S' := by
  have hxl : x < m.length := (List.getElem?_eq_some_iff.1 hm).1
  have hself : (m.set x true)[x]? = some true := List.getElem?_set_self hxl
  have up : ∀ w : Nat, m[w]? = some true → (m.set x true)[w]? = some true := by
    intro w hw
    by_cases e : x = w
    · subst e; exact hself
    · rw [List.getElem?_set_ne e]; exact hw
  have down : ∀ w : Nat, (m.set x true)[w]? = some true → w = x ∨ m[w]? = some true := by
    intro w hw
    by_cases e : x = w
    · exact .inl e.symm
    · rw [List.getElem?_set_ne e] at hw; exact .inr hw
  refine ⟨fun w hw => ?_, up _ h.start, fun y hy => ?_, fun u' h1 h2 h3 y hy hoy => ?_, up _ h.at_u, fun y hy hoy => ?_⟩
  · rcases down w hw with rfl | hw
    · exact .step (h.sound u h.at_u) (List.mem_of_getElem? hx) ho
    · exact h.sound w hw
  · rcases (hS y).1 hy with hy | rfl
    · obtain ⟨z, hz, h1⟩ := h.todo y hy
      exact ⟨z, hz, up z h1⟩
    · exact ⟨x, rfl, hself⟩
  · rcases down u' h1 with rfl | h1
    · exact absurd ((hS _).2 (.inr rfl)) h2
    · exact up y (h.closed u' h1 (fun hm => h2 ((hS _).2 (.inl hm))) h3 y hy hoy)
  · rcases take_mem hx hy with h1 | h1
    · exact up y (h.part y h1 hoy)
    · have : y = x := by omega
      subst this; exact hself
theorem Srch.final {g : Gr} {s : List Bool} {v : Nat} {m : List Bool} (h : Srch g s v m []) (hg : validB g = true) : ∀ w, m[w]? = some true ↔ Reach g s v w := by
  intro w
  refine ⟨h.sound w, fun hr => ?_⟩
  induction hr with
  | base _ => exact h.start
  | step hu he ho ih => exact h.closed _ ih (by simp) _ he ho
theorem none_marked {g : Gr} {s : List Bool} {v N : Nat} (hv : ¬ isOpen s v) : ∀ w, (List.replicate N false)[w]? = some true ↔ Reach g s v w := by
  intro w
  constructor
  · intro h
    rw [List.getElem?_replicate] at h
    split at h <;> simp at h
  · intro h; exact absurd h.opens.1 hv
end Go.Proofs.Ytidilepbepkpiaa
