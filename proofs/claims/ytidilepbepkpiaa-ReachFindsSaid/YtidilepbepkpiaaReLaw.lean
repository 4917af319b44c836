/- Reach: the plain laws of graphs. -/
import Derived.Test.YtidilepbepkpiaaRows
namespace Go.Proofs.Ytidilepbepkpiaa
set_option linter.unusedVariables false

abbrev Gr := List (List Int)
def adj (g : Gr) (u : Nat) : List Int := g.getD u []
def isOpen (s : List Bool) (w : Nat) : Prop := s[w]? = some false

/-- v reaches w through open vertices. -/
inductive Reach (g : Gr) (s : List Bool) (v : Nat) : Nat → Prop
  | base : isOpen s v → Reach g s v v
  | step {u w : Nat} : Reach g s v u → (w : Int) ∈ adj g u → isOpen s w → Reach g s v w

theorem Reach.opens {g : Gr} {s : List Bool} {v w : Nat} (h : Reach g s v w) : isOpen s v ∧ isOpen s w := by
  induction h with
  | base h => exact ⟨h, h⟩
  | step _ _ h ih => exact ⟨ih.1, h⟩
theorem Reach.trans {g : Gr} {s : List Bool} {u v w : Nat} (h : Reach g s u v) (k : Reach g s v w) : Reach g s u w := by
  induction k with
  | base _ => exact h
  | step _ e o ih => exact .step ih e o
theorem Reach.head {g : Gr} {s : List Bool} {u v w : Nat} (ho : isOpen s u) (e : (v : Int) ∈ adj g u) (k : Reach g s v w) : Reach g s u w :=
  Reach.trans (.step (.base ho) e k.opens.1) k

/-! ### Valid graphs -/
/-- A list of successors of v among n, behind last. -/
def okB (n v : Int) (last : Int) : List Int → Bool
  | [] => true
  | x :: t => decide (last < x) && decide (x < n) && (x != v) && okB n v x t
def lastOf (last : Int) : List Int → Int
  | [] => last
  | x :: t => lastOf x t
theorem okB_snoc (n v : Int) (l : List Int) (x last : Int) : okB n v last (l ++ [x]) = (okB n v last l && (decide (lastOf last l < x) && decide (x < n) && (x != v))) := by
  induction l generalizing last with
  | nil => show (decide (last < x) && decide (x < n) && (x != v) && true) = (true && (decide (last < x) && decide (x < n) && (x != v))); rw [Bool.and_true, Bool.true_and]
  | cons y l ih =>
    show (decide (last < y) && decide (y < n) && (y != v) && okB n v y (l ++ [x])) = _
    rw [ih y, ← Bool.and_assoc]
    rfl
theorem lastOf_snoc (l : List Int) (x last : Int) : lastOf last (l ++ [x]) = x := by
  induction l generalizing last with
  | nil => rfl
  | cons y l ih => exact ih y
theorem okB_mem {n v last : Int} {l : List Int} (h : okB n v last l = true) : ∀ x ∈ l, last < x ∧ x < n ∧ x ≠ v := by
  induction l generalizing last with
  | nil => intro x hx; cases hx
  | cons y l ih =>
    simp only [okB, Bool.and_eq_true, decide_eq_true_eq, bne_iff_ne] at h
    intro x hx
    rcases List.mem_cons.1 hx with rfl | hx
    · exact ⟨h.1.1.1, h.1.1.2, h.1.2⟩
    · have := ih h.2 x hx
      exact ⟨by omega, this.2⟩
theorem okB_nodup {n v last : Int} {l : List Int} (h : okB n v last l = true) : l.Nodup := by
  induction l generalizing last with
  | nil => exact List.nodup_nil
  | cons y l ih =>
    simp only [okB, Bool.and_eq_true, decide_eq_true_eq] at h
    refine List.nodup_cons.2 ⟨fun hm => ?_, ih h.2⟩
    have := okB_mem h.2 y hm
    omega
theorem okB_take {n v last : Int} {l : List Int} (h : okB n v last l = true) (k : Nat) : okB n v last (l.take k) = true := by
  induction l generalizing last k with
  | nil => simpa using h
  | cons y l ih =>
    cases k with
    | zero => rfl
    | succ k =>
      simp only [okB, Bool.and_eq_true, List.take_succ_cons] at h ⊢
      exact ⟨h.1, ih h.2 k⟩
theorem okB_at {n v : Int} {l : List Int} {k : Nat} {x : Int} (hx : l[k]? = some x) : okB n v (-1) (l.take (k + 1)) = (okB n v (-1) (l.take k) && (decide (lastOf (-1) (l.take k) < x) && decide (x < n) && (x != v))) := by
  rw [List.take_add_one, hx]; exact okB_snoc _ _ _ _ _
theorem lastOf_at {l : List Int} {k : Nat} {x : Int} (hx : l[k]? = some x) : lastOf (-1) (l.take (k + 1)) = x := by
  rw [List.take_add_one, hx]; exact lastOf_snoc _ _ _
theorem okB_bad {n v : Int} {l : List Int} {k : Nat} {x : Int} (hx : l[k]? = some x) (hb : ¬ (lastOf (-1) (l.take k) < x ∧ x < n ∧ x ≠ v)) : okB n v (-1) l = false := by
  cases h : okB n v (-1) l with
  | false => rfl
  | true =>
    have h1 := okB_take h (k + 1)
    rw [okB_at hx] at h1
    simp only [Bool.and_eq_true, decide_eq_true_eq, bne_iff_ne] at h1
    exact absurd ⟨h1.2.1.1, h1.2.1.2, h1.2.2⟩ hb

/-- The first k lists are valid. -/
def rowsOk (g : Gr) (k : Nat) : Prop := ∀ v, v < k → okB g.length v (-1) (adj g v) = true
def validB (g : Gr) : Bool := decide (g.length ≤ 24) && (List.range g.length).all fun v => okB g.length v (-1) (adj g v)
theorem valid_iff {g : Gr} : validB g = true ↔ g.length ≤ 24 ∧ rowsOk g g.length := by
  unfold validB rowsOk
  simp only [Bool.and_eq_true, decide_eq_true_eq, List.all_eq_true, List.mem_range]
theorem valid_bad {g : Gr} {v : Nat} (hv : v < g.length) (h : okB g.length v (-1) (adj g v) = false) : validB g = false := by
  cases hh : validB g with
  | false => rfl
  | true =>
    have := (valid_iff.1 hh).2 v hv
    rw [h] at this; cases this
theorem adj_at {g : Gr} {v : Nat} {l : List Int} (h : g[v]? = some l) : adj g v = l := by unfold adj; rw [List.getD_eq_getElem?_getD, h]; rfl
theorem adj_out {g : Gr} {v : Nat} (h : g.length ≤ v) : adj g v = [] := by unfold adj; rw [List.getD_eq_getElem?_getD, List.getElem?_eq_none h]; rfl
theorem valid_edge {g : Gr} (h : validB g = true) {v : Nat} {x : Int} (hx : x ∈ adj g v) : v < g.length ∧ 0 ≤ x ∧ x < g.length ∧ x ≠ v := by
  have hv : v < g.length := by
    rcases Nat.lt_or_ge v g.length with h1 | h1
    · exact h1
    · rw [adj_out h1] at hx; cases hx
  have := okB_mem ((valid_iff.1 h).2 v hv) x hx
  exact ⟨hv, by omega, this.2⟩
theorem reach_lt {g : Gr} {s : List Bool} (hs : s.length = g.length) {v w : Nat} (h : Reach g s v w) : v < g.length ∧ w < g.length := by
  obtain ⟨h1, h2⟩ := h.opens
  have := (List.getElem?_eq_some_iff.1 h1).1
  have := (List.getElem?_eq_some_iff.1 h2).1
  omega

/-! ### The reversed graph -/
/-- The vertices below k from which an edge leads to w. -/
def preds (g : Gr) (k : Nat) (w : Int) : List Int := ((List.range k).filter fun v => decide (w ∈ adj g v)).map fun (v : Nat) => (v : Int)
/-- After the first k vertices and the first j edges of vertex k. -/
def revAt (g : Gr) (k j : Nat) (w : Nat) : List Int := preds g k w ++ (if (w : Int) ∈ (adj g k).take j then [(k : Int)] else [])
def rev (g : Gr) : Gr := (List.range g.length).map fun (w : Nat) => preds g g.length (w : Int)
theorem rev_len (g : Gr) : (rev g).length = g.length := by simp [rev]
theorem rev_at {g : Gr} {w : Nat} (hw : w < g.length) : (rev g)[w]? = some (preds g g.length w) := by simp [rev, hw]
theorem preds_succ (g : Gr) (k : Nat) (w : Int) : preds g (k + 1) w = preds g k w ++ (if w ∈ adj g k then [(k : Int)] else []) := by
  unfold preds
  rw [List.range_succ, List.filter_append, List.map_append]
  by_cases h : w ∈ adj g k <;> simp [h]
theorem revAt_zero (g : Gr) (k w : Nat) : revAt g k 0 w = preds g k w := by simp [revAt]
theorem revAt_full (g : Gr) (k w : Nat) {j : Nat} (h : (adj g k).length ≤ j) : revAt g k j w = preds g (k + 1) w := by
  unfold revAt; rw [List.take_of_length_le h, preds_succ]
theorem revAt_hit {g : Gr} {k j : Nat} {x : Nat} (hx : (adj g k)[j]? = some (x : Int)) (hn : (adj g k).Nodup) : revAt g k (j + 1) x = revAt g k j x ++ [(k : Int)] := by
  have h1 : (x : Int) ∉ (adj g k).take j := by
    intro hm
    have hs : ((adj g k).take (j + 1)).Nodup := hn.sublist (List.take_sublist _ _)
    rw [List.take_add_one, hx] at hs
    have := (List.nodup_append.1 hs).2.2 _ hm (x : Int) (by simp)
    exact this rfl
  have h2 : (x : Int) ∈ (adj g k).take (j + 1) := by rw [List.take_add_one, hx]; simp
  unfold revAt; rw [if_neg h1, if_pos h2]; simp
theorem revAt_miss {g : Gr} {k j : Nat} {x : Int} {w : Nat} (hx : (adj g k)[j]? = some x) (hne : x ≠ w) : revAt g k (j + 1) w = revAt g k j w := by
  have : ((w : Int) ∈ (adj g k).take (j + 1)) ↔ ((w : Int) ∈ (adj g k).take j) := by
    rw [List.take_add_one, hx]
    simp only [Option.toList_some, List.mem_append, List.mem_singleton]
    constructor
    · rintro (h | h)
      · exact h
      · exact absurd h.symm hne
    · exact .inl
  unfold revAt; simp only [this]
theorem preds_mem {g : Gr} {k : Nat} {w x : Int} : x ∈ preds g k w ↔ ∃ v : Nat, v < k ∧ x = v ∧ w ∈ adj g v := by
  unfold preds
  simp only [List.mem_map, List.mem_filter, List.mem_range, decide_eq_true_eq]
  constructor
  · rintro ⟨v, ⟨h1, h2⟩, rfl⟩; exact ⟨v, h1, rfl, h2⟩
  · rintro ⟨v, h1, rfl, h2⟩; exact ⟨v, ⟨h1, h2⟩, rfl⟩
theorem rev_edge {g : Gr} (h : validB g = true) {v w : Nat} : (v : Int) ∈ adj (rev g) w ↔ (w : Int) ∈ adj g v := by
  constructor
  · intro hm
    by_cases hw : w < g.length
    · rw [adj_at (rev_at hw)] at hm
      obtain ⟨u, _, hu, he⟩ := preds_mem.1 hm
      have : v = u := by omega
      subst this; exact he
    · rw [adj_out (by rw [rev_len]; omega)] at hm; cases hm
  · intro hm
    obtain ⟨h1, h2, h3, _⟩ := valid_edge h hm
    rw [adj_at (rev_at (by omega))]
    exact preds_mem.2 ⟨v, h1, rfl, hm⟩
theorem reach_rev {g : Gr} (h : validB g = true) {s : List Bool} {v w : Nat} : Reach (rev g) s v w ↔ Reach g s w v := by
  constructor
  · intro r
    induction r with
    | base ho => exact .base ho
    | step hr e ho ih => exact Reach.head ho ((rev_edge h).1 e) ih
  · intro r
    induction r with
    | base ho => exact .base ho
    | step hr e ho ih => exact Reach.head ho ((rev_edge h).2 e) ih

/-- Ascending lists of numbers from lo on. -/
theorem preds_ok (g : Gr) (h : validB g = true) (w : Nat) (k : Nat) (hk : k ≤ g.length) : okB g.length w (-1) (preds g k w) = true ∧ lastOf (-1) (preds g k w) < k := by
  induction k with
  | zero => exact ⟨rfl, by simp [preds, lastOf]⟩
  | succ k ih =>
    obtain ⟨i1, i2⟩ := ih (by omega)
    rw [preds_succ]
    by_cases hm : (w : Int) ∈ adj g k
    · obtain ⟨_, _, _, hne⟩ := valid_edge h hm
      rw [if_pos hm, okB_snoc, lastOf_snoc, i1]
      refine ⟨?_, by omega⟩
      simp only [Bool.true_and, Bool.and_eq_true, decide_eq_true_eq, bne_iff_ne]
      exact ⟨⟨i2, by omega⟩, fun e => hne e.symm⟩
    · rw [if_neg hm, List.append_nil]
      exact ⟨i1, by omega⟩
theorem rev_valid {g : Gr} (h : validB g = true) : validB (rev g) = true := by
  rw [valid_iff, rev_len]
  refine ⟨(valid_iff.1 h).1, fun w hw => ?_⟩
  rw [rev_len] at *
  rw [adj_at (rev_at hw)]
  exact (preds_ok g h w g.length (Nat.le_refl _)).1
/-- Two ascending lists with the same elements are equal. -/
theorem okB_ext {n v last : Int} {a b : List Int} (ha : okB n v last a = true) (hb : okB n v last b = true) (h : ∀ x, x ∈ a ↔ x ∈ b) : a = b := by
  induction a generalizing b last with
  | nil =>
    cases b with
    | nil => rfl
    | cons y b => have := (h y).2 (by simp); cases this
  | cons x a ih =>
    cases b with
    | nil => have := (h x).1 (by simp); cases this
    | cons y b =>
      simp only [okB, Bool.and_eq_true, decide_eq_true_eq] at ha hb
      have hxa : ∀ z ∈ a, x < z := fun z hz => (okB_mem ha.2 z hz).1
      have hyb : ∀ z ∈ b, y < z := fun z hz => (okB_mem hb.2 z hz).1
      have hxy : x = y := by
        rcases List.mem_cons.1 ((h x).1 (by simp)) with e | e
        · exact e
        · rcases List.mem_cons.1 ((h y).2 (by simp)) with e' | e'
          · exact e'.symm
          · have := hyb x e; have := hxa y e'; omega
      subst hxy
      congr 1
      refine ih ha.2 hb.2 fun z => ?_
      constructor
      · intro hz
        rcases List.mem_cons.1 ((h z).1 (List.mem_cons_of_mem _ hz)) with e | e
        · have := hxa z hz; omega
        · exact e
      · intro hz
        rcases List.mem_cons.1 ((h z).2 (List.mem_cons_of_mem _ hz)) with e | e
        · have := hyb z hz; omega
        · exact e
theorem rev_rev {g : Gr} (h : validB g = true) : rev (rev g) = g := by
  apply List.ext_getElem?
  intro v
  by_cases hv : v < g.length
  · have h2 : (rev (rev g))[v]? = some (adj (rev (rev g)) v) := by
      rw [List.getElem?_eq_getElem (by rw [rev_len, rev_len]; exact hv)]
      rw [adj_at (List.getElem?_eq_getElem (by rw [rev_len, rev_len]; exact hv))]
    have h1 : g[v]? = some (adj g v) := by
      rw [List.getElem?_eq_getElem hv, adj_at (List.getElem?_eq_getElem hv)]
    rw [h1, h2]
    congr 1
    have v2 := rev_valid h
    have v3 := rev_valid v2
    refine okB_ext ((valid_iff.1 v3).2 v (by rw [rev_len, rev_len]; exact hv)) ?_ fun x => ?_
    · rw [rev_len, rev_len]; exact (valid_iff.1 h).2 v hv
    · constructor
      · intro hx
        obtain ⟨_, h0, _, _⟩ := valid_edge v3 hx
        obtain ⟨y, rfl⟩ : ∃ y : Nat, x = y := ⟨x.toNat, by omega⟩
        exact (rev_edge h).1 ((rev_edge v2).1 hx)
      · intro hx
        obtain ⟨_, h0, _, _⟩ := valid_edge h hx
        obtain ⟨y, rfl⟩ : ∃ y : Nat, x = y := ⟨x.toNat, by omega⟩
        exact (rev_edge v2).2 ((rev_edge h).2 hx)
  · have h1 : (rev (rev g)).length = g.length := by rw [rev_len, rev_len]
    rw [List.getElem?_eq_none (show (rev (rev g)).length ≤ v by omega), List.getElem?_eq_none (show g.length ≤ v by omega)]

/-! ### Without the edges at shut vertices -/
def keepE (s : List Bool) (v : Nat) (x : Int) : Bool := (s[v]? == some false) && (s[x.toNat]? == some false)
def without (g : Gr) (s : List Bool) : Gr := (List.range g.length).map fun v => (adj g v).filter (keepE s v)
theorem without_len (g : Gr) (s : List Bool) : (without g s).length = g.length := by simp [without]
theorem without_at {g : Gr} {s : List Bool} {v : Nat} (hv : v < g.length) : (without g s)[v]? = some ((adj g v).filter (keepE s v)) := by simp [without, hv]
theorem okB_filter {n v last : Int} {l : List Int} (h : okB n v last l = true) (f : Int → Bool) {last' : Int} (hl : last' ≤ last) : okB n v last' (l.filter f) = true := by
  induction l generalizing last last' with
  | nil => rfl
  | cons x l ih =>
    simp only [okB, Bool.and_eq_true, decide_eq_true_eq, bne_iff_ne] at h
    rw [List.filter_cons]
    split
    · simp only [okB, Bool.and_eq_true, decide_eq_true_eq, bne_iff_ne]
      exact ⟨⟨⟨by omega, h.1.1.2⟩, h.1.2⟩, ih h.2 (Int.le_refl _)⟩
    · exact ih h.2 (by omega)
theorem without_valid {g : Gr} {s : List Bool} (h : validB g = true) : validB (without g s) = true := by
  rw [valid_iff, without_len]
  refine ⟨(valid_iff.1 h).1, fun v hv => ?_⟩
  rw [without_len] at *
  rw [adj_at (without_at hv)]
  exact okB_filter ((valid_iff.1 h).2 v hv) _ (Int.le_refl _)
theorem without_edge {g : Gr} {s : List Bool} {u w : Nat} : (w : Int) ∈ adj (without g s) u ↔ (w : Int) ∈ adj g u ∧ isOpen s u ∧ isOpen s w := by
  by_cases hu : u < g.length
  · rw [adj_at (without_at hu), List.mem_filter]
    unfold keepE isOpen
    simp
  · rw [adj_out (by rw [without_len]; omega), adj_out (by omega)]
    simp
end Go.Proofs.Ytidilepbepkpiaa
