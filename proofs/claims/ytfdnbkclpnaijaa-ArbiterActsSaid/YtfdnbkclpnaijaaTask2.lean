/- Lists of tasks in memory of the call's own; slices.Clone. -/
import Derived.Test.YtfdnbkclpnaijaaChoose
namespace Go.Proofs.Ytfdnbkclpnaijaa
open Go.RowKit
set_option linter.unusedVariables false

theorem Try.info_task : (Try.prog.info? 31).map (fun i => (i.zero, i.size, i.bytes)) = some (some (.agg #[.int .i64 0, .int .i64 0, .int .i64 0, .int .i64 0, .int .i64 0]), 5, 40) := by kernel_rfl

/-- Block g holds the tasks ts, the first of cap. -/
def OwnT (w : World) (g cap n : Nat) (ts : List Tk) : Prop :=
  ∃ cur, w.heap[g]? = some (.cells cur 31 (0, 0)) ∧ n ≤ cap ∧ cap ≤ maxLen ∧ cur.size = cap * 5 ∧ cur.toList.take (n * 5) = flat ts

theorem OwnT.row {w : World} {g cap n : Nat} {ts : List Tk} (h : OwnT w g cap n ts) : RowIn w (some ⟨g, 0, none⟩) n 5 (flat ts) := by
  obtain ⟨cur, hg, h1, h2, h3, h4⟩ := h
  have hl : (flat ts).length = n * 5 := by
    rw [← h4, List.length_take, Array.length_toList, h3]
    have := Nat.mul_le_mul_right 5 h1
    omega
  refine ⟨hl, by omega, .inr ⟨g, 0, rfl, fun i hi => ?_⟩⟩
  rw [cell_at hg, Nat.zero_add, ← h4, List.getElem?_take_of_lt (by omega)]
  simp
theorem OwnT.len {w : World} {g cap n : Nat} {ts : List Tk} (h : OwnT w g cap n ts) : ts.length = n := by
  have h1 := h.row.1
  rw [flat_length] at h1
  omega
theorem OwnT.free {w : World} {g cap n : Nat} {ts : List Tk} (h : OwnT w g cap n ts) (j : Nat) : w.frozen? ⟨g, j, none⟩ = false := by
  obtain ⟨cur, hg, _⟩ := h
  exact free_at hg
theorem OwnT.lt {w : World} {g cap n : Nat} {ts : List Tk} (h : OwnT w g cap n ts) : g < w.heap.size := by
  obtain ⟨cur, hg, _⟩ := h
  exact lt_of_at hg
theorem OwnT.kept {w W : World} {g cap n : Nat} {ts : List Tk} {r : Option Nat} (h : OwnT w g cap n ts) (hg : w.grownBy W r) (hne : some g ≠ r) : OwnT W g cap n ts := by
  obtain ⟨cur, h0, h1⟩ := h
  exact ⟨cur, grown_at hg h0 hne, h1⟩

theorem flat_set {ts : List Tk} {k j : Nat} {t t' : Tk} {v : Value} (ht : ts[k]? = some t) (hj : j < 5) (hc : t.cells.set j v = t'.cells) : (flat ts).set (k * 5 + j) v = flat (ts.set k t') := by
  induction ts generalizing k with
  | nil => simp at ht
  | cons x ts ih =>
    cases k with
    | zero =>
      simp at ht; subst ht
      simp only [flat, List.flatMap_cons, List.set_cons_zero, Nat.zero_mul, Nat.zero_add]
      rw [List.set_append_left _ _ (by simp [Tk.cells]; omega), hc]
    | succ k =>
      simp only [List.getElem?_cons_succ] at ht
      have := ih ht
      simp only [flat, List.flatMap_cons, List.set_cons_succ] at this ⊢
      rw [← this, List.set_append_right _ _ (by simp [Tk.cells]; omega)]
      congr 2
      simp [Tk.cells]; omega

theorem OwnT.set {w : World} {g cap n k j : Nat} {ts : List Tk} {t t' : Tk} {v : Value} (h : OwnT w g cap n ts) (ht : ts[k]? = some t) (hj : j < 5) (hc : t.cells.set j v = t'.cells) :
    OwnT (w.setCell ⟨g, k * 5 + j, none⟩ v) g cap n (ts.set k t') := by
  have hl := h.len
  obtain ⟨cur, hg, h1, h2, h3, h4⟩ := h
  refine ⟨cur.setIfInBounds (k * 5 + j) v, at_set v hg, h1, h2, by simp [h3], ?_⟩
  rw [Array.toList_setIfInBounds, List.take_set, h4, flat_set ht hj hc]

theorem ownT_of_owns {w : World} {base n : Nat} {v : Value} {ts : List Tk} (h : w.ownsRow base 31 5 v n (flat ts)) (hn : 0 < n) : ∃ g cap, v = .slice (some ⟨g, 0, none⟩) n cap ∧ base ≤ g ∧ OwnT w g cap n ts := by
  rcases h.2 with ⟨_, h0⟩ | ⟨g, cap, cur, hv, hb, hg, h1, h2, h3, h4⟩
  · omega
  · exact ⟨g, cap, hv, hb, cur, hg, h1, h2, h3, h4⟩

theorem tasks_one {ts : List Tk} : ∀ u ∈ flat ts, u.oneCell' = true := by
  intro u hu
  simp only [flat, List.mem_flatMap, Tk.cells, List.mem_cons, List.not_mem_nil, or_false] at hu
  obtain ⟨t, _, rfl | rfl | rfl | rfl | rfl⟩ := hu <;> rfl

/-- slices.Clone. -/
theorem Clone_nil (w : World) : Calls Try.prog 21 #[.slice none 0 0] w fun e w' => e = .returned (.slice none 0 0) ∧ w' = w := by
  have hq := Lib.run_eql_slice_nil (P := Try.prog)
  go_enter Try.func21, Try.ntmps21
  go_wp2
  go_ret
  exact ⟨rfl, rfl⟩

set_option maxHeartbeats 800000 in
theorem Clone_some (a : Addr) (n cap : Nat) (ts : List Tk) (w : World) (h : RowIn w (some a) n 5 (flat ts)) (hn : n ≤ 100000) :
    Calls Try.prog 21 #[.slice (some a) n cap] w fun e w' => ∃ v, e = .returned v ∧ w'.ownsRow w.heap.size 31 5 v n (flat ts) ∧ w.grownBy w' none := by
  obtain ⟨i0, hi, hz0, hz1, hz2⟩ := info_parts Try.info_task
  have hnews : ∀ j u, (flat ts)[j]? = some u → (w.alloc (.cells #[] 31)).cell? (a.add j) = some u := by
    intro j u hu
    have hjl := (List.getElem?_eq_some_iff.1 hu).1
    have hl := h.1
    obtain ⟨b, off, he, hc⟩ := h.at (by omega)
    simp only [Option.some.injEq] at he
    subst he
    have hadd : (⟨b, off, none⟩ : Addr).add j = ⟨b, off + j, none⟩ := by unfold Addr.add; split <;> simp_all
    have hcj := hc j u hu
    rw [hadd, World.cell?_alloc_lt _ _ _ (lt_of_cell hcj), hcj]
  have hnews' := Lib.hid hnews
  have hlen := Lib.hid h.1
  have hown := Lib.hid (World.ownsRow_made (base := w.heap.size) (size := 5) (e := 31) w #[] 0 (Nat.le_refl _) (Nat.zero_le _) (by simp))
  clear hnews h
  have hq := Lib.run_eql_slice_nil (P := Try.prog)
  go_enter Try.func21, Try.ntmps21
  go_wp2_with (at_builtin; refine wpList_append_own _ rfl _ _ 24 rfl w.heap.size 31 i0 _ 5 40 Try.underlying24 hi hz0 hz1 hz2 rfl (by decide) _ 0 _ rfl hown.out a n cap (flat ts) rfl hlen.out hnews'.out tasks_one (by unfold maxLen; omega) (by omega) (by simp) ?_)
  intro v w1 hown1 hgrow _
  have h1 := Lib.hid hown1
  have h2 := Lib.hid hgrow
  clear hown1 hgrow
  go_wp2
  go_ret
  exact ⟨v, rfl, h1.out, grown_new (World.grownBy_alloc w _ _) h2.out (Nat.le_refl _)⟩
end Go.Proofs.Ytfdnbkclpnaijaa
