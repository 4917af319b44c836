/- The contract of made: whatever the tape holds, a short list of valid tasks. -/
import Derived.Test.YtfdnbkclpnaijaaTask2
namespace Go.Proofs.Ytfdnbkclpnaijaa
open Go.RowKit
set_option linter.unusedVariables false

def Tk.okM (t : Tk) : Prop := 0 ≤ t.state ∧ t.state ≤ 5 ∧ -1 ≤ t.robot ∧ t.robot < 4 ∧ 0 ≤ t.over ∧ t.over ≤ 3
theorem okM_mk {p d s r o : Int} (h : 0 ≤ s ∧ s ≤ 5 ∧ -1 ≤ r ∧ r < 4 ∧ 0 ≤ o ∧ o ≤ 3) : (Tk.mk p d s r o).okM := h
theorem okM_ok {t : Tk} (h : t.okM) : t.okB = true := by
  obtain ⟨h1, h2, h3, h4, h5, h6⟩ := h
  exact decide_eq_true (by omega)

theorem cell_five {W : World} (x : Tk) (T : TypeId) : ∀ j u, x.cells[j]? = some u → (W.alloc (.cells #[.int .i64 x.pick, .int .i64 x.drop, .int .i64 x.state, .int .i64 x.robot, .int .i64 x.over] T)).cell? ((⟨W.heap.size, 0, none⟩ : Addr).add j) = some u := by
  intro j u hj
  match j, hj with
  | 0, hj => simp [Tk.cells] at hj; subst hj; simp [Addr.add]
  | 1, hj => simp [Tk.cells] at hj; subst hj; simp [Addr.add]
  | 2, hj => simp [Tk.cells] at hj; subst hj; simp [Addr.add]
  | 3, hj => simp [Tk.cells] at hj; subst hj; simp [Addr.add]
  | 4, hj => simp [Tk.cells] at hj; subst hj; simp [Addr.add]
theorem cells_one (x : Tk) : ∀ u ∈ x.cells, u.oneCell' = true := by
  intro u hu
  simp only [Tk.cells, List.mem_cons, List.not_mem_nil, or_false] at hu
  rcases hu with rfl | rfl | rfl | rfl | rfl <;> rfl
theorem flat_snoc (ts : List Tk) (x : Tk) : flat (ts ++ [x]) = flat ts ++ x.cells := by simp [flat]

theorem ok_snoc {ts : List Tk} {x : Tk} (h : ∀ t ∈ ts, t.okM) (hx : x.okM) : ∀ t ∈ ts ++ [x], t.okM := by
  intro t ht
  rcases List.mem_append.1 ht with ht | ht
  · exact h t ht
  · simp at ht; subst ht; exact hx

theorem owns_not {w : World} {base e size n B : Nat} {v : Value} {xs : List Value} (h : w.ownsRow base e size v n xs) (hB : B < base) : v.ownBlock ≠ some B := by
  intro he
  have := h.lt B he
  omega

theorem grown_tape {w w1 w2 : World} {B : Nat} {v : Value} (h : w.grownBy w1 (some B)) (k : w1.grownBy w2 v.ownBlock) (hr : ∀ g, v.ownBlock = some g → w.heap.size ≤ g) : w.grownBy w2 (some B) :=
  ⟨k.os.trans h.os, k.tape.trans h.tape, k.output.trans h.output, Nat.le_trans h.size k.size,
    fun i hi hne => (k.block i (Nat.lt_of_lt_of_le hi h.size) (by intro e; have := hr i e.symm; omega)).trans (h.block i hi hne)⟩

theorem own_new {w : World} {base e size n b : Nat} {v : Value} {xs : List Value} (h : w.ownsRow base e size v n xs) (hb : w.heap.size ≤ b) : v.ownBlock ≠ some b := by
  intro he
  have := h.lt b he
  omega
theorem own_set {w : World} {base e size n : Nat} {v u : Value} {xs : List Value} {p : Addr} (h : w.ownsRow base e size v n xs) (hb : v.ownBlock ≠ some p.block) : (w.setCell p u).ownsRow base e size v n xs :=
  h.kept (row := some p.block) (grown_set u (grown_refl w _) (.inr rfl)) (.inr hb)
theorem cell_five_at {W : World} (x : Tk) (T : TypeId) {m : Nat} (hm : m = W.heap.size) : ∀ j u, x.cells[j]? = some u → (W.alloc (.cells #[.int .i64 x.pick, .int .i64 x.drop, .int .i64 x.state, .int .i64 x.robot, .int .i64 x.over] T)).cell? ((⟨m, 0, none⟩ : Addr).add j) = some u := by
  subst hm; exact cell_five x T

set_option maxHeartbeats 3200000 in
theorem made_any (B T : Nat) (ad : Option Addr) (len cap : Nat) (zs : List Int) (k : Nat) (w : World)
    (ht : TapeAt w B T ad len cap zs k) (hk : k < 1000) :
    Calls Try.prog 7 #[.pointer (some ⟨B, 0, none⟩)] w fun e w' => ∃ v n ts k', e = .returned v ∧ w'.ownsRow w.heap.size 31 5 v n (flat ts) ∧ ts.length = n ∧ n ≤ 7 ∧ (∀ t ∈ ts, t.okM) ∧
      TapeAt w' B T ad len cap zs k' ∧ k' ≤ k + 100 ∧ w.grownBy w' (some B) := by
  obtain ⟨i0, hi, hz0, hz1, hz2⟩ := info_parts Try.info_task
  have hi' := Lib.hid hi
  have hz0' := Lib.hid hz0
  have hz1' := Lib.hid hz1
  have hz2' := Lib.hid hz2
  clear hi hz0 hz1 hz2
  have hBw := ht.lt
  go_enter Try.func7, Try.ntmps7
  go_wp2_with fail
  refine (Next_in B T ad len cap zs _ _ _ ht (by omega) (by omega) (by omega)).mono ?_
  rintro e w0 ⟨x0, rfl, h0a, h0b, ht0, hg0⟩
  have hg0' := Lib.hid hg0
  have ht0' := Lib.hid ht0
  clear ht hg0 ht0
  go_wp2
  go_loopw [3, 4] (fun v i wr => ∃ (j n : Nat) (ts : List Tk) (k' : Nat), i = .int .i64 j ∧ n + j ≤ 7 ∧ wr.ownsRow w.heap.size 31 5 v n (flat ts) ∧ ts.length = n ∧ (∀ t ∈ ts, t.okM) ∧ TapeAt wr B T ad len cap zs k' ∧ k' ≤ k + 1 + 6 * n ∧ w.grownBy wr (some B)) (fun _ i _ => (intOf i).toNat)
  case atStart => exact ⟨x0.toNat, 0, [], k + 1, by rw [Int.toNat_of_nonneg h0a], by omega, World.ownsRow_nil _ _ _ _, rfl, by simp, ht0'.out, by omega, hg0'.out⟩
  case round =>
    obtain ⟨j, n, ts, k', rfl, hnj, hown, hts, hok, htr, hk', hgr⟩ := hrel
    have hown' := Lib.hid hown
    have hok' := Lib.hid hok
    have hts' := Lib.hid hts
    have hgr' := Lib.hid hgr
    have hwr := hgr.size
    clear hown hok hts hgr hg0' ht0'
    by_cases hj : 0 < j
    · obtain ⟨j, rfl⟩ : ∃ m, j = m + 1 := ⟨j - 1, by omega⟩
      have hj' : (0 : Int) < ((j + 1 : Nat) : Int) := by omega
      go_wp2_with fail
      refine (Next_in B T ad len cap zs _ _ _ htr (by omega) (by omega) (by omega)).mono ?_
      rintro e w1 ⟨x1, rfl, h1a, h1b, ht1, hg1⟩
      go_wp2_with fail
      refine (Next_in B T ad len cap zs _ _ _ ht1 (by omega) (by omega) (by omega)).mono ?_
      rintro e w2 ⟨x2, rfl, h2a, h2b, ht2, hg2⟩
      go_wp2_with fail
      refine (Next_in B T ad len cap zs _ _ _ ht2 (by omega) (by omega) (by omega)).mono ?_
      rintro e w3 ⟨x3, rfl, h3a, h3b, ht3, hg3⟩
      have hG3 := grown_trans (grown_trans (grown_trans hgr'.out hg1) hg2) hg3
      have hO3 := Lib.hid (((hown'.out.kept hg1 (.inr (owns_not hown'.out hBw))).kept hg2 (.inr (owns_not hown'.out hBw))).kept hg3 (.inr (owns_not hown'.out hBw)))
      have hs3 := hG3.size
      have hnb := Lib.hid (own_new hO3.out (Nat.le_refl _))
      have hG3' := Lib.hid hG3
      clear hg1 hg2 hg3 hG3 hown' htr ht1 ht2
      go_wp2_with fail
      refine (Next_in B T ad len cap zs _ _ _ (ht3.other (World.grownBy_alloc _ _ _)) (by omega) (by omega) (by omega)).mono ?_
      rintro e w4 ⟨x4, rfl, h4a, h4b, ht4, hg4⟩
      have hG4 := Lib.hid (grown_trans (grown_alloc (.cells #[.int .i64 x1, .int .i64 x2, .int .i64 0, .int .i64 (-1), .int .i64 x3] 31) hG3'.out) hg4)
      have hO4 := Lib.hid ((hO3.out.alloc (.cells #[.int .i64 x1, .int .i64 x2, .int .i64 0, .int .i64 (-1), .int .i64 x3] 31)).kept hg4 (.inr (owns_not hO3.out hBw)))
      have hb4 := Lib.hid (grown_at hg4 (at_new w3 _) (by simp; omega))
      have hs4 := hg4.size
      simp only [World.size_alloc] at hs4
      clear hg4 ht3 hO3 hG3'
      by_cases h40 : x4 = 0
      · subst h40
        go_wp2_with fail
        refine (Next_in B T ad len cap zs _ _ _ ht4 (by omega) (by omega) (by omega)).mono ?_
        rintro e w5 ⟨x5, rfl, h5a, h5b, ht5, hg5⟩
        go_wp2_with fail
        refine (Next_in B T ad len cap zs _ _ _ ht5 (by omega) (by omega) (by omega)).mono ?_
        rintro e w6 ⟨x6, rfl, h6a, h6b, ht6, hg6⟩
        have hG6 := Lib.hid (grown_trans (grown_trans hG4.out hg5) hg6)
        have hO6 := Lib.hid ((hO4.out.kept hg5 (.inr (owns_not hO4.out hBw))).kept hg6 (.inr (owns_not hO4.out hBw)))
        have hb6 := Lib.hid (grown_at hg6 (grown_at hg5 hb4.out (by simp; omega)) (by simp; omega))
        have hs6 := Nat.le_trans hg5.size hg6.size
        have q1 := (rules_at hb6.out).1
        have q2 := (rules_at hb6.out).2
        have ht6' := Lib.hid ht6
        have hW7 := Lib.hid (own_set (u := .int .i64 x6) (p := ⟨w3.heap.size, 3, none⟩) (own_set (u := .int .i64 (1 + x5)) (p := ⟨w3.heap.size, 2, none⟩) hO6.out hnb.out) hnb.out)
        have hG7 := Lib.hid (grown_set (p := ⟨w3.heap.size, 3, none⟩) (.int .i64 x6) (grown_set (p := ⟨w3.heap.size, 2, none⟩) (.int .i64 (1 + x5)) hG6.out (.inl (by simp; omega))) (.inl (by simp; omega)))
        have ht7 := Lib.hid ((ht6'.out.set (p := ⟨w3.heap.size, 2, none⟩) (by simp; omega) (.int .i64 (1 + x5))).set (p := ⟨w3.heap.size, 3, none⟩) (by simp; omega) (.int .i64 x6))
        clear hg5 hg6 ht4 ht5 ht6 hO4 hG4 hb4 hO6 hG6 ht6'
        go_wp2_with (at_builtin; refine wpList_append_own _ rfl _ _ 24 rfl w.heap.size 31 i0 _ 5 40 Try.underlying24 hi'.out hz0'.out hz1'.out hz2'.out rfl (by decide) _ n _ rfl (hW7.out.alloc _) ⟨w6.heap.size, 0, none⟩ 1 1 (Tk.cells ⟨x1, x2, 1 + x5, x6, x3⟩) rfl rfl (cell_five_at ⟨x1, x2, 1 + x5, x6, x3⟩ _ (by simp)) (cells_one _) (by unfold maxLen; omega) (by omega) (by simp; omega) ?_)
        intro v' wz hown2 hgrow2 _
        have hfin := Lib.hid hown2
        have hGz := Lib.hid (grown_tape (grown_alloc _ hG7.out) hgrow2 (fun g hg => (hW7.out.lt g hg).1))
        have htz := Lib.hid (ht7.out.above (grown_trans (grown_weak (World.grownBy_alloc _ _ none)) hgrow2) (fun g hg => by have := hW7.out.lt g hg; omega))
        clear hown2 hgrow2
        go_wp2
        go_roundw
        case rel => exact ⟨j, n + 1, ts ++ [⟨x1, x2, 1 + x5, x6, x3⟩], k' + 6, by go_num, by omega, by rw [flat_snoc]; exact hfin.out, by simp [hts'.out], ok_snoc hok'.out (okM_mk (p := x1) (d := x2) (s := 1 + x5) (r := x6) (o := x3) (by omega)), htz.out, by omega, hGz.out⟩
        case measure => simp [intOf]
      · have hb40 : (x4 == 0) = false := by simpa using h40
        have q1 := (rules_at hb4.out).1
        have ht4' := Lib.hid ht4
        have hlt4 : w3.heap.size < w4.heap.size := by omega
        clear ht4 h40
        go_wp2_with (at_builtin; refine wpList_append_own _ rfl _ _ 24 rfl w.heap.size 31 i0 _ 5 40 Try.underlying24 hi'.out hz0'.out hz1'.out hz2'.out rfl (by decide) _ n _ rfl (hO4.out.alloc _) ⟨w4.heap.size, 0, none⟩ 1 1 (Tk.cells ⟨x1, x2, 0, -1, x3⟩) rfl rfl (cell_five_at ⟨x1, x2, 0, -1, x3⟩ _ (by simp)) (cells_one _) (by unfold maxLen; omega) (by omega) (by simp; omega) ?_)
        intro v' wz hown2 hgrow2 _
        have hfin := Lib.hid hown2
        have hGz := Lib.hid (grown_tape (grown_alloc _ hG4.out) hgrow2 (fun g hg => (hO4.out.lt g hg).1))
        have htz := Lib.hid (ht4'.out.above (grown_trans (grown_weak (World.grownBy_alloc _ _ none)) hgrow2) (fun g hg => by have := hO4.out.lt g hg; omega))
        clear hown2 hgrow2
        go_wp2
        go_roundw
        case rel => exact ⟨j, n + 1, ts ++ [⟨x1, x2, 0, -1, x3⟩], k' + 4, by go_num, by omega, by rw [flat_snoc]; exact hfin.out, by simp [hts'.out], ok_snoc hok'.out (okM_mk (p := x1) (d := x2) (s := 0) (r := -1) (o := x3) (by omega)), htz.out, by omega, hGz.out⟩
        case measure => simp [intOf]
    · obtain rfl : j = 0 := by omega
      go_wp2
      go_ret
      exact ⟨_, n, ts, k', rfl, hown'.out, hts'.out, by omega, hok'.out, htr, by omega, hgr'.out⟩
end Go.Proofs.Ytfdnbkclpnaijaa
