/- Tasks as data; the contracts of valid and queued. -/
import Derived.Test.YtfdnbkclpnaijaaTape
import Derived.Test.YtfdnbkclpnaijaaRow
namespace Go.Proofs.Ytfdnbkclpnaijaa
open Go.RowKit
set_option linter.unusedVariables false

structure Tk where
  pick : Int
  drop : Int
  state : Int
  robot : Int
  over : Int
def Tk.cells (t : Tk) : List Value := [.int .i64 t.pick, .int .i64 t.drop, .int .i64 t.state, .int .i64 t.robot, .int .i64 t.over]
def flat (ts : List Tk) : List Value := ts.flatMap Tk.cells
theorem flat_length (ts : List Tk) : (flat ts).length = ts.length * 5 := by
  induction ts with
  | nil => rfl
  | cons t ts ih => simp only [flat, List.flatMap_cons, List.length_append, List.length_cons] at ih ⊢; rw [ih]; simp [Tk.cells]; omega
theorem flat_at {ts : List Tk} {k : Nat} {t : Tk} (h : ts[k]? = some t) : ∀ j, j < 5 → (flat ts)[k * 5 + j]? = t.cells[j]? := by
  induction ts generalizing k with
  | nil => simp at h
  | cons x ts ih =>
    intro j hj
    cases k with
    | zero =>
      simp at h; subst h
      simp only [flat, List.flatMap_cons, Nat.zero_mul, Nat.zero_add]
      rw [List.getElem?_append_left (by simp [Tk.cells]; omega)]
    | succ k =>
      simp only [List.getElem?_cons_succ] at h
      have := ih h j hj
      simp only [flat, List.flatMap_cons] at this ⊢
      rw [List.getElem?_append_right (by simp [Tk.cells]; omega), ← this]
      congr 1
      simp [Tk.cells]; omega

/-- The five cells of element k. -/
theorem task_at {w : World} {a : Option Addr} {n : Nat} {ts : List Tk} (h : RowIn w a n 5 (flat ts)) {k : Nat} {t : Tk} (hk : ts[k]? = some t) :
    ∃ b off, a = some ⟨b, off, none⟩ ∧ w.cell? ⟨b, off + k * 5, none⟩ = some (.int .i64 t.pick) ∧ w.cell? ⟨b, off + k * 5 + 1, none⟩ = some (.int .i64 t.drop) ∧ w.cell? ⟨b, off + k * 5 + 2, none⟩ = some (.int .i64 t.state) ∧
      w.cell? ⟨b, off + k * 5 + 3, none⟩ = some (.int .i64 t.robot) ∧ w.cell? ⟨b, off + k * 5 + 4, none⟩ = some (.int .i64 t.over) := by
  have hn : ts.length * 5 = n * 5 := by rw [← flat_length]; exact h.1
  have hkl := (List.getElem?_eq_some_iff.1 hk).1
  obtain ⟨b, off, rfl, hc⟩ := h.at (by omega)
  have hf := flat_at hk
  refine ⟨b, off, rfl, ?_, ?_, ?_, ?_, ?_⟩
  · exact hc (k * 5) _ (hf 0 (by omega))
  · exact hc (k * 5 + 1) _ (hf 1 (by omega))
  · exact hc (k * 5 + 2) _ (hf 2 (by omega))
  · exact hc (k * 5 + 3) _ (hf 3 (by omega))
  · exact hc (k * 5 + 4) _ (hf 4 (by omega))

/-- P23.1: a task is valid. -/
def Tk.okB (t : Tk) : Bool := decide (0 ≤ t.state ∧ t.state ≤ 5 ∧ -1 ≤ t.robot ∧ t.robot < 8 ∧ 0 ≤ t.over ∧ t.over ≤ 32)
def validB (ts : List Tk) : Bool := decide (ts.length ≤ 32) && ts.all Tk.okB

theorem valid_bad {ts : List Tk} {k : Nat} {t : Tk} (ht : ts[k]? = some t) (hb : ¬ (0 ≤ t.state ∧ t.state ≤ 5 ∧ -1 ≤ t.robot ∧ t.robot < 8 ∧ 0 ≤ t.over ∧ t.over ≤ 32)) : validB ts = false := by
  have h1 : t.okB = false := decide_eq_false hb
  have h2 : t ∈ ts := List.mem_of_getElem? ht
  unfold validB
  rw [Bool.and_eq_false_iff]
  right
  rw [List.all_eq_false]
  exact ⟨t, h2, by simp [h1]⟩
theorem all_succ {ts : List Tk} {k : Nat} {t : Tk} (ht : ts[k]? = some t) (h : (ts.take k).all Tk.okB = true) (ho : 0 ≤ t.state ∧ t.state ≤ 5 ∧ -1 ≤ t.robot ∧ t.robot < 8 ∧ 0 ≤ t.over ∧ t.over ≤ 32) : (ts.take (k + 1)).all Tk.okB = true := by
  have hk := (List.getElem?_eq_some_iff.1 ht).1
  rw [List.take_succ_eq_append_getElem hk, List.all_append, h]
  have : ts[k] = t := by simpa [List.getElem?_eq_getElem hk] using ht
  simp [this, Tk.okB, ho]
theorem valid_good {ts : List Tk} {n : Nat} (hn : ts.length = n) (h32 : n ≤ 32) (h : (ts.take n).all Tk.okB = true) : validB ts = true := by
  rw [List.take_of_length_le (by omega)] at h
  unfold validB; rw [h, decide_eq_true (by omega)]; rfl

set_option maxHeartbeats 1600000 in
theorem validP (a : Option Addr) (n cap : Nat) (ts : List Tk) (w : World) (h : RowIn w a n 5 (flat ts)) (hn : ts.length = n) :
    Calls Try.prog 19 #[.slice a n cap] w fun e w' => e = .returned (.bool (validB ts)) ∧ w.grownBy w' none := by
  have hm := h.2.1
  unfold maxLen at hm
  by_cases h32 : 32 < n
  · have H : Hid (validB ts = false) := by
      show validB ts = false
      unfold validB; rw [decide_eq_false (by omega)]; rfl
    have hh : (32 : Int) < n := by omega
    go_enter Try.func19, Try.ntmps19
    go_wp2
    go_ret
    exact ⟨ret_bool H.out.symm, grown_refl w _⟩
  · have hh : (n : Int) ≤ 32 := by omega
    have hr := Lib.hid h
    clear h h32
    go_enter Try.func19, Try.ntmps19
    go_wp2
    go_loopw [10] (fun i wr => ∃ k : Nat, k ≤ n ∧ i = .int .i64 k ∧ (ts.take k).all Tk.okB = true ∧ w.grownBy wr none) (fun i _ => n - (intOf i).toNat)
    case atStart => exact ⟨0, by omega, rfl, rfl, grown_refl w _⟩
    case round =>
      obtain ⟨k, hk, rfl, hall, hg⟩ := hrel
      have hall' := Lib.hid hall
      have hg' := Lib.hid hg
      clear hall
      by_cases hkn : k < n
      · obtain ⟨t, ht⟩ : ∃ t, ts[k]? = some t := ⟨_, List.getElem?_eq_getElem (by omega)⟩
        obtain ⟨b, off, rfl, c0, c1, c2, c3, c4⟩ := task_at (hr.out.kept hg) ht
        have hlt := lt_of_cell c0
        simp only at hlt
        have hk' : (k : Int) < n := by omega
        go_wp2
        all_goals first
          | (go_ret; exact ⟨ret_bool (valid_bad ht (by omega)).symm, grown_alloc _ hg'.out⟩)
          | skip
        go_roundw
        case rel => exact ⟨k + 1, by omega, by go_num, all_succ ht hall'.out (by omega), grown_alloc _ hg'.out⟩
        case measure => simp [intOf]; omega
      · obtain rfl : k = n := by omega
        go_wp2
        go_ret
        exact ⟨ret_bool (valid_good hn (by omega) hall'.out).symm, hg'.out⟩
set_option maxHeartbeats 1600000 in
theorem validR (a : Option Addr) (n cap : Nat) (ts : List Tk) (w : World) (h : RowIn w a n 5 (flat ts)) (hn : ts.length = n) :
    Calls Try.prog 22 #[.slice a n cap] w fun e w' => e = .returned (.bool (validB ts)) ∧ w.grownBy w' none := by
  have hm := h.2.1
  unfold maxLen at hm
  by_cases h32 : 32 < n
  · have H : Hid (validB ts = false) := by
      show validB ts = false
      unfold validB; rw [decide_eq_false (by omega)]; rfl
    have hh : (32 : Int) < n := by omega
    go_enter Try.func22, Try.ntmps22
    go_wp2
    go_ret
    exact ⟨ret_bool H.out.symm, grown_refl w _⟩
  · have hh : (n : Int) ≤ 32 := by omega
    have hr := Lib.hid h
    clear h h32
    go_enter Try.func22, Try.ntmps22
    go_wp2
    go_loopw [3] (fun i wr => ∃ k : Nat, k ≤ n ∧ i = .int .i64 k ∧ (ts.take k).all Tk.okB = true ∧ w.grownBy wr none) (fun i _ => n - (intOf i).toNat)
    case atStart => exact ⟨0, by omega, rfl, rfl, grown_refl w _⟩
    case round =>
      obtain ⟨k, hk, rfl, hall, hg⟩ := hrel
      have hall' := Lib.hid hall
      have hg' := Lib.hid hg
      clear hall
      by_cases hkn : k < n
      · obtain ⟨t, ht⟩ : ∃ t, ts[k]? = some t := ⟨_, List.getElem?_eq_getElem (by omega)⟩
        obtain ⟨b, off, rfl, c0, c1, c2, c3, c4⟩ := task_at (hr.out.kept hg) ht
        have hlt := lt_of_cell c0
        simp only at hlt
        have hk' : (k : Int) < n := by omega
        go_wp2
        all_goals first
          | (go_ret; exact ⟨ret_bool (valid_bad ht (by omega)).symm, grown_alloc _ hg'.out⟩)
          | skip
        go_roundw
        case rel => exact ⟨k + 1, by omega, by go_num, all_succ ht hall'.out (by omega), grown_alloc _ hg'.out⟩
        case measure => simp [intOf]; omega
      · obtain rfl : k = n := by omega
        go_wp2
        go_ret
        exact ⟨ret_bool (valid_good hn (by omega) hall'.out).symm, hg'.out⟩

/-- The number of queued tasks. -/
def countB (ts : List Tk) : Nat := (ts.filter fun t => t.state == 0).length
theorem count_le (ts : List Tk) (k : Nat) : countB (ts.take k) ≤ k := by
  unfold countB
  exact Nat.le_trans (List.length_filter_le _ _) (by simp; omega)
theorem count_succ {ts : List Tk} {k : Nat} {t : Tk} (ht : ts[k]? = some t) : countB (ts.take (k + 1)) = countB (ts.take k) + if t.state == 0 then 1 else 0 := by
  have hk := (List.getElem?_eq_some_iff.1 ht).1
  have he : ts[k] = t := by simpa [List.getElem?_eq_getElem hk] using ht
  unfold countB
  rw [List.take_succ_eq_append_getElem hk, List.filter_append, List.length_append, he]
  congr 1
  by_cases h : t.state = 0 <;> simp [h]

set_option maxHeartbeats 1600000 in
theorem countP (a : Option Addr) (n cap : Nat) (ts : List Tk) (w : World) (h : RowIn w a n 5 (flat ts)) (hn : ts.length = n) :
    Calls Try.prog 20 #[.slice a n cap] w fun e w' => e = .returned (.int .i64 (countB ts)) ∧ w.grownBy w' none := by
  have hm := h.2.1
  unfold maxLen at hm
  have hr := Lib.hid h
  clear h
  go_enter Try.func20, Try.ntmps20
  go_wp2
  go_loopw [3, 8] (fun c i wr => ∃ k : Nat, k ≤ n ∧ i = .int .i64 k ∧ c = .int .i64 (countB (ts.take k)) ∧ w.grownBy wr none) (fun _ i _ => n - (intOf i).toNat)
  case atStart => exact ⟨0, by omega, rfl, rfl, grown_refl w _⟩
  case round =>
    obtain ⟨k, hk, rfl, rfl, hg⟩ := hrel
    have hg' := Lib.hid hg
    have hcl := count_le ts k
    by_cases hkn : k < n
    · obtain ⟨t, ht⟩ : ∃ t, ts[k]? = some t := ⟨_, List.getElem?_eq_getElem (by omega)⟩
      obtain ⟨b, off, rfl, c0, c1, c2, c3, c4⟩ := task_at (hr.out.kept hg) ht
      have hlt := lt_of_cell c0
      simp only at hlt
      have hk' : (k : Int) < n := by omega
      have hs := Lib.hid (count_succ ht)
      have ht' := Lib.hid ht
      clear ht
      by_cases h0 : t.state = 0
      · have hb : (t.state == 0) = true := by simpa using h0
        have hs1 : Hid (countB (ts.take (k + 1)) = countB (ts.take k) + 1) := Lib.hid (by
          have := hs.out; rw [hb] at this; simpa using this)
        rw [h0] at c2
        clear h0 hb hs hg
        generalize countB (ts.take k) = c at *
        go_wp2
        go_roundw
        case rel => exact ⟨k + 1, by omega, by go_num, by rw [hs1.out]; go_num, grown_alloc _ hg'.out⟩
        case measure => simp [intOf]; omega
      · have hb : (t.state == 0) = false := by simpa using h0
        have hs1 : Hid (countB (ts.take (k + 1)) = countB (ts.take k)) := Lib.hid (by
          have := hs.out; rw [hb] at this; simpa using this)
        clear h0 hs hg
        generalize countB (ts.take k) = c at *
        go_wp2
        go_roundw
        case rel => exact ⟨k + 1, by omega, by go_num, by rw [hs1.out], grown_alloc _ hg'.out⟩
        case measure => simp [intOf]; omega
    · obtain rfl : k = n := by omega
      have hs1 : Hid (countB (ts.take k) = countB ts) := by
        show countB (ts.take k) = countB ts
        rw [List.take_of_length_le (by omega)]
      clear hg
      generalize countB (ts.take k) = c at *
      go_wp2
      go_ret
      exact ⟨ret_int (by rw [hs1.out]), hg'.out⟩

set_option maxHeartbeats 1600000 in
theorem countR (a : Option Addr) (n cap : Nat) (ts : List Tk) (w : World) (h : RowIn w a n 5 (flat ts)) (hn : ts.length = n) :
    Calls Try.prog 23 #[.slice a n cap] w fun e w' => e = .returned (.int .i64 (countB ts)) ∧ w.grownBy w' none := by
  have hm := h.2.1
  unfold maxLen at hm
  have hr := Lib.hid h
  clear h
  go_enter Try.func23, Try.ntmps23
  go_wp2
  go_loopw [3, 4] (fun c i wr => ∃ k : Nat, k ≤ n ∧ i = .int .i64 k ∧ c = .int .i64 (countB (ts.take k)) ∧ w.grownBy wr none) (fun _ i _ => n - (intOf i).toNat)
  case atStart => exact ⟨0, by omega, rfl, rfl, grown_refl w _⟩
  case round =>
    obtain ⟨k, hk, rfl, rfl, hg⟩ := hrel
    have hg' := Lib.hid hg
    have hcl := count_le ts k
    by_cases hkn : k < n
    · obtain ⟨t, ht⟩ : ∃ t, ts[k]? = some t := ⟨_, List.getElem?_eq_getElem (by omega)⟩
      obtain ⟨b, off, rfl, c0, c1, c2, c3, c4⟩ := task_at (hr.out.kept hg) ht
      have hlt := lt_of_cell c0
      simp only at hlt
      have hk' : (k : Int) < n := by omega
      have hs := Lib.hid (count_succ ht)
      have ht' := Lib.hid ht
      clear ht
      by_cases h0 : t.state = 0
      · have hb : (t.state == 0) = true := by simpa using h0
        have hs1 : Hid (countB (ts.take (k + 1)) = countB (ts.take k) + 1) := Lib.hid (by
          have := hs.out; rw [hb] at this; simpa using this)
        rw [h0] at c2
        clear h0 hb hs hg
        generalize countB (ts.take k) = c at *
        go_wp2
        go_roundw
        case rel => exact ⟨k + 1, by omega, by go_num, by rw [hs1.out]; go_num, hg'.out⟩
        case measure => simp [intOf]; omega
      · have hb : (t.state == 0) = false := by simpa using h0
        have hs1 : Hid (countB (ts.take (k + 1)) = countB (ts.take k)) := Lib.hid (by
          have := hs.out; rw [hb] at this; simpa using this)
        clear h0 hs hg
        generalize countB (ts.take k) = c at *
        go_wp2
        go_roundw
        case rel => exact ⟨k + 1, by omega, by go_num, by rw [hs1.out], hg'.out⟩
        case measure => simp [intOf]; omega
    · obtain rfl : k = n := by omega
      have hs1 : Hid (countB (ts.take k) = countB ts) := by
        show countB (ts.take k) = countB ts
        rw [List.take_of_length_le (by omega)]
      clear hg
      generalize countB (ts.take k) = c at *
      go_wp2
      go_ret
      exact ⟨ret_int (by rw [hs1.out]), hg'.out⟩

set_option maxHeartbeats 400000 in
theorem QueuedP (a : Option Addr) (n cap : Nat) (ts : List Tk) (w : World) (h : RowIn w a n 5 (flat ts)) (hn : ts.length = n) :
    Calls Try.prog 13 #[.slice a n cap] w fun e w' => e = .returned (.tuple #[.int .i64 (if validB ts then (countB ts : Int) else 0), .int .i64 (if validB ts then 0 else 20)]) ∧ w.grownBy w' none := by
  have hv := validP a n cap ts w h hn
  have hr := Lib.hid h
  clear h
  cases hvb : validB ts
  · rw [hvb] at hv
    simp only [Bool.false_eq_true, if_false]
    have hv' := Lib.hid hv
    clear hv hvb
    go_enter Try.func13, Try.ntmps13
    go_wp2_with fail
    refine hv'.out.mono ?_
    rintro e w1 ⟨rfl, hg⟩
    have hg' := Lib.hid hg
    clear hg hv'
    go_wp2
    go_ret2
    exact ⟨rfl, hg'.out⟩
  · rw [hvb] at hv
    simp only [if_true]
    have hv' := Lib.hid hv
    clear hv hvb
    go_enter Try.func13, Try.ntmps13
    go_wp2_with fail
    refine hv'.out.mono ?_
    rintro e w1 ⟨rfl, hg⟩
    have hg' := Lib.hid hg
    clear hg hv'
    go_wp2_with fail
    refine (countP a n cap ts w1 (hr.out.kept hg'.out) hn).mono ?_
    rintro e w2 ⟨rfl, hg2⟩
    have hg2' := Lib.hid hg2
    clear hg2
    go_wp2
    go_ret2
    exact ⟨rfl, grown_trans hg'.out hg2'.out⟩

set_option maxHeartbeats 400000 in
theorem QueuedR (a : Option Addr) (n cap : Nat) (ts : List Tk) (w : World) (h : RowIn w a n 5 (flat ts)) (hn : ts.length = n) :
    Calls Try.prog 14 #[.slice a n cap] w fun e w' => e = .returned (.tuple #[.int .i64 (if validB ts then (countB ts : Int) else 0), .int .i64 (if validB ts then 0 else 20)]) ∧ w.grownBy w' none := by
  have hv := validR a n cap ts w h hn
  have hr := Lib.hid h
  clear h
  cases hvb : validB ts
  · rw [hvb] at hv
    simp only [Bool.false_eq_true, if_false]
    have hv' := Lib.hid hv
    clear hv hvb
    go_enter Try.func14, Try.ntmps14
    go_wp2_with fail
    refine hv'.out.mono ?_
    rintro e w1 ⟨rfl, hg⟩
    have hg' := Lib.hid hg
    clear hg hv'
    go_wp2
    go_ret2
    exact ⟨rfl, hg'.out⟩
  · rw [hvb] at hv
    simp only [if_true]
    have hv' := Lib.hid hv
    clear hv hvb
    go_enter Try.func14, Try.ntmps14
    go_wp2_with fail
    refine hv'.out.mono ?_
    rintro e w1 ⟨rfl, hg⟩
    have hg' := Lib.hid hg
    clear hg hv'
    go_wp2_with fail
    refine (countR a n cap ts w1 (hr.out.kept hg'.out) hn).mono ?_
    rintro e w2 ⟨rfl, hg2⟩
    have hg2' := Lib.hid hg2
    clear hg2
    go_wp2
    go_ret2
    exact ⟨rfl, grown_trans hg'.out hg2'.out⟩
end Go.Proofs.Ytfdnbkclpnaijaa
