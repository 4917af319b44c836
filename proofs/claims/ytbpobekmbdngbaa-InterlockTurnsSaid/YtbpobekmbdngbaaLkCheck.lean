/- The contracts of check, checkRobot, waits; of the reference's check, robotOnly, At. -/
import Derived.Test.YtbpobekmbdngbaaLkValid
namespace Go.Proofs.Ytbpobekmbdngbaa
open Go.RowKit
set_option linter.unusedVariables false

theorem errC_of {l : Lk} {r c : Int} (h : validL l = true) (h1 : r < 0 ∨ 8 ≤ r ∨ c < 0 ∨ (l.own.length : Int) ≤ c) : errC l r c = 19 := by unfold errC; rw [if_neg (by simp [h]), if_pos h1]
theorem errC_ok {l : Lk} {r c : Int} (h : validL l = true) (h1 : ¬ (r < 0 ∨ 8 ≤ r ∨ c < 0 ∨ (l.own.length : Int) ≤ c)) : errC l r c = 0 := by unfold errC; rw [if_neg (by simp [h]), if_neg h1]
theorem errC_bad {l : Lk} {r c : Int} (h : validL l = false) : errC l r c = 20 := by unfold errC; rw [if_pos h]
theorem errR_of {l : Lk} {r : Int} (h : validL l = true) (h1 : r < 0 ∨ 8 ≤ r) : errR l r = 19 := by unfold errR; rw [if_neg (by simp [h]), if_pos h1]
theorem errR_ok {l : Lk} {r : Int} (h : validL l = true) (h1 : ¬ (r < 0 ∨ 8 ≤ r)) : errR l r = 0 := by unfold errR; rw [if_neg (by simp [h]), if_neg h1]
theorem errR_bad {l : Lk} {r : Int} (h : validL l = false) : errR l r = 20 := by unfold errR; rw [if_pos h]

set_option maxHeartbeats 1600000 in
theorem check_any (v : Value) (l : Lk) (r c : Int) (w : World) (h : LkV none w v l) :
    Calls Try.prog 34 #[v, .int .i64 r, .int .i64 c] w fun e w' => e = .returned (.int .i64 (errC l r c)) ∧ w.grownBy w' none := by
  obtain ⟨a1, n1, c1, a2, n2, c2, rfl, h⟩ := h
  obtain ⟨l1, _, m1, _⟩ := h.len
  have L1 := Lib.hid l1
  have K := Lib.hid h
  clear h l1
  go_enter Try.func34, Try.ntmps34
  have K0 : Hid (LkR none (w.alloc (.cells #[.slice a1 n1 c1, .slice a2 n2 c2] 26)) a1 n1 c1 a2 n2 c2 l) := keep (grown_alloc _ (grown_refl w none)) K
  go_wp2_with fail
  refine (Valid_any _ l _ ⟨a1, n1, c1, a2, n2, c2, rfl, K0.out⟩).mono ?_
  rintro e w1 ⟨rfl, hg⟩
  have G := Lib.hid (grown_trans (grown_alloc _ (grown_refl w none)) hg)
  have p0 := grown_at hg (at_new w (.cells #[.slice a1 n1 c1, .slice a2 n2 c2] 26)) (by simp)
  have p1 := (rules_at p0).1
  have zb := lt_of_at p0
  clear hg p0 K0 K
  cases hv : validL l
  · have E : Hid (errC l r c = 20) := Lib.hid (errC_bad hv)
    clear hv
    go_wp2_with fail
    go_ret
    exact ⟨ret_int E.out.symm, G.out⟩
  have HV := Lib.hid hv
  clear hv
  by_cases h1 : 0 ≤ r ∧ r < 8
  rotate_left
  · have E : Hid (errC l r c = 19) := Lib.hid (errC_of HV.out (by omega))
    go_wp2_with fail
    refine (isRobot_any _ _).mono ?_
    rintro e w' ⟨rfl, rfl⟩
    rw [decide_eq_false h1]; clear h1
    go_wp2_with fail
    go_ret
    exact ⟨ret_int E.out.symm, G.out⟩
  obtain ⟨h1a, h1b⟩ := h1
  by_cases h2 : c < 0
  · have E : Hid (errC l r c = 19) := Lib.hid (errC_of HV.out (by omega))
    go_wp2_with fail
    refine (isRobot_any _ _).mono ?_
    rintro e w' ⟨rfl, rfl⟩
    rw [decide_eq_true ⟨h1a, h1b⟩]
    go_wp2_with fail
    go_ret
    exact ⟨ret_int E.out.symm, G.out⟩
  have t2 : decide (c < 0) = false := by simpa using h2
  by_cases h3 : (n1 : Int) ≤ c
  · have E : Hid (errC l r c = 19) := Lib.hid (errC_of HV.out (by rw [L1.out]; omega))
    go_wp2_with fail
    refine (isRobot_any _ _).mono ?_
    rintro e w' ⟨rfl, rfl⟩
    rw [decide_eq_true ⟨h1a, h1b⟩]
    go_wp2_with fail
    go_ret
    exact ⟨ret_int E.out.symm, G.out⟩
  have t3 : decide ((n1 : Int) ≤ c) = false := by simpa using h3
  have E : Hid (errC l r c = 0) := Lib.hid (errC_ok HV.out (by rw [L1.out]; omega))
  go_wp2_with fail
  refine (isRobot_any _ _).mono ?_
  rintro e w' ⟨rfl, rfl⟩
  rw [decide_eq_true ⟨h1a, h1b⟩]
  go_wp2_with fail
  go_ret
  exact ⟨ret_int E.out.symm, G.out⟩

set_option maxHeartbeats 1600000 in
theorem checkRobot_any (v : Value) (l : Lk) (r : Int) (w : World) (h : LkV none w v l) :
    Calls Try.prog 30 #[v, .int .i64 r] w fun e w' => e = .returned (.int .i64 (errR l r)) ∧ w.grownBy w' none := by
  obtain ⟨a1, n1, c1, a2, n2, c2, rfl, h⟩ := h
  obtain ⟨l1, _, m1, _⟩ := h.len
  have L1 := Lib.hid l1
  have K := Lib.hid h
  clear h l1
  go_enter Try.func30, Try.ntmps30
  have K0 : Hid (LkR none (w.alloc (.cells #[.slice a1 n1 c1, .slice a2 n2 c2] 26)) a1 n1 c1 a2 n2 c2 l) := keep (grown_alloc _ (grown_refl w none)) K
  go_wp2_with fail
  refine (Valid_any _ l _ ⟨a1, n1, c1, a2, n2, c2, rfl, K0.out⟩).mono ?_
  rintro e w1 ⟨rfl, hg⟩
  have G := Lib.hid (grown_trans (grown_alloc _ (grown_refl w none)) hg)
  have p0 := grown_at hg (at_new w (.cells #[.slice a1 n1 c1, .slice a2 n2 c2] 26)) (by simp)
  have p1 := (rules_at p0).1
  have zb := lt_of_at p0
  clear hg p0 K0 K
  cases hv : validL l
  · have E : Hid (errR l r = 20) := Lib.hid (errR_bad hv)
    clear hv
    go_wp2_with fail
    go_ret
    exact ⟨ret_int E.out.symm, G.out⟩
  have HV := Lib.hid hv
  clear hv
  by_cases h1 : 0 ≤ r ∧ r < 8
  rotate_left
  · have E : Hid (errR l r = 19) := Lib.hid (errR_of HV.out (by omega))
    go_wp2_with fail
    refine (isRobot_any _ _).mono ?_
    rintro e w' ⟨rfl, rfl⟩
    rw [decide_eq_false h1]; clear h1
    go_wp2_with fail
    go_ret
    exact ⟨ret_int E.out.symm, G.out⟩
  have E : Hid (errR l r = 0) := Lib.hid (errR_ok HV.out (by omega))
  go_wp2_with fail
  refine (isRobot_any _ _).mono ?_
  rintro e w' ⟨rfl, rfl⟩
  rw [decide_eq_true h1]; clear h1
  go_wp2_with fail
  go_ret
  exact ⟨ret_int E.out.symm, G.out⟩

set_option maxHeartbeats 1600000 in
theorem rcheck_any (v : Value) (l : Lk) (r c : Int) (w : World) (h : LkV none w v l) :
    Calls Try.prog 45 #[v, .int .i64 r, .int .i64 c] w fun e w' => e = .returned (.int .i64 (errC l r c)) ∧ w.grownBy w' none := by
  obtain ⟨a1, n1, c1, a2, n2, c2, rfl, h⟩ := h
  obtain ⟨l1, _, m1, _⟩ := h.len
  have L1 := Lib.hid l1
  have K := Lib.hid h
  clear h l1
  go_enter Try.func45, Try.ntmps45
  have K0 : Hid (LkR none (w.alloc (.cells #[.slice a1 n1 c1, .slice a2 n2 c2] 26)) a1 n1 c1 a2 n2 c2 l) := keep (grown_alloc _ (grown_refl w none)) K
  go_wp2_with fail
  refine (rValid_any _ l _ ⟨a1, n1, c1, a2, n2, c2, rfl, K0.out⟩).mono ?_
  rintro e w1 ⟨rfl, hg⟩
  have G := Lib.hid (grown_trans (grown_alloc _ (grown_refl w none)) hg)
  have p0 := grown_at hg (at_new w (.cells #[.slice a1 n1 c1, .slice a2 n2 c2] 26)) (by simp)
  have p1 := (rules_at p0).1
  have zb := lt_of_at p0
  clear hg p0 K0 K
  cases hv : validL l
  · have E : Hid (errC l r c = 20) := Lib.hid (errC_bad hv)
    clear hv
    go_wp2_with fail
    go_ret
    exact ⟨ret_int E.out.symm, G.out⟩
  have HV := Lib.hid hv
  clear hv
  by_cases h1 : r < 0
  · have E : Hid (errC l r c = 19) := Lib.hid (errC_of HV.out (by omega))
    go_wp2_with fail
    go_ret
    exact ⟨ret_int E.out.symm, G.out⟩
  have t1 : decide (r < 0) = false := by simpa using h1
  by_cases h2 : 8 ≤ r
  · have E : Hid (errC l r c = 19) := Lib.hid (errC_of HV.out (by omega))
    go_wp2_with fail
    go_ret
    exact ⟨ret_int E.out.symm, G.out⟩
  have t2 : decide (8 ≤ r) = false := by simpa using h2
  by_cases h3 : c < 0
  · have E : Hid (errC l r c = 19) := Lib.hid (errC_of HV.out (by omega))
    go_wp2_with fail
    go_ret
    exact ⟨ret_int E.out.symm, G.out⟩
  have t3 : decide (c < 0) = false := by simpa using h3
  by_cases h4 : (n1 : Int) ≤ c
  · have E : Hid (errC l r c = 19) := Lib.hid (errC_of HV.out (by rw [L1.out]; omega))
    go_wp2_with fail
    go_ret
    exact ⟨ret_int E.out.symm, G.out⟩
  have t4 : decide ((n1 : Int) ≤ c) = false := by simpa using h4
  have E : Hid (errC l r c = 0) := Lib.hid (errC_ok HV.out (by rw [L1.out]; omega))
  go_wp2_with fail
  go_ret
  exact ⟨ret_int E.out.symm, G.out⟩

set_option maxHeartbeats 1600000 in
theorem robotOnly_any (v : Value) (l : Lk) (r : Int) (w : World) (h : LkV none w v l) :
    Calls Try.prog 48 #[v, .int .i64 r] w fun e w' => e = .returned (.int .i64 (errR l r)) ∧ w.grownBy w' none := by
  obtain ⟨a1, n1, c1, a2, n2, c2, rfl, h⟩ := h
  obtain ⟨l1, _, m1, _⟩ := h.len
  have L1 := Lib.hid l1
  have K := Lib.hid h
  clear h l1
  go_enter Try.func48, Try.ntmps48
  have K0 : Hid (LkR none (w.alloc (.cells #[.slice a1 n1 c1, .slice a2 n2 c2] 26)) a1 n1 c1 a2 n2 c2 l) := keep (grown_alloc _ (grown_refl w none)) K
  go_wp2_with fail
  refine (rValid_any _ l _ ⟨a1, n1, c1, a2, n2, c2, rfl, K0.out⟩).mono ?_
  rintro e w1 ⟨rfl, hg⟩
  have G := Lib.hid (grown_trans (grown_alloc _ (grown_refl w none)) hg)
  have p0 := grown_at hg (at_new w (.cells #[.slice a1 n1 c1, .slice a2 n2 c2] 26)) (by simp)
  have p1 := (rules_at p0).1
  have zb := lt_of_at p0
  clear hg p0 K0 K
  cases hv : validL l
  · have E : Hid (errR l r = 20) := Lib.hid (errR_bad hv)
    clear hv
    go_wp2_with fail
    go_ret
    exact ⟨ret_int E.out.symm, G.out⟩
  have HV := Lib.hid hv
  clear hv
  by_cases h1 : r < 0
  · have E : Hid (errR l r = 19) := Lib.hid (errR_of HV.out (by omega))
    go_wp2_with fail
    go_ret
    exact ⟨ret_int E.out.symm, G.out⟩
  have t1 : decide (r < 0) = false := by simpa using h1
  by_cases h2 : 8 ≤ r
  · have E : Hid (errR l r = 19) := Lib.hid (errR_of HV.out (by omega))
    go_wp2_with fail
    go_ret
    exact ⟨ret_int E.out.symm, G.out⟩
  have t2 : decide (8 ≤ r) = false := by simpa using h2
  have E : Hid (errR l r = 0) := Lib.hid (errR_ok HV.out (by omega))
  go_wp2_with fail
  go_ret
  exact ⟨ret_int E.out.symm, G.out⟩

set_option maxHeartbeats 1600000 in
theorem waitsFn_any (A : Option Addr) (n cap : Nat) (x : List Int) (p : Nat) (r : Int) (w : World) (h : RowIn w A n 1 (ints x)) (hp : w.heap[p]? = some (.cells #[.int .i64 r] 3 (0, 0))) :
    Calls Try.prog 52 #[.slice A n cap, .pointer (some ⟨p, 0, none⟩)] w fun e w' => e = .returned (.bool (decide (r ∈ x))) ∧ w' = w := by
  have H := Lib.hid h
  have p1 := (rules_at hp).1
  have zp := lt_of_at hp
  clear h hp
  go_enter Try.func52, Try.ntmps52
  go_wp2_with fail
  refine (Contains_any A n cap x r _ H.out).mono ?_
  rintro e w1 ⟨rfl, rfl⟩
  go_wp2_with fail
  go_ret
  exact ⟨rfl, rfl⟩

set_option maxHeartbeats 1600000 in
theorem IndexFunc_any (a : Option Addr) (n cap : Nat) (q : List (List Int)) (p : Nat) (r : Int) (w : World) (h : ListsR none w a n q) (hp : w.heap[p]? = some (.cells #[.int .i64 r] 3 (0, 0))) :
    Calls Try.prog 51 #[.slice a n cap, .func (.func 52) #[] #[.pointer (some ⟨p, 0, none⟩)]] w fun e w' => e = .returned (.int .i64 (findQ r q 0)) ∧ w' = w := by
  obtain ⟨hl, hm⟩ := h.len
  have H := Lib.hid h
  have L := Lib.hid hl
  have HP := Lib.hid hp
  unfold maxLen at hm
  clear h hl hp
  go_enter Try.func51, Try.ntmps51
  go_wp2_with fail
  go_loopw [8] (fun i wr => ∃ k : Nat, k ≤ n ∧ i = .int .i64 k ∧ findQ r q 0 = findQ r (q.drop k) k ∧ wr = w) (fun i _ => n - (intOf i).toNat)
  case atStart => exact ⟨0, by omega, rfl, rfl, rfl⟩
  case round =>
    obtain ⟨k, hk, rfl, hf, rfl⟩ := hrel
    have F := Lib.hid hf
    clear hf
    by_cases hkn : k < n
    · obtain ⟨x, hx⟩ : ∃ x, q[k]? = some x := ⟨_, List.getElem?_eq_getElem (by rw [L.out]; exact hkn)⟩
      obtain ⟨b, off, A, c, rfl, zb, c0, hlc, hcm, hA, hrow⟩ := H.out.at hx
      have RW := Lib.hid hrow.1
      have FS := Lib.hid (F.out.trans (findQ_step hx))
      have hk' : (k : Int) < n := by omega
      clear hx hrow F
      go_wp2_with fail
      refine (waitsFn_any A x.length c x p r _ RW.out HP.out).mono ?_
      rintro e w1 ⟨rfl, rfl⟩
      by_cases hr : r ∈ x
      · have E : Hid (findQ r q 0 = k) := Lib.hid (by rw [FS.out, if_pos hr])
        rw [decide_eq_true hr]
        clear hr FS
        go_wp2_with fail
        go_ret
        exact ⟨ret_int E.out.symm, rfl⟩
      · have E : Hid (findQ r q 0 = findQ r (q.drop (k + 1)) (k + 1)) := Lib.hid (by rw [FS.out, if_neg hr])
        rw [decide_eq_false hr]
        clear hr FS
        go_wp2_with fail
        go_roundw
        case rel => exact ⟨k + 1, by omega, by go_num, E.out, by trivial⟩
        case measure => simp [intOf]; omega
    · obtain rfl : k = n := by omega
      have E := Lib.hid (F.out.trans (findQ_end (by rw [L.out]; exact Nat.le_refl _)))
      clear F hkn
      go_wp2_with fail
      go_ret
      exact ⟨ret_int E.out.symm, rfl⟩

set_option maxHeartbeats 800000 in
theorem waits_any (v : Value) (l : Lk) (r : Int) (w : World) (h : LkV none w v l) :
    Calls Try.prog 31 #[v, .int .i64 r] w fun e w' => e = .returned (.int .i64 (waitsL l r)) ∧ w.grownBy w' none := by
  obtain ⟨a1, n1, c1, a2, n2, c2, rfl, h⟩ := h
  have K := Lib.hid h
  clear h
  have K0 : Hid (LkR none ((w.alloc (.cells #[.slice a1 n1 c1, .slice a2 n2 c2] 26)).alloc (.cells #[.int .i64 r] 3)) a1 n1 c1 a2 n2 c2 l) := keep (grown_alloc _ (grown_alloc _ (grown_refl w none))) K
  have P0 : Hid (((w.alloc (.cells #[.slice a1 n1 c1, .slice a2 n2 c2] 26)).alloc (.cells #[.int .i64 r] 3)).heap[w.heap.size + 1]? = some (.cells #[.int .i64 r] 3 (0, 0))) := Lib.hid (by
    have := at_new (w.alloc (.cells #[.slice a1 n1 c1, .slice a2 n2 c2] 26)) (.cells #[.int .i64 r] 3)
    rw [World.size_alloc] at this
    exact this)
  go_enter Try.func31, Try.ntmps31
  go_wp2_with fail
  refine (IndexFunc_any a2 n2 c2 l.q (w.heap.size + 1) r _ K0.out.1.2 P0.out).mono ?_
  rintro e w1 ⟨rfl, rfl⟩
  go_wp2_with fail
  go_ret
  exact ⟨rfl, grown_alloc _ (grown_alloc _ (grown_refl w none))⟩

set_option maxHeartbeats 1600000 in
theorem rAt_any (v : Value) (l : Lk) (r : Int) (w : World) (h : LkV none w v l) :
    Calls Try.prog 47 #[v, .int .i64 r] w fun e w' => e = .returned (.int .i64 (waitsL l r)) ∧ w.grownBy w' none := by
  obtain ⟨a1, n1, c1, a2, n2, c2, rfl, h⟩ := h
  obtain ⟨_, l2, _, m2⟩ := h.len
  have K := Lib.hid h
  have L := Lib.hid l2
  have K0 : Hid (LkR none (w.alloc (.cells #[.slice a1 n1 c1, .slice a2 n2 c2] 26)) a1 n1 c1 a2 n2 c2 l) := keep (grown_alloc _ (grown_refl w none)) K
  have B0 := Lib.hid (at_new w (.cells #[.slice a1 n1 c1, .slice a2 n2 c2] 26))
  clear h l2 K
  go_enter Try.func47, Try.ntmps47
  go_wp2_with fail
  go_loopw [5] (fun i wr => ∃ k : Nat, k ≤ n2 ∧ i = .int .i64 k ∧ waitsL l r = findQ r (l.q.drop k) k ∧ wr = w.alloc (.cells #[.slice a1 n1 c1, .slice a2 n2 c2] 26)) (fun i _ => n2 - (intOf i).toNat)
  case atStart => exact ⟨0, by omega, rfl, rfl, rfl⟩
  case round =>
    obtain ⟨k, hk, rfl, hf, rfl⟩ := hrel
    have F := Lib.hid hf
    clear hf
    by_cases hkn : k < n2
    · obtain ⟨x, hx⟩ : ∃ x, l.q[k]? = some x := ⟨_, List.getElem?_eq_getElem (by rw [L.out]; exact hkn)⟩
      obtain ⟨b, off, A, c, rfl, zb, c0, hlc, hcm, hA, hrow⟩ := K0.out.1.2.at hx
      have RW := Lib.hid hrow.1
      have FS := Lib.hid (F.out.trans (findQ_step hx))
      have hk' : (k : Int) < n2 := by omega
      clear hx hrow F
      go_wp2_with fail
      refine (Has_any A x.length c x r _ RW.out).mono ?_
      rintro e w1 ⟨rfl, rfl⟩
      by_cases hr : r ∈ x
      · have E : Hid (waitsL l r = k) := Lib.hid (by rw [FS.out, if_pos hr])
        rw [decide_eq_true hr]
        clear hr FS
        go_wp2_with fail
        go_ret
        exact ⟨ret_int E.out.symm, grown_alloc _ (grown_refl _ _)⟩
      · have E : Hid (waitsL l r = findQ r (l.q.drop (k + 1)) (k + 1)) := Lib.hid (by rw [FS.out, if_neg hr])
        rw [decide_eq_false hr]
        clear hr FS
        go_wp2_with fail
        go_roundw
        case rel => exact ⟨k + 1, by omega, by go_num, E.out, by trivial⟩
        case measure => simp [intOf]; omega
    · obtain rfl : k = n2 := by omega
      have E := Lib.hid (F.out.trans (findQ_end (by rw [L.out]; exact Nat.le_refl _)))
      clear F hkn
      go_wp2_with fail
      go_ret
      exact ⟨ret_int E.out.symm, grown_alloc _ (grown_refl _ _)⟩
end Go.Proofs.Ytbpobekmbdngbaa
