/- The contracts of Valid (program and reference). -/
import Derived.Test.YtbpobekmbdngbaaLkMem
namespace Go.Proofs.Ytbpobekmbdngbaa
open Go.RowKit
set_option linter.unusedVariables false

theorem rowsB_step {s os : List Int} {ls : List (List Int)} {k : Nat} {o : Int} {x : List Int} (ho : os[k]? = some o) (hx : ls[k]? = some x) :
    rowsB s (os.drop k) (ls.drop k) = (decide (-1 ≤ o ∧ o < 8) && (rowB o s x && rowsB (s ++ x) (os.drop (k + 1)) (ls.drop (k + 1)))) := by
  obtain ⟨h1, h2⟩ := List.getElem?_eq_some_iff.1 ho
  obtain ⟨h3, h4⟩ := List.getElem?_eq_some_iff.1 hx
  rw [List.drop_eq_getElem_cons h1, List.drop_eq_getElem_cons h3, h2, h4, rowsB]
theorem rowsB_end {s os : List Int} {ls : List (List Int)} {k : Nat} (h : os.length ≤ k) : rowsB s (os.drop k) ls = true := by
  rw [List.drop_eq_nil_of_le h]; simp [rowsB]
theorem rowB_step {o : Int} {s x : List Int} {j : Nat} {r : Int} (hr : x[j]? = some r) : rowB o s (x.drop j) = (decide (0 ≤ r ∧ r < 8 ∧ r ∉ s ∧ r ≠ o) && rowB o (s ++ [r]) (x.drop (j + 1))) := by
  obtain ⟨h1, h2⟩ := List.getElem?_eq_some_iff.1 hr
  rw [List.drop_eq_getElem_cons h1, h2, rowB]
theorem rowB_end {o : Int} {s x : List Int} {j : Nat} (h : x.length ≤ j) : rowB o s (x.drop j) = true := by
  rw [List.drop_eq_nil_of_le h]; simp [rowB]
/-- Block b marks the robots of seen. -/
def MarkAt (w : World) (b : Nat) (seen : List Int) : Prop := ∃ mk : List Bool, w.heap[b]? = some (.cells (bools mk).toArray 74 (0, 0)) ∧ mk.length = 8 ∧ ∀ r : Nat, r < 8 → mk[r]? = some (decide ((r : Int) ∈ seen))
theorem MarkAt.at {w : World} {b : Nat} {seen : List Int} (h : MarkAt w b seen) {r : Nat} (hr : r < 8) : w.cell? ⟨b, r, none⟩ = some (.bool (decide ((r : Int) ∈ seen))) ∧ w.frozen? ⟨b, r, none⟩ = false ∧ b < w.heap.size := by
  obtain ⟨mk, h1, h2, h3⟩ := h
  exact ⟨by rw [cell_at h1]; simp [bools, h3 r hr], free_at h1, lt_of_at h1⟩
theorem MarkAt.set {w : World} {b : Nat} {seen : List Int} (h : MarkAt w b seen) {r : Nat} (hr : r < 8) : MarkAt (w.setCell ⟨b, r, none⟩ (.bool true)) b (seen ++ [(r : Int)]) := by
  obtain ⟨mk, h1, h2, h3⟩ := h
  refine ⟨mk.set r true, ?_, by simp [h2], fun x hx => ?_⟩
  · rw [at_set _ h1]
    congr 2
    simp [bools, List.map_set]
  · by_cases e : r = x
    · subst e
      rw [List.getElem?_set_self (by omega)]
      simp
    · rw [List.getElem?_set_ne e, h3 x hx]
      congr 1
      have : ¬ (x : Int) = (r : Int) := by omega
      simp [this]
theorem mark_begin {w : World} {b : Nat} (h : w.heap[b]? = some (.cells #[.bool false, .bool false, .bool false, .bool false, .bool false, .bool false, .bool false, .bool false] 74 (0, 0))) : MarkAt w b [] := by
  refine ⟨List.replicate 8 false, h, rfl, fun r hr => ?_⟩
  rw [List.getElem?_replicate, if_pos hr]; simp
theorem and_false_of {a b : Bool} {P : Prop} [Decidable P] (h : a = (decide P && b)) (hp : ¬ P) : a = false := by rw [h, decide_eq_false hp]; rfl
theorem and_true_of {a b : Bool} {P : Prop} [Decidable P] (h : a = (decide P && b)) (hp : P) : a = b := by rw [h, decide_eq_true hp]; rfl
theorem bad_row {a b c : Bool} {P : Prop} [Decidable P] (h : a = ((decide P && b) && c)) (hp : ¬ P) : a = false := by rw [h, decide_eq_false hp]; rfl
theorem good_row {a b c : Bool} {P : Prop} [Decidable P] (h : a = ((decide P && b) && c)) (hp : P) : a = (b && c) := by rw [h, decide_eq_true hp]; rfl

set_option maxHeartbeats 3200000 in
theorem Valid_any (v : Value) (l : Lk) (w : World) (h : LkV none w v l) :
    Calls Try.prog 37 #[v] w fun e w' => e = .returned (.bool (validL l)) ∧ w.grownBy w' none := by
  obtain ⟨a1, n1, c1, a2, n2, c2, rfl, h⟩ := h
  obtain ⟨l1, l2, m1, m2⟩ := h.len
  have K := Lib.hid h
  have L1 := Lib.hid l1
  have L2 := Lib.hid l2
  clear h l1 l2
  by_cases h48 : 48 < n1
  · have E : Hid (validL l = false) := Lib.hid (by unfold validL; rw [L1.out, decide_eq_false (by omega)]; rfl)
    have hh : (48 : Int) < n1 := by omega
    go_enter Try.func37, Try.ntmps37
    go_wp2_with fail
    go_ret
    exact ⟨ret_bool E.out.symm, grown_alloc _ (grown_refl _ _)⟩
  have hh : (n1 : Int) ≤ 48 := by omega
  by_cases hn : n1 = n2
  rotate_left
  · have E : Hid (validL l = false) := Lib.hid (by unfold validL; rw [L1.out, L2.out, decide_eq_false (p := n1 = n2) hn]; simp)
    have t1 : decide ((48 : Int) < n1) = false := by simp; omega
    have t2 : ((n1 : Int) == n2) = false := by simp; omega
    have t3 : ((n1 : Int) != n2) = true := by simp [bne]; omega
    go_enter Try.func37, Try.ntmps37
    go_wp2_with fail
    go_ret
    exact ⟨ret_bool E.out.symm, grown_alloc _ (grown_refl _ _)⟩
  subst hn
  have E0 : Hid (validL l = rowsB [] (l.own.drop 0) (l.q.drop 0)) := Lib.hid (by unfold validL; rw [L1.out, L2.out, decide_eq_true (by omega), decide_eq_true rfl]; rfl)
  have t1 : decide ((48 : Int) < n1) = false := by simp; omega
  go_enter Try.func37, Try.ntmps37
  have K0 : Hid (LkR none ((w.alloc (.cells #[.slice a1 n1 c1, .slice a2 n1 c2] 26)).alloc (.cells #[.bool false, .bool false, .bool false, .bool false, .bool false, .bool false, .bool false, .bool false] 74)) a1 n1 c1 a2 n1 c2 l) := keep (grown_alloc _ (grown_alloc _ (grown_refl w none))) K
  have B0 : Hid (((w.alloc (.cells #[.slice a1 n1 c1, .slice a2 n1 c2] 26)).alloc (.cells #[.bool false, .bool false, .bool false, .bool false, .bool false, .bool false, .bool false, .bool false] 74)).heap[w.heap.size]? = some (.cells #[.slice a1 n1 c1, .slice a2 n1 c2] 26 (0, 0))) := Lib.hid (at_alloc _ (at_new w _))
  have M0 : Hid (MarkAt ((w.alloc (.cells #[.slice a1 n1 c1, .slice a2 n1 c2] 26)).alloc (.cells #[.bool false, .bool false, .bool false, .bool false, .bool false, .bool false, .bool false, .bool false] 74)) (w.heap.size + 1) []) := Lib.hid (mark_begin (by
    have := at_new (w.alloc (.cells #[.slice a1 n1 c1, .slice a2 n1 c2] 26)) (.cells #[.bool false, .bool false, .bool false, .bool false, .bool false, .bool false, .bool false, .bool false] 74)
    rw [World.size_alloc] at this
    exact this))
  have G0 : Hid (w.grownBy ((w.alloc (.cells #[.slice a1 n1 c1, .slice a2 n1 c2] 26)).alloc (.cells #[.bool false, .bool false, .bool false, .bool false, .bool false, .bool false, .bool false, .bool false] 74)) none) := Lib.hid (grown_alloc _ (grown_alloc _ (grown_refl w none)))
  go_wp2_with fail
  go_loopw [24] (fun i wr => ∃ k : Nat, k ≤ n1 ∧ i = .int .i64 k ∧ validL l = rowsB (l.q.take k).flatten (l.own.drop k) (l.q.drop k) ∧ MarkAt wr (w.heap.size + 1) (l.q.take k).flatten ∧ (LkR none wr a1 n1 c1 a2 n1 c2 l ∧ wr.heap[w.heap.size]? = some (.cells #[.slice a1 n1 c1, .slice a2 n1 c2] 26 (0, 0)) ∧ w.grownBy wr none)) (fun i _ => n1 - (intOf i).toNat)
  case atStart => exact ⟨0, by omega, rfl, E0.out, M0.out, K0.out, B0.out, G0.out⟩
  case round =>
    obtain ⟨k, hk, rfl, hE, hM, hK⟩ := hrel
    have KW := K
    have K := Lib.hid hK
    have M := Lib.hid hM
    have EV := Lib.hid hE
    have zG := hK.2.2.size
    have p1 := (rules_at hK.2.1).1
    have zb0 := lt_of_at hK.2.1
    clear hE hM hK K0 B0 M0 G0 E0
    by_cases hkn : k < n1
    · obtain ⟨o, ho⟩ : ∃ o, l.own[k]? = some o := ⟨_, List.getElem?_eq_getElem (by rw [L1.out]; exact hkn)⟩
      obtain ⟨x, hx⟩ : ∃ x, l.q[k]? = some x := ⟨_, List.getElem?_eq_getElem (by rw [L2.out]; exact hkn)⟩
      obtain ⟨b1, o1, rfl, _, e1⟩ := KW.out.1.1.1.int ho
      obtain ⟨b2, o2, A, c, rfl, _, e2, hlc, hcm, hA, hrow⟩ := KW.out.1.2.at hx
      have E1 := Lib.hid e1
      have E2 := Lib.hid e2
      have RW := Lib.hid hrow.1
      have d1 := (grown_cell K.out.2.2 (lt_of_cell e1) (by simp)).trans e1
      have d2 := (grown_cell K.out.2.2 (lt_of_cell e2) (by simp)).trans e2
      have zb1 := lt_of_cell d1
      have zb2 := lt_of_cell d2
      have HO := Lib.hid ho
      have HX := Lib.hid hx
      have ES := Lib.hid (EV.out.trans (rowsB_step ho hx))
      have hk' : (k : Int) < n1 := by omega
      have hxl := hrow.1.2.1
      unfold maxLen at hcm hxl
      have GO := Lib.hid K.out.2.2
      clear ho hx hrow EV e1 e2
      by_cases hob : -1 ≤ o ∧ o < 8
      rotate_left
      · have BAD : Hid (validL l = false) := Lib.hid (and_false_of ES.out hob)
        by_cases ho1 : o = -1
        · omega
        · have hob : (o != -1) = true := by simp [bne, ho1]
          have hob' : (o == -1) = false := by simpa using ho1
          go_wp2_with fail
          refine (isRobot_any _ _).mono ?_
          rintro e w' ⟨rfl, rfl⟩
          rw [decide_eq_false (by omega)]
          clear ho1
          go_wp2_with fail
          go_ret
          exact ⟨ret_bool BAD.out.symm, GO.out⟩
      · have ES2 : Hid (validL l = (rowB o (l.q.take k).flatten (x.drop 0) && rowsB ((l.q.take k).flatten ++ x) (l.own.drop (k + 1)) (l.q.drop (k + 1)))) := Lib.hid (and_true_of ES.out hob)
        have M2 : Hid (MarkAt wr (w.heap.size + 1) ((l.q.take k).flatten ++ x.take 0)) := Lib.hid (by simpa using M.out)
        obtain ⟨hob1, hob2⟩ := hob
        clear ES M
        by_cases ho1 : o = -1
        · subst ho1
          go_wp2_with fail
          go_loopw [7, 46] (fun _ i wq => ∃ j : Nat, j ≤ x.length ∧ i = .int .i64 j ∧ validL l = (rowB (-1) ((l.q.take k).flatten ++ x.take j) (x.drop j) && rowsB ((l.q.take k).flatten ++ x) (l.own.drop (k + 1)) (l.q.drop (k + 1))) ∧ MarkAt wq (w.heap.size + 1) ((l.q.take k).flatten ++ x.take j) ∧ (LkR none wq (some ⟨b1, o1, none⟩) n1 c1 (some ⟨b2, o2, none⟩) n1 c2 l ∧ wq.heap[w.heap.size]? = some (.cells #[.slice (some ⟨b1, o1, none⟩) n1 c1, .slice (some ⟨b2, o2, none⟩) n1 c2] 26 (0, 0)) ∧ w.grownBy wq none)) (fun _ i _ => x.length - (intOf i).toNat)
          case atStart => exact ⟨0, by omega, rfl, by simpa using ES2.out, M2.out, K.out⟩
          case round =>
            obtain ⟨j, hj, rfl, hE, hM, hK⟩ := hrel
            have KJ := Lib.hid hK
            have MJ := Lib.hid hM
            have EJ := Lib.hid hE
            have zJ := hK.2.2.size
            have p1 := (rules_at hK.2.1).1
            have zb0 := lt_of_at hK.2.1
            clear hE hM hK ES2 M2 GO K
            have d1 := (grown_cell KJ.out.2.2 (lt_of_cell E1.out) (by simp)).trans E1.out
            have d2 := (grown_cell KJ.out.2.2 (lt_of_cell E2.out) (by simp)).trans E2.out
            have zb1 := lt_of_cell d1
            have zb2 := lt_of_cell d2
            by_cases hjx : j < x.length
            · obtain ⟨r, hr⟩ : ∃ r, x[j]? = some r := ⟨_, List.getElem?_eq_getElem hjx⟩
              obtain ⟨b3, o3, rfl, zb3, d3⟩ := (RowIn.kept RW.out KJ.out.2.2).int hr
              have HR := Lib.hid hr
              have EJ2 := Lib.hid (EJ.out.trans (by rw [rowB_step hr]))
              have hj' : (j : Int) < (x.length : Int) := by omega
              clear hr EJ
              by_cases hrb : 0 ≤ r ∧ r < 8
              rotate_left
              · have BAD : Hid (validL l = false) := Lib.hid (bad_row EJ2.out (fun h => hrb ⟨h.1, h.2.1⟩))
                go_wp2_with fail
                refine (isRobot_any _ _).mono ?_
                rintro e w' ⟨rfl, rfl⟩
                rw [decide_eq_false hrb]
                clear hrb
                go_wp2_with fail
                go_ret
                exact ⟨ret_bool BAD.out.symm, KJ.out.2.2⟩
              · obtain ⟨hr1, hr2⟩ := hrb
                obtain ⟨m, rfl⟩ : ∃ m : Nat, r = m := ⟨r.toNat, by omega⟩
                have hm8 : m < 8 := by omega
                have hm8' : (m : Int) < 8 := by omega
                obtain ⟨q1, q2, q3⟩ := MJ.out.at hm8
                by_cases hs : (m : Int) ∈ (l.q.take k).flatten ++ x.take j
                · rw [decide_eq_true hs] at q1
                  have BAD : Hid (validL l = false) := Lib.hid (bad_row EJ2.out (fun h => h.2.2.1 hs))
                  clear hs
                  go_wp2_with fail
                  refine (isRobot_any _ _).mono ?_
                  rintro e w' ⟨rfl, rfl⟩
                  rw [decide_eq_true (by omega)]
                  go_wp2_with fail
                  go_ret
                  exact ⟨ret_bool BAD.out.symm, KJ.out.2.2⟩
                · rw [decide_eq_false hs] at q1
                  by_cases hro : (m : Int) = -1
                  · have BAD : Hid (validL l = false) := Lib.hid (bad_row EJ2.out (fun h => h.2.2.2 hro))
                    have t5 : ((-1 : Int) == (m : Int)) = true := beq_iff_eq.2 hro.symm
                    have t6 : ((m : Int) == -1) = true := beq_iff_eq.2 hro
                    clear hs hro
                    go_wp2_with fail
                    refine (isRobot_any _ _).mono ?_
                    rintro e w' ⟨rfl, rfl⟩
                    rw [decide_eq_true (by omega)]
                    go_wp2_with fail
                    go_ret
                    exact ⟨ret_bool BAD.out.symm, KJ.out.2.2⟩
                  · have t5 : ((-1 : Int) == (m : Int)) = false := beq_eq_false_iff_ne.2 (fun h => hro h.symm)
                    have t6 : ((m : Int) == -1) = false := beq_eq_false_iff_ne.2 hro
                    have EN : Hid (validL l = (rowB (-1) ((l.q.take k).flatten ++ x.take (j + 1)) (x.drop (j + 1)) && rowsB ((l.q.take k).flatten ++ x) (l.own.drop (k + 1)) (l.q.drop (k + 1)))) := Lib.hid (by
                      rw [good_row EJ2.out ⟨by omega, by omega, hs, hro⟩, List.take_add_one, HR.out]; simp)
                    have MN : Hid (MarkAt (wr.setCell ⟨w.heap.size + 1, m, none⟩ (.bool true)) (w.heap.size + 1) ((l.q.take k).flatten ++ x.take (j + 1))) := Lib.hid (by
                      have := MJ.out.set hm8
                      rw [List.take_add_one, HR.out]; simpa using this)
                    have gs := grown_set (p := ⟨w.heap.size + 1, m, none⟩) (.bool true) (grown_refl wr (some (w.heap.size + 1))) (.inr rfl)
                    have GN : Hid (w.grownBy (wr.setCell ⟨w.heap.size + 1, m, none⟩ (.bool true)) none) := Lib.hid (grown_set (p := ⟨w.heap.size + 1, m, none⟩) (.bool true) KJ.out.2.2 (.inl (by simp)))
                    have KN : Hid (LkR none (wr.setCell ⟨w.heap.size + 1, m, none⟩ (.bool true)) (some ⟨b1, o1, none⟩) n1 c1 (some ⟨b2, o2, none⟩) n1 c2 l) := keep GN.out KW
                    have BN := Lib.hid (grown_at gs KJ.out.2.1 (by simp))
                    clear hs hro gs
                    go_wp2_with fail
                    refine (isRobot_any _ _).mono ?_
                    rintro e w' ⟨rfl, rfl⟩
                    rw [decide_eq_true (by omega)]
                    go_wp2_with fail
                    go_roundw
                    case rel => exact ⟨j + 1, by omega, by go_num, EN.out, MN.out, KN.out, BN.out, GN.out⟩
                    case measure => simp [intOf]; omega
            · obtain rfl : j = x.length := by omega
              have EN : Hid (validL l = rowsB (l.q.take (k + 1)).flatten (l.own.drop (k + 1)) (l.q.drop (k + 1))) := Lib.hid (by
                rw [EJ.out, rowB_end (Nat.le_refl _), List.take_add_one, HX.out]; simp)
              have MN : Hid (MarkAt wr (w.heap.size + 1) (l.q.take (k + 1)).flatten) := Lib.hid (by
                have := MJ.out
                rw [List.take_length] at this
                rw [List.take_add_one, HX.out]; simpa using this)
              clear EJ MJ
              go_wp2_with fail
              go_roundw
              case rel => exact ⟨k + 1, by omega, by go_num, EN.out, MN.out, KJ.out⟩
              case measure => simp [intOf]; omega
        · have hob3 : (o != -1) = true := by simp [bne, ho1]
          have hob4 : (o == -1) = false := by simpa using ho1
          go_wp2_with fail
          refine (isRobot_any _ _).mono ?_
          rintro e w' ⟨rfl, rfl⟩
          rw [decide_eq_true (by omega)]
          clear ho1
          go_wp2_with fail
          go_loopw [7, 46] (fun _ i wq => ∃ j : Nat, j ≤ x.length ∧ i = .int .i64 j ∧ validL l = (rowB o ((l.q.take k).flatten ++ x.take j) (x.drop j) && rowsB ((l.q.take k).flatten ++ x) (l.own.drop (k + 1)) (l.q.drop (k + 1))) ∧ MarkAt wq (w.heap.size + 1) ((l.q.take k).flatten ++ x.take j) ∧ (LkR none wq (some ⟨b1, o1, none⟩) n1 c1 (some ⟨b2, o2, none⟩) n1 c2 l ∧ wq.heap[w.heap.size]? = some (.cells #[.slice (some ⟨b1, o1, none⟩) n1 c1, .slice (some ⟨b2, o2, none⟩) n1 c2] 26 (0, 0)) ∧ w.grownBy wq none)) (fun _ i _ => x.length - (intOf i).toNat)
          case atStart => exact ⟨0, by omega, rfl, by simpa using ES2.out, M2.out, K.out⟩
          case round =>
            obtain ⟨j, hj, rfl, hE, hM, hK⟩ := hrel
            have KJ := Lib.hid hK
            have MJ := Lib.hid hM
            have EJ := Lib.hid hE
            have zJ := hK.2.2.size
            have p1 := (rules_at hK.2.1).1
            have zb0 := lt_of_at hK.2.1
            clear hE hM hK ES2 M2 GO K
            have d1 := (grown_cell KJ.out.2.2 (lt_of_cell E1.out) (by simp)).trans E1.out
            have d2 := (grown_cell KJ.out.2.2 (lt_of_cell E2.out) (by simp)).trans E2.out
            have zb1 := lt_of_cell d1
            have zb2 := lt_of_cell d2
            by_cases hjx : j < x.length
            · obtain ⟨r, hr⟩ : ∃ r, x[j]? = some r := ⟨_, List.getElem?_eq_getElem hjx⟩
              obtain ⟨b3, o3, rfl, zb3, d3⟩ := (RowIn.kept RW.out KJ.out.2.2).int hr
              have HR := Lib.hid hr
              have EJ2 := Lib.hid (EJ.out.trans (by rw [rowB_step hr]))
              have hj' : (j : Int) < (x.length : Int) := by omega
              clear hr EJ
              by_cases hrb : 0 ≤ r ∧ r < 8
              rotate_left
              · have BAD : Hid (validL l = false) := Lib.hid (bad_row EJ2.out (fun h => hrb ⟨h.1, h.2.1⟩))
                go_wp2_with fail
                refine (isRobot_any _ _).mono ?_
                rintro e w' ⟨rfl, rfl⟩
                rw [decide_eq_false hrb]
                clear hrb
                go_wp2_with fail
                go_ret
                exact ⟨ret_bool BAD.out.symm, KJ.out.2.2⟩
              · obtain ⟨hr1, hr2⟩ := hrb
                obtain ⟨m, rfl⟩ : ∃ m : Nat, r = m := ⟨r.toNat, by omega⟩
                have hm8 : m < 8 := by omega
                have hm8' : (m : Int) < 8 := by omega
                obtain ⟨q1, q2, q3⟩ := MJ.out.at hm8
                by_cases hs : (m : Int) ∈ (l.q.take k).flatten ++ x.take j
                · rw [decide_eq_true hs] at q1
                  have BAD : Hid (validL l = false) := Lib.hid (bad_row EJ2.out (fun h => h.2.2.1 hs))
                  clear hs
                  go_wp2_with fail
                  refine (isRobot_any _ _).mono ?_
                  rintro e w' ⟨rfl, rfl⟩
                  rw [decide_eq_true (by omega)]
                  go_wp2_with fail
                  go_ret
                  exact ⟨ret_bool BAD.out.symm, KJ.out.2.2⟩
                · rw [decide_eq_false hs] at q1
                  by_cases hro : (m : Int) = o
                  · have BAD : Hid (validL l = false) := Lib.hid (bad_row EJ2.out (fun h => h.2.2.2 hro))
                    have t5 : (o == (m : Int)) = true := beq_iff_eq.2 hro.symm
                    have t6 : ((m : Int) == o) = true := beq_iff_eq.2 hro
                    clear hs hro
                    go_wp2_with fail
                    refine (isRobot_any _ _).mono ?_
                    rintro e w' ⟨rfl, rfl⟩
                    rw [decide_eq_true (by omega)]
                    go_wp2_with fail
                    go_ret
                    exact ⟨ret_bool BAD.out.symm, KJ.out.2.2⟩
                  · have t5 : (o == (m : Int)) = false := beq_eq_false_iff_ne.2 (fun h => hro h.symm)
                    have t6 : ((m : Int) == o) = false := beq_eq_false_iff_ne.2 hro
                    have EN : Hid (validL l = (rowB o ((l.q.take k).flatten ++ x.take (j + 1)) (x.drop (j + 1)) && rowsB ((l.q.take k).flatten ++ x) (l.own.drop (k + 1)) (l.q.drop (k + 1)))) := Lib.hid (by
                      rw [good_row EJ2.out ⟨by omega, by omega, hs, hro⟩, List.take_add_one, HR.out]; simp)
                    have MN : Hid (MarkAt (wr.setCell ⟨w.heap.size + 1, m, none⟩ (.bool true)) (w.heap.size + 1) ((l.q.take k).flatten ++ x.take (j + 1))) := Lib.hid (by
                      have := MJ.out.set hm8
                      rw [List.take_add_one, HR.out]; simpa using this)
                    have gs := grown_set (p := ⟨w.heap.size + 1, m, none⟩) (.bool true) (grown_refl wr (some (w.heap.size + 1))) (.inr rfl)
                    have GN : Hid (w.grownBy (wr.setCell ⟨w.heap.size + 1, m, none⟩ (.bool true)) none) := Lib.hid (grown_set (p := ⟨w.heap.size + 1, m, none⟩) (.bool true) KJ.out.2.2 (.inl (by simp)))
                    have KN : Hid (LkR none (wr.setCell ⟨w.heap.size + 1, m, none⟩ (.bool true)) (some ⟨b1, o1, none⟩) n1 c1 (some ⟨b2, o2, none⟩) n1 c2 l) := keep GN.out KW
                    have BN := Lib.hid (grown_at gs KJ.out.2.1 (by simp))
                    clear hs hro gs
                    go_wp2_with fail
                    refine (isRobot_any _ _).mono ?_
                    rintro e w' ⟨rfl, rfl⟩
                    rw [decide_eq_true (by omega)]
                    go_wp2_with fail
                    go_roundw
                    case rel => exact ⟨j + 1, by omega, by go_num, EN.out, MN.out, KN.out, BN.out, GN.out⟩
                    case measure => simp [intOf]; omega
            · obtain rfl : j = x.length := by omega
              have EN : Hid (validL l = rowsB (l.q.take (k + 1)).flatten (l.own.drop (k + 1)) (l.q.drop (k + 1))) := Lib.hid (by
                rw [EJ.out, rowB_end (Nat.le_refl _), List.take_add_one, HX.out]; simp)
              have MN : Hid (MarkAt wr (w.heap.size + 1) (l.q.take (k + 1)).flatten) := Lib.hid (by
                have := MJ.out
                rw [List.take_length] at this
                rw [List.take_add_one, HX.out]; simpa using this)
              clear EJ MJ
              go_wp2_with fail
              go_roundw
              case rel => exact ⟨k + 1, by omega, by go_num, EN.out, MN.out, KJ.out⟩
              case measure => simp [intOf]; omega
    · obtain rfl : k = n1 := by omega
      have E : Hid (validL l = true) := Lib.hid (by rw [EV.out, rowsB_end (by rw [L1.out]; exact Nat.le_refl _)])
      clear hkn
      go_wp2_with fail
      go_ret
      exact ⟨ret_bool E.out.symm, K.out.2.2⟩

set_option maxHeartbeats 3200000 in
theorem rValid_any (v : Value) (l : Lk) (w : World) (h : LkV none w v l) :
    Calls Try.prog 39 #[v] w fun e w' => e = .returned (.bool (validL l)) ∧ w.grownBy w' none := by
  obtain ⟨a1, n1, c1, a2, n2, c2, rfl, h⟩ := h
  obtain ⟨l1, l2, m1, m2⟩ := h.len
  have K := Lib.hid h
  have L1 := Lib.hid l1
  have L2 := Lib.hid l2
  clear h l1 l2
  by_cases h48 : 48 < n1
  · have E : Hid (validL l = false) := Lib.hid (by unfold validL; rw [L1.out, decide_eq_false (by omega)]; rfl)
    have hh : (48 : Int) < n1 := by omega
    go_enter Try.func39, Try.ntmps39
    go_wp2_with fail
    go_ret
    exact ⟨ret_bool E.out.symm, grown_alloc _ (grown_refl _ _)⟩
  have hh : (n1 : Int) ≤ 48 := by omega
  by_cases hn : n1 = n2
  rotate_left
  · have E : Hid (validL l = false) := Lib.hid (by unfold validL; rw [L1.out, L2.out, decide_eq_false (p := n1 = n2) hn]; simp)
    have t1 : decide ((48 : Int) < n1) = false := by simp; omega
    have t2 : ((n1 : Int) == n2) = false := by simp; omega
    have t3 : ((n1 : Int) != n2) = true := by simp [bne]; omega
    go_enter Try.func39, Try.ntmps39
    go_wp2_with fail
    go_ret
    exact ⟨ret_bool E.out.symm, grown_alloc _ (grown_refl _ _)⟩
  subst hn
  have E0 : Hid (validL l = rowsB [] (l.own.drop 0) (l.q.drop 0)) := Lib.hid (by unfold validL; rw [L1.out, L2.out, decide_eq_true (by omega), decide_eq_true rfl]; rfl)
  have t1 : decide ((48 : Int) < n1) = false := by simp; omega
  go_enter Try.func39, Try.ntmps39
  have K0 : Hid (LkR none ((w.alloc (.cells #[.slice a1 n1 c1, .slice a2 n1 c2] 26)).alloc (.cells #[.bool false, .bool false, .bool false, .bool false, .bool false, .bool false, .bool false, .bool false] 74)) a1 n1 c1 a2 n1 c2 l) := keep (grown_alloc _ (grown_alloc _ (grown_refl w none))) K
  have B0 : Hid (((w.alloc (.cells #[.slice a1 n1 c1, .slice a2 n1 c2] 26)).alloc (.cells #[.bool false, .bool false, .bool false, .bool false, .bool false, .bool false, .bool false, .bool false] 74)).heap[w.heap.size]? = some (.cells #[.slice a1 n1 c1, .slice a2 n1 c2] 26 (0, 0))) := Lib.hid (at_alloc _ (at_new w _))
  have M0 : Hid (MarkAt ((w.alloc (.cells #[.slice a1 n1 c1, .slice a2 n1 c2] 26)).alloc (.cells #[.bool false, .bool false, .bool false, .bool false, .bool false, .bool false, .bool false, .bool false] 74)) (w.heap.size + 1) []) := Lib.hid (mark_begin (by
    have := at_new (w.alloc (.cells #[.slice a1 n1 c1, .slice a2 n1 c2] 26)) (.cells #[.bool false, .bool false, .bool false, .bool false, .bool false, .bool false, .bool false, .bool false] 74)
    rw [World.size_alloc] at this
    exact this))
  have G0 : Hid (w.grownBy ((w.alloc (.cells #[.slice a1 n1 c1, .slice a2 n1 c2] 26)).alloc (.cells #[.bool false, .bool false, .bool false, .bool false, .bool false, .bool false, .bool false, .bool false] 74)) none) := Lib.hid (grown_alloc _ (grown_alloc _ (grown_refl w none)))
  go_wp2_with fail
  go_loopw [4] (fun i wr => ∃ k : Nat, k ≤ n1 ∧ i = .int .i64 k ∧ validL l = rowsB (l.q.take k).flatten (l.own.drop k) (l.q.drop k) ∧ MarkAt wr (w.heap.size + 1) (l.q.take k).flatten ∧ (LkR none wr a1 n1 c1 a2 n1 c2 l ∧ wr.heap[w.heap.size]? = some (.cells #[.slice a1 n1 c1, .slice a2 n1 c2] 26 (0, 0)) ∧ w.grownBy wr none)) (fun i _ => n1 - (intOf i).toNat)
  case atStart => exact ⟨0, by omega, rfl, E0.out, M0.out, K0.out, B0.out, G0.out⟩
  case round =>
    obtain ⟨k, hk, rfl, hE, hM, hK⟩ := hrel
    have KW := K
    have K := Lib.hid hK
    have M := Lib.hid hM
    have EV := Lib.hid hE
    have zG := hK.2.2.size
    have p1 := (rules_at hK.2.1).1
    have zb0 := lt_of_at hK.2.1
    clear hE hM hK K0 B0 M0 G0 E0
    by_cases hkn : k < n1
    · obtain ⟨o, ho⟩ : ∃ o, l.own[k]? = some o := ⟨_, List.getElem?_eq_getElem (by rw [L1.out]; exact hkn)⟩
      obtain ⟨x, hx⟩ : ∃ x, l.q[k]? = some x := ⟨_, List.getElem?_eq_getElem (by rw [L2.out]; exact hkn)⟩
      obtain ⟨b1, o1, rfl, _, e1⟩ := KW.out.1.1.1.int ho
      obtain ⟨b2, o2, A, c, rfl, _, e2, hlc, hcm, hA, hrow⟩ := KW.out.1.2.at hx
      have E1 := Lib.hid e1
      have E2 := Lib.hid e2
      have RW := Lib.hid hrow.1
      have d1 := (grown_cell K.out.2.2 (lt_of_cell e1) (by simp)).trans e1
      have d2 := (grown_cell K.out.2.2 (lt_of_cell e2) (by simp)).trans e2
      have zb1 := lt_of_cell d1
      have zb2 := lt_of_cell d2
      have HO := Lib.hid ho
      have HX := Lib.hid hx
      have ES := Lib.hid (EV.out.trans (rowsB_step ho hx))
      have hk' : (k : Int) < n1 := by omega
      have hxl := hrow.1.2.1
      unfold maxLen at hcm hxl
      have GO := Lib.hid K.out.2.2
      clear ho hx hrow EV e1 e2
      by_cases hob : -1 ≤ o ∧ o < 8
      rotate_left
      · have BAD : Hid (validL l = false) := Lib.hid (and_false_of ES.out hob)
        by_cases ho1 : o = -1
        · omega
        · by_cases ho2 : o < -1
          · go_wp2_with fail
            go_ret
            exact ⟨ret_bool BAD.out.symm, GO.out⟩
          · have ho3 : 8 ≤ o := by omega
            have ho2' : decide (o < -1) = false := by simpa using ho2
            go_wp2_with fail
            go_ret
            exact ⟨ret_bool BAD.out.symm, GO.out⟩
      · have ES2 : Hid (validL l = (rowB o (l.q.take k).flatten (x.drop 0) && rowsB ((l.q.take k).flatten ++ x) (l.own.drop (k + 1)) (l.q.drop (k + 1)))) := Lib.hid (and_true_of ES.out hob)
        have M2 : Hid (MarkAt wr (w.heap.size + 1) ((l.q.take k).flatten ++ x.take 0)) := Lib.hid (by simpa using M.out)
        obtain ⟨hob1, hob2⟩ := hob
        clear ES M
        have t2 : decide (o < -1) = false := by simp; omega
        have t3 : decide (8 ≤ o) = false := by simp; omega
        go_wp2_with fail
        go_loopw [5] (fun i wq => ∃ j : Nat, j ≤ x.length ∧ i = .int .i64 j ∧ validL l = (rowB o ((l.q.take k).flatten ++ x.take j) (x.drop j) && rowsB ((l.q.take k).flatten ++ x) (l.own.drop (k + 1)) (l.q.drop (k + 1))) ∧ MarkAt wq (w.heap.size + 1) ((l.q.take k).flatten ++ x.take j) ∧ (LkR none wq (some ⟨b1, o1, none⟩) n1 c1 (some ⟨b2, o2, none⟩) n1 c2 l ∧ wq.heap[w.heap.size]? = some (.cells #[.slice (some ⟨b1, o1, none⟩) n1 c1, .slice (some ⟨b2, o2, none⟩) n1 c2] 26 (0, 0)) ∧ w.grownBy wq none)) (fun i _ => x.length - (intOf i).toNat)
        case atStart => exact ⟨0, by omega, rfl, by simpa using ES2.out, M2.out, K.out⟩
        case round =>
          obtain ⟨j, hj, rfl, hE, hM, hK⟩ := hrel
          have KJ := Lib.hid hK
          have MJ := Lib.hid hM
          have EJ := Lib.hid hE
          have zJ := hK.2.2.size
          have p1 := (rules_at hK.2.1).1
          have zb0 := lt_of_at hK.2.1
          clear hE hM hK ES2 M2 GO K
          have d1 := (grown_cell KJ.out.2.2 (lt_of_cell E1.out) (by simp)).trans E1.out
          have d2 := (grown_cell KJ.out.2.2 (lt_of_cell E2.out) (by simp)).trans E2.out
          have zb1 := lt_of_cell d1
          have zb2 := lt_of_cell d2
          by_cases hjx : j < x.length
          · obtain ⟨r, hr⟩ : ∃ r, x[j]? = some r := ⟨_, List.getElem?_eq_getElem hjx⟩
            obtain ⟨b3, o3, rfl, zb3, d3⟩ := (RowIn.kept RW.out KJ.out.2.2).int hr
            have HR := Lib.hid hr
            have EJ2 := Lib.hid (EJ.out.trans (by rw [rowB_step hr]))
            have hj' : (j : Int) < (x.length : Int) := by omega
            clear hr EJ
            by_cases hrb : 0 ≤ r ∧ r < 8
            rotate_left
            · have BAD : Hid (validL l = false) := Lib.hid (bad_row EJ2.out (fun h => hrb ⟨h.1, h.2.1⟩))
              by_cases hr0 : r < 0
              · go_wp2_with fail
                go_ret
                exact ⟨ret_bool BAD.out.symm, KJ.out.2.2⟩
              · have hr8 : 8 ≤ r := by omega
                have hr0' : decide (r < 0) = false := by simpa using hr0
                go_wp2_with fail
                go_ret
                exact ⟨ret_bool BAD.out.symm, KJ.out.2.2⟩
            · obtain ⟨hr1, hr2⟩ := hrb
              obtain ⟨m, rfl⟩ : ∃ m : Nat, r = m := ⟨r.toNat, by omega⟩
              have hm8 : m < 8 := by omega
              have hm8' : (m : Int) < 8 := by omega
              obtain ⟨q1, q2, q3⟩ := MJ.out.at hm8
              by_cases hs : (m : Int) ∈ (l.q.take k).flatten ++ x.take j
              · rw [decide_eq_true hs] at q1
                have BAD : Hid (validL l = false) := Lib.hid (bad_row EJ2.out (fun h => h.2.2.1 hs))
                clear hs
                skip
                go_wp2_with fail
                go_ret
                exact ⟨ret_bool BAD.out.symm, KJ.out.2.2⟩
              · rw [decide_eq_false hs] at q1
                by_cases hro : (m : Int) = o
                · have BAD : Hid (validL l = false) := Lib.hid (bad_row EJ2.out (fun h => h.2.2.2 hro))
                  have t5 : (o == (m : Int)) = true := beq_iff_eq.2 hro.symm
                  have t6 : ((m : Int) == o) = true := beq_iff_eq.2 hro
                  clear hs hro
                  skip
                  go_wp2_with fail
                  go_ret
                  exact ⟨ret_bool BAD.out.symm, KJ.out.2.2⟩
                · have t5 : (o == (m : Int)) = false := beq_eq_false_iff_ne.2 (fun h => hro h.symm)
                  have t6 : ((m : Int) == o) = false := beq_eq_false_iff_ne.2 hro
                  have EN : Hid (validL l = (rowB o ((l.q.take k).flatten ++ x.take (j + 1)) (x.drop (j + 1)) && rowsB ((l.q.take k).flatten ++ x) (l.own.drop (k + 1)) (l.q.drop (k + 1)))) := Lib.hid (by
                    rw [good_row EJ2.out ⟨by omega, by omega, hs, hro⟩, List.take_add_one, HR.out]; simp)
                  have MN : Hid (MarkAt (wr.setCell ⟨w.heap.size + 1, m, none⟩ (.bool true)) (w.heap.size + 1) ((l.q.take k).flatten ++ x.take (j + 1))) := Lib.hid (by
                    have := MJ.out.set hm8
                    rw [List.take_add_one, HR.out]; simpa using this)
                  have gs := grown_set (p := ⟨w.heap.size + 1, m, none⟩) (.bool true) (grown_refl wr (some (w.heap.size + 1))) (.inr rfl)
                  have GN : Hid (w.grownBy (wr.setCell ⟨w.heap.size + 1, m, none⟩ (.bool true)) none) := Lib.hid (grown_set (p := ⟨w.heap.size + 1, m, none⟩) (.bool true) KJ.out.2.2 (.inl (by simp)))
                  have KN : Hid (LkR none (wr.setCell ⟨w.heap.size + 1, m, none⟩ (.bool true)) (some ⟨b1, o1, none⟩) n1 c1 (some ⟨b2, o2, none⟩) n1 c2 l) := keep GN.out KW
                  have BN := Lib.hid (grown_at gs KJ.out.2.1 (by simp))
                  clear hs hro gs
                  skip
                  go_wp2_with fail
                  go_roundw
                  case rel => exact ⟨j + 1, by omega, by go_num, EN.out, MN.out, KN.out, BN.out, GN.out⟩
                  case measure => simp [intOf]; omega
          · obtain rfl : j = x.length := by omega
            have EN : Hid (validL l = rowsB (l.q.take (k + 1)).flatten (l.own.drop (k + 1)) (l.q.drop (k + 1))) := Lib.hid (by
              rw [EJ.out, rowB_end (Nat.le_refl _), List.take_add_one, HX.out]; simp)
            have MN : Hid (MarkAt wr (w.heap.size + 1) (l.q.take (k + 1)).flatten) := Lib.hid (by
              have := MJ.out
              rw [List.take_length] at this
              rw [List.take_add_one, HX.out]; simpa using this)
            clear EJ MJ
            go_wp2_with fail
            go_roundw
            case rel => exact ⟨k + 1, by omega, by go_num, EN.out, MN.out, KJ.out⟩
            case measure => simp [intOf]; omega
    · obtain rfl : k = n1 := by omega
      have E : Hid (validL l = true) := Lib.hid (by rw [EV.out, rowsB_end (by rw [L1.out]; exact Nat.le_refl _)])
      clear hkn
      go_wp2_with fail
      go_ret
      exact ⟨ret_bool E.out.symm, K.out.2.2⟩
end Go.Proofs.Ytbpobekmbdngbaa
