/- The contracts of Valid, the program's and the chapter's. -/
import Derived.Test.YtidilepbepkpiaaReLaw
import Derived.Test.YtidilepbepkpiaaGrm
namespace Go.Proofs.Ytidilepbepkpiaa
open Go.RowKit
set_option linter.unusedVariables false

theorem rowsOk_succ {g : Gr} {k : Nat} (h : rowsOk g k) (hk : okB g.length k (-1) (adj g k) = true) : rowsOk g (k + 1) := by
  intro v hv
  by_cases e : v = k
  · subst e; exact hk
  · exact h v (by omega)

set_option maxHeartbeats 1600000 in
theorem Valid_any (a : Option Addr) (n cap : Nat) (g : Gr) (w : World) (h : ListsR none w a n g) :
    Calls Try.prog 18 #[.slice a n cap] w fun e w' => e = .returned (.bool (validB g)) ∧ w' = w := by
  obtain ⟨hl, hm⟩ := h.len
  have H := Lib.hid h
  have L := Lib.hid hl
  unfold maxLen at hm
  clear h hl
  by_cases h24 : 24 < n
  · have hh : (24 : Int) < n := by omega
    have E : Hid (validB g = false) := Lib.hid (by unfold validB; rw [decide_eq_false (by rw [L.out]; omega)]; rfl)
    go_enter Try.func18, Try.ntmps18
    go_wp2_with fail
    go_ret
    exact ⟨ret_bool E.out.symm, rfl⟩
  · have hh : (n : Int) ≤ 24 := by omega
    go_enter Try.func18, Try.ntmps18
    go_wp2_with fail
    go_loop [13] (fun i => ∃ k : Nat, k ≤ n ∧ i = .int .i64 k ∧ rowsOk g k) (fun i => n - (intOf i).toNat)
    case atStart => exact ⟨0, by omega, rfl, fun v hv => absurd hv (by omega)⟩
    case round =>
      obtain ⟨k, hk, rfl, hok⟩ := hrel
      have OK := Lib.hid hok
      clear hok
      by_cases hkn : k < n
      · obtain ⟨l, hl⟩ : ∃ l, g[k]? = some l := ⟨_, List.getElem?_eq_getElem (by rw [L.out]; exact hkn)⟩
        obtain ⟨b, off, A, c, rfl, zb, c0, hlc, hcm, hA, hrow⟩ := H.out.at hl
        have AD := Lib.hid (adj_at hl)
        have RW := Lib.hid hrow.1
        have hk' : (k : Int) < n := by omega
        unfold maxLen at hcm
        clear hl hrow
        go_wp2_with fail
        go_loop [5, 7, 20] (fun t _ i => ∃ j : Nat, j ≤ l.length ∧ i = .int .i64 j ∧ t = .int .i64 (lastOf (-1) (l.take j)) ∧ okB n k (-1) (l.take j) = true) (fun _ _ i => l.length - (intOf i).toNat)
        case atStart => exact ⟨0, by omega, rfl, rfl, rfl⟩
        case round =>
          obtain ⟨j, hj, rfl, rfl, hokj⟩ := hrel
          have OJ := Lib.hid hokj
          clear hokj
          by_cases hjl : j < l.length
          · obtain ⟨x, hx⟩ : ∃ x, l[j]? = some x := ⟨_, List.getElem?_eq_getElem hjl⟩
            obtain ⟨bb, oo, rfl, zbb, d0⟩ := RW.out.int hx
            have X := Lib.hid hx
            have hj' : (j : Int) < (l.length : Int) := by omega
            generalize hlast : lastOf (-1) (l.take j) = last at *
            have LA := Lib.hid hlast
            clear hx hlast
            by_cases hgo : last < x ∧ x < n ∧ x ≠ k
            · obtain ⟨g1, g2, g3⟩ := hgo
              have g4 : (x == (k : Int)) = false := by simpa using g3
              go_wp2_with fail
              go_round
              case rel => exact ⟨j + 1, by omega, by go_num, by rw [lastOf_at X.out], by rw [okB_at X.out, OJ.out, LA.out]; simp [g1, g2, g3]⟩
              case measure => simp [intOf]; omega
            · have HB : Hid (validB g = false) := Lib.hid (valid_bad (v := k) (by rw [L.out]; exact hkn) (by rw [AD.out, L.out]; exact okB_bad X.out (by rw [LA.out]; exact hgo)))
              by_cases g1 : last < x
              · by_cases g2 : x < n
                · have g3 : x = k := by omega
                  have g4 : (x == (k : Int)) = true := by simpa using g3
                  clear hgo g3
                  go_wp2_with fail
                  go_ret
                  exact ⟨ret_bool HB.out.symm, rfl⟩
                · clear hgo
                  go_wp2_with fail
                  go_ret
                  exact ⟨ret_bool HB.out.symm, rfl⟩
              · clear hgo
                go_wp2_with fail
                go_ret
                exact ⟨ret_bool HB.out.symm, rfl⟩
          · obtain rfl : j = l.length := by omega
            clear hjl
            go_wp2_with fail
            go_round
            case rel => exact ⟨k + 1, by omega, by go_num, rowsOk_succ OK.out (by rw [AD.out, L.out]; have := OJ.out; rwa [List.take_of_length_le (Nat.le_refl _)] at this)⟩
            case measure => simp [intOf]; omega
      · obtain rfl : k = n := by omega
        have E : Hid (validB g = true) := Lib.hid (valid_iff.2 ⟨by rw [L.out]; omega, by rw [L.out]; exact OK.out⟩)
        clear hkn
        go_wp2_with fail
        go_ret
        exact ⟨ret_bool E.out.symm, rfl⟩

theorem prev_at {l : List Int} {n v : Int} {j : Nat} (hok : okB n v (-1) (l.take j) = true) (hj : 0 < j) (hl : j ≤ l.length) : l[j - 1]? = some (lastOf (-1) (l.take j)) ∧ -1 < lastOf (-1) (l.take j) := by
  obtain ⟨m, rfl⟩ : ∃ m, j = m + 1 := ⟨j - 1, by omega⟩
  obtain ⟨y, hy⟩ : ∃ y, l[m]? = some y := ⟨_, List.getElem?_eq_getElem (by omega)⟩
  rw [lastOf_at hy]
  refine ⟨by simpa using hy, ?_⟩
  refine (okB_mem hok y ?_).1
  rw [List.take_add_one, hy]; simp

set_option maxHeartbeats 1600000 in
theorem rValid_any (a : Option Addr) (n cap : Nat) (g : Gr) (w : World) (h : ListsR none w a n g) :
    Calls Try.prog 19 #[.slice a n cap] w fun e w' => e = .returned (.bool (validB g)) ∧ w' = w := by
  obtain ⟨hl, hm⟩ := h.len
  have H := Lib.hid h
  have L := Lib.hid hl
  unfold maxLen at hm
  clear h hl
  by_cases h24 : 24 < n
  · have hh : (24 : Int) < n := by omega
    have E : Hid (validB g = false) := Lib.hid (by unfold validB; rw [decide_eq_false (by rw [L.out]; omega)]; rfl)
    go_enter Try.func19, Try.ntmps19
    go_wp2_with fail
    go_ret
    exact ⟨ret_bool E.out.symm, rfl⟩
  · have hh : (n : Int) ≤ 24 := by omega
    go_enter Try.func19, Try.ntmps19
    go_wp2_with fail
    go_loop [3] (fun i => ∃ k : Nat, k ≤ n ∧ i = .int .i64 k ∧ rowsOk g k) (fun i => n - (intOf i).toNat)
    case atStart => exact ⟨0, by omega, rfl, fun v hv => absurd hv (by omega)⟩
    case round =>
      obtain ⟨k, hk, rfl, hok⟩ := hrel
      have OK := Lib.hid hok
      clear hok
      by_cases hkn : k < n
      · obtain ⟨l, hl⟩ : ∃ l, g[k]? = some l := ⟨_, List.getElem?_eq_getElem (by rw [L.out]; exact hkn)⟩
        obtain ⟨b, off, A, c, rfl, zb, c0, hlc, hcm, hA, hrow⟩ := H.out.at hl
        have AD := Lib.hid (adj_at hl)
        have RW := Lib.hid hrow.1
        have hk' : (k : Int) < n := by omega
        unfold maxLen at hcm
        clear hl hrow
        go_wp2_with fail
        go_loop [4] (fun i => ∃ j : Nat, j ≤ l.length ∧ i = .int .i64 j ∧ okB n k (-1) (l.take j) = true) (fun i => l.length - (intOf i).toNat)
        case atStart => exact ⟨0, by omega, rfl, rfl⟩
        case round =>
          obtain ⟨j, hj, rfl, hokj⟩ := hrel
          have OJ := Lib.hid hokj
          clear hokj
          by_cases hjl : j < l.length
          · obtain ⟨x, hx⟩ : ∃ x, l[j]? = some x := ⟨_, List.getElem?_eq_getElem hjl⟩
            obtain ⟨bb, oo, rfl, zbb, d0⟩ := RW.out.int hx
            have X := Lib.hid hx
            have hj' : (j : Int) < (l.length : Int) := by omega
            have hp := prev_at OJ.out (j := j) (l := l)
            generalize hlast : lastOf (-1) (l.take j) = last at *
            have LA := Lib.hid hlast
            have HP := Lib.hid hp
            have hz : j = 0 → last = -1 := by rintro rfl; exact hlast.symm
            have HZ := Lib.hid hz
            clear hx hlast hp hz
            by_cases hj0 : 0 < j
            · obtain ⟨hp1, hp2⟩ := HP.out hj0 hj
              obtain ⟨b2, o2, he, _, d1⟩ := RW.out.int hp1
              obtain ⟨rfl, rfl⟩ : bb = b2 ∧ oo = o2 := by simpa using he
              have hj0' : (0 : Int) < (j : Int) := by omega
              clear hp1 he
              by_cases hgo : last < x ∧ x < n ∧ x ≠ k
              · obtain ⟨g1, g2, g3⟩ := hgo
                have g0 : ¬ x < 0 := by omega
                have g4 : (x == (k : Int)) = false := by simpa using g3
                go_wp2_with fail
                go_round
                case rel => exact ⟨j + 1, by omega, by go_num, by rw [okB_at X.out, OJ.out, LA.out]; simp [g1, g2, g3]⟩
                case measure => simp [intOf]; omega
              · have HB : Hid (validB g = false) := Lib.hid (valid_bad (v := k) (by rw [L.out]; exact hkn) (by rw [AD.out, L.out]; exact okB_bad X.out (by rw [LA.out]; exact hgo)))
                by_cases g0 : x < 0
                · clear hgo
                  go_wp2_with fail
                  go_ret
                  exact ⟨ret_bool HB.out.symm, rfl⟩
                by_cases g2 : x < n
                · by_cases g3 : x = k
                  · have g4 : (x == (k : Int)) = true := by simpa using g3
                    clear hgo g3
                    go_wp2_with fail
                    go_ret
                    exact ⟨ret_bool HB.out.symm, rfl⟩
                  · have g4 : (x == (k : Int)) = false := by simpa using g3
                    have g1 : x ≤ last := by omega
                    clear hgo g3
                    go_wp2_with fail
                    go_ret
                    exact ⟨ret_bool HB.out.symm, rfl⟩
                · clear hgo
                  go_wp2_with fail
                  go_ret
                  exact ⟨ret_bool HB.out.symm, rfl⟩
            · have hz0 := HZ.out (by omega)
              have hj0' : ¬ (0 : Int) < (j : Int) := by omega
              by_cases hgo : last < x ∧ x < n ∧ x ≠ k
              · obtain ⟨g1, g2, g3⟩ := hgo
                have g0 : ¬ x < 0 := by omega
                have g4 : (x == (k : Int)) = false := by simpa using g3
                have HZ0 := Lib.hid hz0
                clear hz0
                go_wp2_with fail
                go_round
                case rel => exact ⟨j + 1, by omega, by go_num, by rw [okB_at X.out, OJ.out, LA.out]; simp [g1, g2, g3]⟩
                case measure => simp [intOf]; omega
              · have HB : Hid (validB g = false) := Lib.hid (valid_bad (v := k) (by rw [L.out]; exact hkn) (by rw [AD.out, L.out]; exact okB_bad X.out (by rw [LA.out]; exact hgo)))
                by_cases g0 : x < 0
                · clear hgo hz0
                  go_wp2_with fail
                  go_ret
                  exact ⟨ret_bool HB.out.symm, rfl⟩
                by_cases g2 : x < n
                · have g3 : x = k := by omega
                  have g4 : (x == (k : Int)) = true := by simpa using g3
                  clear hgo g3 hz0
                  go_wp2_with fail
                  go_ret
                  exact ⟨ret_bool HB.out.symm, rfl⟩
                · clear hgo hz0
                  go_wp2_with fail
                  go_ret
                  exact ⟨ret_bool HB.out.symm, rfl⟩
          · obtain rfl : j = l.length := by omega
            clear hjl
            go_wp2_with fail
            go_round
            case rel => exact ⟨k + 1, by omega, by go_num, rowsOk_succ OK.out (by rw [AD.out, L.out]; have := OJ.out; rwa [List.take_of_length_le (Nat.le_refl _)] at this)⟩
            case measure => simp [intOf]; omega
      · obtain rfl : k = n := by omega
        have E : Hid (validB g = true) := Lib.hid (valid_iff.2 ⟨by rw [L.out]; omega, by rw [L.out]; exact OK.out⟩)
        clear hkn
        go_wp2_with fail
        go_ret
        exact ⟨ret_bool E.out.symm, rfl⟩
end Go.Proofs.Ytidilepbepkpiaa
