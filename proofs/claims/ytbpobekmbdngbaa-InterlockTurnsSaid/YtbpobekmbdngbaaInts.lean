/- The contract of SameInts. -/
import Derived.Test.YtbpobekmbdngbaaData
namespace Go.Proofs.Ytbpobekmbdngbaa
open Go.RowKit
set_option linter.unusedVariables false

theorem ne_of_at {α : Type} {x y : List α} {k : Nat} {u v : α} (hx : x[k]? = some u) (hy : y[k]? = some v) (h : u ≠ v) : x ≠ y := by
  rintro rfl
  rw [hx] at hy
  exact h (Option.some.inj hy)

set_option maxHeartbeats 800000 in
theorem SameInts_any (a b : Option Addr) (n m c d : Nat) (zs ys : List Int) (w : World) (hz : RowIn w a n 1 (ints zs)) (hy : RowIn w b m 1 (ints ys)) :
    Calls Try.prog 19 #[.slice a n c, .slice b m d] w fun e w' => e = .returned (.bool (decide (zs = ys))) ∧ w.grownBy w' none := by
  have lz := hz.len1
  have ly := hy.len1
  have hm := hz.2.1
  have hm2 := hy.2.1
  unfold maxLen at hm hm2
  by_cases hnm : n = m
  · subst hnm
    have F0 : Hid (RowIn w a n 1 (ints zs) ∧ RowIn w b n 1 (ints ys) ∧ w.grownBy w none) := ⟨hz, hy, grown_refl w none⟩
    have LZ := Lib.hid lz
    have LY := Lib.hid ly
    clear hz hy lz ly
    go_enter Try.func19, Try.ntmps19
    go_wp2_with fail
    go_loopw [5] (fun i wr => ∃ k : Nat, k ≤ n ∧ i = .int .i64 k ∧ zs.take k = ys.take k ∧ (RowIn wr a n 1 (ints zs) ∧ RowIn wr b n 1 (ints ys) ∧ w.grownBy wr none)) (fun i _ => n - (intOf i).toNat)
    case atStart => exact ⟨0, by omega, rfl, rfl, F0.out⟩
    case round =>
      obtain ⟨k, hk, rfl, he, hF⟩ := hrel
      have E := Lib.hid he
      have F := Lib.hid hF
      clear he hF F0
      by_cases hkn : k < n
      · obtain ⟨u, hu⟩ : ∃ u, zs[k]? = some u := ⟨_, List.getElem?_eq_getElem (by rw [LZ.out]; exact hkn)⟩
        obtain ⟨v, hv⟩ : ∃ v, ys[k]? = some v := ⟨_, List.getElem?_eq_getElem (by rw [LY.out]; exact hkn)⟩
        obtain ⟨b1, o1, rfl, _, c1⟩ := F.out.1.int hu
        obtain ⟨b2, o2, rfl, _, c2⟩ := F.out.2.1.int hv
        have U := Lib.hid hu
        have V := Lib.hid hv
        have hk' : (k : Int) < n := by omega
        clear hu hv
        by_cases huv : u = v
        · have t1 : (u == v) = true := by simpa using huv
          have t2 : (u != v) = false := by simpa using huv
          have HE := Lib.hid huv
          clear huv
          go_wp2_with fail
          go_quiet (fail)
          clear c1 c2
          go_wp2_with fail
          go_roundw
          case rel => exact ⟨k + 1, by omega, by go_num, (take_eq_succ U.out V.out E.out).2 HE.out, (keep (grown_draw _ (grown_refl wr none)) F).out⟩
          case measure => simp [intOf]; omega
        · have t1 : (u == v) = false := by simpa using huv
          have t2 : (u != v) = true := by simpa using huv
          have HE := Lib.hid huv
          clear huv
          go_wp2_with fail
          go_quiet (fail)
          clear c1 c2
          go_wp2_with fail
          go_ret
          exact ⟨ret_bool (decide_eq_false (ne_of_at U.out V.out HE.out)).symm, grown_draw _ F.out.2.2⟩
      · obtain rfl : k = n := by omega
        go_wp2_with fail
        go_ret
        refine ⟨ret_bool (decide_eq_true ?_).symm, F.out.2.2⟩
        have := E.out
        rwa [List.take_of_length_le (by rw [LZ.out]; exact Nat.le_refl _), List.take_of_length_le (by rw [LY.out]; exact Nat.le_refl _)] at this
  · have H : Hid (zs ≠ ys) := Lib.hid (by rintro rfl; omega)
    have h1 : ¬ (n : Int) = m := by omega
    have h2 : ((n : Int) == m) = false := by simpa using h1
    have h3 : ((n : Int) != m) = true := by simpa using h1
    clear hz hy lz ly
    go_enter Try.func19, Try.ntmps19
    go_wp2_with fail
    go_ret
    exact ⟨ret_bool (decide_eq_false H.out).symm, grown_refl w _⟩
end Go.Proofs.Ytbpobekmbdngbaa
