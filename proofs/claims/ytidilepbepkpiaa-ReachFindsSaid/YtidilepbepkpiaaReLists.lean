/- The contract of SameLists. -/
import Derived.Test.YtidilepbepkpiaaReSame
namespace Go.Proofs.Ytidilepbepkpiaa
open Go.RowKit
set_option linter.unusedVariables false

set_option maxHeartbeats 1600000 in
theorem SameLists_any (a b : Option Addr) (n m c d : Nat) (zs ys : Gr) (w : World) (hz : ListsR none w a n zs) (hy : ListsR none w b m ys) :
    Calls Try.prog 12 #[.slice a n c, .slice b m d] w fun e w' => e = .returned (.bool (decide (zs = ys))) ∧ w.grownBy w' none := by
  obtain ⟨lz, hm⟩ := hz.len
  obtain ⟨ly, hm2⟩ := hy.len
  unfold maxLen at hm hm2
  by_cases hnm : n = m
  · subst hnm
    have F0 : Hid (ListsR none w a n zs ∧ ListsR none w b n ys ∧ w.grownBy w none) := ⟨hz, hy, grown_refl w none⟩
    have LZ := Lib.hid lz
    have LY := Lib.hid ly
    clear hz hy lz ly
    go_enter Try.func12, Try.ntmps12
    go_wp2_with fail
    go_loopw [5] (fun i wr => ∃ k : Nat, k ≤ n ∧ i = .int .i64 k ∧ zs.take k = ys.take k ∧ (ListsR none wr a n zs ∧ ListsR none wr b n ys ∧ w.grownBy wr none)) (fun i _ => n - (intOf i).toNat)
    case atStart => exact ⟨0, by omega, rfl, rfl, F0.out⟩
    case round =>
      obtain ⟨k, hk, rfl, he, hF⟩ := hrel
      have E := Lib.hid he
      have F := Lib.hid hF
      clear he hF F0
      by_cases hkn : k < n
      · obtain ⟨u, hu⟩ : ∃ u, zs[k]? = some u := ⟨_, List.getElem?_eq_getElem (by rw [LZ.out]; exact hkn)⟩
        obtain ⟨v, hv⟩ : ∃ v, ys[k]? = some v := ⟨_, List.getElem?_eq_getElem (by rw [LY.out]; exact hkn)⟩
        obtain ⟨b1, o1, A1, k1, rfl, z1, d1, _, _, _, r1⟩ := F.out.1.at hu
        obtain ⟨b2, o2, A2, k2, rfl, z2, d2, _, _, _, r2⟩ := F.out.2.1.at hv
        have U := Lib.hid hu
        have V := Lib.hid hv
        have R1 := Lib.hid r1.1
        have R2 := Lib.hid r2.1
        have hk' : (k : Int) < n := by omega
        clear hu hv r1 r2
        go_wp2_with fail
        have y1 : ∀ x : After wr, x.w.cell? ⟨b1, o1 + k, none⟩ = some (.slice A1 u.length k1) := fun x => (grown_cell x.grown z1 (by simp)).trans d1
        have y2 : ∀ x : After wr, x.w.cell? ⟨b2, o2 + k, none⟩ = some (.slice A2 v.length k2) := fun x => (grown_cell x.grown z2 (by simp)).trans d2
        have S : Hid (∀ x : After wr, Calls Try.prog 26 #[.slice A1 u.length k1, .slice A2 v.length k2] x.w fun e w' => e = .returned (.bool (decide (u = v))) ∧ x.w.grownBy w' none) := Lib.hid (fun x => SameInts_any _ _ _ _ _ _ _ _ _ (RowIn.kept R1.out x.grown) (RowIn.kept R2.out x.grown))
        by_cases huv : u = v
        · have HE := Lib.hid huv
          rw [decide_eq_true huv] at S
          clear huv
          refine wp_region_after (by kernel_rfl) (by kernel_rfl) (grown_refl _ _) ?_
          repeat (go_big_quiet_step ((go_at_call 26; exact after_call (S.out _))))
          refine wpQuiet_nil ?_
          rintro _ ⟨x, rfl⟩
          have F1 := keep x.grown F
          clear y1 y2 S R1 R2 d1 d2 F
          go_wp2_with fail
          go_roundw
          case rel => exact ⟨k + 1, by omega, by go_num, (take_eq_succ U.out V.out E.out).2 HE.out, F1.out⟩
          case measure => simp [intOf]; omega
        · have HE := Lib.hid huv
          rw [decide_eq_false huv] at S
          clear huv
          refine wp_region_after (by kernel_rfl) (by kernel_rfl) (grown_refl _ _) ?_
          repeat (go_big_quiet_step ((go_at_call 26; exact after_call (S.out _))))
          refine wpQuiet_nil ?_
          rintro _ ⟨x, rfl⟩
          have F1 := keep x.grown F
          clear y1 y2 S R1 R2 d1 d2 F
          go_wp2_with fail
          go_ret
          exact ⟨ret_bool (decide_eq_false (ne_of_at U.out V.out HE.out)).symm, F1.out.2.2⟩
      · obtain rfl : k = n := by omega
        go_wp2_with fail
        go_ret
        refine ⟨ret_bool (decide_eq_true ?_).symm, F.out.2.2⟩
        have := E.out
        rwa [List.take_of_length_le (by rw [LZ.out]; exact Nat.le_refl _), List.take_of_length_le (by rw [LY.out]; exact Nat.le_refl _)] at this
  · have H : Hid (zs ≠ ys) := Lib.hid (by rintro rfl; omega)
    have h1 : ¬ (n : Int) = m := by omega
    have h2 : ((n : Int) == m) = false := by simpa using h1
    have h3 : ((n : Int) != m) = true := by simpa using h1
    clear hz hy lz ly
    go_enter Try.func12, Try.ntmps12
    go_wp2_with fail
    go_ret
    exact ⟨ret_bool (decide_eq_false H.out).symm, grown_refl w _⟩
end Go.Proofs.Ytidilepbepkpiaa
