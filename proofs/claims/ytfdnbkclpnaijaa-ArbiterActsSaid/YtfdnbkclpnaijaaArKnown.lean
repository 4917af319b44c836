/- The sanity check of the arbiter's laws. -/
import Derived.Test.YtfdnbkclpnaijaaStart
import Derived.Test.YtfdnbkclpnaijaaData
namespace Go.Proofs.Ytfdnbkclpnaijaa
open Go.RowKit
set_option linter.unusedVariables false

def t0 : Tk := ⟨0, 0, 0, -1, 0⟩

theorem kn_rows (w : World) (A B : Obj) (hA : A = (.cells #[.int .i64 0, .int .i64 0, .int .i64 0, .int .i64 (-1), .int .i64 0, .int .i64 0, .int .i64 0, .int .i64 0, .int .i64 (-1), .int .i64 0, .int .i64 0, .int .i64 0, .int .i64 0, .int .i64 (-1), .int .i64 0] 31)) (hB : B = (.cells #[.bool false, .bool true, .bool true] 4)) :
    RowIn ((w.alloc A).alloc B) (some ⟨w.heap.size, 0, none⟩) 3 5 (flat [t0, t0, t0]) ∧ RowIn ((w.alloc A).alloc B) (some ⟨w.heap.size + 1, 0, none⟩) 3 1 ([false, true, true].map Value.bool) := by
  subst hA hB
  refine ⟨rowIn_block (n := 3) (size := 5) (at_alloc _ (at_new w _)) rfl (by unfold maxLen; omega), ?_⟩
  have h := rowIn_block (n := 3) (size := 1) (at_new (w.alloc (.cells #[.int .i64 0, .int .i64 0, .int .i64 0, .int .i64 (-1), .int .i64 0, .int .i64 0, .int .i64 0, .int .i64 0, .int .i64 (-1), .int .i64 0, .int .i64 0, .int .i64 0, .int .i64 0, .int .i64 (-1), .int .i64 0] 31)) (.cells #[.bool false, .bool true, .bool true] 4)) rfl (by unfold maxLen; omega)
  simp only [World.size_alloc] at h
  exact h

set_option maxHeartbeats 1600000 in
theorem known_any (w : World) :
    Calls Try.prog 6 #[] w fun e w' => e = .returned (.bool true) ∧ w.grownBy w' none := by
  have hTC := kn_rows w (.cells #[.int .i64 0, .int .i64 0, .int .i64 0, .int .i64 (-1), .int .i64 0, .int .i64 0, .int .i64 0, .int .i64 0, .int .i64 (-1), .int .i64 0, .int .i64 0, .int .i64 0, .int .i64 0, .int .i64 (-1), .int .i64 0] 31) (.cells #[.bool false, .bool true, .bool true] 4) rfl rfl
  have hT := Lib.hid hTC.1
  have hC := Lib.hid hTC.2
  clear hTC
  have hv : validB [t0, t0, t0] = true := by decide
  have hc1 := ChooseP_ok (some ⟨w.heap.size, 0, none⟩) 3 3 [t0, t0, t0] (some ⟨w.heap.size + 1, 0, none⟩) 3 [false, true, true] 1 _ hT.out rfl hv hC.out (by omega) (by omega)
  rw [show nextI [t0, t0, t0] [false, true, true] 1 0 = 1 from by decide] at hc1
  have hc1' := Lib.hid hc1
  clear hc1
  go_enter Try.func6, Try.ntmps6
  go_wp2_with fail
  refine hc1'.out.mono ?_
  rintro e w1 ⟨rfl, hg1⟩
  have hG1 := Lib.hid hg1
  clear hg1 hc1'
  go_wp2_with fail
  refine (StartP_ok (some ⟨w.heap.size, 0, none⟩) 3 3 [t0, t0, t0] 1 t0 0 w1 (hT.out.kept hG1.out) rfl hv rfl rfl (by omega) (by omega)).mono ?_
  rintro e w2 ⟨g, cp, rfl, hgb, hO, hg2⟩
  have hG2 := Lib.hid (grown_trans hG1.out hg2)
  have hO' := Lib.hid hO
  clear hg2 hG1 hO
  rw [show startTs [t0, t0, t0] 1 0 = [⟨0, 0, 0, -1, 1⟩, ⟨0, 0, 1, 0, 0⟩, t0] from rfl] at hO'
  have hc2 := ChooseP_ok (some ⟨g, 0, none⟩) 3 cp [⟨0, 0, 0, -1, 1⟩, ⟨0, 0, 1, 0, 0⟩, t0] (some ⟨w.heap.size + 1, 0, none⟩) 3 [false, true, true] 1 _ hO'.out.row rfl (by decide) (hC.out.kept hG2.out) (by omega) (by omega)
  rw [show nextI [⟨0, 0, 0, -1, 1⟩, ⟨0, 0, 1, 0, 0⟩, t0] [false, true, true] 1 0 = -1 from by decide] at hc2
  have hc2' := Lib.hid hc2
  clear hc2
  go_wp2_with fail
  refine hc2'.out.mono ?_
  rintro e w3 ⟨rfl, hg3⟩
  obtain ⟨b', off', he, c0, c1, c2, c3, c4⟩ := task_at (hO'.out.row.kept hg3) (k := 0) rfl
  obtain ⟨rfl, rfl⟩ : g = b' ∧ 0 = off' := by simpa using he
  simp only [Nat.zero_add, Nat.zero_mul] at c0 c1 c2 c3 c4
  have hG3 := Lib.hid (grown_trans (grown_alloc _ (grown_alloc _ (grown_refl w none))) (grown_trans hG2.out hg3))
  clear hg3 hc2' hG2 he
  go_wp2
  go_ret
  exact ⟨rfl, hG3.out⟩
end Go.Proofs.Ytfdnbkclpnaijaa
