/- The walk of FrameDiffers: for every two lists of numbers the call returns true and writes nothing that was there. -/
import Derived.Test.YtnhmnkldpmomfaaFrLaw
namespace Go.Proofs.Ytnhmnkldpmomfaa
open Go.RowKit
set_option linter.unusedVariables false

set_option maxHeartbeats 1600000 in
theorem FrameDiffers_walk (a0 : Option Addr) (len0 cap0 : Nat) (z0 : List Int) (a1 : Option Addr) (len1 cap1 : Nat) (z1 : List Int) (w : World)
    (w0 : IsRow .i64 w a0 len0 cap0 z0) (w1 : IsRow .i64 w a1 len1 cap1 z1) :
    Calls Try.prog 3 #[.slice a0 len0 cap0, .slice a1 len1 cap1] w fun e w' => e = .returned (.bool true) ∧ Below w.heap.size w w' := by
  have r0 := Lib.hid w0
  have r1 := Lib.hid w1
  clear w0 w1
  go_enter Try.func3, Try.ntmps3
  go_wp2_with fail
  refine (known_any _).mono ?_
  rintro e w1 ⟨rfl, hg1⟩
  go_wp2_with fail
  refine (Frame_any w1.heap.size 30 a0 len0 cap0 _ 0 _ (tape_new r0.out hg1 _) (by omega)).mono ?_
  rintro e w2 ⟨⟨f, rfl, hf⟩, hg2⟩
  have hg2' : w.grownBy w2 none := grown_new (grown_alloc _ hg1) hg2 hg1.size
  clear hg2 hg1
  go_wp2_with fail
  refine (Frame_any w2.heap.size 30 a1 len1 cap1 _ 0 _ (tape_new r1.out hg2' _) (by omega)).mono ?_
  rintro e w3 ⟨⟨g, rfl, hgok⟩, hg3⟩
  have hg3' : w.grownBy w3 none := grown_new (grown_alloc _ hg2') hg3 hg2'.size
  clear hg3 hg2' r0 r1
  have hf' := Lib.hid hf
  have hgok' := Lib.hid hgok
  have hef := Lib.hid (EncodeP_ok f hf)
  have heg := Lib.hid (EncodeP_ok g hgok)
  clear hf hgok
  obtain ⟨k1, r1, s1, c1, f1⟩ := f
  obtain ⟨k2, r2, s2, c2, f2⟩ := g
  simp only [Fr.val] at hef heg ⊢
  go_wp2_with fail
  have hsz := Lib.hid hg3'.size
  refine (hef.out _).mono ?_
  rintro e w4 ⟨b4, rfl, hb4a, hb4, hg4⟩
  have hA := grown_trans (grown_alloc _ (grown_alloc _ hg3')) hg4
  have hc5 := grown_at hg4 (at_alloc _ (at_new w3 _)) (by simp)
  have hc6 := grown_at hg4 (at_new (w3.alloc _) _) (by simp)
  simp only [World.size_alloc] at hc6 hb4a
  have q6 := (rules_at hc6).1
  clear hg4 hg3' hsz hef
  go_wp2_with fail
  refine (heg.out _).mono ?_
  rintro e w5 ⟨b5, rfl, hb5a, hb5, hg5⟩
  have hB := Lib.hid (grown_trans hA hg5)
  have q5 := (rules_at (grown_at hg5 hc5 (by simp))).1
  have q6' := (rules_at (grown_at hg5 hc6 (by simp))).1
  have kc1 := fun n => conv_at (cap := 12) (n := 12) (w := w5.drewN n) (b := b4) (grown_at hg5 hb4 (by simp)) (map_cells (Fr.bytes ⟨k1, r1, s1, c1, f1⟩)) rfl
  have kc2 := fun n => conv_at (cap := 12) (n := 12) (w := w5.drewN n) (b := b5) hb5 (map_cells (Fr.bytes ⟨k2, r2, s2, c2, f2⟩)) rfl
  have fe := fr_binOp k1 r1 s1 c1 f1 k2 r2 s2 c2 f2
  clear hg5 hA hb4 hc5 hc6 q6 heg hb5 hb5a hb4a
  go_wp2
  go_quiet (fail)
  go_wp2
  go_ret
  exact ⟨ret_bool (differ hf'.out hgok'.out), grown_below (grown_draw _ hB.out)⟩
end Go.Proofs.Ytnhmnkldpmomfaa
