/- The contract of frame.Encode. -/
import Derived.Test.YtnhmnkldpmomfaaValid
namespace Go.Proofs.Ytnhmnkldpmomfaa
open Go.RowKit
set_option linter.unusedVariables false

/-- The bytes of a valid frame: P13.1. -/
def Fr.bytes (f : Fr) : List Int := [f.kind, f.robot, f.seq / 72057594037927936 % 256, f.seq / 281474976710656 % 256, f.seq / 1099511627776 % 256, f.seq / 4294967296 % 256, f.seq / 16777216 % 256, f.seq / 65536 % 256, f.seq / 256 % 256, f.seq % 256, f.cell, f.flag]

set_option maxHeartbeats 1600000 in
theorem EncodeP_ok (f : Fr) (hf : f.ok) (w : World) :
    Calls Try.prog 9 #[f.val] w fun e w' => ∃ b, e = .returned (.tuple #[.slice (some ⟨b, 0, none⟩) 12 12, .int .i64 0]) ∧ w.heap.size ≤ b ∧
      w'.heap[b]? = some (.cells (f.bytes.map (Value.int .u8)).toArray 5 (0, 0)) ∧ w.grownBy w' none := by
  have hk : knownB f.kind = true := knownB_t hf.1
  have hv : f.okB = true := decide_eq_true hf
  have hvc : ∀ w : World, Calls Try.prog 14 #[f.val] w fun e w' => e = .returned (.bool true) ∧ w.grownBy w' none := fun w => by
    have := ValidP f ⟨by have := hf.2.2.2.1; omega, hf.2.2.2.2.1⟩ w
    rw [hv] at this; exact this
  obtain ⟨kd, r, s, c, fl⟩ := f
  obtain ⟨h1, h2, h3, h4, h5, h6, h7, h8, h9, -⟩ := hf
  simp only at h1 h2 h3 h4 h5 h6 h7 h8 h9 hk
  unfold Fr.val at hvc ⊢
  simp only at hvc ⊢
  have hvc' := Lib.hid hvc
  clear hv hvc
  have k1 : 1 ≤ kd := by omega
  have k2 : kd ≤ 3 := by omega
  clear h1
  have hmk : ∀ w : World, (Instr.makeSlice 31 (.int .i64 12) (.int .i64 12)).run Try.prog w = .ok (.slice (some ⟨w.heap.size, 0, none⟩) 12 12)
      (w.alloc (.cells #[.int .u8 0, .int .u8 0, .int .u8 0, .int .u8 0, .int .u8 0, .int .u8 0, .int .u8 0, .int .u8 0, .int .u8 0, .int .u8 0, .int .u8 0, .int .u8 0] 5)) := fun _ => by kernel_rfl
  go_enter Try.func9, Try.ntmps9
  go_wp2_with (go_at_call 17; refine (knownP _ _).mono ?_; rintro e w' ⟨rfl, rfl⟩)
  refine (hvc'.out _).mono ?_
  rintro e w1 ⟨rfl, hg1⟩
  have hb1 := grown_at hg1 (at_new w _) (by simp)
  have r1 := (rules_at hb1).1
  have hs1 := hg1.size
  simp only [World.size_alloc] at hs1
  have hs1' : w.heap.size < w1.heap.size := by omega
  clear hs1
  clear hvc'
  go_wp2
  clear hmk
  go_region
  go_wp2
  refine wp_loop_rounds 9 ?_
  repeat (any_goals (rw [rounds_succ]; go_wp2))
  all_goals go_ret2
  refine ⟨w1.heap.size, rfl, by omega, ?_, ?_⟩
  · refine (at_new w1 _).trans ?_
    have e : s / 72057594037927936 % 256 = s / 72057594037927936 := by omega
    simp [Fr.bytes, e]
  · exact grown_drew (grown_alloc _ (grown_trans (World.grownBy_alloc w _ _) hg1))

set_option maxHeartbeats 400000 in
theorem EncodeP_kind (f : Fr) (hk : knownB f.kind = false) (w : World) :
    Calls Try.prog 9 #[f.val] w fun e w' => e = .returned (.tuple #[.slice none 0 0, .int .i64 22]) ∧ w.grownBy w' none := by
  obtain ⟨kd, r, s, c, fl⟩ := f
  simp only at hk
  unfold Fr.val
  simp only
  go_enter Try.func9, Try.ntmps9
  go_wp2_with (go_at_call 17; refine (knownP _ _).mono ?_; rintro e w' ⟨rfl, rfl⟩)
  go_ret2
  exact ⟨rfl, grown_alloc _ (grown_refl w _)⟩

set_option maxHeartbeats 400000 in
theorem EncodeP_range (f : Fr) (hfit : f.fits) (hk : knownB f.kind = true) (hv : f.okB = false) (w : World) :
    Calls Try.prog 9 #[f.val] w fun e w' => e = .returned (.tuple #[.slice none 0 0, .int .i64 19]) ∧ w.grownBy w' none := by
  have hvc : ∀ w : World, Calls Try.prog 14 #[f.val] w fun e w' => e = .returned (.bool false) ∧ w.grownBy w' none := fun w => by
    have := ValidP f hfit w
    rw [hv] at this; exact this
  obtain ⟨kd, r, s, c, fl⟩ := f
  simp only at hk
  unfold Fr.val at hvc ⊢
  simp only at hvc ⊢
  have hvc' := Lib.hid hvc
  clear hv hvc hfit
  go_enter Try.func9, Try.ntmps9
  go_wp2_with (go_at_call 17; refine (knownP _ _).mono ?_; rintro e w' ⟨rfl, rfl⟩)
  refine (hvc'.out _).mono ?_
  rintro e w1 ⟨rfl, hg1⟩
  clear hvc'
  go_wp2
  go_ret2
  exact ⟨rfl, grown_trans (World.grownBy_alloc w _ _) hg1⟩
end Go.Proofs.Ytnhmnkldpmomfaa
