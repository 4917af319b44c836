/- The contracts of known and Valid (program and reference). -/
import Derived.Test.YtnhmnkldpmomfaaFrame
namespace Go.Proofs.Ytnhmnkldpmomfaa
open Go.RowKit
set_option linter.unusedVariables false

def knownB (k : Int) : Bool := decide (k = 1 ∨ k = 2 ∨ k = 3)
theorem knownB_t {k : Int} (h : k = 1 ∨ k = 2 ∨ k = 3) : knownB k = true := decide_eq_true h
theorem knownB_f {k : Int} (h1 : ¬ k = 1) (h2 : ¬ k = 2) (h3 : ¬ k = 3) : knownB k = false := decide_eq_false (by omega)
instance (f : Fr) : Decidable f.ok := by unfold Fr.ok; exact inferInstance
def Fr.okB (f : Fr) : Bool := decide f.ok
/-- The numbers of a frame fit their kinds. -/
def Fr.fits (f : Fr) : Prop := 0 ≤ f.seq ∧ f.seq ≤ 18446744073709551615
theorem okB_f {k r s c f : Int} (h : ¬ ((k = 1 ∨ k = 2 ∨ k = 3) ∧ 0 ≤ r ∧ r < 8 ∧ 1 ≤ s ∧ s ≤ 18446744073709551615 ∧ 0 ≤ c ∧ c < 48 ∧ 0 ≤ f ∧ f ≤ 2 ∧
  (k = 1 → f < 2) ∧ (k = 2 → 0 < f) ∧ (k = 3 → c = 0))) : (Fr.mk k r s c f).okB = false := decide_eq_false h
theorem okB_t {k r s c f : Int} (h : ((k = 1 ∨ k = 2 ∨ k = 3) ∧ 0 ≤ r ∧ r < 8 ∧ 1 ≤ s ∧ s ≤ 18446744073709551615 ∧ 0 ≤ c ∧ c < 48 ∧ 0 ≤ f ∧ f ≤ 2 ∧
  (k = 1 → f < 2) ∧ (k = 2 → 0 < f) ∧ (k = 3 → c = 0))) : (Fr.mk k r s c f).okB = true := decide_eq_true h
theorem okB_kinds {k r s c f : Int} (hk : k = 1 ∨ k = 2 ∨ k = 3) (h : 0 ≤ r ∧ r < 8 ∧ 1 ≤ s ∧ s ≤ 18446744073709551615 ∧ 0 ≤ c ∧ c < 48 ∧ 0 ≤ f ∧ f ≤ 2) :
    (k = 1 → (Fr.mk k r s c f).okB = decide (f < 2)) ∧ (k = 2 → (Fr.mk k r s c f).okB = decide (0 < f)) ∧ (k = 3 → (Fr.mk k r s c f).okB = decide (c = 0)) := by
  refine ⟨fun e => ?_, fun e => ?_, fun e => ?_⟩
  all_goals
    unfold Fr.okB
    rw [Bool.eq_iff_iff, decide_eq_true_iff, decide_eq_true_iff]
    unfold Fr.ok
    simp only
    omega

set_option maxHeartbeats 400000 in
theorem knownP (k : Int) (w : World) :
    Calls Try.prog 17 #[.int .i64 k] w fun e w' => e = .returned (.bool (knownB k)) ∧ w' = w := by
  by_cases h1 : k = 1
  · subst h1
    go_enter Try.func17, Try.ntmps17
    go_wp2
    go_ret
    exact ⟨rfl, rfl⟩
  · by_cases h2 : k = 2
    · subst h2
      go_enter Try.func17, Try.ntmps17
      go_wp2
      go_ret
      exact ⟨rfl, rfl⟩
    · by_cases h3 : k = 3
      · subst h3
        go_enter Try.func17, Try.ntmps17
        go_wp2
        go_ret
        exact ⟨rfl, rfl⟩
      · have b1 : (k == 1) = false := by simpa using h1
        have b2 : (k == 2) = false := by simpa using h2
        have b3 : (k == 3) = false := by simpa using h3
        have H := Lib.hid (knownB_f h1 h2 h3)
        go_enter Try.func17, Try.ntmps17
        go_wp2
        go_ret
        exact ⟨ret_bool H.out.symm, rfl⟩

set_option maxHeartbeats 1600000 in
theorem ValidP (f : Fr) (hf : f.fits) (w : World) :
    Calls Try.prog 14 #[f.val] w fun e w' => e = .returned (.bool f.okB) ∧ w.grownBy w' none := by
  obtain ⟨kd, r, s, c, fl⟩ := f
  obtain ⟨hs0, hs1⟩ := hf
  simp only at hs0 hs1
  unfold Fr.val
  simp only
  by_cases hk : kd = 1 ∨ kd = 2 ∨ kd = 3
  case neg =>
    have hkn := knownB_f (k := kd) (by omega) (by omega) (by omega)
    have H := Lib.hid (okB_f (k := kd) (r := r) (s := s) (c := c) (f := fl) (by omega))
    clear hk
    go_enter Try.func14, Try.ntmps14
    go_wp2_with (go_at_call 17; refine (knownP _ _).mono ?_; rintro e w' ⟨rfl, rfl⟩)
    go_ret
    exact ⟨ret_bool (by rw [H.out]), grown_alloc _ (grown_refl w _)⟩
  have hkn := knownB_t hk
  by_cases g0 : r < 0
  case pos =>
    have H := Lib.hid (okB_f (k := kd) (r := r) (s := s) (c := c) (f := fl) (by omega))
    clear hk
    go_enter Try.func14, Try.ntmps14
    go_wp2_with (go_at_call 17; refine (knownP _ _).mono ?_; rintro e w' ⟨rfl, rfl⟩)
    go_ret
    exact ⟨ret_bool (by rw [H.out]), grown_alloc _ (grown_refl w _)⟩
  have g0' : 0 ≤ r := by omega
  clear g0
  by_cases g1 : 8 ≤ r
  case pos =>
    have H := Lib.hid (okB_f (k := kd) (r := r) (s := s) (c := c) (f := fl) (by omega))
    clear hk
    go_enter Try.func14, Try.ntmps14
    go_wp2_with (go_at_call 17; refine (knownP _ _).mono ?_; rintro e w' ⟨rfl, rfl⟩)
    go_ret
    exact ⟨ret_bool (by rw [H.out]), grown_alloc _ (grown_refl w _)⟩
  have g1' : r < 8 := by omega
  clear g1
  by_cases g2 : s = 0
  case pos =>
    have H := Lib.hid (okB_f (k := kd) (r := r) (s := s) (c := c) (f := fl) (by omega))
    clear hk
    subst g2
    go_enter Try.func14, Try.ntmps14
    go_wp2_with (go_at_call 17; refine (knownP _ _).mono ?_; rintro e w' ⟨rfl, rfl⟩)
    go_ret
    exact ⟨ret_bool (by rw [H.out]), grown_alloc _ (grown_refl w _)⟩
  have g2' : 1 ≤ s := by omega
  have g2n : (s == 0) = false := by simpa using g2
  clear g2
  by_cases g3 : c < 0
  case pos =>
    have H := Lib.hid (okB_f (k := kd) (r := r) (s := s) (c := c) (f := fl) (by omega))
    clear hk
    go_enter Try.func14, Try.ntmps14
    go_wp2_with (go_at_call 17; refine (knownP _ _).mono ?_; rintro e w' ⟨rfl, rfl⟩)
    go_ret
    exact ⟨ret_bool (by rw [H.out]), grown_alloc _ (grown_refl w _)⟩
  have g3' : 0 ≤ c := by omega
  clear g3
  by_cases g4 : 48 ≤ c
  case pos =>
    have H := Lib.hid (okB_f (k := kd) (r := r) (s := s) (c := c) (f := fl) (by omega))
    clear hk
    go_enter Try.func14, Try.ntmps14
    go_wp2_with (go_at_call 17; refine (knownP _ _).mono ?_; rintro e w' ⟨rfl, rfl⟩)
    go_ret
    exact ⟨ret_bool (by rw [H.out]), grown_alloc _ (grown_refl w _)⟩
  have g4' : c < 48 := by omega
  clear g4
  by_cases g5 : fl < 0
  case pos =>
    have H := Lib.hid (okB_f (k := kd) (r := r) (s := s) (c := c) (f := fl) (by omega))
    clear hk
    go_enter Try.func14, Try.ntmps14
    go_wp2_with (go_at_call 17; refine (knownP _ _).mono ?_; rintro e w' ⟨rfl, rfl⟩)
    go_ret
    exact ⟨ret_bool (by rw [H.out]), grown_alloc _ (grown_refl w _)⟩
  have g5' : 0 ≤ fl := by omega
  clear g5
  by_cases g6 : 2 < fl
  case pos =>
    have H := Lib.hid (okB_f (k := kd) (r := r) (s := s) (c := c) (f := fl) (by omega))
    clear hk
    go_enter Try.func14, Try.ntmps14
    go_wp2_with (go_at_call 17; refine (knownP _ _).mono ?_; rintro e w' ⟨rfl, rfl⟩)
    go_ret
    exact ⟨ret_bool (by rw [H.out]), grown_alloc _ (grown_refl w _)⟩
  have g6' : fl ≤ 2 := by omega
  clear g6
  have H := Lib.hid (okB_kinds (k := kd) (r := r) (s := s) (c := c) (f := fl) hk (by omega))
  have Hk := Lib.hid hk
  clear hk
  go_enter Try.func14, Try.ntmps14
  go_wp2_with (go_at_call 17; refine (knownP _ _).mono ?_; rintro e w' ⟨rfl, rfl⟩)
  all_goals
    go_ret
    refine ⟨ret_bool ?_, grown_alloc _ (grown_refl w _)⟩
    have hk := Hk.out
    obtain ⟨H1, H2, H3⟩ := H.out
    first
      | (have e : (kd == 1) = true := by assumption
         rw [H1 (by simpa using e)]; done)
      | (have e : (kd == 1) = true := by assumption
         rw [H1 (by simpa using e), Bool.eq_iff_iff, decide_eq_true_iff, decide_eq_true_iff]; omega)
      | (have e : (kd == 2) = true := by assumption
         rw [H2 (by simpa using e)]; done)
      | (have e : (kd == 2) = true := by assumption
         rw [H2 (by simpa using e), Bool.eq_iff_iff, decide_eq_true_iff, decide_eq_true_iff]; omega)
      | (have e1 : (kd == 1) = false := by assumption
         have e2 : (kd == 2) = false := by assumption
         have n1 : kd ≠ 1 := by simpa using e1
         have n2 : kd ≠ 2 := by simpa using e2
         rw [H3 (by omega), Bool.eq_iff_iff, beq_iff_eq, decide_eq_true_iff])
      | (trace_state; fail)

set_option maxHeartbeats 400000 in
theorem knownR (k : Int) (w : World) :
    Calls Try.prog 18 #[.int .i64 k] w fun e w' => e = .returned (.bool (knownB k)) ∧ w' = w := by
  by_cases h1 : k = 1
  · subst h1
    go_enter Try.func18, Try.ntmps18
    go_wp2
    go_ret
    exact ⟨rfl, rfl⟩
  · by_cases h2 : k = 2
    · subst h2
      go_enter Try.func18, Try.ntmps18
      go_wp2
      go_ret
      exact ⟨rfl, rfl⟩
    · by_cases h3 : k = 3
      · subst h3
        go_enter Try.func18, Try.ntmps18
        go_wp2
        go_ret
        exact ⟨rfl, rfl⟩
      · have b1 : (k == 1) = false := by simpa using h1
        have b2 : (k == 2) = false := by simpa using h2
        have b3 : (k == 3) = false := by simpa using h3
        have H := Lib.hid (knownB_f h1 h2 h3)
        go_enter Try.func18, Try.ntmps18
        go_wp2
        go_ret
        exact ⟨ret_bool H.out.symm, rfl⟩

set_option maxHeartbeats 1600000 in
theorem ValidR (f : Fr) (hf : f.fits) (w : World) :
    Calls Try.prog 15 #[f.val] w fun e w' => e = .returned (.bool f.okB) ∧ w.grownBy w' none := by
  obtain ⟨kd, r, s, c, fl⟩ := f
  obtain ⟨hs0, hs1⟩ := hf
  simp only at hs0 hs1
  unfold Fr.val
  simp only
  by_cases hk : kd = 1 ∨ kd = 2 ∨ kd = 3
  case neg =>
    have hkn := knownB_f (k := kd) (by omega) (by omega) (by omega)
    have H := Lib.hid (okB_f (k := kd) (r := r) (s := s) (c := c) (f := fl) (by omega))
    clear hk
    go_enter Try.func15, Try.ntmps15
    go_wp2_with (go_at_call 18; refine (knownR _ _).mono ?_; rintro e w' ⟨rfl, rfl⟩)
    go_ret
    exact ⟨ret_bool (by rw [H.out]), grown_alloc _ (grown_refl w _)⟩
  have hkn := knownB_t hk
  by_cases g0 : r < 0
  case pos =>
    have H := Lib.hid (okB_f (k := kd) (r := r) (s := s) (c := c) (f := fl) (by omega))
    clear hk
    go_enter Try.func15, Try.ntmps15
    go_wp2_with (go_at_call 18; refine (knownR _ _).mono ?_; rintro e w' ⟨rfl, rfl⟩)
    go_ret
    exact ⟨ret_bool (by rw [H.out]), grown_alloc _ (grown_refl w _)⟩
  have g0' : 0 ≤ r := by omega
  clear g0
  by_cases g1 : 8 ≤ r
  case pos =>
    have H := Lib.hid (okB_f (k := kd) (r := r) (s := s) (c := c) (f := fl) (by omega))
    clear hk
    go_enter Try.func15, Try.ntmps15
    go_wp2_with (go_at_call 18; refine (knownR _ _).mono ?_; rintro e w' ⟨rfl, rfl⟩)
    go_ret
    exact ⟨ret_bool (by rw [H.out]), grown_alloc _ (grown_refl w _)⟩
  have g1' : r < 8 := by omega
  clear g1
  by_cases g2 : s = 0
  case pos =>
    have H := Lib.hid (okB_f (k := kd) (r := r) (s := s) (c := c) (f := fl) (by omega))
    clear hk
    subst g2
    go_enter Try.func15, Try.ntmps15
    go_wp2_with (go_at_call 18; refine (knownR _ _).mono ?_; rintro e w' ⟨rfl, rfl⟩)
    go_ret
    exact ⟨ret_bool (by rw [H.out]), grown_alloc _ (grown_refl w _)⟩
  have g2' : 1 ≤ s := by omega
  have g2n : (s == 0) = false := by simpa using g2
  clear g2
  by_cases g3 : c < 0
  case pos =>
    have H := Lib.hid (okB_f (k := kd) (r := r) (s := s) (c := c) (f := fl) (by omega))
    clear hk
    go_enter Try.func15, Try.ntmps15
    go_wp2_with (go_at_call 18; refine (knownR _ _).mono ?_; rintro e w' ⟨rfl, rfl⟩)
    go_ret
    exact ⟨ret_bool (by rw [H.out]), grown_alloc _ (grown_refl w _)⟩
  have g3' : 0 ≤ c := by omega
  clear g3
  by_cases g4 : 48 ≤ c
  case pos =>
    have H := Lib.hid (okB_f (k := kd) (r := r) (s := s) (c := c) (f := fl) (by omega))
    clear hk
    go_enter Try.func15, Try.ntmps15
    go_wp2_with (go_at_call 18; refine (knownR _ _).mono ?_; rintro e w' ⟨rfl, rfl⟩)
    go_ret
    exact ⟨ret_bool (by rw [H.out]), grown_alloc _ (grown_refl w _)⟩
  have g4' : c < 48 := by omega
  clear g4
  by_cases g5 : fl < 0
  case pos =>
    have H := Lib.hid (okB_f (k := kd) (r := r) (s := s) (c := c) (f := fl) (by omega))
    clear hk
    go_enter Try.func15, Try.ntmps15
    go_wp2_with (go_at_call 18; refine (knownR _ _).mono ?_; rintro e w' ⟨rfl, rfl⟩)
    go_ret
    exact ⟨ret_bool (by rw [H.out]), grown_alloc _ (grown_refl w _)⟩
  have g5' : 0 ≤ fl := by omega
  clear g5
  by_cases g6 : 2 < fl
  case pos =>
    have H := Lib.hid (okB_f (k := kd) (r := r) (s := s) (c := c) (f := fl) (by omega))
    clear hk
    go_enter Try.func15, Try.ntmps15
    go_wp2_with (go_at_call 18; refine (knownR _ _).mono ?_; rintro e w' ⟨rfl, rfl⟩)
    go_ret
    exact ⟨ret_bool (by rw [H.out]), grown_alloc _ (grown_refl w _)⟩
  have g6' : fl ≤ 2 := by omega
  clear g6
  have H := Lib.hid (okB_kinds (k := kd) (r := r) (s := s) (c := c) (f := fl) hk (by omega))
  have Hk := Lib.hid hk
  clear hk
  go_enter Try.func15, Try.ntmps15
  go_wp2_with (go_at_call 18; refine (knownR _ _).mono ?_; rintro e w' ⟨rfl, rfl⟩)
  all_goals
    go_ret
    refine ⟨ret_bool ?_, grown_alloc _ (grown_refl w _)⟩
    have hk := Hk.out
    obtain ⟨H1, H2, H3⟩ := H.out
    first
      | (have e : (kd == 1) = true := by assumption
         rw [H1 (by simpa using e)]; done)
      | (have e : (kd == 1) = true := by assumption
         rw [H1 (by simpa using e), Bool.eq_iff_iff, decide_eq_true_iff, decide_eq_true_iff]; omega)
      | (have e : (kd == 2) = true := by assumption
         rw [H2 (by simpa using e)]; done)
      | (have e : (kd == 2) = true := by assumption
         rw [H2 (by simpa using e), Bool.eq_iff_iff, decide_eq_true_iff, decide_eq_true_iff]; omega)
      | (have e1 : (kd == 1) = false := by assumption
         have e2 : (kd == 2) = false := by assumption
         have n1 : kd ≠ 1 := by simpa using e1
         have n2 : kd ≠ 2 := by simpa using e2
         rw [H3 (by omega), Bool.eq_iff_iff, beq_iff_eq, decide_eq_true_iff])
      | (trace_state; fail)
end Go.Proofs.Ytnhmnkldpmomfaa
