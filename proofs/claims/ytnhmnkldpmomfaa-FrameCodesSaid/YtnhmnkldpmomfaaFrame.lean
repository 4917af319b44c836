/- The contract of blockwaymade.Frame: whatever the tape holds, a valid frame. -/
import Derived.Test.YtnhmnkldpmomfaaTape
namespace Go.Proofs.Ytnhmnkldpmomfaa
open Go.RowKit
set_option linter.unusedVariables false

/-- A frame, as data. -/
structure Fr where
  kind : Int
  robot : Int
  seq : Int
  cell : Int
  flag : Int
def Fr.val (f : Fr) : Value := .agg #[.int .i64 f.kind, .int .i64 f.robot, .int .u64 f.seq, .int .i64 f.cell, .int .i64 f.flag]
/-- P13.1. -/
def Fr.ok (f : Fr) : Prop :=
  (f.kind = 1 ∨ f.kind = 2 ∨ f.kind = 3) ∧ 0 ≤ f.robot ∧ f.robot < 8 ∧ 1 ≤ f.seq ∧ f.seq ≤ 18446744073709551615 ∧ 0 ≤ f.cell ∧ f.cell < 48 ∧ 0 ≤ f.flag ∧ f.flag ≤ 2 ∧
  (f.kind = 1 → f.flag < 2) ∧ (f.kind = 2 → 0 < f.flag) ∧ (f.kind = 3 → f.cell = 0)

theorem Fr.ok_mk {k r s c f : Int} (h : (k = 1 ∨ k = 2 ∨ k = 3) ∧ 0 ≤ r ∧ r < 8 ∧ 1 ≤ s ∧ s ≤ 18446744073709551615 ∧ 0 ≤ c ∧ c < 48 ∧ 0 ≤ f ∧ f ≤ 2 ∧
  (k = 1 → f < 2) ∧ (k = 2 → 0 < f) ∧ (k = 3 → c = 0)) : (Fr.mk k r s c f).ok := h

set_option maxHeartbeats 800000 in
theorem Frame_any (B T : Nat) (ad : Option Addr) (len cap : Nat) (zs : List Int) (k : Nat) (w : World)
    (ht : TapeAt w B T ad len cap zs k) (hk : k < 1000) :
    Calls Try.prog 8 #[.pointer (some ⟨B, 0, none⟩)] w fun e w' => (∃ f : Fr, e = .returned f.val ∧ f.ok) ∧ w.grownBy w' (some B) := by
  go_enter Try.func8, Try.ntmps8
  go_wp2_with fail
  refine (Next_in B T ad len cap zs k _ _ (ht.other (World.grownBy_alloc _ _ _)) (by omega) (by omega) (by omega)).mono ?_
  rintro e w1 ⟨x1, rfl, h1a, h1b, ht1, hg1⟩
  go_wp2_with fail
  refine (Next_in B T ad len cap zs (k + 1) _ _ ht1 (by omega) (by omega) (by omega)).mono ?_
  rintro e w2 ⟨x2, rfl, h2a, h2b, ht2, hg2⟩
  go_wp2_with fail
  refine (Next_in B T ad len cap zs (k + 2) _ _ ht2 (by omega) (by omega) (by omega)).mono ?_
  rintro e w3 ⟨x3, rfl, h3a, h3b, ht3, hg3⟩
  go_wp2_with fail
  refine (Next_in B T ad len cap zs (k + 3) _ _ ht3 (by omega) (by omega) (by omega)).mono ?_
  rintro e w4 ⟨x4, rfl, h4a, h4b, ht4, hg4⟩
  go_wp2_with fail
  refine (Next_in B T ad len cap zs (k + 4) _ _ (ht4.other (World.grownBy_alloc _ _ _)) (by omega) (by omega) (by omega)).mono ?_
  rintro e w5 ⟨x5, rfl, h5a, h5b, ht5, hg5⟩
  have hB := ht.lt
  have hs1 := hg1.size
  have hs2 := hg2.size
  have hs3 := hg3.size
  have hs4 := hg4.size
  have hs5 := hg5.size
  simp only [World.size_alloc] at hs1 hs5
  have hb2 := grown_at hg5 (at_alloc (.cells #[.int .i64 (1 + x1), .int .i64 x2, .int .u64 (1 + x3), .int .i64 x4, .int .i64 0] 26) (grown_at hg4 (grown_at hg3 (grown_at hg2 (grown_at hg1 (at_new _ _) (by simp; omega)) (by simp; omega)) (by simp; omega)) (by simp; omega))) (by simp; omega)
  have hb3 := grown_at hg5 (at_new _ _) (by simp; omega)
  have hall : w.grownBy w5 (some B) := grown_trans (grown_trans (grown_trans (grown_trans (grown_trans (World.grownBy_alloc w _ _) hg1) hg2) hg3) hg4) (grown_trans (World.grownBy_alloc w4 _ _) hg5)
  clear hg1 hg2 hg3 hg4 hg5 ht ht1 ht2 ht3 ht4
  generalize w4.heap.size = b3 at *
  generalize hb2e : w.heap.size = b2 at *
  have h23 : b2 < b3 := by omega
  have h35 : b3 < w5.heap.size := by omega
  clear hs1 hs2 hs3 hs4
  have hx1 : x1 = 0 ∨ x1 = 1 ∨ x1 = 2 := by omega
  by_cases h5 : x5 = 0
  · subst h5
    go_wp2_with fail
    refine (Next_in B T ad len cap zs (k + 5) _ _ ht5 (by omega) (by omega) (by omega)).mono ?_
    rintro e w6 ⟨x6, rfl, h6a, h6b, ht6, hg6⟩
    have hc2 := grown_at hg6 hb2 (by simp; omega)
    have hc3 := grown_at hg6 hb3 (by simp; omega)
    have hall6 := grown_trans hall hg6
    have r3 := rules_at hc3
    have r31 := r3.1
    have r32 := r3.2
    clear r3 hb2 hb3 hg6 hall
    rcases hx1 with rfl | rfl | rfl
    all_goals
      go_wp2_with fail
      refine (Next_in B T ad len cap zs (k + 6) _ _ (ht6.set (by simp; omega) _) (by omega) (by omega) (by omega)).mono ?_
      rintro e w7 ⟨x7, rfl, h7a, h7b, ht7, hg7⟩
      have hd3 := grown_at hg7 (at_set (j := 2) (.int .u64 (18446744073709551615 - x6)) hc3) (by simp; omega)
      have hd2 := grown_at hg7 (at_set_other _ hc2 (by simp; omega)) (by simp; omega)
      have hall7 := grown_trans (grown_set _ hall6 (.inl (by simp; omega))) hg7
      simp at hd3
      have q3 := rules_at hd3
      have q31 := q3.1
      have q32 := q3.2
      have q2 := rules_at hd2
      have q21 := q2.1
      have q22 := q2.2
      clear q2 q3 hd2 hd3 hg7 ht7
      go_wp2
    all_goals have hn1 : ¬ b3 = b2 := by omega
    all_goals have hn2 : ¬ b2 = b3 := by omega
    · refine bodyPost_ret (v := (Fr.mk 1 x2 (18446744073709551615 - x6) x4 x7).val) (by simp only [Fr.val, results, Try.results8]; go_simp) rfl ⟨⟨_, rfl, ?_⟩, ?_⟩
      · exact Fr.ok_mk (by omega)
      · repeat (refine grown_set _ ?_ (by simp; omega))
        exact hall7
    · refine bodyPost_ret (v := (Fr.mk 2 x2 (18446744073709551615 - x6) x4 (1 + x7)).val) (by simp only [Fr.val, results, Try.results8]; go_simp) rfl ⟨⟨_, rfl, ?_⟩, ?_⟩
      · exact Fr.ok_mk (by omega)
      · repeat (refine grown_set _ ?_ (by simp; omega))
        exact hall7
    · refine bodyPost_ret (v := (Fr.mk 3 x2 (18446744073709551615 - x6) 0 x7).val) (by simp only [Fr.val, results, Try.results8]; go_simp) rfl ⟨⟨_, rfl, ?_⟩, ?_⟩
      · exact Fr.ok_mk (by omega)
      · repeat (refine grown_set _ ?_ (by simp; omega))
        exact hall7
  · have hne5 : (x5 == 0) = false := by simpa using h5
    have r3 := rules_at hb3
    have r31 := r3.1
    have r32 := r3.2
    clear r3
    rcases hx1 with rfl | rfl | rfl
    all_goals
      go_wp2_with fail
      refine (Next_in B T ad len cap zs (k + 5) _ _ ht5 (by omega) (by omega) (by omega)).mono ?_
      rintro e w7 ⟨x7, rfl, h7a, h7b, ht7, hg7⟩
      have hd3 := grown_at hg7 hb3 (by simp; omega)
      have hd2 := grown_at hg7 hb2 (by simp; omega)
      have hall7 := grown_trans hall hg7
      simp at hd3
      have q3 := rules_at hd3
      have q31 := q3.1
      have q32 := q3.2
      have q2 := rules_at hd2
      have q21 := q2.1
      have q22 := q2.2
      clear q2 q3 hd2 hd3 hg7 ht7
      go_wp2
    all_goals have hn1 : ¬ b3 = b2 := by omega
    all_goals have hn2 : ¬ b2 = b3 := by omega
    · refine bodyPost_ret (v := (Fr.mk 1 x2 (1 + x3) x4 x7).val) (by simp only [Fr.val, results, Try.results8]; go_simp) rfl ⟨⟨_, rfl, ?_⟩, ?_⟩
      · exact Fr.ok_mk (by omega)
      · repeat (refine grown_set _ ?_ (by simp; omega))
        exact hall7
    · refine bodyPost_ret (v := (Fr.mk 2 x2 (1 + x3) x4 (1 + x7)).val) (by simp only [Fr.val, results, Try.results8]; go_simp) rfl ⟨⟨_, rfl, ?_⟩, ?_⟩
      · exact Fr.ok_mk (by omega)
      · repeat (refine grown_set _ ?_ (by simp; omega))
        exact hall7
    · refine bodyPost_ret (v := (Fr.mk 3 x2 (1 + x3) 0 x7).val) (by simp only [Fr.val, results, Try.results8]; go_simp) rfl ⟨⟨_, rfl, ?_⟩, ?_⟩
      · exact Fr.ok_mk (by omega)
      · repeat (refine grown_set _ ?_ (by simp; omega))
        exact hall7
end Go.Proofs.Ytnhmnkldpmomfaa
