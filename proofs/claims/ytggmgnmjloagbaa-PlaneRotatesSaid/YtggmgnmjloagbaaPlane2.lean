/- The contracts of Turn, Square, At, Rotate, Mirror. -/
import Derived.Test.YtggmgnmjloagbaaPlane
namespace Go.Proofs.Ytggmgnmjloagbaa
open Go.RowKit
set_option linter.unusedVariables false

theorem rep0 : Rep 0 0 := rep_zero false
theorem rep1 : Rep 4607182418800017408 1 := rep_ofInt (n := 1) (by omega)
theorem ord_of {b : Nat} {n : Int} (h : Rep b n) : FloatKind.f64.format.order b 0 = some (compare n 0) := rep_order h rep0
theorem ord_gt {b : Nat} {n : Int} (h : Rep b n) (hn : 0 < n) : FloatKind.f64.format.order b 0 = some .gt := by rw [ord_of h]; simp only [compare, compareOfLessAndEq]; rw [if_neg (by omega), if_neg (by omega)]
theorem ord_lt {b : Nat} {n : Int} (h : Rep b n) (hn : n < 0) : FloatKind.f64.format.order b 0 = some .lt := by rw [ord_of h]; simp only [compare, compareOfLessAndEq]; rw [if_pos hn]
theorem ord_eq {b : Nat} {n : Int} (h : Rep b n) (hn : n = 0) : FloatKind.f64.format.order b 0 = some .eq := by rw [ord_of h]; simp only [compare, compareOfLessAndEq]; rw [if_neg (by omega), if_pos hn]

theorem boxes3 {w w1 : World} {A B C : Obj} (hg : (((w.alloc A).alloc B).alloc C).grownBy w1 none) : w1.heap[w.heap.size]? = some A ∧ w1.heap[w.heap.size + 1]? = some B ∧ w1.heap[w.heap.size + 2]? = some C ∧ w.grownBy w1 none := by
  refine ⟨grown_at hg (at_alloc _ (at_alloc _ (at_new w A))) (by simp), ?_, ?_, grown_trans (grown_alloc _ (grown_alloc _ (grown_alloc _ (grown_refl w none)))) hg⟩
  · have := grown_at hg (at_alloc _ (at_new (w.alloc A) B)) (by simp)
    simpa [World.size_alloc] using this
  · have := grown_at hg (at_new ((w.alloc A).alloc B) C) (by simp)
    simpa [World.size_alloc] using this

def bkV (nm : Value) (p : Pt) : Value := .agg #[nm, .int .i64 p.1, .int .i64 p.2]

set_option maxHeartbeats 1000000 in
theorem Turn_ok (na nb nc : Value) (a1 a2 b1 b2 c1 c2 : Int) (w : World) (ha : inP a1 a2) (hb : inP b1 b2) (hc : inP c1 c2) :
    Calls Try.prog 11 #[.agg #[na, .int .i64 a1, .int .i64 a2], .agg #[nb, .int .i64 b1, .int .i64 b2], .agg #[nc, .int .i64 c1, .int .i64 c2]] w fun e w' => e = .returned (.tuple #[.int .i64 (turnP (a1, a2) (b1, b2) (c1, c2)), .int .i64 0]) ∧ w.grownBy w' none := by
  have r1 := (fD_rep ⟨hb.1, hb.2.1⟩ ⟨hc.1, hc.2.1⟩).2
  have r2 := (fD_rep ⟨hb.2.2.1, hb.2.2.2⟩ ⟨hc.2.2.1, hc.2.2.2⟩).2
  have r3 := (fD_rep ⟨ha.1, ha.2.1⟩ ⟨hb.1, hb.2.1⟩).2
  have r4 := rep_neg (fD_rep ⟨ha.2.2.1, ha.2.2.2⟩ ⟨hb.2.2.1, hb.2.2.2⟩).2
  have HA := Lib.hid ha
  have HB := Lib.hid hb
  have HC := Lib.hid hc
  obtain ⟨re, im, hmul, hre, him⟩ := cmul_rep r1 r2 r3 r4 (by have := @mul_bd2 (c1 - b1) (b1 - a1); unfold inP at *; omega) (by have := @mul_bd2 (c2 - b2) (-(b2 - a2)); unfold inP at *; omega) (by have := @mul_bd2 (c1 - b1) (-(b2 - a2)); unfold inP at *; omega) (by have := @mul_bd2 (c2 - b2) (b1 - a1); unfold inP at *; omega)
  obtain ⟨M, hM⟩ : ∃ M, M = (c2 - b2) * (b1 - a1) - (c1 - b1) * (b2 - a2) := ⟨_, rfl⟩
  obtain ⟨R, hR⟩ : ∃ R, R = (c1 - b1) * (b1 - a1) + (c2 - b2) * (b2 - a2) := ⟨_, rfl⟩
  rw [show (c1 - b1) * (b1 - a1) - (c2 - b2) * -(b2 - a2) = R by rw [hR, Int.mul_neg]; omega] at hre
  rw [show (c1 - b1) * -(b2 - a2) + (c2 - b2) * (b1 - a1) = M by rw [hM, Int.mul_neg]; omega] at him
  have ht : Hid (turnP (a1, a2) (b1, b2) (c1, c2) = turnZ M R) := by rw [hM, hR]; exact rfl
  clear hM hR r1 r2 r3 r4 ha hb hc
  have hop := fun t w => run_complex_mul (P := Try.prog) w t _ _ _ _ _ _ hmul
  have hre' := Lib.hid hre
  have him' := Lib.hid him
  clear hmul hre him
  go_enter Try.func11, Try.ntmps11
  go_wp2_with fail
  refine (invalid_ok na a1 a2 _ HA.out).mono ?_
  rintro e w1 ⟨rfl, hg1⟩
  have F1 := Lib.hid (boxes3 hg1)
  have q1 := (rules_at F1.out.2.1).1
  have z1 := hg1.size
  simp only [World.size_alloc] at z1
  clear hg1
  go_wp2_with fail
  refine (invalid_ok nb b1 b2 _ HB.out).mono ?_
  rintro e w2 ⟨rfl, hg2⟩
  have F2 := keep hg2 F1
  have z2 := hg2.size
  have q2 := (rules_at F2.out.2.2.1).1
  clear hg2 F1 q1
  go_wp2_with fail
  refine (invalid_ok nc c1 c2 _ HC.out).mono ?_
  rintro e w3 ⟨rfl, hg3⟩
  have F3 := keep hg3 F2
  have z3 := hg3.size
  clear hg3 F2 q2
  go_wp2_with fail
  have y1 := after_at F3.out.1
  have y2 := after_at F3.out.2.1
  have y3 := after_at F3.out.2.2.1
  refine wp_region_after (by kernel_rfl) (by kernel_rfl) (grown_refl _ _) ?_
  repeat (go_big_quiet_step ((first | (go_at_call 18; exact after_call (Step_ok _ _ _ _ _ _ _ (by first | exact HA.out | exact HB.out) (by first | exact HB.out | exact HC.out))) | (go_at_call 26; exact after_same (conjugate_ok _ _ _)))))
  refine wpQuiet_nil ?_
  rintro _ ⟨v, rfl⟩
  have F4 := keep v.grown F3
  clear y1 y2 y3 F3 hop z1 z2 z3
  by_cases m1 : 0 < M
  · have e1 := ord_gt him'.out m1
    have ht' : Hid (turnP (a1, a2) (b1, b2) (c1, c2) = 1) := by rw [ht.out, turnZ, if_pos m1]; exact rfl
    go_wp2
    go_ret2
    rw [ht'.out]; exact ⟨rfl, F4.out.2.2.2⟩
  by_cases m2 : M < 0
  · have e1 := ord_lt him'.out m2
    have ht' : Hid (turnP (a1, a2) (b1, b2) (c1, c2) = 2) := by rw [ht.out, turnZ, if_neg m1, if_pos m2]; exact rfl
    go_wp2
    go_ret2
    rw [ht'.out]; exact ⟨rfl, F4.out.2.2.2⟩
  have e1 := ord_eq him'.out (by omega)
  by_cases m3 : 0 < R
  · have e2 := ord_gt hre'.out m3
    have ht' : Hid (turnP (a1, a2) (b1, b2) (c1, c2) = 3) := by rw [ht.out, turnZ, if_neg m1, if_neg m2, if_pos m3]; exact rfl
    go_wp2
    go_ret2
    rw [ht'.out]; exact ⟨rfl, F4.out.2.2.2⟩
  by_cases m4 : R < 0
  · have e2 := ord_lt hre'.out m4
    have ht' : Hid (turnP (a1, a2) (b1, b2) (c1, c2) = 4) := by rw [ht.out, turnZ, if_neg m1, if_neg m2, if_neg m3, if_pos m4]; exact rfl
    go_wp2
    go_ret2
    rw [ht'.out]; exact ⟨rfl, F4.out.2.2.2⟩
  have e2 := ord_eq hre'.out (by omega)
  have ht' : Hid (turnP (a1, a2) (b1, b2) (c1, c2) = 0) := by rw [ht.out, turnZ, if_neg m1, if_neg m2, if_neg m3, if_neg m4]; exact rfl
  go_wp2
  go_ret2
  rw [ht'.out]; exact ⟨rfl, F4.out.2.2.2⟩

theorem Turn_no (na nb nc : Value) (a1 a2 b1 b2 c1 c2 : Int) (w : World) (h : ¬ (inP a1 a2 ∧ inP b1 b2 ∧ inP c1 c2)) :
    Calls Try.prog 11 #[.agg #[na, .int .i64 a1, .int .i64 a2], .agg #[nb, .int .i64 b1, .int .i64 b2], .agg #[nc, .int .i64 c1, .int .i64 c2]] w fun e w' => e = .returned (.tuple #[.int .i64 0, .int .i64 19]) ∧ w.grownBy w' none := by
  have h0 := Lib.hid h
  clear h
  by_cases ha : inP a1 a2
  · have HA := Lib.hid ha
    by_cases hb : inP b1 b2
    · have hc : ¬ inP c1 c2 := fun hc => h0.out ⟨ha, hb, hc⟩
      have HB := Lib.hid hb
      have HC := Lib.hid hc
      clear ha hb hc h0
      go_enter Try.func11, Try.ntmps11
      go_wp2_with fail
      refine (invalid_ok na a1 a2 _ HA.out).mono ?_
      rintro e w1 ⟨rfl, hg1⟩
      have F1 := Lib.hid (boxes3 hg1)
      have q1 := (rules_at F1.out.2.1).1
      have z1 := hg1.size
      simp only [World.size_alloc] at z1
      clear hg1
      go_wp2_with fail
      refine (invalid_ok nb b1 b2 _ HB.out).mono ?_
      rintro e w2 ⟨rfl, hg2⟩
      have F2 := keep hg2 F1
      have z2 := hg2.size
      have q2 := (rules_at F2.out.2.2.1).1
      clear hg2 F1 q1
      go_wp2_with fail
      refine (invalid_no nc c1 c2 _ HC.out).mono ?_
      rintro e w3 ⟨rfl, hg3⟩
      have F3 := keep hg3 F2
      clear hg3 F2 q2
      go_wp2
      go_ret2
      exact ⟨rfl, F3.out.2.2.2⟩
    · have HB := Lib.hid hb
      clear ha hb h0
      go_enter Try.func11, Try.ntmps11
      go_wp2_with fail
      refine (invalid_ok na a1 a2 _ HA.out).mono ?_
      rintro e w1 ⟨rfl, hg1⟩
      have F1 := Lib.hid (boxes3 hg1)
      have q1 := (rules_at F1.out.2.1).1
      have z1 := hg1.size
      simp only [World.size_alloc] at z1
      clear hg1
      go_wp2_with fail
      refine (invalid_no nb b1 b2 _ HB.out).mono ?_
      rintro e w2 ⟨rfl, hg2⟩
      have F2 := keep hg2 F1
      clear hg2 F1 q1
      go_wp2
      go_ret2
      exact ⟨rfl, F2.out.2.2.2⟩
  · have HA := Lib.hid ha
    clear ha h0
    go_enter Try.func11, Try.ntmps11
    go_wp2_with fail
    refine (invalid_no na a1 a2 _ HA.out).mono ?_
    rintro e w1 ⟨rfl, hg1⟩
    have F1 := Lib.hid (boxes3 hg1)
    clear hg1
    go_wp2
    go_ret2
    exact ⟨rfl, F1.out.2.2.2⟩

theorem box {w w1 : World} {A : Obj} (hg : (w.alloc A).grownBy w1 none) : w1.heap[w.heap.size]? = some A ∧ w.grownBy w1 none :=
  ⟨grown_at hg (at_new w A) (by simp), grown_trans (grown_alloc _ (grown_refl w none)) hg⟩

theorem At_ok (nm : Value) (x y : Int) (w : World) (h : inP x y) :
    Calls Try.prog 23 #[.agg #[nm, .int .i64 x, .int .i64 y]] w fun e w' => e = .returned (.complex .f64 (floatOfInt .f64 x) (floatOfInt .f64 y)) ∧ w.grownBy w' none := by
  have HA := Lib.hid h
  clear h
  go_enter Try.func23, Try.ntmps23
  go_wp2_with fail
  refine (invalid_ok nm x y _ HA.out).mono ?_
  rintro e w1 ⟨rfl, hg1⟩
  have F1 := Lib.hid (box hg1)
  have q1 := (rules_at F1.out.1).1
  have z1 := hg1.size
  simp only [World.size_alloc] at z1
  clear hg1
  go_wp2_with fail
  refine (point_ok nm x y _).mono ?_
  rintro e w2 ⟨rfl, hg2⟩
  have F2 := keep hg2 F1
  clear hg2 F1 q1
  go_wp2
  go_ret
  exact ⟨rfl, F2.out.2⟩
theorem At_no (nm : Value) (x y : Int) (w : World) (h : ¬ inP x y) :
    Calls Try.prog 23 #[.agg #[nm, .int .i64 x, .int .i64 y]] w fun e w' => e = .returned (.complex .f64 0 0) ∧ w.grownBy w' none := by
  have HA := Lib.hid h
  clear h
  go_enter Try.func23, Try.ntmps23
  go_wp2_with fail
  refine (invalid_no nm x y _ HA.out).mono ?_
  rintro e w1 ⟨rfl, hg1⟩
  have F1 := Lib.hid (box hg1)
  clear hg1
  go_wp2
  go_ret
  exact ⟨rfl, F1.out.2⟩

end Go.Proofs.Ytggmgnmjloagbaa
