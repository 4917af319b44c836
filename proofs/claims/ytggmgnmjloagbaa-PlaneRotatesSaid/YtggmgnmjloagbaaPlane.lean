/- The contracts of package plane. -/
import Derived.Test.YtggmgnmjloagbaaFz
import Derived.Test.YtggmgnmjloagbaaOwnR
import Derived.Test.YtggmgnmjloagbaaTape
import Derived.Test.YtggmgnmjloagbaaAfter
import Derived.Test.YtggmgnmjloagbaaData
import Derived.Test.YtggmgnmjloagbaaPlLaw
namespace Go.Proofs.Ytggmgnmjloagbaa
open Go.RowKit
set_option linter.unusedVariables false

def inP (x y : Int) : Prop := -9999 ≤ x ∧ x ≤ 9999 ∧ -9999 ≤ y ∧ y ≤ 9999
theorem in_test {x y : Int} (h : inP x y) : (decide (x < -9999) || decide (9999 < x) || decide (y < -9999) || decide (9999 < y)) = false := by
  obtain ⟨h1, h2, h3, h4⟩ := h
  simp; omega

theorem out_test {x y : Int} (h : ¬ inP x y) : (decide (x < -9999) || decide (9999 < x) || decide (y < -9999) || decide (9999 < y)) = true := by
  unfold inP at h
  simp; omega

theorem unary_neg_float (k : FloatKind) (b : Nat) : Op.unary .neg (.float k b) = pure (.float k (Op.negFloat k b)) := rfl

theorem csum_of {op : BinOp} {a b c d re im : Nat} (h1 : floatBits op .f64 a c = some re) (h2 : floatBits op .f64 b d = some im) : cSumBits op .f64 a b c d = some (re, im) := by
  simp [cSumBits, h1, h2]
/-- A product of two complex numbers whose parts are whole. -/
theorem cmul_rep {a b c d : Nat} {x y u v : Int} (ha : Rep a x) (hb : Rep b y) (hc : Rep c u) (hd : Rep d v)
    (h1 : (x * u).natAbs < 4503599627370496) (h2 : (y * v).natAbs < 4503599627370496) (h3 : (x * v).natAbs < 4503599627370496) (h4 : (y * u).natAbs < 4503599627370496) :
    ∃ re im, cMulBits a b c d = some (re, im) ∧ Rep re (x * u - y * v) ∧ Rep im (x * v + y * u) := by
  obtain ⟨ac, e1, r1⟩ := rep_mul ha hc (by omega)
  obtain ⟨bd, e2, r2⟩ := rep_mul hb hd (by omega)
  obtain ⟨ad, e3, r3⟩ := rep_mul ha hd (by omega)
  obtain ⟨bc, e4, r4⟩ := rep_mul hb hc (by omega)
  obtain ⟨re, e5, r5⟩ := rep_sub r1 r2 (by omega)
  obtain ⟨im, e6, r6⟩ := rep_add r3 r4 (by omega)
  refine ⟨re, im, ?_, r5, r6⟩
  have f1 : floatBits .mul .f64 a c = some ac := e1
  have f2 : floatBits .mul .f64 b d = some bd := e2
  have f3 : floatBits .mul .f64 a d = some ad := e3
  have f4 : floatBits .mul .f64 b c = some bc := e4
  have f5 : floatBits .sub .f64 ac bd = some re := e5
  have f6 : floatBits .add .f64 ad bc = some im := e6
  simp [cMulBits, f1, f2, f3, f4, f5, f6]

theorem invalid_ok (nm : Value) (x y : Int) (w : World) (h : inP x y) :
    Calls Try.prog 25 #[.agg #[nm, .int .i64 x, .int .i64 y]] w fun e w' => e = .returned (.bool false) ∧ w.grownBy w' none := by
  have ht := Lib.hid (in_test h)
  obtain ⟨h1, h2, h3, h4⟩ := h
  go_enter Try.func25, Try.ntmps25
  go_wp2
  rw [ht.out]
  go_ret
  exact ⟨rfl, World.grownBy_alloc _ _ _⟩

theorem point_ok (nm : Value) (x y : Int) (w : World) :
    Calls Try.prog 28 #[.agg #[nm, .int .i64 x, .int .i64 y]] w fun e w' => e = .returned (.complex .f64 (floatOfInt .f64 x) (floatOfInt .f64 y)) ∧ w.grownBy w' none := by
  go_enter Try.func28, Try.ntmps28
  go_wp2
  go_ret
  exact ⟨rfl, World.grownBy_alloc _ _ _⟩

theorem conjugate_ok (a b : Nat) (w : World) :
    Calls Try.prog 26 #[.complex .f64 a b] w fun e w' => e = .returned (.complex .f64 a (Op.negFloat .f64 b)) ∧ w' = w := by
  have hneg := unary_neg_float
  go_enter Try.func26, Try.ntmps26
  go_wp2
  go_ret
  exact ⟨rfl, rfl⟩

/-- The word of a difference of two whole numbers. -/
def fD (x u : Int) : Nat := (floatBits .sub .f64 (floatOfInt .f64 u) (floatOfInt .f64 x)).getD 0
theorem fD_rep {x u : Int} (h1 : -9999 ≤ x ∧ x ≤ 9999) (h2 : -9999 ≤ u ∧ u ≤ 9999) : floatBits .sub .f64 (floatOfInt .f64 u) (floatOfInt .f64 x) = some (fD x u) ∧ Rep (fD x u) (u - x) := by
  obtain ⟨w, h, hr⟩ := rep_sub (x := floatOfInt .f64 u) (y := floatOfInt .f64 x) (rep_ofInt (n := u) (by omega)) (rep_ofInt (n := x) (by omega)) (by omega)
  have h' : floatBits .sub .f64 (floatOfInt .f64 u) (floatOfInt .f64 x) = some w := h
  have : fD x u = w := by unfold fD; rw [h']; rfl
  rw [this]
  exact ⟨h', hr⟩

/-- How two blocks lie, boxed, behind a call. -/
theorem boxes {w w1 : World} {A B : Obj} (hg : ((w.alloc A).alloc B).grownBy w1 none) : w1.heap[w.heap.size]? = some A ∧ w1.heap[w.heap.size + 1]? = some B ∧ w.grownBy w1 none := by
  refine ⟨grown_at hg (at_alloc _ (at_new w A)) (by simp), ?_, grown_trans (grown_alloc _ (grown_alloc _ (grown_refl w none))) hg⟩
  have := grown_at hg (at_new (w.alloc A) B) (by simp)
  simpa [World.size_alloc] using this

set_option maxHeartbeats 400000 in
theorem Step_ok (nm nm' : Value) (x y u v : Int) (w : World) (h : inP x y) (h' : inP u v) :
    Calls Try.prog 18 #[.agg #[nm, .int .i64 x, .int .i64 y], .agg #[nm', .int .i64 u, .int .i64 v]] w fun e w' => e = .returned (.complex .f64 (fD x u) (fD y v)) ∧ w.grownBy w' none := by
  have hop := fun t w => run_complex_sum (P := Try.prog) w .sub (Or.inr rfl) t .f64 _ _ _ _ _ _ (csum_of (fD_rep ⟨h.1, h.2.1⟩ ⟨h'.1, h'.2.1⟩).1 (fD_rep ⟨h.2.2.1, h.2.2.2⟩ ⟨h'.2.2.1, h'.2.2.2⟩).1)
  have hin := Lib.hid h
  have hin' := Lib.hid h'
  clear h h'
  go_enter Try.func18, Try.ntmps18
  go_wp2_with fail
  refine (invalid_ok nm x y _ hin.out).mono ?_
  rintro e w1 ⟨rfl, hg1⟩
  have F1 := Lib.hid (boxes hg1)
  have q1 := (rules_at F1.out.2.1).1
  have z1 := hg1.size
  simp only [World.size_alloc] at z1
  clear hg1
  go_wp2_with fail
  refine (invalid_ok nm' u v _ hin'.out).mono ?_
  rintro e w2 ⟨rfl, hg2⟩
  have F2 := keep hg2 F1
  have z2 := hg2.size
  clear q1 hg2 F1
  go_wp2_with fail
  have y1 := after_at F2.out.1
  have y2 := after_at F2.out.2.1
  refine wp_region_after (by kernel_rfl) (by kernel_rfl) (grown_refl _ _) ?_
  repeat (go_big_quiet_step ((go_at_call 28; exact after_call (point_ok _ _ _ _))))
  refine wpQuiet_nil ?_
  rintro _ ⟨v, rfl⟩
  have F3 := keep v.grown F2
  clear y1 y2 F2 hop
  go_wp2
  go_ret
  exact ⟨rfl, F3.out.2.2⟩

theorem invalid_no (nm : Value) (x y : Int) (w : World) (h : ¬ inP x y) :
    Calls Try.prog 25 #[.agg #[nm, .int .i64 x, .int .i64 y]] w fun e w' => e = .returned (.bool true) ∧ w.grownBy w' none := by
  have ht := Lib.hid (out_test h)
  clear h
  go_enter Try.func25, Try.ntmps25
  go_wp2
  all_goals first | rw [ht.out] | skip
  all_goals (go_ret; exact ⟨rfl, World.grownBy_alloc _ _ _⟩)

theorem Step_no (nm nm' : Value) (x y u v : Int) (w : World) (h : ¬ (inP x y ∧ inP u v)) :
    Calls Try.prog 18 #[.agg #[nm, .int .i64 x, .int .i64 y], .agg #[nm', .int .i64 u, .int .i64 v]] w fun e w' => e = .returned (.complex .f64 0 0) ∧ w.grownBy w' none := by
  have h' := Lib.hid h
  clear h
  by_cases h1 : inP x y
  · have h2 : ¬ inP u v := fun h => h'.out ⟨h1, h⟩
    have hin := Lib.hid h1
    have hin' := Lib.hid h2
    clear h1 h2 h'
    go_enter Try.func18, Try.ntmps18
    go_wp2_with fail
    refine (invalid_ok nm x y _ hin.out).mono ?_
    rintro e w1 ⟨rfl, hg1⟩
    have F1 := Lib.hid (boxes hg1)
    have q1 := (rules_at F1.out.2.1).1
    have z1 := hg1.size
    simp only [World.size_alloc] at z1
    clear hg1
    go_wp2_with fail
    refine (invalid_no nm' u v _ hin'.out).mono ?_
    rintro e w2 ⟨rfl, hg2⟩
    have F2 := keep hg2 F1
    clear q1 hg2 F1
    go_wp2
    go_ret
    exact ⟨rfl, F2.out.2.2⟩
  · have hin := Lib.hid h1
    clear h1 h'
    go_enter Try.func18, Try.ntmps18
    go_wp2_with fail
    refine (invalid_no nm x y _ hin.out).mono ?_
    rintro e w1 ⟨rfl, hg1⟩
    have F1 := Lib.hid (boxes hg1)
    clear hg1
    go_wp2
    go_ret
    exact ⟨rfl, F1.out.2.2⟩
end Go.Proofs.Ytggmgnmjloagbaa
