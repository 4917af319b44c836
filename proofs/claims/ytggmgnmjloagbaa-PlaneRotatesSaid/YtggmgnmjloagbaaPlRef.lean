/- The contracts of the chapter's own functions on blocks. -/
import Derived.Test.YtggmgnmjloagbaaPlArea
namespace Go.Proofs.Ytggmgnmjloagbaa
open Go.RowKit
set_option linter.unusedVariables false

theorem rvalid_ok (nm : Value) (x y : Int) (w : World) (h : inP x y) :
    Calls Try.prog 39 #[.agg #[nm, .int .i64 x, .int .i64 y]] w fun e w' => e = .returned (.bool true) ∧ w.grownBy w' none := by
  obtain ⟨h1, h2, h3, h4⟩ := h
  go_enter Try.func39, Try.ntmps39
  go_wp2
  go_ret
  exact ⟨ret_bool (by simp <;> omega), World.grownBy_alloc _ _ _⟩
theorem rvalid_no (nm : Value) (x y : Int) (w : World) (h : ¬ inP x y) :
    Calls Try.prog 39 #[.agg #[nm, .int .i64 x, .int .i64 y]] w fun e w' => e = .returned (.bool false) ∧ w.grownBy w' none := by
  have H := Lib.hid h
  clear h
  go_enter Try.func39, Try.ntmps39
  go_wp2
  all_goals (go_ret; exact ⟨ret_bool (by have := H.out; unfold inP at this; simp <;> omega), World.grownBy_alloc _ _ _⟩)

set_option maxHeartbeats 400000 in
theorem rAt_ok (nm : Value) (x y : Int) (w : World) (h : inP x y) :
    Calls Try.prog 32 #[.agg #[nm, .int .i64 x, .int .i64 y]] w fun e w' => e = .returned (.tuple #[.int .i64 x, .int .i64 y]) ∧ w.grownBy w' none := by
  have H := Lib.hid h
  clear h
  go_enter Try.func32, Try.ntmps32
  go_wp2_with fail
  refine (rvalid_ok nm x y _ H.out).mono ?_
  rintro e w1 ⟨rfl, hg1⟩
  have F1 := Lib.hid (box hg1)
  have q1 := (rules_at F1.out.1).1
  have z1 := lt_of_at F1.out.1
  clear hg1
  go_wp2_with fail
  go_quiet (fail)
  go_wp2_with fail
  go_ret2
  exact ⟨rfl, grown_draw _ F1.out.2⟩
theorem rAt_no (nm : Value) (x y : Int) (w : World) (h : ¬ inP x y) :
    Calls Try.prog 32 #[.agg #[nm, .int .i64 x, .int .i64 y]] w fun e w' => e = .returned (.tuple #[.int .i64 0, .int .i64 0]) ∧ w.grownBy w' none := by
  have H := Lib.hid h
  clear h
  go_enter Try.func32, Try.ntmps32
  go_wp2_with fail
  refine (rvalid_no nm x y _ H.out).mono ?_
  rintro e w1 ⟨rfl, hg1⟩
  have F1 := Lib.hid (box hg1)
  clear hg1
  go_wp2_with fail
  go_ret2
  exact ⟨rfl, F1.out.2⟩

set_option maxHeartbeats 400000 in
theorem rStep_ok (nm nm' : Value) (x y u v : Int) (w : World) (h : inP x y) (h' : inP u v) :
    Calls Try.prog 33 #[.agg #[nm, .int .i64 x, .int .i64 y], .agg #[nm', .int .i64 u, .int .i64 v]] w fun e w' => e = .returned (.tuple #[.int .i64 (u - x), .int .i64 (v - y)]) ∧ w.grownBy w' none := by
  have H := Lib.hid h
  have H' := Lib.hid h'
  obtain ⟨h1, h2, h3, h4⟩ := h
  obtain ⟨h1', h2', h3', h4'⟩ := h'
  go_enter Try.func33, Try.ntmps33
  go_wp2_with fail
  refine (rvalid_ok nm x y _ H.out).mono ?_
  rintro e w1 ⟨rfl, hg1⟩
  have F1 := Lib.hid (boxes hg1)
  have q1 := (rules_at F1.out.2.1).1
  have z1 := lt_of_at F1.out.2.1
  clear hg1
  go_wp2_with fail
  refine (rvalid_ok nm' u v _ H'.out).mono ?_
  rintro e w2 ⟨rfl, hg2⟩
  have F2 := keep hg2 F1
  have q2 := (rules_at F2.out.1).1
  have q3 := (rules_at F2.out.2.1).1
  have z2 := lt_of_at F2.out.2.1
  clear hg2 F1 q1
  go_wp2_with fail
  go_quiet (fail)
  go_wp2_with fail
  go_ret2
  exact ⟨rfl, grown_draw _ F2.out.2.2⟩
theorem rStep_no (nm nm' : Value) (x y u v : Int) (w : World) (h : ¬ (inP x y ∧ inP u v)) :
    Calls Try.prog 33 #[.agg #[nm, .int .i64 x, .int .i64 y], .agg #[nm', .int .i64 u, .int .i64 v]] w fun e w' => e = .returned (.tuple #[.int .i64 0, .int .i64 0]) ∧ w.grownBy w' none := by
  have H := Lib.hid h
  clear h
  by_cases h1 : inP x y
  · have A := Lib.hid h1
    have B : Hid (¬ inP u v) := Lib.hid (fun h => H.out ⟨h1, h⟩)
    clear h1 H
    go_enter Try.func33, Try.ntmps33
    go_wp2_with fail
    refine (rvalid_ok nm x y _ A.out).mono ?_
    rintro e w1 ⟨rfl, hg1⟩
    have F1 := Lib.hid (boxes hg1)
    have q1 := (rules_at F1.out.2.1).1
    have z1 := lt_of_at F1.out.2.1
    clear hg1
    go_wp2_with fail
    refine (rvalid_no nm' u v _ B.out).mono ?_
    rintro e w2 ⟨rfl, hg2⟩
    have F2 := keep hg2 F1
    clear hg2 F1 q1
    go_wp2_with fail
    go_ret2
    exact ⟨rfl, F2.out.2.2⟩
  · have A := Lib.hid h1
    clear h1 H
    go_enter Try.func33, Try.ntmps33
    go_wp2_with fail
    refine (rvalid_no nm x y _ A.out).mono ?_
    rintro e w1 ⟨rfl, hg1⟩
    have F1 := Lib.hid (boxes hg1)
    clear hg1
    go_wp2_with fail
    go_ret2
    exact ⟨rfl, F1.out.2.2⟩

/-- The turn, named. -/
def turnV (x y u v : Int) (t : Int) : Prop := turnS x y u v = t
set_option maxHeartbeats 1000000 in
theorem rTurn_ok (na nb nc : Value) (a1 a2 b1 b2 c1 c2 : Int) (w : World) (ha : inP a1 a2) (hb : inP b1 b2) (hc : inP c1 c2) :
    Calls Try.prog 30 #[.agg #[na, .int .i64 a1, .int .i64 a2], .agg #[nb, .int .i64 b1, .int .i64 b2], .agg #[nc, .int .i64 c1, .int .i64 c2]] w fun e w' => e = .returned (.tuple #[.int .i64 (turnP (a1, a2) (b1, b2) (c1, c2)), .int .i64 0]) ∧ w.grownBy w' none := by
  have HA := Lib.hid ha
  have HB := Lib.hid hb
  have HC := Lib.hid hc
  have m1 := @mul_bd2 (c1 - b1) (b1 - a1) (by unfold inP at *; omega) (by unfold inP at *; omega)
  have m2 := @mul_bd2 (c2 - b2) (b2 - a2) (by unfold inP at *; omega) (by unfold inP at *; omega)
  have m3 := @mul_bd2 (c2 - b2) (b1 - a1) (by unfold inP at *; omega) (by unfold inP at *; omega)
  have m4 := @mul_bd2 (c1 - b1) (b2 - a2) (by unfold inP at *; omega) (by unfold inP at *; omega)
  have ht : Hid (turnP (a1, a2) (b1, b2) (c1, c2) = turnZ ((c2 - b2) * (b1 - a1) - (c1 - b1) * (b2 - a2)) ((c1 - b1) * (b1 - a1) + (c2 - b2) * (b2 - a2))) := rfl
  have S1 := fun w => rStep_ok na nb a1 a2 b1 b2 w ha hb
  have S2 := fun w => rStep_ok nb nc b1 b2 c1 c2 w hb hc
  generalize b1 - a1 = x at *
  generalize b2 - a2 = y at *
  generalize c1 - b1 = u at *
  generalize c2 - b2 = v at *
  have S1' := Lib.hid S1
  have S2' := Lib.hid S2
  obtain ⟨m1a, m1b⟩ := m1
  obtain ⟨m2a, m2b⟩ := m2
  obtain ⟨m3a, m3b⟩ := m3
  obtain ⟨m4a, m4b⟩ := m4
  clear ha hb hc S1 S2
  go_enter Try.func30, Try.ntmps30
  go_wp2_with fail
  refine (rvalid_ok na a1 a2 _ HA.out).mono ?_
  rintro e w1 ⟨rfl, hg1⟩
  have F1 := Lib.hid (boxes3 hg1)
  have q1 := (rules_at F1.out.2.1).1
  have z1 := lt_of_at F1.out.2.2.1
  clear hg1
  go_wp2_with fail
  refine (rvalid_ok nb b1 b2 _ HB.out).mono ?_
  rintro e w2 ⟨rfl, hg2⟩
  have F2 := keep hg2 F1
  have q2 := (rules_at F2.out.2.2.1).1
  have z2 := lt_of_at F2.out.2.2.1
  clear hg2 F1 q1
  go_wp2_with fail
  refine (rvalid_ok nc c1 c2 _ HC.out).mono ?_
  rintro e w3 ⟨rfl, hg3⟩
  have F3 := keep hg3 F2
  have q3 := (rules_at F3.out.1).1
  have q4 := (rules_at F3.out.2.1).1
  have z3 := lt_of_at F3.out.2.2.1
  clear hg3 F2 q2
  go_wp2_with fail
  refine (S1'.out _).mono ?_
  rintro e w4 ⟨rfl, hg4⟩
  have F4 := keep hg4 F3
  have q5 := (rules_at F4.out.2.2.1).1
  have q6 := (rules_at F4.out.2.1).1
  have z4 := lt_of_at F4.out.2.2.1
  clear hg4 F3 q3 q4
  go_wp2_with fail
  refine (S2'.out _).mono ?_
  rintro e w5 ⟨rfl, hg5⟩
  have F5 := keep hg5 F4
  clear hg5 F4 q5 q6 S1' S2'
  go_wp2_with fail
  all_goals
    go_ret2
    refine ⟨?_, F5.out.2.2.2⟩
    rw [ht.out]
    unfold turnZ
    first
      | rw [if_pos (by omega)]; rfl
      | rw [if_neg (by omega), if_pos (by omega)]; rfl
      | rw [if_neg (by omega), if_neg (by omega), if_pos (by omega)]; rfl
      | rw [if_neg (by omega), if_neg (by omega), if_neg (by omega), if_pos (by omega)]; rfl
      | rw [if_neg (by omega), if_neg (by omega), if_neg (by omega), if_neg (by omega)]; rfl

theorem rTurn_no (na nb nc : Value) (a1 a2 b1 b2 c1 c2 : Int) (w : World) (h : ¬ (inP a1 a2 ∧ inP b1 b2 ∧ inP c1 c2)) :
    Calls Try.prog 30 #[.agg #[na, .int .i64 a1, .int .i64 a2], .agg #[nb, .int .i64 b1, .int .i64 b2], .agg #[nc, .int .i64 c1, .int .i64 c2]] w fun e w' => e = .returned (.tuple #[.int .i64 0, .int .i64 19]) ∧ w.grownBy w' none := by
  have h0 := Lib.hid h
  clear h
  by_cases ha : inP a1 a2
  · have HA := Lib.hid ha
    by_cases hb : inP b1 b2
    · have hc : ¬ inP c1 c2 := fun hc => h0.out ⟨ha, hb, hc⟩
      have HB := Lib.hid hb
      have HC := Lib.hid hc
      clear ha hb hc h0
      go_enter Try.func30, Try.ntmps30
      go_wp2_with fail
      refine (rvalid_ok na a1 a2 _ HA.out).mono ?_
      rintro e w1 ⟨rfl, hg1⟩
      have F1 := Lib.hid (boxes3 hg1)
      have q1 := (rules_at F1.out.2.1).1
      have z1 := lt_of_at F1.out.2.2.1
      clear hg1
      go_wp2_with fail
      refine (rvalid_ok nb b1 b2 _ HB.out).mono ?_
      rintro e w2 ⟨rfl, hg2⟩
      have F2 := keep hg2 F1
      have z2 := lt_of_at F2.out.2.2.1
      have q2 := (rules_at F2.out.2.2.1).1
      clear hg2 F1 q1
      go_wp2_with fail
      refine (rvalid_no nc c1 c2 _ HC.out).mono ?_
      rintro e w3 ⟨rfl, hg3⟩
      have F3 := keep hg3 F2
      clear hg3 F2 q2
      go_wp2_with fail
      go_ret2
      exact ⟨rfl, F3.out.2.2.2⟩
    · have HB := Lib.hid hb
      clear ha hb h0
      go_enter Try.func30, Try.ntmps30
      go_wp2_with fail
      refine (rvalid_ok na a1 a2 _ HA.out).mono ?_
      rintro e w1 ⟨rfl, hg1⟩
      have F1 := Lib.hid (boxes3 hg1)
      have q1 := (rules_at F1.out.2.1).1
      have z1 := lt_of_at F1.out.2.2.1
      clear hg1
      go_wp2_with fail
      refine (rvalid_no nb b1 b2 _ HB.out).mono ?_
      rintro e w2 ⟨rfl, hg2⟩
      have F2 := keep hg2 F1
      clear hg2 F1 q1
      go_wp2_with fail
      go_ret2
      exact ⟨rfl, F2.out.2.2.2⟩
  · have HA := Lib.hid ha
    clear ha h0
    go_enter Try.func30, Try.ntmps30
    go_wp2_with fail
    refine (rvalid_no na a1 a2 _ HA.out).mono ?_
    rintro e w1 ⟨rfl, hg1⟩
    have F1 := Lib.hid (boxes3 hg1)
    clear hg1
    go_wp2_with fail
    go_ret2
    exact ⟨rfl, F1.out.2.2.2⟩

set_option maxHeartbeats 400000 in
theorem rSquare_ok (nm nm' : Value) (x y u v : Int) (w : World) (h : inP x y) (h' : inP u v) :
    Calls Try.prog 34 #[.agg #[nm, .int .i64 x, .int .i64 y], .agg #[nm', .int .i64 u, .int .i64 v]] w fun e w' => e = .returned (.tuple #[.int .i64 (sqI (x, y) (u, v)), .int .i64 0]) ∧ w.grownBy w' none := by
  have H := Lib.hid h
  have H' := Lib.hid h'
  obtain ⟨b1, b2⟩ := @mul_bd2 (u - x) (u - x) (by unfold inP at *; omega) (by unfold inP at *; omega)
  obtain ⟨b3, b4⟩ := @mul_bd2 (v - y) (v - y) (by unfold inP at *; omega) (by unfold inP at *; omega)
  have hs : Hid (sqI (x, y) (u, v) = (u - x) * (u - x) + (v - y) * (v - y)) := rfl
  have S1 := fun w => rStep_ok nm nm' x y u v w h h'
  generalize u - x = a at *
  generalize v - y = b at *
  have S1' := Lib.hid S1
  clear h h' S1
  go_enter Try.func34, Try.ntmps34
  go_wp2_with fail
  refine (rvalid_ok nm x y _ H.out).mono ?_
  rintro e w1 ⟨rfl, hg1⟩
  have F1 := Lib.hid (boxes hg1)
  have q1 := (rules_at F1.out.2.1).1
  have z1 := lt_of_at F1.out.2.1
  clear hg1
  go_wp2_with fail
  refine (rvalid_ok nm' u v _ H'.out).mono ?_
  rintro e w2 ⟨rfl, hg2⟩
  have F2 := keep hg2 F1
  have q2 := (rules_at F2.out.1).1
  have q3 := (rules_at F2.out.2.1).1
  have z2 := lt_of_at F2.out.2.1
  clear hg2 F1 q1
  go_wp2_with fail
  refine (S1'.out _).mono ?_
  rintro e w3 ⟨rfl, hg3⟩
  have F3 := keep hg3 F2
  clear hg3 F2 q2 q3 S1'
  go_wp2_with fail
  go_ret2
  exact ⟨by rw [hs.out]; rfl, F3.out.2.2⟩
theorem rSquare_no (nm nm' : Value) (x y u v : Int) (w : World) (h : ¬ (inP x y ∧ inP u v)) :
    Calls Try.prog 34 #[.agg #[nm, .int .i64 x, .int .i64 y], .agg #[nm', .int .i64 u, .int .i64 v]] w fun e w' => e = .returned (.tuple #[.int .i64 0, .int .i64 19]) ∧ w.grownBy w' none := by
  have H := Lib.hid h
  clear h
  by_cases h1 : inP x y
  · have A := Lib.hid h1
    have B : Hid (¬ inP u v) := Lib.hid (fun h => H.out ⟨h1, h⟩)
    clear h1 H
    go_enter Try.func34, Try.ntmps34
    go_wp2_with fail
    refine (rvalid_ok nm x y _ A.out).mono ?_
    rintro e w1 ⟨rfl, hg1⟩
    have F1 := Lib.hid (boxes hg1)
    have q1 := (rules_at F1.out.2.1).1
    have z1 := lt_of_at F1.out.2.1
    clear hg1
    go_wp2_with fail
    refine (rvalid_no nm' u v _ B.out).mono ?_
    rintro e w2 ⟨rfl, hg2⟩
    have F2 := keep hg2 F1
    clear hg2 F1 q1
    go_wp2_with fail
    go_ret2
    exact ⟨rfl, F2.out.2.2⟩
  · have A := Lib.hid h1
    clear h1 H
    go_enter Try.func34, Try.ntmps34
    go_wp2_with fail
    refine (rvalid_no nm x y _ A.out).mono ?_
    rintro e w1 ⟨rfl, hg1⟩
    have F1 := Lib.hid (boxes hg1)
    clear hg1
    go_wp2_with fail
    go_ret2
    exact ⟨rfl, F1.out.2.2⟩
end Go.Proofs.Ytggmgnmjloagbaa
