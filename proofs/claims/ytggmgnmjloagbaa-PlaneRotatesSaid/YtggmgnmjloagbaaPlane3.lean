/- The contracts of Square, Mirror, Rotate. -/
import Derived.Test.YtggmgnmjloagbaaPlane2
import Derived.Test.YtggmgnmjloagbaaQTail
import Derived.Deep.RegionWith
namespace Go.Proofs.Ytggmgnmjloagbaa
open Go.RowKit
set_option linter.unusedVariables false

/-- A whole number in range, cut out of a double. -/
theorem conv_rep {b : Nat} {n : Int} (h : Rep b n) (hn : -9223372036854775808 ≤ n ∧ n ≤ 9223372036854775807) (w : World) :
    (convert 57 3 (.float .f64 b)).run Try.prog w = .ok (.int .i64 n) w := by
  refine run_convert_float_int w 57 3 .f64 .i64 b n (by kernel_rfl) Try.underlying3 ?_
  have e : (FloatKind.f64.decode b).toInt .zero = some n := rep_int h
  unfold floatToIntVal
  rw [e]
  simp only
  rw [if_pos]
  simp [IntKind.min, IntKind.max, IntKind.signed, IntKind.bits]
  omega

set_option maxHeartbeats 400000 in
theorem Square_ok (nm nm' : Value) (x y u v : Int) (w : World) (h : inP x y) (h' : inP u v) :
    Calls Try.prog 22 #[.agg #[nm, .int .i64 x, .int .i64 y], .agg #[nm', .int .i64 u, .int .i64 v]] w fun e w' => e = .returned (.tuple #[.int .i64 (sqI (x, y) (u, v)), .int .i64 0]) ∧ w.grownBy w' none := by
  have r1 := (fD_rep ⟨h.1, h.2.1⟩ ⟨h'.1, h'.2.1⟩).2
  have r2 := (fD_rep ⟨h.2.2.1, h.2.2.2⟩ ⟨h'.2.2.1, h'.2.2.2⟩).2
  have hin := Lib.hid h
  have hin' := Lib.hid h'
  have b1 := @mul_bd2 (u - x) (u - x) (by unfold inP at *; omega) (by unfold inP at *; omega)
  have b2 := @mul_bd2 (v - y) (v - y) (by unfold inP at *; omega) (by unfold inP at *; omega)
  obtain ⟨re, im, hmul, hre, him⟩ := cmul_rep r1 r2 r1 (rep_neg r2) (by omega) (by rw [Int.mul_neg]; omega) (by have := @mul_bd2 (u - x) (-(v - y)) (by unfold inP at *; omega) (by unfold inP at *; omega); omega) (by have := @mul_bd2 (v - y) (u - x) (by unfold inP at *; omega) (by unfold inP at *; omega); omega)
  rw [show (u - x) * (u - x) - (v - y) * -(v - y) = sqI (x, y) (u, v) by rw [Int.mul_neg]; show _ = (u - x) * (u - x) + (v - y) * (v - y); omega] at hre
  have hb : -9223372036854775808 ≤ sqI (x, y) (u, v) ∧ sqI (x, y) (u, v) ≤ 9223372036854775807 := by show _ ≤ (u - x) * (u - x) + (v - y) * (v - y) ∧ (u - x) * (u - x) + (v - y) * (v - y) ≤ _; omega
  have hop := fun t w => run_complex_mul (P := Try.prog) w t _ _ _ _ _ _ hmul
  have hcv := conv_rep hre hb
  generalize sqI (x, y) (u, v) = n at *
  clear h h' b1 b2 hmul hre him r1 r2 hb
  go_enter Try.func22, Try.ntmps22
  go_wp2_with fail
  refine (invalid_ok nm x y _ hin.out).mono ?_
  rintro e w1 ⟨rfl, hg1⟩
  have F1 := Lib.hid (boxes hg1)
  have q1 := (rules_at F1.out.2.1).1
  have z1 := hg1.size
  simp only [World.size_alloc] at z1
  clear hg1
  go_wp2_with fail
  refine (invalid_ok nm' u v _ hin'.out).mono ?_
  rintro e w2 ⟨rfl, hg2⟩
  have F2 := keep hg2 F1
  have z2 := hg2.size
  have q1 := (rules_at F2.out.1).1
  have q2 := (rules_at F2.out.2.1).1
  clear hg2 F1
  go_wp2_with fail
  refine (Step_ok nm nm' x y u v _ hin.out hin'.out).mono ?_
  rintro e w3 ⟨rfl, hg3⟩
  have F3 := keep hg3 F2
  clear hg3 F2 q1 q2
  go_wp2_with fail
  refine (conjugate_ok _ _ _).mono ?_
  rintro e w4 ⟨rfl, rfl⟩
  go_wp2
  go_ret2
  exact ⟨rfl, F3.out.2.2⟩

theorem Square_no (nm nm' : Value) (x y u v : Int) (w : World) (h : ¬ (inP x y ∧ inP u v)) :
    Calls Try.prog 22 #[.agg #[nm, .int .i64 x, .int .i64 y], .agg #[nm', .int .i64 u, .int .i64 v]] w fun e w' => e = .returned (.tuple #[.int .i64 0, .int .i64 19]) ∧ w.grownBy w' none := by
  have h' := Lib.hid h
  clear h
  by_cases h1 : inP x y
  · have h2 : ¬ inP u v := fun h => h'.out ⟨h1, h⟩
    have hin := Lib.hid h1
    have hin' := Lib.hid h2
    clear h1 h2 h'
    go_enter Try.func22, Try.ntmps22
    go_wp2_with fail
    refine (invalid_ok nm x y _ hin.out).mono ?_
    rintro e w1 ⟨rfl, hg1⟩
    have F1 := Lib.hid (boxes hg1)
    have q1 := (rules_at F1.out.2.1).1
    have z1 := hg1.size
    simp only [World.size_alloc] at z1
    clear hg1
    go_wp2_with fail
    refine (invalid_no nm' u v _ hin'.out).mono ?_
    rintro e w2 ⟨rfl, hg2⟩
    have F2 := keep hg2 F1
    clear q1 hg2 F1
    go_wp2
    go_ret2
    exact ⟨rfl, F2.out.2.2⟩
  · have hin := Lib.hid h1
    clear h1 h'
    go_enter Try.func22, Try.ntmps22
    go_wp2_with fail
    refine (invalid_no nm x y _ hin.out).mono ?_
    rintro e w1 ⟨rfl, hg1⟩
    have F1 := Lib.hid (boxes hg1)
    clear hg1
    go_wp2
    go_ret2
    exact ⟨rfl, F1.out.2.2⟩

theorem moved_ok (nm : ByteArray) (x y : Int) (a b : Nat) (u v : Int) (w : World) (ha : Rep a u) (hb : Rep b v) (hu : -9223372036854775808 ≤ u ∧ u ≤ 9223372036854775807) (hv : -9223372036854775808 ≤ v ∧ v ≤ 9223372036854775807) :
    Calls Try.prog 31 #[.agg #[.string nm, .int .i64 x, .int .i64 y], .complex .f64 a b] w fun e w' => e = .returned (.tuple #[.agg #[.string nm, .int .i64 u, .int .i64 v], .int .i64 0]) ∧ w.grownBy w' none := by
  have h1 := conv_rep ha hu
  have h2 := conv_rep hb hv
  clear ha hb hu hv
  go_enter Try.func31, Try.ntmps31
  go_wp2
  refine bodyPost_ret (v := .tuple #[.agg #[.string nm, .int .i64 u, .int .i64 v], .int .i64 0]) (by simp [results, Try.results31, go_sem]) rfl ⟨rfl, ?_⟩
  exact grown_alloc _ (grown_alloc _ (grown_refl w none))

theorem set3 {w : World} {b : Nat} {a0 a1 a2 : Value} {T : TypeId} (hb : w.heap[b]? = some (.cells #[a0, a1, a2] T (0, 0))) (x y z : Value) :
    (w.setCell ⟨b, 0, none⟩ x).cell? ⟨b, 0, none⟩ = some x ∧ ((w.setCell ⟨b, 0, none⟩ x).setCell ⟨b, 1, none⟩ y).cell? ⟨b, 1, none⟩ = some y ∧ (((w.setCell ⟨b, 0, none⟩ x).setCell ⟨b, 1, none⟩ y).setCell ⟨b, 2, none⟩ z).cell? ⟨b, 2, none⟩ = some z := by
  have h0 := at_set (j := 0) x hb
  have h1 := at_set (j := 1) y h0
  have h2 := at_set (j := 2) z h1
  exact ⟨by rw [cell_at h0]; rfl, by rw [cell_at h1]; rfl, by rw [cell_at h2]; rfl⟩
theorem grown3 {w0 w : World} {b : Nat} (h : w0.grownBy w none) (hb : w0.heap.size ≤ b) (x y z : Value) : w0.grownBy (((w.setCell ⟨b, 0, none⟩ x).setCell ⟨b, 1, none⟩ y).setCell ⟨b, 2, none⟩ z) none :=
  grown_set z (grown_set y (grown_set x h (.inl hb)) (.inl hb)) (.inl hb)

theorem Mirror_ok (nm : ByteArray) (x y : Int) (w : World) (h : inP x y) :
    Calls Try.prog 36 #[.agg #[.string nm, .int .i64 x, .int .i64 y]] w fun e w' => e = .returned (.tuple #[.agg #[.string nm, .int .i64 x, .int .i64 (-y)], .int .i64 0]) ∧ w.grownBy w' none := by
  have hin := Lib.hid h
  have rx : Hid (Rep (floatOfInt .f64 x) x) := rep_ofInt (by unfold inP at h; omega)
  have ry : Hid (Rep (Op.negFloat .f64 (floatOfInt .f64 y)) (-y)) := rep_neg (rep_ofInt (by unfold inP at h; omega))
  have bx : Hid (-9223372036854775808 ≤ x ∧ x ≤ 9223372036854775807) := by unfold inP at h; exact ⟨by omega, by omega⟩
  have b_y : Hid (-9223372036854775808 ≤ -y ∧ -y ≤ 9223372036854775807) := by unfold inP at h; exact ⟨by omega, by omega⟩
  clear h
  go_enter Try.func36, Try.ntmps36
  go_wp2_with fail
  refine (invalid_ok (.string nm) x y _ hin.out).mono ?_
  rintro e w1 ⟨rfl, hg1⟩
  have F1 := Lib.hid (boxes hg1)
  have q1 := (rules_at F1.out.1).1
  clear hg1
  go_wp2_with fail
  have y1 := after_at F1.out.1
  refine wp_region_after_tail 7 (by kernel_rfl) (by kernel_rfl) (grown_refl _ _) ?_
  simp only [List.take_succ_cons, List.take_zero, List.drop_succ_cons, List.drop_zero]
  repeat (go_big_quiet_step ((first | (go_at_call 28; exact after_call (point_ok _ _ _ _)) | (go_at_call 26; exact after_same (conjugate_ok _ _ _)) | (go_at_call 31; exact after_call (moved_ok nm x y _ _ x (-y) _ rx.out ry.out bx.out b_y.out)))))
  refine wpQuiet_nil ?_
  rintro _ ⟨v, rfl⟩
  have F4 := keep v.grown F1
  have q3 := (rules_at F4.out.2.1).2
  have q4 := (rules_at F4.out.2.1).1
  have z4 := lt_of_at F4.out.2.1
  clear q1 y1 F1
  go_wp2
  obtain ⟨s0, s1, s2⟩ := set3 F4.out.2.1 (.string nm) (.int .i64 x) (.int .i64 (-y))
  refine bodyPost_ret (v := .tuple #[.agg #[.string nm, .int .i64 x, .int .i64 (-y)], .int .i64 0]) (by simp [results, Try.results36, go_sem, s0, s1, s2]) rfl ⟨rfl, ?_⟩
  exact grown3 F4.out.2.2 (by omega) _ _ _

theorem Mirror_no (nm : ByteArray) (x y : Int) (w : World) (h : ¬ inP x y) :
    Calls Try.prog 36 #[.agg #[.string nm, .int .i64 x, .int .i64 y]] w fun e w' => e = .returned (.tuple #[.agg #[.string ⟨#[]⟩, .int .i64 0, .int .i64 0], .int .i64 19]) ∧ w.grownBy w' none := by
  have hin := Lib.hid h
  clear h
  go_enter Try.func36, Try.ntmps36
  go_wp2_with fail
  refine (invalid_no (.string nm) x y _ hin.out).mono ?_
  rintro e w1 ⟨rfl, hg1⟩
  have F1 := Lib.hid (boxes hg1)
  have q3 := (rules_at F1.out.2.1).2
  have q4 := (rules_at F1.out.2.1).1
  have z4 := lt_of_at F1.out.2.1
  clear hg1
  go_wp2
  obtain ⟨s0, s1, s2⟩ := set3 F1.out.2.1 (.string ⟨#[]⟩) (.int .i64 0) (.int .i64 0)
  refine bodyPost_ret (v := .tuple #[.agg #[.string ⟨#[]⟩, .int .i64 0, .int .i64 0], .int .i64 19]) (by simp [results, Try.results36, go_sem, s0, s1, s2]) rfl ⟨rfl, ?_⟩
  exact grown3 F1.out.2.2 (by omega) _ _ _

/-- How often a quarter is turned. -/
def quarters (q : Int) : Nat := ((q.tmod 4 + 4) % 4).toNat
theorem quarters_bd (q : Int) : (-4 < q.tmod 4 ∧ q.tmod 4 < 4) ∧ quarters q < 4 ∧ (quarters q : Int) = (q.tmod 4 + 4) % 4 := by
  have := tmod_bd q 4 (by omega)
  unfold quarters; omega

theorem rep_turn {a b : Nat} {p : Pt} (ha : Rep a p.1) (hb : Rep b p.2) (hp : inB p) : ∃ c d, cMulBits a b 0 4607182418800017408 = some (c, d) ∧ Rep c (rot1 p).1 ∧ Rep d (rot1 p).2 := by
  obtain ⟨c, d, h, h1, h2⟩ := cmul_rep ha hb rep0 rep1 (by omega) (by unfold inB at hp; omega) (by unfold inB at hp; omega) (by omega)
  refine ⟨c, d, h, ?_, ?_⟩
  · rw [show (rot1 p).1 = p.1 * 0 - p.2 * 1 by simp [rot1]]; exact h1
  · rw [show (rot1 p).2 = p.1 * 1 + p.2 * 0 by simp [rot1]]; exact h2

def SpinAt (n : Nat) (p : Pt) (z i : Value) : Prop := ∃ (k : Nat) (a b : Nat), k ≤ n ∧ i = .int .i64 k ∧ z = .complex .f64 a b ∧ Rep a (rotN k p).1 ∧ Rep b (rotN k p).2

set_option maxHeartbeats 800000 in
theorem Rotate_ok (nm : ByteArray) (x y q : Int) (w : World) (h : inP x y) (hq : -9223372036854775808 ≤ q ∧ q ≤ 9223372036854775807) :
    Calls Try.prog 19 #[.agg #[.string nm, .int .i64 x, .int .i64 y], .int .i64 q] w fun e w' => e = .returned (.tuple #[.agg #[.string nm, .int .i64 (rotN (quarters q) (x, y)).1, .int .i64 (rotN (quarters q) (x, y)).2], .int .i64 0]) ∧ w.grownBy w' none := by
  have hin := Lib.hid h
  have hp : inB (x, y) := h
  have hR := Lib.hid (fun k => rotN_in hp k)
  have ra : Hid (Rep (floatOfInt .f64 x) x) := rep_ofInt (by unfold inP at h; omega)
  have rb : Hid (Rep (floatOfInt .f64 y) y) := rep_ofInt (by unfold inP at h; omega)
  obtain ⟨b1, b2, b3⟩ := quarters_bd q
  generalize hn : quarters q = n at *
  generalize hp0 : ((x, y) : Pt) = p at *
  have hpx := Lib.hid (congrArg Prod.fst hp0)
  have hpy := Lib.hid (congrArg Prod.snd hp0)
  have B3 := Lib.hid b3
  obtain ⟨hq1, hq2⟩ := hq
  obtain ⟨b1a, b1b⟩ := b1
  clear h hp hn hp0 b3
  go_enter Try.func19, Try.ntmps19
  go_wp2_with fail
  refine (invalid_ok (.string nm) x y _ hin.out).mono ?_
  rintro e w1 ⟨rfl, hg1⟩
  have F1 := Lib.hid (boxes hg1)
  have q1 := (rules_at F1.out.1).1
  have z1 := hg1.size
  simp only [World.size_alloc] at z1
  clear hg1
  go_wp2_with fail
  refine (point_ok (.string nm) x y _).mono ?_
  rintro e w2 ⟨rfl, hg2⟩
  have F2 := keep hg2 F1
  clear hg2 F1 q1
  go_wp2_with fail
  rw [← B3.out]
  go_loop [6, 16] (fun z i => SpinAt n p z i) (fun _ i => n - (intOf i).toNat)
  case atStart => exact ⟨0, _, _, by omega, rfl, rfl, by rw [show (rotN 0 p).1 = x from hpx.out.symm]; exact ra.out, by rw [show (rotN 0 p).2 = y from hpy.out.symm]; exact rb.out⟩
  case round =>
    obtain ⟨k, a, b, hk, rfl, rfl, rA, rB⟩ := hrel
    by_cases hlt : k < n
    · obtain ⟨c, d, hmul, rc, rd⟩ := rep_turn rA rB (hR.out k)
      have hop := fun t w => run_complex_mul (P := Try.prog) w t _ _ _ _ _ _ hmul
      have RC := Lib.hid rc
      have RD := Lib.hid rd
      clear rA rB rc rd hmul
      go_wp2
      go_round
      case rel => exact ⟨k + 1, c, d, by omega, by go_num, rfl, RC.out, RD.out⟩
      case measure => simp [intOf]; omega
    · obtain rfl : k = n := by omega
      have RA := Lib.hid rA
      have RB := Lib.hid rB
      have hb := hR.out k
      have b1 : Hid (-9223372036854775808 ≤ (rotN k p).1 ∧ (rotN k p).1 ≤ 9223372036854775807) := by unfold inB at hb; exact ⟨by omega, by omega⟩
      have b2 : Hid (-9223372036854775808 ≤ (rotN k p).2 ∧ (rotN k p).2 ≤ 9223372036854775807) := by unfold inB at hb; exact ⟨by omega, by omega⟩
      have q1 := (rules_at F2.out.1).1
      have z4 := lt_of_at F2.out.2.1
      clear rA rB hb hlt
      obtain ⟨u, hu⟩ : ∃ u, u = (rotN k p).1 := ⟨_, rfl⟩
      obtain ⟨v, hv⟩ : ∃ v, v = (rotN k p).2 := ⟨_, rfl⟩
      rw [← hu] at RA b1
      rw [← hv] at RB b2
      have HU := Lib.hid hu
      have HV := Lib.hid hv
      clear hu hv
      go_wp2_with fail
      refine (moved_ok nm x y _ _ u v _ RA.out RB.out b1.out b2.out).mono ?_
      rintro e w3 ⟨rfl, hg3⟩
      have F3 := keep hg3 F2
      have q3 := (rules_at F3.out.2.1).2
      have q4 := (rules_at F3.out.2.1).1
      have z5 := lt_of_at F3.out.2.1
      clear q1 F2 hg3
      go_wp2
      obtain ⟨s0, s1, s2⟩ := set3 F3.out.2.1 (.string nm) (.int .i64 u) (.int .i64 v)
      refine bodyPost_ret (v := .tuple #[.agg #[.string nm, .int .i64 u, .int .i64 v], .int .i64 0]) (by simp [results, Try.results19, go_sem, s0, s1, s2]) rfl ⟨by rw [HU.out, HV.out], ?_⟩
      exact grown3 F3.out.2.2 (by omega) _ _ _

theorem Rotate_no (nm : ByteArray) (x y q : Int) (w : World) (h : ¬ inP x y) :
    Calls Try.prog 19 #[.agg #[.string nm, .int .i64 x, .int .i64 y], .int .i64 q] w fun e w' => e = .returned (.tuple #[.agg #[.string ⟨#[]⟩, .int .i64 0, .int .i64 0], .int .i64 19]) ∧ w.grownBy w' none := by
  have hin := Lib.hid h
  clear h
  go_enter Try.func19, Try.ntmps19
  go_wp2_with fail
  refine (invalid_no (.string nm) x y _ hin.out).mono ?_
  rintro e w1 ⟨rfl, hg1⟩
  have F1 := Lib.hid (boxes hg1)
  have q3 := (rules_at F1.out.2.1).2
  have q4 := (rules_at F1.out.2.1).1
  have z4 := lt_of_at F1.out.2.1
  clear hg1
  go_wp2
  obtain ⟨s0, s1, s2⟩ := set3 F1.out.2.1 (.string ⟨#[]⟩) (.int .i64 0) (.int .i64 0)
  refine bodyPost_ret (v := .tuple #[.agg #[.string ⟨#[]⟩, .int .i64 0, .int .i64 0], .int .i64 19]) (by simp [results, Try.results19, go_sem, s0, s1, s2]) rfl ⟨rfl, ?_⟩
  exact grown3 F1.out.2.2 (by omega) _ _ _
end Go.Proofs.Ytggmgnmjloagbaa
