/- The contract of same: what the program and the chapter say of three blocks. -/
import Derived.Test.YtggmgnmjloagbaaPlRef2
import Derived.Test.YtggmgnmjloagbaaPlMade
namespace Go.Proofs.Ytggmgnmjloagbaa
open Go.RowKit
set_option linter.unusedVariables false

abbrev bkVal (nm : ByteArray) (x y : Int) : Value := .agg #[.string nm, .int .i64 x, .int .i64 y]
abbrev Gives (f : FuncId) (args : Array Value) (r : Value) : Prop := ∀ w, Calls Try.prog f args w fun e w' => e = .returned r ∧ w.grownBy w' none

theorem ord_self {b : Nat} {n : Int} (h : Rep b n) (hn : n.natAbs < 9007199254740992) : FloatKind.f64.format.order b (floatOfInt .f64 n) = some .eq := by
  rw [show FloatKind.f64.format.order b (floatOfInt .f64 n) = some (compare n n) from rep_order h (rep_ofInt hn)]
  simp [compare, compareOfLessAndEq]

/-- At, Step of the program and of the chapter. -/
theorem at_facts (nm : ByteArray) (x y : Int) : ∃ X Y fx fy, Gives 23 #[bkVal nm x y] (.complex .f64 fx fy) ∧ Gives 32 #[bkVal nm x y] (.tuple #[.int .i64 X, .int .i64 Y]) ∧
    FloatKind.f64.format.order fx (floatOfInt .f64 X) = some .eq ∧ FloatKind.f64.format.order fy (floatOfInt .f64 Y) = some .eq := by
  by_cases h : inP x y
  · refine ⟨x, y, _, _, fun w => At_ok _ x y w h, fun w => rAt_ok _ x y w h, ?_, ?_⟩
    · exact ord_self (rep_ofInt (by unfold inP at h; omega)) (by unfold inP at h; omega)
    · exact ord_self (rep_ofInt (by unfold inP at h; omega)) (by unfold inP at h; omega)
  · exact ⟨0, 0, _, _, fun w => At_no _ x y w h, fun w => rAt_no _ x y w h, ord_self rep0 (by omega), ord_self rep0 (by omega)⟩
theorem step_facts (nm nm' : ByteArray) (x y u v : Int) : ∃ X Y fx fy, Gives 18 #[bkVal nm x y, bkVal nm' u v] (.complex .f64 fx fy) ∧ Gives 33 #[bkVal nm x y, bkVal nm' u v] (.tuple #[.int .i64 X, .int .i64 Y]) ∧
    FloatKind.f64.format.order fx (floatOfInt .f64 X) = some .eq ∧ FloatKind.f64.format.order fy (floatOfInt .f64 Y) = some .eq := by
  by_cases h : inP x y ∧ inP u v
  · obtain ⟨h1, h2⟩ := h
    refine ⟨u - x, v - y, _, _, fun w => Step_ok _ _ x y u v w h1 h2, fun w => rStep_ok _ _ x y u v w h1 h2, ?_, ?_⟩
    · exact ord_self (fD_rep ⟨h1.1, h1.2.1⟩ ⟨h2.1, h2.2.1⟩).2 (by unfold inP at *; omega)
    · exact ord_self (fD_rep ⟨h1.2.2.1, h1.2.2.2⟩ ⟨h2.2.2.1, h2.2.2.2⟩).2 (by unfold inP at *; omega)
  · exact ⟨0, 0, _, _, fun w => Step_no _ _ x y u v w h, fun w => rStep_no _ _ x y u v w h, ord_self rep0 (by omega), ord_self rep0 (by omega)⟩
theorem turn_facts (na nb nc : ByteArray) (a1 a2 b1 b2 c1 c2 : Int) : ∃ t e, Gives 11 #[bkVal na a1 a2, bkVal nb b1 b2, bkVal nc c1 c2] (.tuple #[.int .i64 t, .int .i64 e]) ∧ Gives 30 #[bkVal na a1 a2, bkVal nb b1 b2, bkVal nc c1 c2] (.tuple #[.int .i64 t, .int .i64 e]) := by
  by_cases h : inP a1 a2 ∧ inP b1 b2 ∧ inP c1 c2
  · obtain ⟨h1, h2, h3⟩ := h
    exact ⟨_, _, fun w => Turn_ok _ _ _ a1 a2 b1 b2 c1 c2 w h1 h2 h3, fun w => rTurn_ok _ _ _ a1 a2 b1 b2 c1 c2 w h1 h2 h3⟩
  · exact ⟨_, _, fun w => Turn_no _ _ _ a1 a2 b1 b2 c1 c2 w h, fun w => rTurn_no _ _ _ a1 a2 b1 b2 c1 c2 w h⟩
theorem square_facts (nm nm' : ByteArray) (x y u v : Int) : ∃ t e, Gives 22 #[bkVal nm x y, bkVal nm' u v] (.tuple #[.int .i64 t, .int .i64 e]) ∧ Gives 34 #[bkVal nm x y, bkVal nm' u v] (.tuple #[.int .i64 t, .int .i64 e]) := by
  by_cases h : inP x y ∧ inP u v
  · obtain ⟨h1, h2⟩ := h
    exact ⟨_, _, fun w => Square_ok _ _ x y u v w h1 h2, fun w => rSquare_ok _ _ x y u v w h1 h2⟩
  · exact ⟨_, _, fun w => Square_no _ _ x y u v w h, fun w => rSquare_no _ _ x y u v w h⟩
theorem rotate_facts (nm : ByteArray) (x y q : Int) (hq : -9223372036854775808 ≤ q ∧ q ≤ 9223372036854775807) : ∃ s u v e, Gives 19 #[bkVal nm x y, .int .i64 q] (.tuple #[bkVal s u v, .int .i64 e]) ∧ Gives 35 #[bkVal nm x y, .int .i64 q] (.tuple #[bkVal s u v, .int .i64 e]) := by
  by_cases h : inP x y
  · exact ⟨_, _, _, _, fun w => Rotate_ok _ x y q w h hq, fun w => rRotate_ok _ x y q w h hq⟩
  · exact ⟨_, _, _, _, fun w => Rotate_no _ x y q w h, fun w => rRotate_no _ x y q w h⟩
theorem mirror_facts (nm : ByteArray) (x y : Int) : ∃ s u v e, Gives 36 #[bkVal nm x y] (.tuple #[bkVal s u v, .int .i64 e]) ∧ Gives 37 #[bkVal nm x y] (.tuple #[bkVal s u v, .int .i64 e]) := by
  by_cases h : inP x y
  · exact ⟨_, _, _, _, fun w => Mirror_ok _ x y w h, fun w => rMirror_ok _ x y w h⟩
  · exact ⟨_, _, _, _, fun w => Mirror_no _ x y w h, fun w => rMirror_no _ x y w h⟩

theorem next_box {w W : World} {o : Obj} (hg : (w.alloc o).grownBy W none) {A B : Prop} (h : Hid A) [s : Stay none w W A B] : Hid (B ∧ W.heap[w.heap.size]? = some o) :=
  Lib.hid ⟨s.go (grown_trans (grown_alloc o (grown_refl w none)) hg) h.out, grown_at hg (at_new w o) (by simp)⟩
theorem bk_eq_self (s : ByteArray) (x y : Int) (W : World) :
    (binOp .eql 30 (.agg #[.string s, .int .i64 x, .int .i64 y]) (.agg #[.string s, .int .i64 x, .int .i64 y])).run Try.prog W = .ok (.bool true) W := by
  simp [binOp, Op.equal, Op.maxDepth, go_sem]

set_option maxRecDepth 100000 in
set_option maxHeartbeats 4000000 in
theorem same_any (na nb nc : ByteArray) (a1 a2 b1 b2 c1 c2 q : Int) (w : World) (hq : -9223372036854775808 ≤ q ∧ q ≤ 9223372036854775807) :
    Calls Try.prog 20 #[.agg #[.string na, .int .i64 a1, .int .i64 a2], .agg #[.string nb, .int .i64 b1, .int .i64 b2], .agg #[.string nc, .int .i64 c1, .int .i64 c2], .int .i64 q] w fun e w' => e = .returned (.bool true) ∧ w.grownBy w' none := by
  obtain ⟨X, Y, fx, fy, A1, A2, o1, o2⟩ := at_facts na a1 a2
  obtain ⟨U, V, fu, fv, B1, B2, o3, o4⟩ := step_facts na nb a1 a2 b1 b2
  obtain ⟨t, te, C1, C2⟩ := turn_facts na nb nc a1 a2 b1 b2 c1 c2
  obtain ⟨s, se, D1, D2⟩ := square_facts na nb a1 a2 b1 b2
  obtain ⟨rn, rx, ry, re, E1, E2⟩ := rotate_facts na a1 a2 q hq
  obtain ⟨mn, mx, my, me, F1, F2⟩ := mirror_facts na a1 a2
  unfold Gives at A1 A2 B1 B2 C1 C2 D1 D2 E1 E2 F1 F2
  simp only [bkVal] at A1 A2 B1 B2 C1 C2 D1 D2 E1 E2 F1 F2
  have A1' := Lib.hid A1
  have A2' := Lib.hid A2
  have B1' := Lib.hid B1
  have B2' := Lib.hid B2
  have C1' := Lib.hid C1
  have C2' := Lib.hid C2
  have D1' := Lib.hid D1
  have D2' := Lib.hid D2
  have E1' := Lib.hid E1
  have E2' := Lib.hid E2
  have F1' := Lib.hid F1
  have F2' := Lib.hid F2
  clear A1 A2 B1 B2 C1 C2 D1 D2 E1 E2 F1 F2
  go_enter Try.func20, Try.ntmps20
  go_wp2_with fail
  refine (A2'.out _).mono ?_
  rintro e w1 ⟨rfl, hg1⟩
  have K1 := Lib.hid (boxes3 hg1)
  clear hg1
  have p1 := (rules_at K1.out.1).1
  have p2 := (rules_at K1.out.2.1).1
  have p3 := (rules_at K1.out.2.2.1).1
  have z1 := lt_of_at K1.out.2.2.1
  go_wp2_with fail
  refine (B2'.out _).mono ?_
  rintro e w2 ⟨rfl, hg2⟩
  have K2 := keep hg2 K1
  clear hg2 K1 p1 p2 p3
  have p1 := (rules_at K2.out.1).1
  have p2 := (rules_at K2.out.2.1).1
  have p3 := (rules_at K2.out.2.2.1).1
  have z2 := lt_of_at K2.out.2.2.1
  go_wp2_with fail
  refine (C1'.out _).mono ?_
  rintro e w3 ⟨rfl, hg3⟩
  have K3 := keep hg3 K2
  clear hg3 K2 p1 p2 p3
  have p1 := (rules_at K3.out.1).1
  have p2 := (rules_at K3.out.2.1).1
  have p3 := (rules_at K3.out.2.2.1).1
  have z3 := lt_of_at K3.out.2.2.1
  go_wp2_with fail
  refine (C2'.out _).mono ?_
  rintro e w4 ⟨rfl, hg4⟩
  have K4 := keep hg4 K3
  clear hg4 K3 p1 p2 p3
  have p1 := (rules_at K4.out.1).1
  have p2 := (rules_at K4.out.2.1).1
  have p3 := (rules_at K4.out.2.2.1).1
  have z4 := lt_of_at K4.out.2.2.1
  go_wp2_with fail
  refine (D1'.out _).mono ?_
  rintro e w5 ⟨rfl, hg5⟩
  have K5 := keep hg5 K4
  clear hg5 K4 p1 p2 p3
  have p1 := (rules_at K5.out.1).1
  have p2 := (rules_at K5.out.2.1).1
  have p3 := (rules_at K5.out.2.2.1).1
  have z5 := lt_of_at K5.out.2.2.1
  go_wp2_with fail
  refine (D2'.out _).mono ?_
  rintro e w6 ⟨rfl, hg6⟩
  have K6 := keep hg6 K5
  clear hg6 K5 p1 p2 p3
  have p1 := (rules_at K6.out.1).1
  have p2 := (rules_at K6.out.2.1).1
  have p3 := (rules_at K6.out.2.2.1).1
  have z6 := lt_of_at K6.out.2.2.1
  go_wp2_with fail
  refine (A1'.out _).mono ?_
  rintro e w7 ⟨rfl, hg7⟩
  have K7 := keep hg7 K6
  clear hg7 K6 p1 p2 p3
  have p1 := (rules_at K7.out.1).1
  have p2 := (rules_at K7.out.2.1).1
  have p3 := (rules_at K7.out.2.2.1).1
  have z7 := lt_of_at K7.out.2.2.1
  go_wp2_with fail
  refine (B1'.out _).mono ?_
  rintro e w8 ⟨rfl, hg8⟩
  have K8 := keep hg8 K7
  clear hg8 K7 p1 p2 p3
  have p1 := (rules_at K8.out.1).1
  have p2 := (rules_at K8.out.2.1).1
  have p3 := (rules_at K8.out.2.2.1).1
  have z8 := lt_of_at K8.out.2.2.1
  go_wp2_with fail
  refine (E1'.out _).mono ?_
  rintro e w9 ⟨rfl, hg9⟩
  have K9 := keep hg9 K8
  clear hg9 K8 p1 p2 p3
  have p1 := (rules_at K9.out.1).1
  have z9 := lt_of_at K9.out.1
  go_wp2_with fail
  refine (E2'.out _).mono ?_
  rintro e w10 ⟨rfl, hg10⟩
  have K10 := next_box hg10 K9
  clear hg10 K9 p1
  have p1 := (rules_at K10.out.1.1).1
  have z10 := lt_of_at K10.out.1.1
  go_wp2_with fail
  refine (F1'.out _).mono ?_
  rintro e w11 ⟨rfl, hg11⟩
  have K11 := next_box hg11 K10
  clear hg11 K10 p1
  have p1 := (rules_at K11.out.1.1.1).1
  have z11 := lt_of_at K11.out.1.1.1
  go_wp2_with fail
  refine (F2'.out _).mono ?_
  rintro e w12 ⟨rfl, hg12⟩
  have K12 := next_box hg12 K11
  clear hg12 K11 p1
  have p1 := (rules_at K12.out.2).1
  have p2 := (rules_at K12.out.1.2).1
  have p3 := (rules_at K12.out.1.1.2).1
  have z12 := lt_of_at K12.out.2
  have z13 := lt_of_at K12.out.1.2
  have z14 := lt_of_at K12.out.1.1.2
  have e1 := bk_eq_self rn rx ry
  have e2 := bk_eq_self mn mx my
  go_wp2_with fail
  go_ret
  exact ⟨rfl, grown_alloc _ K12.out.1.1.1.2.2.2⟩
end Go.Proofs.Ytggmgnmjloagbaa
