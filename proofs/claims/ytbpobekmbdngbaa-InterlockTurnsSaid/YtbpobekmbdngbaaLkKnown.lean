/- The contract of known. -/
import Derived.Test.YtbpobekmbdngbaaLkGrant
namespace Go.Proofs.Ytbpobekmbdngbaa
open Go.RowKit
set_option linter.unusedVariables false

def K0 : Lk := ⟨[-1, -1], [[], []]⟩
def K1 : Lk := ⟨[3, -1], [[], []]⟩
def K2 : Lk := ⟨[3, -1], [[2], []]⟩
def K3 : Lk := ⟨[3, -1], [[2, 1], []]⟩
def K4 : Lk := ⟨[-1, -1], [[2, 1], []]⟩
def K5 : Lk := ⟨[2, -1], [[1], []]⟩
theorem kn0 : newV 2 = K0 ∧ newE 2 = 0 := ⟨rfl, rfl⟩
theorem kn1 : ownV K0 3 0 = K1 ∧ ownE K0 3 0 = 0 := ⟨rfl, rfl⟩
theorem kn2 : askV K1 2 0 = K2 ∧ askE K1 2 0 = 0 := ⟨rfl, rfl⟩
theorem kn3 : askV K2 1 0 = K3 ∧ askE K2 1 0 = 0 := ⟨rfl, rfl⟩
theorem kn4 : relV K3 0 = K4 ∧ relE K3 0 = 0 := ⟨rfl, rfl⟩
theorem kn5 : grantV K4 [false, false] = K5 ∧ grantG K4 [false, false] = [(2, 0)] ∧ grantE K4 [false, false].length = 0 := ⟨rfl, rfl, rfl⟩
theorem kn6 : chainV K5 1 = [2] ∧ errR K5 1 = 0 := ⟨rfl, rfl⟩
/-- A lock in a box: of two cells, in block b. -/
def BoxAt (w : World) (b : Nat) (v1 v2 : Value) : Prop := w.heap[b]? = some (.cells #[v1, v2] 26 (0, 0))
theorem box_put {W : World} {b : Nat} {u1 u2 v1 v2 : Value} (h : W.heap[b]? = some (.cells #[u1, u2] 26 (0, 0))) :
    ((W.setCell ⟨b, 0, none⟩ v1).setCell ⟨b, 1, none⟩ v2).heap[b]? = some (.cells #[v1, v2] 26 (0, 0)) ∧ W.grownBy ((W.setCell ⟨b, 0, none⟩ v1).setCell ⟨b, 1, none⟩ v2) (some b) :=
  ⟨two_set h, grown_set _ (grown_set _ (grown_refl W _) (.inr rfl)) (.inr rfl)⟩

set_option maxRecDepth 100000 in
set_option maxHeartbeats 12800000 in
theorem known_any (w : World) : Calls Try.prog 6 #[] w fun e w' => e = .returned (.bool true) ∧ w.grownBy w' none := by
  go_enter Try.func6, Try.ntmps6
  go_wp2_with fail
  refine (New_any 2 _).mono ?_
  rintro e w1 ⟨v, rfl, hL, hg⟩
  rw [kn0.1] at hL
  rw [kn0.2]
  obtain ⟨a1, n1, c1, a2, n2, c2, rfl, hL0⟩ := hL none (by simp)
  have L0 := Lib.hid (LkR.kept hL0 (grown_alloc (.cells #[.slice a1 n1 c1, .slice a2 n2 c2] 26) (grown_refl w1 none)))
  have B0 := Lib.hid (at_new w1 (.cells #[.slice a1 n1 c1, .slice a2 n2 c2] 26))
  have G0 := Lib.hid (grown_alloc (.cells #[.slice a1 n1 c1, .slice a2 n2 c2] 26) hg)
  obtain ⟨B, hB⟩ : ∃ B, w1.heap.size = B := ⟨_, rfl⟩
  obtain ⟨X0, hX⟩ : ∃ X, X = w1.alloc (.cells #[.slice a1 n1 c1, .slice a2 n2 c2] 26) := ⟨_, rfl⟩
  have hwB : w.heap.size ≤ B := by rw [← hB]; exact hg.size
  rw [hB] at B0
  clear hL hL0 hg
  go_upto_region 2 with fail
  rw [← hX]
  rw [← hX] at L0 B0 G0
  clear hX hB
  have p1 := (rules_at B0.out).1
  have p2 := (rules_at B0.out).2
  have p3 := lt_of_at B0.out
  go_wp2_with fail
  refine (Own_any _ K0 (3) (0) _ ⟨_, _, _, _, _, _, rfl, L0.out⟩).mono ?_
  rintro e y1 ⟨v1, rfl, hL, hg⟩
  rw [kn1.1] at hL
  rw [kn1.2]
  obtain ⟨a1_1, n1_1, c1_1, a2_1, n2_1, c2_1, rfl, hL0⟩ := hL (some B) (fun b hb => by obtain rfl := Option.some.inj hb; exact p3)
  have BY := grown_at hg B0.out (by simp)
  have q1 := (rules_at BY).1
  have q2 := (rules_at BY).2
  have q3 := lt_of_at BY
  obtain ⟨hb, hgs⟩ := box_put (v1 := .slice a1_1 n1_1 c1_1) (v2 := .slice a2_1 n2_1 c2_1) BY
  have B1 := Lib.hid hb
  have L1 := Lib.hid (LkR.plain (LkR.kept hL0 hgs))
  have G1 := Lib.hid (grown_own (grown_trans G0.out hg) hgs (fun b hb => by obtain rfl := Option.some.inj hb; exact hwB))
  clear hL hL0 hg hb hgs BY p1 p2 p3 L0 B0 G0
  go_upto_region 3 with fail
  obtain ⟨X1, hX⟩ : ∃ X, X = (y1.setCell ⟨B, 0, none⟩ (.slice a1_1 n1_1 c1_1)).setCell ⟨B, 1, none⟩ (.slice a2_1 n2_1 c2_1) := ⟨_, rfl⟩
  rw [← hX] at L1 B1 G1 ⊢
  clear hX q1 q2 q3
  have p1 := (rules_at B1.out).1
  have p2 := (rules_at B1.out).2
  have p3 := lt_of_at B1.out
  go_wp2_with fail
  refine (Ask_any _ K1 (2) (0) _ ⟨_, _, _, _, _, _, rfl, L1.out⟩).mono ?_
  rintro e y2 ⟨v2, rfl, hL, hg⟩
  rw [kn2.1] at hL
  rw [kn2.2]
  obtain ⟨a1_2, n1_2, c1_2, a2_2, n2_2, c2_2, rfl, hL0⟩ := hL (some B) (fun b hb => by obtain rfl := Option.some.inj hb; exact p3)
  have BY := grown_at hg B1.out (by simp)
  have q1 := (rules_at BY).1
  have q2 := (rules_at BY).2
  have q3 := lt_of_at BY
  obtain ⟨hb, hgs⟩ := box_put (v1 := .slice a1_2 n1_2 c1_2) (v2 := .slice a2_2 n2_2 c2_2) BY
  have B2 := Lib.hid hb
  have L2 := Lib.hid (LkR.plain (LkR.kept hL0 hgs))
  have G2 := Lib.hid (grown_own (grown_trans G1.out hg) hgs (fun b hb => by obtain rfl := Option.some.inj hb; exact hwB))
  clear hL hL0 hg hb hgs BY p1 p2 p3 L1 B1 G1
  go_upto_region 4 with fail
  obtain ⟨X2, hX⟩ : ∃ X, X = (y2.setCell ⟨B, 0, none⟩ (.slice a1_2 n1_2 c1_2)).setCell ⟨B, 1, none⟩ (.slice a2_2 n2_2 c2_2) := ⟨_, rfl⟩
  rw [← hX] at L2 B2 G2 ⊢
  clear hX q1 q2 q3
  have p1 := (rules_at B2.out).1
  have p2 := (rules_at B2.out).2
  have p3 := lt_of_at B2.out
  go_wp2_with fail
  refine (Ask_any _ K2 (1) (0) _ ⟨_, _, _, _, _, _, rfl, L2.out⟩).mono ?_
  rintro e y3 ⟨v3, rfl, hL, hg⟩
  rw [kn3.1] at hL
  rw [kn3.2]
  obtain ⟨a1_3, n1_3, c1_3, a2_3, n2_3, c2_3, rfl, hL0⟩ := hL (some B) (fun b hb => by obtain rfl := Option.some.inj hb; exact p3)
  have BY := grown_at hg B2.out (by simp)
  have q1 := (rules_at BY).1
  have q2 := (rules_at BY).2
  have q3 := lt_of_at BY
  obtain ⟨hb, hgs⟩ := box_put (v1 := .slice a1_3 n1_3 c1_3) (v2 := .slice a2_3 n2_3 c2_3) BY
  have B3 := Lib.hid hb
  have L3 := Lib.hid (LkR.plain (LkR.kept hL0 hgs))
  have G3 := Lib.hid (grown_own (grown_trans G2.out hg) hgs (fun b hb => by obtain rfl := Option.some.inj hb; exact hwB))
  clear hL hL0 hg hb hgs BY p1 p2 p3 L2 B2 G2
  go_upto_region 5 with fail
  obtain ⟨X3, hX⟩ : ∃ X, X = (y3.setCell ⟨B, 0, none⟩ (.slice a1_3 n1_3 c1_3)).setCell ⟨B, 1, none⟩ (.slice a2_3 n2_3 c2_3) := ⟨_, rfl⟩
  rw [← hX] at L3 B3 G3 ⊢
  clear hX q1 q2 q3
  have p1 := (rules_at B3.out).1
  have p2 := (rules_at B3.out).2
  have p3 := lt_of_at B3.out
  go_wp2_with fail
  refine (Release_any _ K3 (0) _ ⟨_, _, _, _, _, _, rfl, L3.out⟩).mono ?_
  rintro e y4 ⟨v4, rfl, hL, hg⟩
  rw [kn4.1] at hL
  rw [kn4.2]
  obtain ⟨a1_4, n1_4, c1_4, a2_4, n2_4, c2_4, rfl, hL0⟩ := hL (some B) (fun b hb => by obtain rfl := Option.some.inj hb; exact p3)
  have BY := grown_at hg B3.out (by simp)
  have q1 := (rules_at BY).1
  have q2 := (rules_at BY).2
  have q3 := lt_of_at BY
  obtain ⟨hb, hgs⟩ := box_put (v1 := .slice a1_4 n1_4 c1_4) (v2 := .slice a2_4 n2_4 c2_4) BY
  have B4 := Lib.hid hb
  have L4 := Lib.hid (LkR.plain (LkR.kept hL0 hgs))
  have G4 := Lib.hid (grown_own (grown_trans G3.out hg) hgs (fun b hb => by obtain rfl := Option.some.inj hb; exact hwB))
  clear hL hL0 hg hb hgs BY p1 p2 p3 L3 B3 G3
  go_upto_region 6 with fail
  obtain ⟨X4, hX⟩ : ∃ X, X = (y4.setCell ⟨B, 0, none⟩ (.slice a1_4 n1_4 c1_4)).setCell ⟨B, 1, none⟩ (.slice a2_4 n2_4 c2_4) := ⟨_, rfl⟩
  rw [← hX] at L4 B4 G4 ⊢
  clear hX q1 q2 q3
  have p1 := (rules_at B4.out).1
  have p2 := (rules_at B4.out).2
  have p3 := lt_of_at B4.out
  have L4A := Lib.hid (LkR.kept L4.out (grown_alloc (.cells #[.bool false, .bool false] 4) (grown_refl X4 none)))
  have CL : Hid (RowIn (X4.alloc (.cells #[.bool false, .bool false] 4)) (some ⟨X4.heap.size, 0, none⟩) 2 1 (bools [false, false])) := Lib.hid (rowIn_block (n := 2) (size := 1) (at_new _ _) rfl (by unfold maxLen; omega))
  go_wp2_with fail
  refine (Grant_any _ K4 _ 2 _ [false, false] _ ⟨_, _, _, _, _, _, rfl, L4A.out⟩ CL.out).mono ?_
  rw [kn5.1, kn5.2.1, kn5.2.2]
  rintro e y5 ⟨v5, A, cc, rfl, hle, hR, hRb, hL, hg⟩
  obtain ⟨a1_5, n1_5, c1_5, a2_5, n2_5, c2_5, rfl, hL0⟩ := hL (some B) (fun b hb => by obtain rfl := Option.some.inj hb; simp; omega)
  have BY := grown_at hg (at_alloc (.cells #[.bool false, .bool false] 4) B4.out) (by simp)
  have q1 := (rules_at BY).1
  have q2 := (rules_at BY).2
  have q3 := lt_of_at BY
  obtain ⟨hb, hgs⟩ := box_put (v1 := .slice a1_5 n1_5 c1_5) (v2 := .slice a2_5 n2_5 c2_5) BY
  have B5 := Lib.hid hb
  have L5 := Lib.hid (LkR.plain (LkR.kept hL0 hgs))
  have G5 := Lib.hid (grown_own (grown_trans (grown_alloc (.cells #[.bool false, .bool false] 4) G4.out) hg) hgs (fun b hb => by obtain rfl := Option.some.inj hb; exact hwB))
  have R5 := Lib.hid (hR.kept_but hgs (fun x hx e => by have := hRb x hx; rw [World.size_alloc] at this; have := Option.some.inj e; omega))
  clear hL hL0 hg hb hgs BY p1 p2 p3 L4 L4A B4 G4 hR hRb CL
  go_upto_region 7 with fail
  obtain ⟨X5, hX⟩ : ∃ X, X = (y5.setCell ⟨B, 0, none⟩ (.slice a1_5 n1_5 c1_5)).setCell ⟨B, 1, none⟩ (.slice a2_5 n2_5 c2_5) := ⟨_, rfl⟩
  rw [← hX] at L5 B5 G5 R5 ⊢
  clear hX q1 q2 q3
  have p1 := (rules_at B5.out).1
  have p3 := lt_of_at B5.out
  go_wp2_with fail
  refine (Chain_any _ K5 1 _ ⟨_, _, _, _, _, _, rfl, L5.out⟩).mono ?_
  rw [kn6.1, kn6.2]
  rintro e y6 ⟨v6, rfl, hO, hg⟩
  have R6 := R5.out.kept hg
  have G6 := Lib.hid (grown_trans G5.out hg)
  obtain ⟨A6, k6, rfl, -, -, -, hO6⟩ := sliceIn_owns hO
  have O6 := Lib.hid (RowIn.kept hO6 (grown_alloc (.cells #[.int .i64 2] 3) (grown_refl y6 none)))
  obtain ⟨b, off, rfl, zb, x1, x2⟩ := grs_cell R6 (k := 0) rfl
  simp only [Nat.zero_mul, Nat.add_zero] at x1 x2
  clear hO hO6 hg p1 p3 R5 R6 L5 B5 G5
  go_wp2_with (go_at_call 19; refine (SameInts_any _ _ _ _ _ _ [2] [2] _ O6.out (cell_one _ _ rfl)).mono ?_; rintro e y7 ⟨rfl, hg7⟩)
  go_ret
  exact ⟨ret_bool (by decide), grown_trans (grown_alloc (.cells #[.int .i64 2] 3) G6.out) hg7⟩
end Go.Proofs.Ytbpobekmbdngbaa
