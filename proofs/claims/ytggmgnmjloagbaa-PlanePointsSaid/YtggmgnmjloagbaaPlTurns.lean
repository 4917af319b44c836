/- The walk of PlaneTurns. -/
import Derived.Test.YtggmgnmjloagbaaPlMade
namespace Go.Proofs.Ytggmgnmjloagbaa
open Go.RowKit
set_option linter.unusedVariables false

theorem turns_cases {x0 y0 x1 y1 x2 y2 : Int} :
    ∃ ta tb, turnP (x0, y0) (x1, y1) (x2, y2) = ta ∧ turnP (x2, y2) (x1, y1) (x0, y0) = tb ∧
      ((ta = 0 ∧ tb = 0 ∧ ((x0 = x1 ∧ y0 = y1) ∨ (x1 = x2 ∧ y1 = y2))) ∨
        (((ta = 1 ∧ tb = 2) ∨ (ta = 2 ∧ tb = 1) ∨ (ta = 3 ∧ tb = 3) ∨ (ta = 4 ∧ tb = 4)) ∧ ¬ (x0 = x1 ∧ y0 = y1) ∧ ¬ (x1 = x2 ∧ y1 = y2))) := by
  refine ⟨_, _, rfl, rfl, ?_⟩
  rw [turn_back (a := (x0, y0))]
  have h0 : turnP (x0, y0) (x1, y1) (x2, y2) = 0 ↔ _ := turn_none
  have hi := turn_in (x0, y0) (x1, y1) (x2, y2)
  generalize turnP (x0, y0) (x1, y1) (x2, y2) = t at *
  simp only at h0
  by_cases h : t = 0
  · subst h
    refine .inl ⟨rfl, rfl, ?_⟩
    have := h0.1 rfl
    omega
  · refine .inr ⟨?_, ?_, ?_⟩
    · have : t = 1 ∨ t = 2 ∨ t = 3 ∨ t = 4 := by omega
      rcases this with rfl | rfl | rfl | rfl <;> simp
    · intro hh; exact h (h0.2 (by omega))
    · intro hh; exact h (h0.2 (by omega))

theorem three {α : Type} {l : List α} (h : l.length = 3) : ∃ a b c, l = [a, b, c] := by
  match l, h with
  | [a, b, c], _ => exact ⟨a, b, c, rfl⟩

/-- The nine cells of three blocks, in every later world. -/
theorem nine {W : World} {g cap : Nat} {e : TypeId} {s0 x0 y0 s1 x1 y1 s2 x2 y2 : Value} (h : OwnR W g cap 3 e 3 [s0, x0, y0, s1, x1, y1, s2, x2, y2]) :
    (∀ v : After W, v.w.cell? ⟨g, 0, none⟩ = some s0) ∧ (∀ v : After W, v.w.cell? ⟨g, 1, none⟩ = some x0) ∧ (∀ v : After W, v.w.cell? ⟨g, 2, none⟩ = some y0) ∧
    (∀ v : After W, v.w.cell? ⟨g, 3, none⟩ = some s1) ∧ (∀ v : After W, v.w.cell? ⟨g, 4, none⟩ = some x1) ∧ (∀ v : After W, v.w.cell? ⟨g, 5, none⟩ = some y1) ∧
    (∀ v : After W, v.w.cell? ⟨g, 6, none⟩ = some s2) ∧ (∀ v : After W, v.w.cell? ⟨g, 7, none⟩ = some x2) ∧ (∀ v : After W, v.w.cell? ⟨g, 8, none⟩ = some y2) := by
  have key : ∀ (v : After W) j x, [s0, x0, y0, s1, x1, y1, s2, x2, y2][j]? = some x → v.w.cell? ⟨g, j, none⟩ = some x := fun v j x hx => (h.kept v.grown (by simp)).cell hx
  exact ⟨fun v => key v 0 _ rfl, fun v => key v 1 _ rfl, fun v => key v 2 _ rfl, fun v => key v 3 _ rfl, fun v => key v 4 _ rfl, fun v => key v 5 _ rfl, fun v => key v 6 _ rfl, fun v => key v 7 _ rfl, fun v => key v 8 _ rfl⟩
theorem nine' {W : World} {g cap : Nat} {e : TypeId} {s0 x0 y0 s1 x1 y1 s2 x2 y2 : Value} (h : OwnR W g cap 3 e 3 [s0, x0, y0, s1, x1, y1, s2, x2, y2]) :
    W.cell? ⟨g, 1, none⟩ = some x0 ∧ W.cell? ⟨g, 2, none⟩ = some y0 ∧ W.cell? ⟨g, 4, none⟩ = some x1 ∧ W.cell? ⟨g, 5, none⟩ = some y1 ∧ W.cell? ⟨g, 7, none⟩ = some x2 ∧ W.cell? ⟨g, 8, none⟩ = some y2 :=
  ⟨h.cell rfl, h.cell rfl, h.cell rfl, h.cell rfl, h.cell rfl, h.cell rfl⟩

set_option maxHeartbeats 4000000 in
theorem PlaneTurns_walk (a0 : Option Addr) (len0 cap0 : Nat) (z0 : List Int) (w : World) (w0 : IsRow .i64 w a0 len0 cap0 z0) :
    Calls Try.prog 3 #[.slice a0 len0 cap0] w fun e w' => e = .returned (.bool true) ∧ Below w.heap.size w w' := by
  have r0 := Lib.hid w0
  clear w0
  go_enter Try.func3, Try.ntmps3
  go_wp2_with fail
  refine (known_any _).mono ?_
  rintro e w1 ⟨rfl, hg1⟩
  have G1 := Lib.hid hg1
  clear hg1
  go_wp2_with fail
  refine (blocks_any a0 len0 cap0 z0 3 _ (isRow_kept r0.out G1.out) (by omega)).mono ?_
  rintro e w2 ⟨v, l, rfl, hl, hmade, hown, hg2⟩
  obtain ⟨b0, b1, b2, rfl⟩ := three hl
  obtain ⟨s0, x0, y0⟩ := b0
  obtain ⟨s1, x1, y1⟩ := b1
  obtain ⟨s2, x2, y2⟩ := b2
  obtain ⟨rfl, i0⟩ := hmade ⟨s0, x0, y0⟩ (by simp)
  obtain ⟨rfl, i1⟩ := hmade ⟨s1, x1, y1⟩ (by simp)
  obtain ⟨rfl, i2⟩ := hmade ⟨s2, x2, y2⟩ (by simp)
  obtain ⟨g, cap, rfl, hgb, hO⟩ := ownR_of_owns hown (by omega)
  simp only [List.flatMap_cons, List.flatMap_nil, Bk.cells, List.cons_append, List.nil_append, List.append_nil] at hO
  obtain ⟨hcap, hcap2⟩ := hO.capLe
  have F2 : Hid (OwnR w2 g cap 3 30 3 [.string ⟨#[]⟩, .int .i64 x0, .int .i64 y0, .string ⟨#[]⟩, .int .i64 x1, .int .i64 y1, .string ⟨#[]⟩, .int .i64 x2, .int .i64 y2] ∧ w.grownBy w2 none) := ⟨hO, grown_trans G1.out hg2⟩
  obtain ⟨ta, tb, hta, htb, hcases⟩ := @turns_cases x0 y0 x1 y1 x2 y2
  have CA := fun na nb nc w => Turn_ok na nb nc x0 y0 x1 y1 x2 y2 w i0 i1 i2
  have CB := fun na nb nc w => Turn_ok na nb nc x2 y2 x1 y1 x0 y0 w i2 i1 i0
  rw [hta] at CA
  rw [htb] at CB
  have CA' := Lib.hid CA
  have CB' := Lib.hid CB
  have HC := Lib.hid hcases
  clear CA CB hta htb hcases hO hg2 G1 hown hmade hl i0 i1 i2 r0
  have hz2 := F2.out.1.lt
  go_wp2_with fail
  obtain ⟨q0, q1, q2, q3, q4, q5, q6, q7, q8⟩ := nine F2.out.1
  refine wp_region_after (by kernel_rfl) (by kernel_rfl) (grown_refl _ _) ?_
  repeat (go_big_quiet_step ((go_at_call 11; exact after_call (CA'.out _ _ _ _))))
  refine wpQuiet_nil ?_
  rintro _ ⟨v3, rfl⟩
  have F3 := keep v3.grown F2
  have hz3 := F3.out.1.lt
  clear q0 q1 q2 q3 q4 q5 q6 q7 q8
  go_wp2_with fail
  obtain ⟨q0, q1, q2, q3, q4, q5, q6, q7, q8⟩ := nine F3.out.1
  refine wp_region_after (by kernel_rfl) (by kernel_rfl) (grown_refl _ _) ?_
  repeat (go_big_quiet_step ((go_at_call 11; exact after_call (CB'.out _ _ _ _))))
  refine wpQuiet_nil ?_
  rintro _ ⟨v4, rfl⟩
  have F4 := keep v4.grown F3
  have hz4 := F4.out.1.lt
  clear q0 q1 q2 q3 q4 q5 q6 q7 q8 F2 F3 CA' CB'
  obtain ⟨p1, p2, p4, p5, p7, p8⟩ := nine' F4.out.1
  rcases HC.out with ⟨rfl, rfl, hN⟩ | ⟨hT, hn1, hn2⟩
  · clear HC
    by_cases hN1 : x0 = x1 ∧ y0 = y1
    · obtain ⟨h1, h2⟩ := hN1
      have e1 : (x0 == x1) = true := by simpa using h1
      have e2 : (y0 == y1) = true := by simpa using h2
      clear h1 h2 hN
      go_wp2_with fail
      go_quiet (fail)
      go_wp2_with fail
      go_ret
      exact ⟨rfl, grown_below (grown_draw _ F4.out.2)⟩
    · obtain ⟨h3, h4⟩ := hN.resolve_left hN1
      have e3 : (x1 == x2) = true := by simpa using h3
      have e4 : (y1 == y2) = true := by simpa using h4
      by_cases h1 : x0 = x1
      · have h2 : ¬ y0 = y1 := fun h => hN1 ⟨h1, h⟩
        have e1 : (x0 == x1) = true := by simpa using h1
        have e2 : (y0 == y1) = false := by simpa using h2
        clear h1 h2 h3 h4 hN hN1
        go_wp2_with fail
        go_quiet (fail)
        go_wp2_with fail
        go_ret
        exact ⟨rfl, grown_below (grown_draw _ F4.out.2)⟩
      · have e1 : (x0 == x1) = false := by simpa using h1
        clear h1 h3 h4 hN hN1
        go_wp2_with fail
        go_quiet (fail)
        go_wp2_with fail
        go_ret
        exact ⟨rfl, grown_below (grown_draw _ F4.out.2)⟩
  · clear HC
    rcases hT with ⟨rfl, rfl⟩ | ⟨rfl, rfl⟩ | ⟨rfl, rfl⟩ | ⟨rfl, rfl⟩
    all_goals
      by_cases h1 : x0 = x1
      · have h2 : ¬ y0 = y1 := fun h => hn1 ⟨h1, h⟩
        have e1 : (x0 == x1) = true := by simpa using h1
        have e2 : (y0 == y1) = false := by simpa using h2
        by_cases h3 : x1 = x2
        · have h4 : ¬ y1 = y2 := fun h => hn2 ⟨h3, h⟩
          have e3 : (x1 == x2) = true := by simpa using h3
          have e4 : (y1 == y2) = false := by simpa using h4
          clear h1 h2 h3 h4 hn1 hn2
          go_wp2_with fail
          go_quiet (fail)
          go_wp2_with fail
          go_ret
          exact ⟨rfl, grown_below (grown_draw _ F4.out.2)⟩
        · have e3 : (x1 == x2) = false := by simpa using h3
          clear h1 h2 h3 hn1 hn2
          go_wp2_with fail
          go_quiet (fail)
          go_wp2_with fail
          go_ret
          exact ⟨rfl, grown_below (grown_draw _ F4.out.2)⟩
      · have e1 : (x0 == x1) = false := by simpa using h1
        by_cases h3 : x1 = x2
        · have h4 : ¬ y1 = y2 := fun h => hn2 ⟨h3, h⟩
          have e3 : (x1 == x2) = true := by simpa using h3
          have e4 : (y1 == y2) = false := by simpa using h4
          clear h1 h3 h4 hn1 hn2
          go_wp2_with fail
          go_quiet (fail)
          go_wp2_with fail
          go_ret
          exact ⟨rfl, grown_below (grown_draw _ F4.out.2)⟩
        · have e3 : (x1 == x2) = false := by simpa using h3
          clear h1 h3 hn1 hn2
          go_wp2_with fail
          go_quiet (fail)
          go_wp2_with fail
          go_ret
          exact ⟨rfl, grown_below (grown_draw _ F4.out.2)⟩
end Go.Proofs.Ytggmgnmjloagbaa
