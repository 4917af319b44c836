/- The contract of the reference's Decode. -/
import Derived.Test.YtnhmnkldpmomfaaFrBackL
namespace Go.Proofs.Ytnhmnkldpmomfaa
open Go.RowKit
set_option linter.unusedVariables false

set_option maxHeartbeats 400000 in
theorem DecodeR_short (a : Option Addr) (len cap : Nat) (h : len ≠ 12) (w : World) (hb : len ≤ 9223372036854775807) :
    Calls Try.prog 13 #[.slice a len cap] w fun e w' => e = .returned (.tuple #[(Fr.mk 0 0 0 0 0).val, .int .i64 21]) ∧ w.grownBy w' none := by
  have hd : ((len : Int) == 12) = false := by simp; omega
  have hd' : ((len : Int) != 12) = true := by simp [bne]; omega
  unfold Fr.val
  go_enter Try.func13, Try.ntmps13
  go_wp2
  refine bodyPost_ret (v := .tuple #[.agg #[.int .i64 0, .int .i64 0, .int .u64 0, .int .i64 0, .int .i64 0], .int .i64 21]) (by simp only [results, Try.results13]; go_simp) rfl ⟨rfl, grown_alloc _ (grown_refl w _)⟩

/-- What the reference answers at twelve bytes. -/
def decAns (xs : List Int) : Fr × Int := if knownB (xs.getD 0 0) then (if (frOf xs).okB then (frOf xs, 0) else (⟨0, 0, 0, 0, 0⟩, 19)) else (⟨0, 0, 0, 0, 0⟩, 22)

set_option maxHeartbeats 1600000 in
theorem DecodeR_12 (b off cap : Nat) (xs : List Int) (w : World)
    (hc : ∀ i, i < 12 → w.cell? ⟨b, off + i, none⟩ = some (.int .u8 (xs.getD i 0))) (hx : ∀ i, 0 ≤ xs.getD i 0 ∧ xs.getD i 0 ≤ 255) :
    Calls Try.prog 13 #[.slice (some ⟨b, off, none⟩) 12 cap] w fun e w' => e = .returned (.tuple #[(decAns xs).1.val, .int .i64 (decAns xs).2]) ∧ w.grownBy w' none := by
  have hvc : ∀ w : World, Calls Try.prog 15 #[(frOf xs).val] w fun e w' => e = .returned (.bool (frOf xs).okB) ∧ w.grownBy w' none := fun w => by
    have h9 := sq_bd hx (k := 9) (by omega) (by omega)
    have e10 := sq_succ xs (k := 9) (by omega)
    have hx9 := hx 9
    simp only [Nat.reduceAdd] at e10
    exact ValidR (frOf xs) ⟨by show 0 ≤ sq xs 10; omega, by show sq xs 10 ≤ _; omega⟩ w
  have c0 := hc 0 (by omega)
  have c1 := hc 1 (by omega)
  have c10 := hc 10 (by omega)
  have c11 := hc 11 (by omega)
  have hlt := lt_of_cell c0
  simp only at hlt
  simp only [Nat.add_zero] at c0
  have hcH := Lib.hid hc
  have hxH := Lib.hid hx
  obtain ⟨l0, u0⟩ := hx 0
  obtain ⟨l1, u1⟩ := hx 1
  obtain ⟨l10, u10⟩ := hx 10
  obtain ⟨l11, u11⟩ := hx 11
  have hans : Hid (decAns xs = if knownB (xs.getD 0 0) then (if (frOf xs).okB then (frOf xs, 0) else (⟨0, 0, 0, 0, 0⟩, 19)) else (⟨0, 0, 0, 0, 0⟩, 22)) := rfl
  clear hc hx
  generalize hx0 : xs.getD 0 0 = x0 at *
  generalize hx1 : xs.getD 1 0 = x1 at *
  generalize hx10 : xs.getD 10 0 = x10 at *
  generalize hx11 : xs.getD 11 0 = x11 at *
  have X0 := Lib.hid hx0
  have X1 := Lib.hid hx1
  have X10 := Lib.hid hx10
  have X11 := Lib.hid hx11
  have hval : (frOf xs).val = .agg #[.int .i64 x0, .int .i64 x1, .int .u64 (sq xs 10), .int .i64 x10, .int .i64 x11] := by
    show Fr.val (frOf xs) = _
    simp only [Fr.val, frOf, hx0, hx1, hx10, hx11]
  rw [hval] at hvc
  have hvalH := Lib.hid hval
  have hvcH := Lib.hid hvc
  clear hx0 hx1 hx10 hx11 hvc hval
  go_enter Try.func13, Try.ntmps13
  go_wp2
  go_region
  go_wp2
  have hN := at_new (w.alloc (.cells #[.int .i64 0, .int .i64 0, .int .u64 0, .int .i64 0, .int .i64 0] 26)) (.cells #[.int .i64 x0, .int .i64 x1, .int .u64 0, .int .i64 x10, .int .i64 x11] 26)
  simp only [World.size_alloc] at hN
  have hNH := Lib.hid hN
  clear hN
  go_loopw [5] (fun i wr => w.grownBy wr none ∧ wr.heap[w.heap.size]? = some (.cells #[.int .i64 0, .int .i64 0, .int .u64 0, .int .i64 0, .int .i64 0] 26 (0, 0)) ∧
      ∃ k : Nat, 2 ≤ k ∧ k ≤ 10 ∧ i = .int .i64 k ∧ wr.heap[w.heap.size + 1]? = some (.cells #[.int .i64 x0, .int .i64 x1, .int .u64 (sq xs k), .int .i64 x10, .int .i64 x11] 26 (0, 0))) (fun i _ => (10 - intOf i).toNat)
  case atStart =>
    refine ⟨grown_drew (grown_alloc _ (grown_alloc _ (grown_refl w _))), at_alloc _ (at_new w _), 2, by omega, by omega, rfl, ?_⟩
    rw [sq_two]
    exact hNH.out
  case round =>
    obtain ⟨hg, hB1, k, hk2, hk10, rfl, hB2⟩ := hrel
    have r1 := (rules_at hB1).1
    have r1f := (rules_at hB1).2
    have r2 := (rules_at hB2).1
    have r2f := (rules_at hB2).2
    have hB1' := Lib.hid hB1
    have hB2' := Lib.hid hB2
    have hg' := Lib.hid hg
    have hlt' : b < wr.heap.size := by have := hg.size; omega
    have hlt1 := lt_of_at hB1
    have hlt2 := lt_of_at hB2
    clear c0 c1 c10 c11 l0 u0 l1 u1 l10 u10 l11 u11 hNH
    by_cases h9 : k < 10
    · have hck := (grown_cell hg (lt_of_cell (hcH.out k (by omega))) (by simp)).trans (hcH.out k (by omega))
      have E := sq_or hxH.out (k := k) hk2 (by omega)
      obtain ⟨ls, us⟩ := sq_bd hxH.out (k := k) hk2 (by omega)
      obtain ⟨lx, ux⟩ := hxH.out k
      clear hg hB1 hB2
      generalize xs.getD k 0 = x at hck E lx ux
      generalize hs : sq xs k = s at r2 hB2' E ls us
      generalize hs' : sq xs (k + 1) = s' at E
      have HS := Lib.hid hs'
      clear hs hs'
      have hk10' : (k : Int) < 10 := by omega
      go_wp2
      go_region
      go_wp2
      go_roundw
      case rel =>
        refine ⟨grown_drew (grown_set _ hg'.out (.inl (by simp))), at_set_other _ hB1'.out (by simp), k + 1, by omega, by omega, by go_num, ?_⟩
        rw [HS.out]
        refine (at_set (j := 2) _ hB2'.out).trans ?_
        simp
      case measure => simp [intOf]; omega
    · obtain rfl : k = 10 := by omega
      clear hg hB1 hB2
      generalize sq xs 10 = S at r2 hB2' hvcH hvalH
      cases hkn : knownB x0
      · go_wp2_with (go_at_call 18; refine (knownR _ _).mono ?_; rintro e w' ⟨rfl, rfl⟩)
        refine bodyPost_ret (v := .tuple #[.agg #[.int .i64 0, .int .i64 0, .int .u64 0, .int .i64 0, .int .i64 0], .int .i64 22]) (by simp only [results, Try.results13]; go_simp) rfl ⟨?_, ?_⟩
        · rw [hans.out, hkn]; rfl
        repeat (refine grown_set _ ?_ (by simp))
        exact hg'.out
      · go_wp2_with (go_at_call 18; refine (knownR _ _).mono ?_; rintro e w' ⟨rfl, rfl⟩)
        refine (hvcH.out _).mono ?_
        rintro e w1 ⟨rfl, hg1⟩
        have q1 := (rules_at (grown_at hg1 hB1'.out (by simp))).1
        have q1f := (rules_at (grown_at hg1 hB1'.out (by simp))).2
        have q2 := (rules_at (grown_at hg1 hB2'.out (by simp))).1
        have hG := Lib.hid (grown_trans hg'.out hg1)
        clear r1 r1f r2 r2f hvcH hg1 hg' hB1' hB2'
        cases hok : (frOf xs).okB
        · go_wp2
          refine bodyPost_ret (v := .tuple #[.agg #[.int .i64 0, .int .i64 0, .int .u64 0, .int .i64 0, .int .i64 0], .int .i64 19]) (by simp only [results, Try.results13]; go_simp) rfl ⟨?_, ?_⟩
          · rw [hans.out, hkn, hok]; rfl
          repeat (refine grown_set _ ?_ (by simp))
          exact hG.out
        · go_wp2
          refine bodyPost_ret (v := .tuple #[.agg #[.int .i64 x0, .int .i64 x1, .int .u64 S, .int .i64 x10, .int .i64 x11], .int .i64 0]) (by simp only [results, Try.results13]; go_simp) rfl ⟨?_, ?_⟩
          · rw [hans.out, hkn, hok]; simp only [if_true]; rw [hvalH.out]
          repeat (refine grown_set _ ?_ (by simp))
          exact hG.out
end Go.Proofs.Ytnhmnkldpmomfaa
