/- The walk of PlaneWays. -/
import Derived.Test.YtggmgnmjloagbaaPlRef4
import Derived.Test.YtggmgnmjloagbaaInts
namespace Go.Proofs.Ytggmgnmjloagbaa
open Go.RowKit
set_option linter.unusedVariables false

/-- Element k of the two ways. -/
def TwoWays (w : World) (v0 v1 : Value) : Prop := ∀ k, k < 2 → ∃ A N C L, [v0, v1][k]? = some (.slice A N C) ∧ rowB w A N L ∧ N ≤ C ∧ C ≤ maxLen
instance {w W : World} {v0 v1 : Value} : Stay none w W (TwoWays w v0 v1) (TwoWays W v0 v1) :=
  ⟨fun hg h k hk => by obtain ⟨A, N, C, L, h1, h2, h3⟩ := h k hk; exact ⟨A, N, C, L, h1, RowIn.kept h2 hg, h3⟩⟩

set_option maxHeartbeats 4000000 in
theorem PlaneWays_walk (a0 : Option Addr) (len0 cap0 : Nat) (l0 : List Bk) (a1 : Option Addr) (len1 cap1 : Nat) (z1 : List Int) (a2 : Int) (w : World)
    (w0 : rowB w a0 len0 l0 ∧ len0 ≤ cap0 ∧ cap0 ≤ maxLen) (w1 : IsRow .i64 w a1 len1 cap1 z1) (w2 : (Lit.int .i64 a2).wf = true) :
    Calls Try.prog 5 #[.slice a0 len0 cap0, .slice a1 len1 cap1, .int .i64 a2] w fun e w' => e = .returned (.bool true) ∧ Below w.heap.size w w' := by
  have R0 := Lib.hid w0
  have R1 := Lib.hid w1
  have HB2 := Lib.hid (wf_i64 w2)
  obtain ⟨n, hn, hn8⟩ : ∃ n : Nat, (n : Int) = cut a2 9 ∧ n ≤ 8 := by
    have := cut_in a2 9 (by omega)
    exact ⟨(cut a2 9).toNat, by omega, by omega⟩
  have HN := Lib.hid hn
  clear w0 w1 w2 hn
  go_enter Try.func5, Try.ntmps5
  go_wp2_with fail
  refine (known_any _).mono ?_
  rintro e w1 ⟨rfl, hg1⟩
  have G1 := Lib.hid hg1
  clear hg1
  go_wp2_with fail
  refine (Cut_any _ _ _ HB2.out.1 HB2.out.2 (by omega) (by omega)).mono ?_
  rintro e w' ⟨rfl, rfl⟩
  go_wp2_with fail
  rw [← HN.out]
  refine (blocks_any a1 len1 cap1 z1 n _ (isRow_kept R1.out G1.out) (by omega)).mono ?_
  rintro e w2 ⟨v, l, rfl, hl, hmade, hown, hg2⟩
  have G2 := grown_trans G1.out hg2
  obtain ⟨A2, c2, rfl, hc2, hc2m, _, hr2⟩ := rowB_owns hown
  have F2 : Hid (TwoWays w2 (.slice a0 len0 cap0) (.slice A2 n c2) ∧ w.grownBy w2 none) := by
    refine ⟨fun k hk => ?_, G2⟩
    match k, hk with
    | 0, _ => exact ⟨a0, len0, cap0, l0, rfl, RowIn.kept R0.out.1 G2, R0.out.2⟩
    | 1, _ => exact ⟨A2, n, c2, l, rfl, hr2, hc2, hc2m⟩
  have hb := hg2.size
  clear hown hmade hl hg2 G1 G2 R0 R1 hr2
  go_wp2_with fail
  have K2 := Lib.hid (at_new w2 (.cells #[.slice a0 len0 cap0, .slice A2 n c2] 24))
  have K3 : Hid ((w2.alloc (.cells #[.slice a0 len0 cap0, .slice A2 n c2] 24)).heap[w2.heap.size]? = some (.cells #[.slice a0 len0 cap0, .slice A2 n c2] 24) ∧ TwoWays (w2.alloc (.cells #[.slice a0 len0 cap0, .slice A2 n c2] 24)) (.slice a0 len0 cap0) (.slice A2 n c2) ∧ w.grownBy (w2.alloc (.cells #[.slice a0 len0 cap0, .slice A2 n c2] 24)) none) := ⟨K2.out, (keep (grown_alloc (.cells #[.slice a0 len0 cap0, .slice A2 n c2] 24) (grown_refl w2 none)) F2).out⟩
  clear K2 F2
  go_loopw [8] (fun i wr => ∃ k : Nat, k ≤ 2 ∧ i = .int .i64 k ∧ (wr.heap[w2.heap.size]? = some (.cells #[.slice a0 len0 cap0, .slice A2 n c2] 24) ∧ TwoWays wr (.slice a0 len0 cap0) (.slice A2 n c2) ∧ w.grownBy wr none)) (fun i _ => 2 - (intOf i).toNat)
  case atStart => exact ⟨0, by omega, rfl, K3.out⟩
  case round =>
    obtain ⟨k, hk, rfl, hF⟩ := hrel
    have F := Lib.hid hF
    clear hF K3
    by_cases hk2 : k < 2
    · have hk' : (k : Int) < 2 := by omega
      obtain ⟨A, N, C, L, hE, hR, hNC, hCm⟩ := F.out.2.1 k hk2
      have hcell : wr.cell? ⟨w2.heap.size, k, none⟩ = some (.slice A N C) := by rw [cell_at F.out.1]; simpa using hE
      have R := Lib.hid hR
      have BN := Lib.hid (And.intro hNC hCm)
      have E := Lib.hid hE
      have zr := lt_of_at F.out.1
      clear hE hR hNC hCm
      go_wp2_with fail
      refine (Turns_any A N C L _ R.out BN.out.1 BN.out.2).mono ?_
      rintro e w3 ⟨v3, rfl, hO3, hg3⟩
      have F3 := keep hg3 F
      have R3 := keep hg3 R
      obtain ⟨A3, c3, rfl, _, _, _, hS3⟩ := sliceIn_owns hO3
      have S3 := Lib.hid hS3
      have hcell3 : w3.cell? ⟨w2.heap.size, k, none⟩ = some (.slice A N C) := by rw [cell_at F3.out.1]; simpa using E.out
      have zr3 := lt_of_at F3.out.1
      clear hcell hO3 hg3 F R hS3
      go_wp2_with fail
      refine (rTurns_any A N C L _ R3.out BN.out.1 BN.out.2).mono ?_
      rintro e w4 ⟨v4, rfl, hO4, hg4⟩
      have F4 := keep hg4 F3
      have R4 := keep hg4 R3
      have S3' := keep hg4 S3
      obtain ⟨A4, c4, rfl, _, _, _, hS4⟩ := sliceIn_owns hO4
      have S4 := Lib.hid hS4
      have hcell4 : w4.cell? ⟨w2.heap.size, k, none⟩ = some (.slice A N C) := by rw [cell_at F4.out.1]; simpa using E.out
      have zr4 := lt_of_at F4.out.1
      clear hcell3 hO4 hg4 F3 R3 hS4 S3
      go_wp2_with fail
      refine (Area_any A N C L _ R4.out).mono ?_
      rintro e w5 ⟨rfl, hg5⟩
      have F5 := keep hg5 F4
      have R5 := keep hg5 R4
      have S5 := keep hg5 S3'
      have S6 := keep hg5 S4
      have hcell5 : w5.cell? ⟨w2.heap.size, k, none⟩ = some (.slice A N C) := by rw [cell_at F5.out.1]; simpa using E.out
      have zr5 := lt_of_at F5.out.1
      clear hcell4 hg5 F4 R4 S3' S4
      go_wp2_with fail
      refine (rArea_any A N C L _ R5.out BN.out.1 BN.out.2).mono ?_
      rintro e w6 ⟨rfl, hg6⟩
      have F6 := keep hg6 F5
      have S7 := keep hg6 S5
      have S8 := keep hg6 S6
      clear hcell5 hg6 F5 R5 S5 S6
      go_wp2_with fail
      refine (SameInts_any _ _ _ _ _ _ _ _ _ S7.out S8.out).mono ?_
      rintro e w7 ⟨rfl, hg7⟩
      rw [decide_eq_true rfl]
      have F7 := keep hg7 F6
      clear hg7 F6 S7 S8
      go_wp2_with fail
      go_roundw
      case rel => exact ⟨k + 1, by omega, by go_num, F7.out⟩
      case measure => simp [intOf]; omega
    · obtain rfl : k = 2 := by omega
      go_wp2_with fail
      go_ret
      exact ⟨rfl, grown_below F.out.2.2⟩
end Go.Proofs.Ytggmgnmjloagbaa
