/- The contracts of the chapter's own Mirror, Rotate, all. -/
import Derived.Test.YtggmgnmjloagbaaPlRef
namespace Go.Proofs.Ytggmgnmjloagbaa
open Go.RowKit
set_option linter.unusedVariables false

set_option maxHeartbeats 400000 in
theorem rMirror_ok (nm : ByteArray) (x y : Int) (w : World) (h : inP x y) :
    Calls Try.prog 37 #[.agg #[.string nm, .int .i64 x, .int .i64 y]] w fun e w' => e = .returned (.tuple #[.agg #[.string nm, .int .i64 x, .int .i64 (-y)], .int .i64 0]) ∧ w.grownBy w' none := by
  have hin := Lib.hid h
  have hy : -9999 ≤ y ∧ y ≤ 9999 := ⟨h.2.2.1, h.2.2.2⟩
  obtain ⟨hy1, hy2⟩ := hy
  clear h
  go_enter Try.func37, Try.ntmps37
  go_wp2_with fail
  refine (rvalid_ok (.string nm) x y _ hin.out).mono ?_
  rintro e w1 ⟨rfl, hg1⟩
  have F1 := Lib.hid (boxes hg1)
  obtain ⟨q1, q2⟩ := rules_at F1.out.1
  obtain ⟨q3, q4⟩ := rules_at F1.out.2.1
  have z4 := lt_of_at F1.out.2.1
  have hs := Lib.hid (at_set (j := 2) (.int .i64 (-y)) F1.out.1)
  have hr := Lib.hid (at_set_other (p := ⟨w.heap.size, 2, none⟩) (.int .i64 (-y)) F1.out.2.1 (by simp))
  obtain ⟨s0, s1, s2⟩ := set3 hr.out (.string nm) (.int .i64 x) (.int .i64 (-y))
  have s3 : (w1.setCell ⟨w.heap.size, 2, none⟩ (.int .i64 (-y))).cell? ⟨w.heap.size, 2, none⟩ = some (.int .i64 (-y)) := by rw [cell_at hs.out]; rfl
  clear hg1
  go_wp2_with fail
  refine bodyPost_ret (v := .tuple #[.agg #[.string nm, .int .i64 x, .int .i64 (-y)], .int .i64 0]) (by simp [results, Try.results37, go_sem, s0, s1, s2]) rfl ⟨rfl, ?_⟩
  exact grown3 (grown_set _ F1.out.2.2 (.inl (by simp))) (by omega) _ _ _

theorem rMirror_no (nm : ByteArray) (x y : Int) (w : World) (h : ¬ inP x y) :
    Calls Try.prog 37 #[.agg #[.string nm, .int .i64 x, .int .i64 y]] w fun e w' => e = .returned (.tuple #[.agg #[.string ⟨#[]⟩, .int .i64 0, .int .i64 0], .int .i64 19]) ∧ w.grownBy w' none := by
  have hin := Lib.hid h
  clear h
  go_enter Try.func37, Try.ntmps37
  go_wp2_with fail
  refine (rvalid_no (.string nm) x y _ hin.out).mono ?_
  rintro e w1 ⟨rfl, hg1⟩
  have F1 := Lib.hid (boxes hg1)
  obtain ⟨q3, q4⟩ := rules_at F1.out.2.1
  have z4 := lt_of_at F1.out.2.1
  clear hg1
  go_wp2
  obtain ⟨s0, s1, s2⟩ := set3 F1.out.2.1 (.string ⟨#[]⟩) (.int .i64 0) (.int .i64 0)
  refine bodyPost_ret (v := .tuple #[.agg #[.string ⟨#[]⟩, .int .i64 0, .int .i64 0], .int .i64 19]) (by simp [results, Try.results37, go_sem, s0, s1, s2]) rfl ⟨rfl, ?_⟩
  exact grown3 F1.out.2.2 (by omega) _ _ _

def TurnAt (w wr : World) (nm : ByteArray) (n : Nat) (p : Pt) (i : Value) : Prop := ∃ j : Nat, j ≤ n ∧ i = .int .i64 ((n - j : Nat) : Int) ∧ (wr.heap[w.heap.size]? = some (.cells #[.string nm, .int .i64 (rotN j p).1, .int .i64 (rotN j p).2] 30) ∧ wr.heap[w.heap.size + 1]? = some (.cells #[.string ⟨#[]⟩, .int .i64 0, .int .i64 0] 30) ∧ w.grownBy wr none)

set_option maxHeartbeats 1000000 in
theorem rRotate_ok (nm : ByteArray) (x y q : Int) (w : World) (h : inP x y) (hq : -9223372036854775808 ≤ q ∧ q ≤ 9223372036854775807) :
    Calls Try.prog 35 #[.agg #[.string nm, .int .i64 x, .int .i64 y], .int .i64 q] w fun e w' => e = .returned (.tuple #[.agg #[.string nm, .int .i64 (rotN (quarters q) (x, y)).1, .int .i64 (rotN (quarters q) (x, y)).2], .int .i64 0]) ∧ w.grownBy w' none := by
  have hin := Lib.hid h
  have hp : inB (x, y) := h
  have hR := Lib.hid (fun k => rotN_in hp k)
  obtain ⟨⟨b1a, b1b⟩, b2, b3⟩ := quarters_bd q
  have hneg : q.tmod 4 < 0 → q.tmod 4 + 4 = (quarters q : Int) := fun h => by rw [b3]; omega
  have hpos : ¬ q.tmod 4 < 0 → q.tmod 4 = (quarters q : Int) := fun h => by rw [b3]; omega
  have HN := Lib.hid hneg
  have HP := Lib.hid hpos
  generalize hn : quarters q = n at *
  generalize hp0 : ((x, y) : Pt) = p at *
  have hpx := Lib.hid (congrArg Prod.fst hp0)
  have hpy := Lib.hid (congrArg Prod.snd hp0)
  obtain ⟨hq1, hq2⟩ := hq
  clear h hp hn hp0 b3 hneg hpos
  go_enter Try.func35, Try.ntmps35
  go_wp2_with fail
  refine (rvalid_ok (.string nm) x y _ hin.out).mono ?_
  rintro e w1 ⟨rfl, hg1⟩
  have F1 := Lib.hid (boxes hg1)
  clear hg1
  by_cases hs : q.tmod 4 < 0
  all_goals
    go_wp2_with fail
    first | rw [HN.out hs] | rw [HP.out hs]
    go_loopw [6] (fun i wr => TurnAt w wr nm n p i) (fun i _ => (intOf i).toNat)
    case atStart => exact ⟨0, by omega, rfl, by rw [show (rotN 0 p).1 = x from hpx.out.symm, show (rotN 0 p).2 = y from hpy.out.symm]; exact F1.out⟩
    case round =>
      obtain ⟨j, hj, rfl, hF⟩ := hrel
      have F := Lib.hid hF
      clear hF F1 hs
      have hb := hR.out j
      obtain ⟨u, hu⟩ : ∃ u, u = (rotN j p).1 := ⟨_, rfl⟩
      obtain ⟨v, hv⟩ : ∃ v, v = (rotN j p).2 := ⟨_, rfl⟩
      have hb' : -9999 ≤ u ∧ u ≤ 9999 ∧ -9999 ≤ v ∧ v ≤ 9999 := by rw [hu, hv]; exact hb
      obtain ⟨b1, b2, b3, b4⟩ := hb'
      rw [← hu, ← hv] at F
      have HU := Lib.hid hu
      have HV := Lib.hid hv
      obtain ⟨q1, q2⟩ := rules_at F.out.1
      obtain ⟨q3, q4⟩ := rules_at F.out.2.1
      have z4 := lt_of_at F.out.2.1
      clear hu hv hb
      by_cases hlt : j < n
      · have hd : (0 : Int) < ((n - j : Nat) : Int) := by omega
        have he : ((n - j : Nat) : Int) - 1 = ((n - (j + 1) : Nat) : Int) := by omega
        have G2 := Lib.hid (at_set (j := 2) (.int .i64 u) (at_set (j := 1) (.int .i64 (-v)) F.out.1))
        have G3 := Lib.hid (at_set_other (p := ⟨w.heap.size, 2, none⟩) (.int .i64 u) (at_set_other (p := ⟨w.heap.size, 1, none⟩) (.int .i64 (-v)) F.out.2.1 (by simp)) (by simp))
        have HE := Lib.hid he
        clear he
        go_wp2_with fail
        go_roundw
        case rel =>
          refine ⟨j + 1, by omega, by rw [HE.out], ?_, G3.out, grown_set _ (grown_set _ F.out.2.2 (.inl (by simp))) (.inl (by simp))⟩
          have e1 : (rotN (j + 1) p).1 = -v := by rw [HV.out]; rfl
          have e2 : (rotN (j + 1) p).2 = u := by rw [HU.out]; rfl
          rw [e1, e2]
          exact G2.out
        case measure => simp [intOf]; omega
      · obtain rfl : j = n := by omega
        have hd : ¬ (0 : Int) < ((j - j : Nat) : Int) := by omega
        obtain ⟨s0, s1, s2⟩ := set3 F.out.2.1 (.string nm) (.int .i64 u) (.int .i64 v)
        clear hlt
        go_wp2_with fail
        refine bodyPost_ret (v := .tuple #[.agg #[.string nm, .int .i64 u, .int .i64 v], .int .i64 0]) (by simp [results, Try.results35, go_sem, s0, s1, s2]) rfl ⟨by rw [HU.out, HV.out], ?_⟩
        exact grown3 F.out.2.2 (by omega) _ _ _

theorem rRotate_no (nm : ByteArray) (x y q : Int) (w : World) (h : ¬ inP x y) :
    Calls Try.prog 35 #[.agg #[.string nm, .int .i64 x, .int .i64 y], .int .i64 q] w fun e w' => e = .returned (.tuple #[.agg #[.string ⟨#[]⟩, .int .i64 0, .int .i64 0], .int .i64 19]) ∧ w.grownBy w' none := by
  have hin := Lib.hid h
  clear h
  go_enter Try.func35, Try.ntmps35
  go_wp2_with fail
  refine (rvalid_no (.string nm) x y _ hin.out).mono ?_
  rintro e w1 ⟨rfl, hg1⟩
  have F1 := Lib.hid (boxes hg1)
  obtain ⟨q3, q4⟩ := rules_at F1.out.2.1
  have z4 := lt_of_at F1.out.2.1
  clear hg1
  go_wp2
  obtain ⟨s0, s1, s2⟩ := set3 F1.out.2.1 (.string ⟨#[]⟩) (.int .i64 0) (.int .i64 0)
  refine bodyPost_ret (v := .tuple #[.agg #[.string ⟨#[]⟩, .int .i64 0, .int .i64 0], .int .i64 19]) (by simp [results, Try.results35, go_sem, s0, s1, s2]) rfl ⟨rfl, ?_⟩
  exact grown3 F1.out.2.2 (by omega) _ _ _
end Go.Proofs.Ytggmgnmjloagbaa
