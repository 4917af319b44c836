/- For every input the law PlanePoints returns true and leaves its arguments as they were; no condition. -/
import Derived.Test.YtggmgnmjloagbaaRows
import Derived.Test.YtggmgnmjloagbaaPlPoints
import Derived.Test.YtggmgnmjloagbaaOpen
import Derived.WalkKit
import Derived.ProofKit
import Derived.OpenShut
import Derived.ShutString
import Derived.ChangeOld
import Derived.Below
namespace Go.Proofs.Ytggmgnmjloagbaa.planePoints
open Go.ChangeShapes Go.WideShapes Go.ChangeAt Go.RowKit
open Go.ChangeMaps (open_string shut_string)
set_option linter.unusedVariables false

theorem own : ownKnob Try.prog.godebug = none := by kernel_rfl
theorem laidOut : laidOutB Try.prog = true := by kernel_rfl

set_option maxRecDepth 100000 in
theorem lifted (os : Os) (started : os.Started) (H : Type) (enc : TypeId × Value → H) :
    ReturnsInHanded {} Try.checked os 7 .any (Rows.planePointsSpec.pre6 enc Try.prog Try.f7 Rows.planePointsRow.domain false) (Rows.planePointsSpec.post enc Try.prog Try.f7 false true false false) := by
  refine returnsInHanded_of_change (C := Try.checked) own started (by kernel_rfl) Try.func7
    (ChangeSpec.witness6 (enc := enc) (C := Try.checked) false ⟨#[], #[.agg #[.string ByteArray.empty, .int .i64 0, .int .i64 0], .agg #[.string ByteArray.empty, .int .i64 0, .int .i64 0], .agg #[.string ByteArray.empty, .int .i64 0, .int .i64 0], .int .i64 0, .slice none 0 0], []⟩ 8 (by kernel_rfl) (by kernel_rfl) (by kernel_rfl) (by kernel_rfl)) ?_
  intro W base args ds gs before hval0 hW hcnd _
  have hval : ∀ (j : Nat) t v, Try.f7.params[j]? = some t → args[j]? = some v → Value.okWide Try.prog W .any base t v := hval0
  have hW' := hW
  obtain ⟨p, q, hA0, hV, rfl, hfz, hnd⟩ := hW
  have hA : DataW.TrodAll enc Try.prog W 0 (fun _ => true) true Try.f7.params.toList args.toList ds p := hA0
  rw [Try.params7] at hA hval
  obtain ⟨v0, vs0, d0, ds0, p0, q0, hargs, rfl, rfl, h0, r0⟩ := trodAll_cons hA
  obtain ⟨v1, vs1, d1, ds1, p1, q1, rfl, rfl, rfl, h1, r1⟩ := trodAll_cons r0
  obtain ⟨v2, vs2, d2, ds2, p2, q2, rfl, rfl, rfl, h2, r2⟩ := trodAll_cons r1
  obtain ⟨v3, vs3, d3, ds3, p3, q3, rfl, rfl, rfl, h3, r3⟩ := trodAll_cons r2
  obtain ⟨v4, vs4, d4, ds4, p4, q4, rfl, rfl, rfl, h4, r4⟩ := trodAll_cons r3
  obtain ⟨rfl, rfl, rfl⟩ := trodAll_nil r4
  obtain rfl : args = #[v0, v1, v2, v3, v4] := by cases args; simp_all
  obtain ⟨rfl, rfl⟩ := trodVars_none hV
  have k0 := h0
  have lt0 : ∀ x ∈ p0, x.block < W.heap.size := by obtain ⟨m, hm⟩ := k0; exact DataW.trod_lt m _ _ _ hm
  have hv0 := hval 0 30 v0 rfl rfl
  obtain ⟨cs0, ts0, rfl, hsz0, hts0, hcell0⟩ := structWide Try.underlying30 hv0
  have hct0 : Try.prog.cellTypes Try.prog.depth 30 = some [9, 3, 3] := by kernel_rfl
  obtain rfl : [9, 3, 3] = ts0 := Option.some.inj (hct0.symm.trans hts0)
  obtain ⟨c0_0, c0_1, c0_2, rfl⟩ := arr3 (hsz0.trans (show Try.prog.cellsOf 30 = 3 from by kernel_rfl))
  obtain ⟨u0_0, hu0_0, hc0_0⟩ := hcell0 0 c0_0 rfl
  obtain rfl : 9 = u0_0 := Option.some.inj hu0_0
  obtain ⟨n0_0, rfl⟩ := cellWide_string Try.underlying9 hc0_0
  obtain ⟨u0_1, hu0_1, hc0_1⟩ := hcell0 1 c0_1 rfl
  obtain rfl : 3 = u0_1 := Option.some.inj hu0_1
  obtain ⟨n0_1, rfl, h0_1⟩ := cellWide_int Try.underlying3 hc0_1
  obtain ⟨u0_2, hu0_2, hc0_2⟩ := hcell0 2 c0_2 rfl
  obtain rfl : 3 = u0_2 := Option.some.inj hu0_2
  obtain ⟨n0_2, rfl, h0_2⟩ := cellWide_int Try.underlying3 hc0_2
  have k1 := h1
  have lt1 : ∀ x ∈ p1, x.block < W.heap.size := by obtain ⟨m, hm⟩ := k1; exact DataW.trod_lt m _ _ _ hm
  have hv1 := hval 1 30 v1 rfl rfl
  obtain ⟨cs1, ts1, rfl, hsz1, hts1, hcell1⟩ := structWide Try.underlying30 hv1
  have hct1 : Try.prog.cellTypes Try.prog.depth 30 = some [9, 3, 3] := by kernel_rfl
  obtain rfl : [9, 3, 3] = ts1 := Option.some.inj (hct1.symm.trans hts1)
  obtain ⟨c1_0, c1_1, c1_2, rfl⟩ := arr3 (hsz1.trans (show Try.prog.cellsOf 30 = 3 from by kernel_rfl))
  obtain ⟨u1_0, hu1_0, hc1_0⟩ := hcell1 0 c1_0 rfl
  obtain rfl : 9 = u1_0 := Option.some.inj hu1_0
  obtain ⟨n1_0, rfl⟩ := cellWide_string Try.underlying9 hc1_0
  obtain ⟨u1_1, hu1_1, hc1_1⟩ := hcell1 1 c1_1 rfl
  obtain rfl : 3 = u1_1 := Option.some.inj hu1_1
  obtain ⟨n1_1, rfl, h1_1⟩ := cellWide_int Try.underlying3 hc1_1
  obtain ⟨u1_2, hu1_2, hc1_2⟩ := hcell1 2 c1_2 rfl
  obtain rfl : 3 = u1_2 := Option.some.inj hu1_2
  obtain ⟨n1_2, rfl, h1_2⟩ := cellWide_int Try.underlying3 hc1_2
  have k2 := h2
  have lt2 : ∀ x ∈ p2, x.block < W.heap.size := by obtain ⟨m, hm⟩ := k2; exact DataW.trod_lt m _ _ _ hm
  have hv2 := hval 2 30 v2 rfl rfl
  obtain ⟨cs2, ts2, rfl, hsz2, hts2, hcell2⟩ := structWide Try.underlying30 hv2
  have hct2 : Try.prog.cellTypes Try.prog.depth 30 = some [9, 3, 3] := by kernel_rfl
  obtain rfl : [9, 3, 3] = ts2 := Option.some.inj (hct2.symm.trans hts2)
  obtain ⟨c2_0, c2_1, c2_2, rfl⟩ := arr3 (hsz2.trans (show Try.prog.cellsOf 30 = 3 from by kernel_rfl))
  obtain ⟨u2_0, hu2_0, hc2_0⟩ := hcell2 0 c2_0 rfl
  obtain rfl : 9 = u2_0 := Option.some.inj hu2_0
  obtain ⟨n2_0, rfl⟩ := cellWide_string Try.underlying9 hc2_0
  obtain ⟨u2_1, hu2_1, hc2_1⟩ := hcell2 1 c2_1 rfl
  obtain rfl : 3 = u2_1 := Option.some.inj hu2_1
  obtain ⟨n2_1, rfl, h2_1⟩ := cellWide_int Try.underlying3 hc2_1
  obtain ⟨u2_2, hu2_2, hc2_2⟩ := hcell2 2 c2_2 rfl
  obtain rfl : 3 = u2_2 := Option.some.inj hu2_2
  obtain ⟨n2_2, rfl, h2_2⟩ := cellWide_int Try.underlying3 hc2_2
  obtain ⟨a3, rfl, rfl, rfl, w3⟩ := open_int Try.underlying3 (hval 3 3 v3 rfl rfl) h3
  obtain ⟨a4, len4, cap4, rfl⟩ := okWide_slice Try.underlying22 (hval 4 22 v4 rfl rfl)
  have k4 := h4
  have lt4 : ∀ x ∈ p4, x.block < W.heap.size := by obtain ⟨m, hm⟩ := k4; exact DataW.trod_lt m _ _ _ hm
  obtain ⟨z4, w4⟩ : ∃ zs, IsRow .i64 W a4 len4 cap4 zs := by
    obtain ⟨fuel, hf⟩ := h4
    rcases open_ints Try.underlying22 Try.underlying3 (by kernel_rfl) hf with ⟨hcs, _⟩ | ⟨x, l, c, zs, hcs, _, hl, hm, hz, _, hcell, hwz⟩
    · simp [Value.cells] at hcs
      obtain ⟨rfl, rfl, rfl⟩ := hcs
      exact ⟨[], .inl ⟨rfl, rfl, rfl, rfl⟩⟩
    · simp [Value.cells] at hcs
      obtain ⟨rfl, rfl, rfl⟩ := hcs
      exact ⟨zs, .inr ⟨_, rfl, hl, hm, by simpa using hz, hcell, hwz⟩⟩
  clear hA0 hval0
  refine (PlanePoints_walk n0_0 n0_1 n0_2 n1_0 n1_1 n1_2 n2_0 n2_1 n2_2 a3 a4 len4 cap4 z4 W w3 w4).mono fun e W' ⟨he, bel⟩ => ?_
  subst he
  exact ⟨_, rfl, _, _, _, [], _, [], hW', trodAll_mk1 (shut_bool Try.underlying4 _), (trodAll_cons_mk (Below.trod laidOut (by kernel_rfl) (of_decide_eq_true (by kernel_rfl)) k0 bel lt0) (trodAll_cons_mk (Below.trod laidOut (by kernel_rfl) (of_decide_eq_true (by kernel_rfl)) k1 bel lt1) (trodAll_cons_mk (Below.trod laidOut (by kernel_rfl) (of_decide_eq_true (by kernel_rfl)) k2 bel lt2) (trodAll_cons_mk (shut_int Try.underlying3 w3) (trodAll_cons_mk (Below.trod laidOut (by kernel_rfl) (of_decide_eq_true (by kernel_rfl)) k4 bel lt4) trodAll_mk0))))), rfl, bel.frame _, fun h => by cases h⟩

theorem over : Rows.planePointsRow.holds Try.pinned (OpenSpec.ofChange Rows.planePointsSpec) :=
  OpenClaim.holds_of_wide 7 Try.f7 rfl rfl rfl rfl rfl rfl rfl ⟨rfl, rfl, rfl, rfl, rfl⟩ rfl rfl rfl rfl rfl (by kernel_rfl) Try.func7 (by kernel_rfl)
    (of_decide_eq_true (by kernel_rfl)) (by unfold Func.isWrapper; first | (rw [if_pos (by decide +kernel)]; kernel_rfl) | (rw [if_neg (by decide +kernel)]; exact ⟨rfl, rfl⟩))
    (fun os started H enc _ => lifted os started H enc)

/-- The statement. -/
theorem proved : Rows.PlanePointsSaid := over
#print axioms proved
end Go.Proofs.Ytggmgnmjloagbaa.planePoints
