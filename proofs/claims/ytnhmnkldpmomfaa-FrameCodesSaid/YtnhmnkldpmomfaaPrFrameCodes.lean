/- For every input the law FrameCodes returns true and leaves its arguments as they were; no condition. -/
import Derived.Test.YtnhmnkldpmomfaaRows
import Derived.Test.YtnhmnkldpmomfaaFrCodes
import Derived.Test.YtnhmnkldpmomfaaOpen
import Derived.WalkKit
import Derived.ProofKit
import Derived.OpenShut
import Derived.ShutString
import Derived.ChangeOld
import Derived.Below
namespace Go.Proofs.Ytnhmnkldpmomfaa.frameCodes
open Go.ChangeShapes Go.WideShapes Go.ChangeAt Go.RowKit
open Go.ChangeMaps (open_string shut_string)
set_option linter.unusedVariables false

theorem own : ownKnob Try.prog.godebug = none := by kernel_rfl
theorem laidOut : laidOutB Try.prog = true := by kernel_rfl

set_option maxRecDepth 100000 in
theorem lifted (os : Os) (started : os.Started) (H : Type) (enc : TypeId × Value → H) :
    ReturnsInHanded {} Try.checked os 4 .any (Rows.frameCodesSpec.pre6 enc Try.prog Try.f4 Rows.frameCodesRow.domain false) (Rows.frameCodesSpec.post enc Try.prog Try.f4 false true false false) := by
  refine returnsInHanded_of_change (C := Try.checked) own started (by kernel_rfl) Try.func4
    (ChangeSpec.witness6 (enc := enc) (C := Try.checked) false ⟨#[], #[.agg #[.int .i64 0, .int .i64 0, .int .u64 0, .int .i64 0, .int .i64 0], .slice none 0 0, .slice none 0 0, .agg #[.int .i64 0, .int .i64 0]], []⟩ 8 (by kernel_rfl) (by kernel_rfl) (by kernel_rfl) (by kernel_rfl)) ?_
  intro W base args ds gs before hval0 hW hcnd _
  have hval : ∀ (j : Nat) t v, Try.f4.params[j]? = some t → args[j]? = some v → Value.okWide Try.prog W .any base t v := hval0
  have hW' := hW
  obtain ⟨p, q, hA0, hV, rfl, hfz, hnd⟩ := hW
  have hA : DataW.TrodAll enc Try.prog W 0 (fun _ => true) true Try.f4.params.toList args.toList ds p := hA0
  rw [Try.params4] at hA hval
  obtain ⟨v0, vs0, d0, ds0, p0, q0, hargs, rfl, rfl, h0, r0⟩ := trodAll_cons hA
  obtain ⟨v1, vs1, d1, ds1, p1, q1, rfl, rfl, rfl, h1, r1⟩ := trodAll_cons r0
  obtain ⟨v2, vs2, d2, ds2, p2, q2, rfl, rfl, rfl, h2, r2⟩ := trodAll_cons r1
  obtain ⟨v3, vs3, d3, ds3, p3, q3, rfl, rfl, rfl, h3, r3⟩ := trodAll_cons r2
  obtain ⟨rfl, rfl, rfl⟩ := trodAll_nil r3
  obtain rfl : args = #[v0, v1, v2, v3] := by cases args; simp_all
  obtain ⟨rfl, rfl⟩ := trodVars_none hV
  have k0 := h0
  have lt0 : ∀ x ∈ p0, x.block < W.heap.size := by obtain ⟨m, hm⟩ := k0; exact DataW.trod_lt m _ _ _ hm
  have hv0 := hval 0 26 v0 rfl rfl
  obtain ⟨cs0, ts0, rfl, hsz0, hts0, hcell0⟩ := structWide Try.underlying26 hv0
  have hct0 : Try.prog.cellTypes Try.prog.depth 26 = some [3, 3, 24, 3, 3] := by kernel_rfl
  obtain rfl : [3, 3, 24, 3, 3] = ts0 := Option.some.inj (hct0.symm.trans hts0)
  obtain ⟨c0_0, c0_1, c0_2, c0_3, c0_4, rfl⟩ := arr5 (hsz0.trans (show Try.prog.cellsOf 26 = 5 from by kernel_rfl))
  obtain ⟨u0_0, hu0_0, hc0_0⟩ := hcell0 0 c0_0 rfl
  obtain rfl : 3 = u0_0 := Option.some.inj hu0_0
  obtain ⟨n0_0, rfl, h0_0⟩ := cellWide_int Try.underlying3 hc0_0
  obtain ⟨u0_1, hu0_1, hc0_1⟩ := hcell0 1 c0_1 rfl
  obtain rfl : 3 = u0_1 := Option.some.inj hu0_1
  obtain ⟨n0_1, rfl, h0_1⟩ := cellWide_int Try.underlying3 hc0_1
  obtain ⟨u0_2, hu0_2, hc0_2⟩ := hcell0 2 c0_2 rfl
  obtain rfl : 24 = u0_2 := Option.some.inj hu0_2
  obtain ⟨n0_2, rfl, h0_2⟩ := cellWide_int Try.underlying24 hc0_2
  obtain ⟨u0_3, hu0_3, hc0_3⟩ := hcell0 3 c0_3 rfl
  obtain rfl : 3 = u0_3 := Option.some.inj hu0_3
  obtain ⟨n0_3, rfl, h0_3⟩ := cellWide_int Try.underlying3 hc0_3
  obtain ⟨u0_4, hu0_4, hc0_4⟩ := hcell0 4 c0_4 rfl
  obtain rfl : 3 = u0_4 := Option.some.inj hu0_4
  obtain ⟨n0_4, rfl, h0_4⟩ := cellWide_int Try.underlying3 hc0_4
  obtain ⟨a1, len1, cap1, rfl⟩ := okWide_slice Try.underlying31 (hval 1 31 v1 rfl rfl)
  have k1 := h1
  have lt1 : ∀ x ∈ p1, x.block < W.heap.size := by obtain ⟨m, hm⟩ := k1; exact DataW.trod_lt m _ _ _ hm
  obtain ⟨z1, w1⟩ : ∃ zs, IsRow .u8 W a1 len1 cap1 zs := by
    obtain ⟨fuel, hf⟩ := h1
    rcases open_ints Try.underlying31 Try.underlying5 (by kernel_rfl) hf with ⟨hcs, _⟩ | ⟨x, l, c, zs, hcs, _, hl, hm, hz, _, hcell, hwz⟩
    · simp [Value.cells] at hcs
      obtain ⟨rfl, rfl, rfl⟩ := hcs
      exact ⟨[], .inl ⟨rfl, rfl, rfl, rfl⟩⟩
    · simp [Value.cells] at hcs
      obtain ⟨rfl, rfl, rfl⟩ := hcs
      exact ⟨zs, .inr ⟨_, rfl, hl, hm, by simpa using hz, hcell, hwz⟩⟩
  obtain ⟨a2, len2, cap2, rfl⟩ := okWide_slice Try.underlying22 (hval 2 22 v2 rfl rfl)
  have k2 := h2
  have lt2 : ∀ x ∈ p2, x.block < W.heap.size := by obtain ⟨m, hm⟩ := k2; exact DataW.trod_lt m _ _ _ hm
  obtain ⟨z2, w2⟩ : ∃ zs, IsRow .i64 W a2 len2 cap2 zs := by
    obtain ⟨fuel, hf⟩ := h2
    rcases open_ints Try.underlying22 Try.underlying3 (by kernel_rfl) hf with ⟨hcs, _⟩ | ⟨x, l, c, zs, hcs, _, hl, hm, hz, _, hcell, hwz⟩
    · simp [Value.cells] at hcs
      obtain ⟨rfl, rfl, rfl⟩ := hcs
      exact ⟨[], .inl ⟨rfl, rfl, rfl, rfl⟩⟩
    · simp [Value.cells] at hcs
      obtain ⟨rfl, rfl, rfl⟩ := hcs
      exact ⟨zs, .inr ⟨_, rfl, hl, hm, by simpa using hz, hcell, hwz⟩⟩
  have k3 := h3
  have lt3 : ∀ x ∈ p3, x.block < W.heap.size := by obtain ⟨m, hm⟩ := k3; exact DataW.trod_lt m _ _ _ hm
  have hv3 := hval 3 36 v3 rfl rfl
  obtain ⟨cs3, ts3, rfl, hsz3, hts3, hcell3⟩ := arrayWide Try.underlying36 hv3
  have hct3 : Try.prog.cellTypes Try.prog.depth 36 = some [3, 3] := by kernel_rfl
  obtain rfl : [3, 3] = ts3 := Option.some.inj (hct3.symm.trans hts3)
  obtain ⟨c3_0, c3_1, rfl⟩ := arr2 (hsz3.trans (show Try.prog.cellsOf 36 = 2 from by kernel_rfl))
  obtain ⟨u3_0, hu3_0, hc3_0⟩ := hcell3 0 c3_0 rfl
  obtain rfl : 3 = u3_0 := Option.some.inj hu3_0
  obtain ⟨n3_0, rfl, h3_0⟩ := cellWide_int Try.underlying3 hc3_0
  obtain ⟨u3_1, hu3_1, hc3_1⟩ := hcell3 1 c3_1 rfl
  obtain rfl : 3 = u3_1 := Option.some.inj hu3_1
  obtain ⟨n3_1, rfl, h3_1⟩ := cellWide_int Try.underlying3 hc3_1
  clear hA0 hval0
  refine (FrameCodes_walk ⟨n0_0, n0_1, n0_2, n0_3, n0_4⟩ ⟨(has_u64 h0_2).1, (has_u64 h0_2).2⟩ a1 len1 cap1 z1 a2 len2 cap2 z2 n3_0 n3_1 W w1 w2 (wf_of_has h3_0) (wf_of_has h3_1)).mono fun e W' ⟨he, bel⟩ => ?_
  subst he
  exact ⟨_, rfl, _, _, _, [], _, [], hW', trodAll_mk1 (shut_bool Try.underlying4 _), (trodAll_cons_mk (Below.trod laidOut (by kernel_rfl) (of_decide_eq_true (by kernel_rfl)) k0 bel lt0) (trodAll_cons_mk (Below.trod laidOut (by kernel_rfl) (of_decide_eq_true (by kernel_rfl)) k1 bel lt1) (trodAll_cons_mk (Below.trod laidOut (by kernel_rfl) (of_decide_eq_true (by kernel_rfl)) k2 bel lt2) (trodAll_cons_mk (Below.trod laidOut (by kernel_rfl) (of_decide_eq_true (by kernel_rfl)) k3 bel lt3) trodAll_mk0)))), rfl, bel.frame _, fun h => by cases h⟩

theorem over : Rows.frameCodesRow.holds Try.pinned (OpenSpec.ofChange Rows.frameCodesSpec) :=
  OpenClaim.holds_of_wide 4 Try.f4 rfl rfl rfl rfl rfl rfl rfl ⟨rfl, rfl, rfl, rfl, rfl⟩ rfl rfl rfl rfl rfl (by kernel_rfl) Try.func4 (by kernel_rfl)
    (of_decide_eq_true (by kernel_rfl)) (by unfold Func.isWrapper; first | (rw [if_pos (by decide +kernel)]; kernel_rfl) | (rw [if_neg (by decide +kernel)]; exact ⟨rfl, rfl⟩))
    (fun os started H enc _ => lifted os started H enc)

/-- The statement. -/
theorem proved : Rows.FrameCodesSaid := over
#print axioms proved
end Go.Proofs.Ytnhmnkldpmomfaa.frameCodes
