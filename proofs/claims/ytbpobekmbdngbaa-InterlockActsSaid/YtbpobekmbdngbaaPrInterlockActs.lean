/- For every input the law InterlockActs returns true and leaves its arguments as they were; no condition. -/
import Derived.Test.YtbpobekmbdngbaaRows
import Derived.Test.YtbpobekmbdngbaaLkW3
import Derived.Test.YtbpobekmbdngbaaOpen
import Derived.Test.YtbpobekmbdngbaaLkOpen
import Derived.WalkKit
import Derived.ProofKit
import Derived.OpenShut
import Derived.ShutString
import Derived.ChangeOld
import Derived.Below
namespace Go.Proofs.Ytbpobekmbdngbaa.interlockActs
open Go.ChangeShapes Go.WideShapes Go.ChangeAt Go.RowKit
open Go.ChangeMaps (open_string shut_string)
set_option linter.unusedVariables false

theorem own : ownKnob Try.prog.godebug = none := by kernel_rfl
theorem laidOut : laidOutB Try.prog = true := by kernel_rfl

set_option maxRecDepth 100000 in
theorem lifted (os : Os) (started : os.Started) (H : Type) (enc : TypeId × Value → H) :
    ReturnsInHanded {} Try.checked os 5 .any (Rows.interlockActsSpec.pre6 enc Try.prog Try.f5 Rows.interlockActsRow.domain false) (Rows.interlockActsSpec.post enc Try.prog Try.f5 false true false false) := by
  refine returnsInHanded_of_change (C := Try.checked) own started (by kernel_rfl) Try.func5
    (ChangeSpec.witness6 (enc := enc) (C := Try.checked) false ⟨#[], #[.agg #[.slice none 0 0, .slice none 0 0], .slice none 0 0, .agg #[.int .i64 0, .int .i64 0, .int .i64 0], .slice none 0 0], []⟩ 8 (by kernel_rfl) (by kernel_rfl) (by kernel_rfl) (by kernel_rfl)) ?_
  intro W base args ds gs before hval0 hW hcnd _
  have hval : ∀ (j : Nat) t v, Try.f5.params[j]? = some t → args[j]? = some v → Value.okWide Try.prog W .any base t v := hval0
  have hW' := hW
  obtain ⟨p, q, hA0, hV, rfl, hfz, hnd⟩ := hW
  have hA : DataW.TrodAll enc Try.prog W 0 (fun _ => true) true Try.f5.params.toList args.toList ds p := hA0
  rw [Try.params5] at hA hval
  obtain ⟨v0, vs0, d0, ds0, p0, q0, hargs, rfl, rfl, h0, r0⟩ := trodAll_cons hA
  obtain ⟨v1, vs1, d1, ds1, p1, q1, rfl, rfl, rfl, h1, r1⟩ := trodAll_cons r0
  obtain ⟨v2, vs2, d2, ds2, p2, q2, rfl, rfl, rfl, h2, r2⟩ := trodAll_cons r1
  obtain ⟨v3, vs3, d3, ds3, p3, q3, rfl, rfl, rfl, h3, r3⟩ := trodAll_cons r2
  obtain ⟨rfl, rfl, rfl⟩ := trodAll_nil r3
  obtain rfl : args = #[v0, v1, v2, v3] := by cases args; simp_all
  obtain ⟨rfl, rfl⟩ := trodVars_none hV
  have k0 := h0
  have lt0 : ∀ x ∈ p0, x.block < W.heap.size := by obtain ⟨m, hm⟩ := k0; exact DataW.trod_lt m _ _ _ hm
  have hv0 := hval 0 26 v0 rfl rfl
  obtain ⟨cs0, ts0, rfl, hsz0, _, _⟩ := structWide Try.underlying26 hv0
  obtain ⟨x0_0, x0_1, rfl⟩ := arr2 (hsz0.trans (show Try.prog.cellsOf 26 = 2 from by kernel_rfl))
  obtain ⟨a0_0, n0_0, c0_0, a0_1, n0_1, c0_1, l0, hcs0, w0⟩ := open_lock h0.choose_spec
  simp [Value.cells] at hcs0
  obtain ⟨rfl, rfl⟩ := hcs0
  obtain ⟨a1, len1, cap1, rfl⟩ := okWide_slice Try.underlying45 (hval 1 45 v1 rfl rfl)
  have k1 := h1
  have lt1 : ∀ x ∈ p1, x.block < W.heap.size := by obtain ⟨m, hm⟩ := k1; exact DataW.trod_lt m _ _ _ hm
  obtain ⟨_, _, _, l1, hcs1, w1⟩ := open_bools h1.choose_spec
  simp [Value.cells] at hcs1
  obtain ⟨rfl, rfl, rfl⟩ := hcs1
  have k2 := h2
  have lt2 : ∀ x ∈ p2, x.block < W.heap.size := by obtain ⟨m, hm⟩ := k2; exact DataW.trod_lt m _ _ _ hm
  have hv2 := hval 2 55 v2 rfl rfl
  obtain ⟨cs2, ts2, rfl, hsz2, hts2, hcell2⟩ := arrayWide Try.underlying55 hv2
  have hct2 : Try.prog.cellTypes Try.prog.depth 55 = some [3, 3, 3] := by kernel_rfl
  obtain rfl : [3, 3, 3] = ts2 := Option.some.inj (hct2.symm.trans hts2)
  obtain ⟨c2_0, c2_1, c2_2, rfl⟩ := arr3 (hsz2.trans (show Try.prog.cellsOf 55 = 3 from by kernel_rfl))
  obtain ⟨u2_0, hu2_0, hc2_0⟩ := hcell2 0 c2_0 rfl
  obtain rfl : 3 = u2_0 := Option.some.inj hu2_0
  obtain ⟨n2_0, rfl, h2_0⟩ := cellWide_int Try.underlying3 hc2_0
  obtain ⟨u2_1, hu2_1, hc2_1⟩ := hcell2 1 c2_1 rfl
  obtain rfl : 3 = u2_1 := Option.some.inj hu2_1
  obtain ⟨n2_1, rfl, h2_1⟩ := cellWide_int Try.underlying3 hc2_1
  obtain ⟨u2_2, hu2_2, hc2_2⟩ := hcell2 2 c2_2 rfl
  obtain rfl : 3 = u2_2 := Option.some.inj hu2_2
  obtain ⟨n2_2, rfl, h2_2⟩ := cellWide_int Try.underlying3 hc2_2
  obtain ⟨a3, len3, cap3, rfl⟩ := okWide_slice Try.underlying22 (hval 3 22 v3 rfl rfl)
  have k3 := h3
  have lt3 : ∀ x ∈ p3, x.block < W.heap.size := by obtain ⟨m, hm⟩ := k3; exact DataW.trod_lt m _ _ _ hm
  obtain ⟨z3, w3⟩ : ∃ zs, IsRow .i64 W a3 len3 cap3 zs := by
    obtain ⟨fuel, hf⟩ := h3
    rcases open_ints Try.underlying22 Try.underlying3 (by kernel_rfl) hf with ⟨hcs, _⟩ | ⟨x, l, c, zs, hcs, _, hl, hm, hz, _, hcell, hwz⟩
    · simp [Value.cells] at hcs
      obtain ⟨rfl, rfl, rfl⟩ := hcs
      exact ⟨[], .inl ⟨rfl, rfl, rfl, rfl⟩⟩
    · simp [Value.cells] at hcs
      obtain ⟨rfl, rfl, rfl⟩ := hcs
      exact ⟨zs, .inr ⟨_, rfl, hl, hm, by simpa using hz, hcell, hwz⟩⟩
  clear hA0 hval0
  refine (InterlockActs_walk a0_0 n0_0 c0_0 a0_1 n0_1 c0_1 l0 a1 len1 cap1 l1 n2_0 n2_1 n2_2 a3 len3 cap3 z3 W w0 w1.1 w3).mono fun e W' ⟨he, bel⟩ => ?_
  subst he
  exact ⟨_, rfl, _, _, _, [], _, [], hW', trodAll_mk1 (shut_bool Try.underlying4 _), (trodAll_cons_mk (Below.trod laidOut (by kernel_rfl) (of_decide_eq_true (by kernel_rfl)) k0 bel lt0) (trodAll_cons_mk (Below.trod laidOut (by kernel_rfl) (of_decide_eq_true (by kernel_rfl)) k1 bel lt1) (trodAll_cons_mk (Below.trod laidOut (by kernel_rfl) (of_decide_eq_true (by kernel_rfl)) k2 bel lt2) (trodAll_cons_mk (Below.trod laidOut (by kernel_rfl) (of_decide_eq_true (by kernel_rfl)) k3 bel lt3) trodAll_mk0)))), rfl, bel.frame _, fun h => by cases h⟩

theorem over : Rows.interlockActsRow.holds Try.pinned (OpenSpec.ofChange Rows.interlockActsSpec) :=
  OpenClaim.holds_of_wide 5 Try.f5 rfl rfl rfl rfl rfl rfl rfl ⟨rfl, rfl, rfl, rfl, rfl⟩ rfl rfl rfl rfl rfl (by kernel_rfl) Try.func5 (by kernel_rfl)
    (of_decide_eq_true (by kernel_rfl)) (by unfold Func.isWrapper; first | (rw [if_pos (by decide +kernel)]; kernel_rfl) | (rw [if_neg (by decide +kernel)]; exact ⟨rfl, rfl⟩))
    (fun os started H enc _ => lifted os started H enc)

/-- The statement. -/
theorem proved : Rows.InterlockActsSaid := over
#print axioms proved
end Go.Proofs.Ytbpobekmbdngbaa.interlockActs
