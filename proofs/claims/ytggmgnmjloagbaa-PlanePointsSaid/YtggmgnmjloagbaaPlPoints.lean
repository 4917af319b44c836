/- The walk of PlanePoints. -/
import Derived.Test.YtggmgnmjloagbaaPlSame
import Derived.Test.YtggmgnmjloagbaaPlTurns
namespace Go.Proofs.Ytggmgnmjloagbaa
open Go.RowKit
set_option linter.unusedVariables false

theorem new_box3 {w w1 : World} {A B C : Obj} (hg : (((w.alloc A).alloc B).alloc C).grownBy w1 none) : w1.heap[w.heap.size]? = some A ∧ w1.heap[w.heap.size + 1]? = some B ∧ w1.heap[w.heap.size + 2]? = some C ∧ w.grownBy w1 none := boxes3 hg

set_option maxHeartbeats 4000000 in
theorem PlanePoints_walk (na : ByteArray) (a1 a2 : Int) (nb : ByteArray) (b1 b2 : Int) (nc : ByteArray) (c1 c2 : Int) (q : Int) (a4 : Option Addr) (len4 cap4 : Nat) (z4 : List Int) (w : World)
    (w3 : (Lit.int .i64 q).wf = true) (w4 : IsRow .i64 w a4 len4 cap4 z4) :
    Calls Try.prog 7 #[.agg #[.string na, .int .i64 a1, .int .i64 a2], .agg #[.string nb, .int .i64 b1, .int .i64 b2], .agg #[.string nc, .int .i64 c1, .int .i64 c2], .int .i64 q, .slice a4 len4 cap4] w fun e w' => e = .returned (.bool true) ∧ Below w.heap.size w w' := by
  have r4 := Lib.hid w4
  have hq := Lib.hid (wf_i64 w3)
  clear w4 w3
  go_enter Try.func7, Try.ntmps7
  go_wp2_with fail
  refine (known_any _).mono ?_
  rintro e w1 ⟨rfl, hg1⟩
  have K1 := Lib.hid (new_box3 hg1)
  have zz1 := lt_of_at K1.out.2.2.1
  clear hg1
  go_wp2_with fail
  refine (blocks_any a4 len4 cap4 z4 3 _ (isRow_kept r4.out K1.out.2.2.2) (by omega)).mono ?_
  rintro e w2 ⟨v, l, rfl, hl, hmade, hown, hg2⟩
  obtain ⟨B0, B1, B2, rfl⟩ := three hl
  obtain ⟨s0, x0, y0⟩ := B0
  obtain ⟨s1, x1, y1⟩ := B1
  obtain ⟨s2, x2, y2⟩ := B2
  obtain ⟨g, cap, rfl, hgb, hO⟩ := ownR_of_owns hown (by omega)
  simp only [List.flatMap_cons, List.flatMap_nil, Bk.cells, List.cons_append, List.nil_append, List.append_nil] at hO
  obtain ⟨hcap, hcap2⟩ := hO.capLe
  have K2 := keep hg2 K1
  have O2 := Lib.hid hO
  have zz2 := lt_of_at K2.out.2.2.1
  have zg := hO.lt
  clear hO hg2 K1 hown hmade hl r4
  go_wp2_with fail
  obtain ⟨q0, q1, q2, q3, q4, q5, q6, q7, q8⟩ := nine O2.out
  have y1' := after_at K2.out.1
  have y2' := after_at K2.out.2.1
  have y3' := after_at K2.out.2.2.1
  refine wp_region_after (by kernel_rfl) (by kernel_rfl) (grown_refl _ _) ?_
  repeat (go_big_quiet_step ((go_at_call 20; exact after_call (same_any _ _ _ _ _ _ _ _ _ _ _ hq.out))))
  refine wpQuiet_nil ?_
  rintro _ ⟨v3, rfl⟩
  have K3 := keep v3.grown K2
  clear q0 q1 q2 q3 q4 q5 q6 q7 q8 y1' y2' y3' K2 O2
  go_wp2_with fail
  go_ret
  exact ⟨rfl, grown_below K3.out.2.2.2⟩
end Go.Proofs.Ytggmgnmjloagbaa
