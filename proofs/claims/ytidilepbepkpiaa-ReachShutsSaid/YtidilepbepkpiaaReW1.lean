/- The walk of ReachReverses. -/
import Derived.Test.YtidilepbepkpiaaReKn
namespace Go.Proofs.Ytidilepbepkpiaa
open Go.RowKit
set_option linter.unusedVariables false

theorem same_marks {x y : List Bool} {i j : Nat} {p q : Bool} {A : Prop} (hx : x[i]? = some p) (hy : y[j]? = some q) (h1 : x[i]? = some true ↔ A) (h2 : y[j]? = some true ↔ A) : p = q := by
  rw [hx] at h1; rw [hy] at h2
  cases p <;> cases q <;> simp_all

set_option maxRecDepth 100000 in
set_option maxHeartbeats 3200000 in
theorem ReachReverses_walk (a0 : Option Addr) (len0 cap0 : Nat) (z0 : List Int) (w : World) (w0 : IsRow .i64 w a0 len0 cap0 z0) :
    Calls Try.prog 3 #[.slice a0 len0 cap0] w fun e w' => e = .returned (.bool true) ∧ Below w.heap.size w w' := by
  have r0 := Lib.hid w0
  clear w0
  go_enter Try.func3, Try.ntmps3
  go_wp2_with fail
  refine (known_any _).mono ?_
  rintro e w1 ⟨rfl, hg1⟩
  go_wp2_with fail
  refine (Graph_any w1.heap.size 26 a0 len0 cap0 _ 0 8 _ (tape_new r0.out hg1 _) (by omega) (by omega)).mono ?_
  rintro e w2 ⟨b, n, g, k2, rfl, hn8, hv, hO, hT, hk2, hg2⟩
  have V := Lib.hid hv
  have T2 := Lib.hid hT
  have H2 : Hid (ListsR (some w1.heap.size) w2 (some ⟨b, 0, none⟩) n g) := Lib.hid (hO.lists (fun b hb => by obtain rfl := Option.some.inj hb; simp))
  have G2 : Hid (w.grownBy w2 none) := Lib.hid (grown_own (grown_alloc _ hg1) hg2 (fun g hg => by obtain rfl := Option.some.inj hg; exact hg1.size))
  have z1 := hg1.size
  clear hv hO hT hg2 hg1 r0
  go_wp2_with fail
  refine (Shut_any w1.heap.size 26 a0 len0 cap0 _ k2 n _ T2.out (by omega) (by omega)).mono ?_
  rintro e w3 ⟨gs, s, k3, rfl, hs, hO, hz, hT, hk3, hg3⟩
  have K3 : Hid (ListsR none w3 (some ⟨b, 0, none⟩) n g ∧ RowIn w3 (some ⟨gs, 0, none⟩) n 1 (bools s) ∧ w.grownBy w3 none) := Lib.hid ⟨(keep hg3 H2).out.plain, hO.row, grown_own G2.out hg3 (fun g hg => by obtain rfl := Option.some.inj hg; exact z1)⟩
  have LS := Lib.hid hs
  have L := Lib.hid K3.out.1.len.1
  clear hs hO hz hT hg3 H2 G2 T2 z1 hk2 hk3
  go_wp2_with fail
  refine (Reverse_ok _ n n g _ K3.out.1 V.out).mono ?_
  rintro e w4 ⟨ra, rn, rc, rfl, f1, f2, f3, hR, hg4⟩
  have R4 := hR none (by simp)
  obtain rfl : rn = n := by have := R4.len.1; rw [rev_len] at this; have := L.out; omega
  have K4 := Lib.hid (And.intro R4 (keep hg4 K3).out)
  clear hR R4 hg4 K3
  go_wp2_with fail
  refine (Reverse_ok ra rn rc (rev g) _ K4.out.1 (rev_valid V.out)).mono ?_
  rw [rev_rev V.out]
  rintro e w5 ⟨ba, bn, bc, rfl, f1', f2', f3', hR, hg5⟩
  have R5 := hR none (by simp)
  obtain rfl : bn = rn := by have := R5.len.1; have := L.out; omega
  have K5 := keep hg5 K4
  have B5 := Lib.hid R5
  clear hR R5 hg5 K4
  go_wp2_with fail
  refine (SameLists_any ba _ bn bn bc bn g g _ B5.out K5.out.2.1).mono ?_
  rw [decide_eq_true rfl]
  rintro e w6 ⟨rfl, hg6⟩
  have K6 := keep hg6 K5
  clear hg6 K5 B5 f1' f2' f3'
  go_wp2_with fail
  go_loopw [10] (fun i wr => ∃ v : Nat, v ≤ bn ∧ i = .int .i64 v ∧ (ListsR none wr ra bn (rev g) ∧ ListsR none wr (some ⟨b, 0, none⟩) bn g ∧ RowIn wr (some ⟨gs, 0, none⟩) bn 1 (bools s) ∧ w.grownBy wr none)) (fun i _ => bn - (intOf i).toNat)
  case atStart => exact ⟨0, by omega, rfl, K6.out⟩
  case round =>
    obtain ⟨v, hv, rfl, hK⟩ := hrel
    have K := Lib.hid hK
    clear hK K6
    by_cases hvn : v < bn
    · have hv' : (v : Int) < bn := by omega
      go_wp2_with fail
      refine (From_ok _ bn bn g _ bn s v _ K.out.2.1 K.out.2.2.1 V.out hvn).mono ?_
      rintro e w7 ⟨A, c, X, rfl, f1', f2', f3', lx, hx, rx, hg7⟩
      have X7 := Lib.hid (rx none (by simp)).1
      have HX := Lib.hid hx
      have LX := Lib.hid lx
      have K7 := Lib.hid (And.intro X7.out (keep hg7 K).out)
      clear lx hx rx hg7 K X7
      go_wp2_with fail
      go_loopw [13] (fun i wr => ∃ j : Nat, j ≤ bn ∧ i = .int .i64 j ∧ (RowIn wr A bn 1 (bools X) ∧ ListsR none wr ra bn (rev g) ∧ ListsR none wr (some ⟨b, 0, none⟩) bn g ∧ RowIn wr (some ⟨gs, 0, none⟩) bn 1 (bools s) ∧ w.grownBy wr none)) (fun i _ => bn - (intOf i).toNat)
      case atStart => exact ⟨0, by omega, rfl, K7.out⟩
      case round =>
        obtain ⟨j, hj, rfl, hK⟩ := hrel
        have K := Lib.hid hK
        clear hK K7
        by_cases hjn : j < bn
        · have hj' : (j : Int) < bn := by omega
          go_wp2_with fail
          refine (From_ok ra bn rc (rev g) _ bn s j _ K.out.2.1 K.out.2.2.2.1 (rev_valid V.out) hjn).mono ?_
          rintro e w8 ⟨A2, c2, Y, rfl, f1'', f2'', f3'', ly, hy, ry, hg8⟩
          have Y8 := Lib.hid (ry none (by simp)).1
          have K8 := keep hg8 K
          obtain ⟨p, hp⟩ : ∃ p, X[j]? = some p := ⟨_, List.getElem?_eq_getElem (by rw [LX.out]; exact hjn)⟩
          obtain ⟨q, hq⟩ : ∃ q, Y[v]? = some q := ⟨_, List.getElem?_eq_getElem (by rw [ly]; exact hvn)⟩
          obtain rfl : p = q := same_marks hp hq (HX.out j) ((hy v).trans (reach_rev V.out))
          obtain ⟨b1, o1, rfl, zb1, d1⟩ := K8.out.1.bool hp
          obtain ⟨b2, o2, rfl, zb2, d2⟩ := Y8.out.bool hq
          clear ly hy ry hg8 hp hq K
          go_wp2_with fail
          go_quiet (fail)
          clear d1 d2 zb1 zb2 Y8
          go_wp2_with fail
          go_roundw
          case rel => exact ⟨j + 1, by omega, by go_num, (keep (grown_draw _ (grown_refl w8 none)) K8).out⟩
          case measure => simp [intOf]; omega
        · obtain rfl : j = bn := by omega
          clear hjn
          go_wp2_with fail
          go_roundw
          case rel => exact ⟨v + 1, by omega, by go_num, K.out.2⟩
          case measure => simp [intOf]; omega
    · obtain rfl : v = bn := by omega
      clear hvn
      go_wp2_with fail
      go_ret
      exact ⟨rfl, grown_below K.out.2.2.2⟩
end Go.Proofs.Ytidilepbepkpiaa
