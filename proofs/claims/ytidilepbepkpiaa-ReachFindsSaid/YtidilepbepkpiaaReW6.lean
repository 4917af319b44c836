/- The walk of ReachFinds. -/
import Derived.Test.YtidilepbepkpiaaReW5
namespace Go.Proofs.Ytidilepbepkpiaa
open Go.RowKit
set_option linter.unusedVariables false

/-- A graph, shut vertices and a vertex, however they came. -/
def InG (W : World) (r c u : Value) : Prop := ∃ (a : Option Addr) (n cp : Nat) (g : Gr) (a1 : Option Addr) (m c1 : Nat) (s : List Bool) (v : Int), r = .slice a n cp ∧ c = .slice a1 m c1 ∧ u = .int .i64 v ∧ ListsR none W a n g ∧ RowIn W a1 m 1 (bools s)
instance {w W : World} {B T : Nat} {ad : Option Addr} {len cap : Nat} {zs : List Int} {k : Nat} : Stay none w W (TapeAt w B T ad len cap zs k) (TapeAt W B T ad len cap zs k) := ⟨fun hg h => h.other hg⟩

set_option maxRecDepth 100000 in
set_option maxHeartbeats 6400000 in
theorem ReachFinds_walk (a0 : Option Addr) (len0 cap0 : Nat) (l0 : Gr) (b0 : Option Addr) (len1 cap1 : Nat) (l1 : List Bool) (a2 : Int) (a3 : Option Addr) (len3 cap3 : Nat) (z3 : List Int) (w : World)
    (w0 : ListsR none w a0 len0 l0) (w1 : RowIn w b0 len1 1 (bools l1)) (w3 : IsRow .i64 w a3 len3 cap3 z3) :
    Calls Try.prog 6 #[.slice a0 len0 cap0, .slice b0 len1 cap1, .int .i64 a2, .slice a3 len3 cap3] w fun e w' => e = .returned (.bool true) ∧ Below w.heap.size w w' := by
  have K0 : Hid (ListsR none w a0 len0 l0 ∧ RowIn w b0 len1 1 (bools l1)) := Lib.hid ⟨w0, w1⟩
  have r0 := Lib.hid w3
  clear w0 w1 w3
  go_enter Try.func6, Try.ntmps6
  go_wp2_with fail
  refine (known_any _).mono ?_
  rintro e w1 ⟨rfl, hg1⟩
  have T1 := Lib.hid (tape_new r0.out hg1 26)
  have g2 : w.grownBy (w1.alloc (.cells #[.slice a3 len3 cap3, .int .i64 0] 26)) none := grown_alloc _ hg1
  have K1 := keep g2 K0
  have G1 := Lib.hid g2
  have z1 := hg1.size
  clear hg1 g2 K0 r0
  go_wp2_with fail
  go_loopw [0, 1, 2, 10] (fun r c u i wr => ∃ k : Nat, k ≤ 2 ∧ i = .int .i64 k ∧ InG wr r c u ∧ (∃ kt : Nat, kt ≤ 300 * k ∧ TapeAt wr w1.heap.size 26 a3 len3 cap3 (z3.take len3) kt) ∧ w.grownBy wr none) (fun _ _ _ i _ => 2 - (intOf i).toNat)
  case atStart => exact ⟨0, by omega, rfl, ⟨a0, len0, cap0, l0, b0, len1, cap1, l1, a2, rfl, rfl, rfl, K1.out.1, K1.out.2⟩, ⟨0, by omega, T1.out⟩, G1.out⟩
  case round =>
    obtain ⟨k, hk, rfl, ⟨a, n, cp, g, a1, m, c1, s, v, rfl, rfl, rfl, hI1, hI2⟩, ⟨kt, hkt, hT⟩, hG⟩ := hrel
    have K : Hid (ListsR none wr a n g ∧ RowIn wr a1 m 1 (bools s) ∧ TapeAt wr w1.heap.size 26 a3 len3 cap3 (z3.take len3) kt ∧ w.grownBy wr none) := Lib.hid ⟨hI1, hI2, hT, hG⟩
    clear hI1 hI2 hT hG K1 T1 G1
    rcases (by omega : k = 0 ∨ k = 1 ∨ k = 2) with rfl | rfl | rfl
    · skip
      go_wp2_with fail
      refine (Rev_all a n cp g _ K.out.1).mono ?_
      rintro e x1 ⟨u1, rfl, hu, hg⟩
      have K1 := Lib.hid (And.intro hu (keep hg K).out)
      clear hu hg K
      go_wp2_with fail
      refine (rRev_all a n cp g _ K1.out.2.1).mono ?_
      rintro e x2 ⟨u2, rfl, hu, hg⟩
      have K2 := Lib.hid (And.intro hu (keep hg K1).out)
      clear hu hg K1
      go_wp2_with fail
      refine (From_all a n cp g a1 m c1 s v _ K2.out.2.2.1 K2.out.2.2.2.1).mono ?_
      rintro e x3 ⟨u3, rfl, hu, hg⟩
      have K3 := Lib.hid (And.intro hu (keep hg K2).out)
      clear hu hg K2
      go_wp2_with fail
      refine (rFrom_all a n cp g a1 m c1 s v _ K3.out.2.2.2.1 K3.out.2.2.2.2.1).mono ?_
      rintro e x4 ⟨u4, rfl, hu, hg⟩
      have K4 := Lib.hid (And.intro hu (keep hg K3).out)
      clear hu hg K3
      go_wp2_with fail
      refine (Valid_any a n cp g _ K4.out.2.2.2.2.1).mono ?_
      rintro e x5 ⟨rfl, rfl⟩
      go_wp2_with fail
      refine (rValid_any a n cp g _ K4.out.2.2.2.2.1).mono ?_
      rintro e x6 ⟨rfl, rfl⟩
      go_wp2_with fail
      refine (Same_lists K4.out.2.2.2.1 K4.out.2.2.1).mono ?_
      rintro e x7 ⟨rfl, hg⟩
      have K7 := keep hg K4
      clear hg K4
      go_wp2_with fail
      refine (Same_bools K7.out.2.1 K7.out.1).mono ?_
      rintro e x8 ⟨rfl, hg⟩
      have K8 := Lib.hid (keep hg K7).out.2.2.2.2
      clear hg K7
      go_wp2_with fail
      refine (Mut_all a n cp g a1 m c1 s _ K8.out.1 K8.out.2.1).mono ?_
      rintro e x9 ⟨rfl, hg⟩
      have K9 := keep hg K8
      clear hg K8
      go_wp2_with fail
      refine (rMut_all a n cp g a1 m c1 s _ K9.out.1 K9.out.2.1).mono ?_
      rintro e x10 ⟨rfl, hg⟩
      have K10 := keep hg K9
      clear hg K9
      go_wp2_with fail
      refine (Wth_all a n cp g a1 m c1 s _ K10.out.1 K10.out.2.1).mono ?_
      rintro e x11 ⟨u5, rfl, hu, hg⟩
      have K11 := Lib.hid (And.intro hu (keep hg K10).out)
      clear hu hg K10
      go_wp2_with fail
      refine (rWth_all a n cp g a1 m c1 s _ K11.out.2.1 K11.out.2.2.1).mono ?_
      rintro e x12 ⟨u6, rfl, hu, hg⟩
      have K12 := Lib.hid (And.intro hu (keep hg K11).out)
      clear hu hg K11
      go_wp2_with fail
      refine (Same_lists K12.out.2.1 K12.out.1).mono ?_
      rintro e x13 ⟨rfl, hg⟩
      have K13 := Lib.hid (keep hg K12).out.2.2
      clear hg K12
      go_wp2_with fail
      go_roundw
      case rel => exact ⟨1, by omega, by go_num, ⟨a, n, cp, g, a1, m, c1, s, v, rfl, rfl, rfl, K13.out.1, K13.out.2.1⟩, ⟨_, by omega, K13.out.2.2.1⟩, K13.out.2.2.2⟩
      case measure => simp [intOf]
    · go_wp2_with fail
      refine (Graph_any w1.heap.size 26 a3 len3 cap3 _ kt 10 _ K.out.2.2.1 (by omega) (by omega)).mono ?_
      rintro e y2 ⟨b, n, g, k2, rfl, hn8, hv, hO, hT, hk2, hg2⟩
      have T2 := Lib.hid hT
      have H2 : Hid (ListsR (some w1.heap.size) y2 (some ⟨b, 0, none⟩) n g) := Lib.hid (hO.lists (fun b hb => by obtain rfl := Option.some.inj hb; exact K.out.2.2.1.lt))
      have G2 : Hid (w.grownBy y2 none) := Lib.hid (grown_own K.out.2.2.2 hg2 (fun g hg => by obtain rfl := Option.some.inj hg; exact z1))
      have z2 := T2.out.lt
      clear hv hO hT hg2 K
      go_wp2_with fail
      refine (Shut_any w1.heap.size 26 a3 len3 cap3 _ k2 n _ T2.out (by omega) (by omega)).mono ?_
      rintro e y3 ⟨gs, s, k3, rfl, hs, hO, hz, hT, hk3, hg3⟩
      have K3 : Hid (ListsR (some w1.heap.size) y3 (some ⟨b, 0, none⟩) n g ∧ RowR (some w1.heap.size) y3 (some ⟨gs, 0, none⟩) n 1 (bools s)) := Lib.hid ⟨(keep hg3 H2).out, hO.row, fun x hx => by obtain rfl := Option.some.inj hx; simp; omega⟩
      have T3 := Lib.hid hT
      have G3 : Hid (w.grownBy y3 none) := Lib.hid (grown_own G2.out hg3 (fun g hg => by obtain rfl := Option.some.inj hg; exact z1))
      clear hs hO hz hT hg3 H2 G2 T2 z2
      go_wp2_with fail
      refine (Next_any w1.heap.size 26 a3 len3 cap3 _ k3 n _ T3.out (by omega) (by omega) (by omega)).mono ?_
      rintro e y4 ⟨rfl, hT, hg4⟩
      have K4 := keep hg4 K3
      have K : Hid (ListsR none y4 (some ⟨b, 0, none⟩) n g ∧ RowIn y4 (some ⟨gs, 0, none⟩) n 1 (bools s) ∧ TapeAt y4 w1.heap.size 26 a3 len3 cap3 (z3.take len3) (k3 + 1) ∧ w.grownBy y4 none) := Lib.hid ⟨K4.out.1.plain, K4.out.2.1, hT, grown_own G3.out hg4 (fun g hg => by obtain rfl := Option.some.inj hg; exact z1)⟩
      obtain ⟨v, hv⟩ : ∃ v, v = tnext (z3.take len3) k3 n := ⟨_, rfl⟩
      rw [← hv]
      obtain ⟨a, ha⟩ : ∃ a : Option Addr, a = some ⟨b, 0, none⟩ := ⟨_, rfl⟩
      obtain ⟨a1, ha1⟩ : ∃ a : Option Addr, a = some ⟨gs, 0, none⟩ := ⟨_, rfl⟩
      rw [← ha, ← ha1]
      rw [← ha, ← ha1] at K
      clear K3 K4 T3 G3 hT hg4 hv ha ha1
      go_wp2_with fail
      refine (Rev_all a n n g _ K.out.1).mono ?_
      rintro e x1 ⟨u1, rfl, hu, hg⟩
      have K1 := Lib.hid (And.intro hu (keep hg K).out)
      clear hu hg K
      go_wp2_with fail
      refine (rRev_all a n n g _ K1.out.2.1).mono ?_
      rintro e x2 ⟨u2, rfl, hu, hg⟩
      have K2 := Lib.hid (And.intro hu (keep hg K1).out)
      clear hu hg K1
      go_wp2_with fail
      refine (From_all a n n g a1 n n s v _ K2.out.2.2.1 K2.out.2.2.2.1).mono ?_
      rintro e x3 ⟨u3, rfl, hu, hg⟩
      have K3 := Lib.hid (And.intro hu (keep hg K2).out)
      clear hu hg K2
      go_wp2_with fail
      refine (rFrom_all a n n g a1 n n s v _ K3.out.2.2.2.1 K3.out.2.2.2.2.1).mono ?_
      rintro e x4 ⟨u4, rfl, hu, hg⟩
      have K4 := Lib.hid (And.intro hu (keep hg K3).out)
      clear hu hg K3
      go_wp2_with fail
      refine (Valid_any a n n g _ K4.out.2.2.2.2.1).mono ?_
      rintro e x5 ⟨rfl, rfl⟩
      go_wp2_with fail
      refine (rValid_any a n n g _ K4.out.2.2.2.2.1).mono ?_
      rintro e x6 ⟨rfl, rfl⟩
      go_wp2_with fail
      refine (Same_lists K4.out.2.2.2.1 K4.out.2.2.1).mono ?_
      rintro e x7 ⟨rfl, hg⟩
      have K7 := keep hg K4
      clear hg K4
      go_wp2_with fail
      refine (Same_bools K7.out.2.1 K7.out.1).mono ?_
      rintro e x8 ⟨rfl, hg⟩
      have K8 := Lib.hid (keep hg K7).out.2.2.2.2
      clear hg K7
      go_wp2_with fail
      refine (Mut_all a n n g a1 n n s _ K8.out.1 K8.out.2.1).mono ?_
      rintro e x9 ⟨rfl, hg⟩
      have K9 := keep hg K8
      clear hg K8
      go_wp2_with fail
      refine (rMut_all a n n g a1 n n s _ K9.out.1 K9.out.2.1).mono ?_
      rintro e x10 ⟨rfl, hg⟩
      have K10 := keep hg K9
      clear hg K9
      go_wp2_with fail
      refine (Wth_all a n n g a1 n n s _ K10.out.1 K10.out.2.1).mono ?_
      rintro e x11 ⟨u5, rfl, hu, hg⟩
      have K11 := Lib.hid (And.intro hu (keep hg K10).out)
      clear hu hg K10
      go_wp2_with fail
      refine (rWth_all a n n g a1 n n s _ K11.out.2.1 K11.out.2.2.1).mono ?_
      rintro e x12 ⟨u6, rfl, hu, hg⟩
      have K12 := Lib.hid (And.intro hu (keep hg K11).out)
      clear hu hg K11
      go_wp2_with fail
      refine (Same_lists K12.out.2.1 K12.out.1).mono ?_
      rintro e x13 ⟨rfl, hg⟩
      have K13 := Lib.hid (keep hg K12).out.2.2
      clear hg K12
      go_wp2_with fail
      go_roundw
      case rel => exact ⟨2, by omega, by go_num, ⟨a, n, n, g, a1, n, n, s, v, rfl, rfl, rfl, K13.out.1, K13.out.2.1⟩, ⟨_, by omega, K13.out.2.2.1⟩, K13.out.2.2.2⟩
      case measure => simp [intOf]
    · go_wp2_with fail
      go_ret
      exact ⟨rfl, grown_below K.out.2.2.2⟩
end Go.Proofs.Ytidilepbepkpiaa
