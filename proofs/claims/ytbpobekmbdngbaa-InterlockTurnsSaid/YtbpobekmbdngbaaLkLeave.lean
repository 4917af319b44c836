/- The contracts of Leave (program and reference). -/
import Derived.Test.YtbpobekmbdngbaaLkRd
namespace Go.Proofs.Ytbpobekmbdngbaa
open Go.RowKit
set_option linter.unusedVariables false

def GiveLk3 (l : Lk) (c err : Int) (w : World) (e : Ending) (w' : World) : Prop :=
  ∃ v, e = .returned (.tuple #[v, .int .i64 c, .int .i64 err]) ∧ (∀ R, (∀ b, R = some b → b < w.heap.size) → LkV R w' v l) ∧ w.grownBy w' none
def leaveV (l : Lk) (r : Int) : Lk := if leaveE l r = 0 then leaveL l r else zeroL
def leaveC (l : Lk) (r : Int) : Int := if leaveE l r = 0 then waitsL l r else 0
theorem leave_bad {l : Lk} {r c : Int} (h : leaveE l r = c) (hc : c ≠ 0) : leaveV l r = zeroL ∧ leaveC l r = 0 := by
  unfold leaveV leaveC
  rw [if_neg (by rw [h]; exact hc), if_neg (by rw [h]; exact hc)]
  exact ⟨rfl, rfl⟩
theorem withL_nodup {r : Int} {x : List Int} {j : Nat} (h : x.Nodup) (hj : x[j]? = some r) : withL r x = x.take j ++ x.drop (j + 1) := by
  unfold withL
  induction x generalizing j with
  | nil => simp at hj
  | cons y x ih =>
    obtain ⟨h1, h2⟩ := List.nodup_cons.1 h
    cases j with
    | zero =>
      obtain rfl : y = r := by simpa using hj
      rw [List.filter_cons_of_neg (by simp), List.take_zero, List.nil_append, List.drop_succ_cons, List.drop_zero]
      exact List.filter_eq_self.2 (fun z hz => by simp; rintro rfl; exact h1 hz)
    | succ j =>
      have hj' : x[j]? = some r := by simpa using hj
      have hyr : y ≠ r := by rintro rfl; exact h1 (List.mem_of_getElem? hj')
      rw [List.filter_cons_of_pos (by simpa using hyr), ih h2 hj']
      simp
theorem VL.rowNodup {l : Lk} (h : VL l) {i : Nat} {x : List Int} (hx : l.q[i]? = some x) : x.Nodup := nodup_of_flatten h.nodup (List.mem_of_getElem? hx)
theorem leave_end {w X x3 : World} {g1 k1 g2 k2 base n k c' m : Nat} {A : Option Addr} {l : Lk} {ys : List Int} {u1 u2 : Value} (hO : OwnR X g1 k1 n 3 1 (ints l.own)) (hC : RdC X base g2 k2 n l.q) (hB : BoxRes w X u1 u2) (hk : k < n) (h2 : g1 ≠ g2) (hg2 : w.heap.size + 1 < g2)
    (ga : X.grownBy x3 none) (hr : RowIn x3 A m 1 (ints ys)) (hm : ys.length = m) (hc1 : m ≤ c') (hc2 : c' ≤ maxLen) (hc3 : A = none → c' = 0) (hbl : ∀ y, A = some y → base ≤ y.block ∧ y.block ≠ g2) :
    OwnR (x3.setCell ⟨g2, k, none⟩ (.slice A m c')) g1 k1 n 3 1 (ints l.own) ∧ RdC (x3.setCell ⟨g2, k, none⟩ (.slice A m c')) base g2 k2 n (l.q.set k ys) ∧ BoxRes w (x3.setCell ⟨g2, k, none⟩ (.slice A m c')) u1 u2 := by
  subst hm
  have gs : x3.grownBy (x3.setCell ⟨g2, k, none⟩ (.slice A ys.length c')) (some g2) := grown_set _ (grown_refl x3 _) (.inr rfl)
  exact ⟨(hO.kept ga (by simp)).kept gs (by simp; exact h2), hC.put hk ga hc1 hc2 hc3 hr hbl, (hB.kept ga (by simp)).kept gs (fun m hm => by obtain rfl := Option.some.inj hm; exact hg2)⟩

set_option maxRecDepth 100000 in
set_option maxHeartbeats 6400000 in
theorem Leave_any (v : Value) (l : Lk) (r : Int) (w : World) (h : LkV none w v l) :
    Calls Try.prog 16 #[v, .int .i64 r] w (GiveLk3 (leaveV l r) (leaveC l r) (leaveE l r) w) := by
  obtain ⟨a1, n1, c1, a2, n2, c2, rfl, h⟩ := h
  obtain ⟨l1, l2, m1, m2⟩ := h.len
  have L1 := Lib.hid l1
  have L2 := Lib.hid l2
  have K0 := keep (boxRes_new w (.slice a1 n1 c1) (.slice a2 n2 c2)).2.2 (Lib.hid h)
  have BR0 := Lib.hid (boxRes_new w (.slice a1 n1 c1) (.slice a2 n2 c2))
  clear h l1 l2
  go_enter Try.func16, Try.ntmps16
  go_wp2_with fail
  refine (checkRobot_any _ l r _ ⟨a1, n1, c1, a2, n2, c2, rfl, K0.out⟩).mono ?_
  rintro e w1 ⟨rfl, hg⟩
  have K1 := keep hg K0
  have BR := keep hg BR0
  clear hg K0 BR0
  by_cases hE : errR l r = 0
  rotate_left
  · have EE : Hid (leaveE l r = errR l r) := Lib.hid (by unfold leaveE; rw [if_pos hE])
    have EN : Hid (¬ errR l r = 0) := Lib.hid hE
    have t1 : (errR l r == 0) = false := beq_eq_false_iff_ne.2 hE
    have t2 : (errR l r != 0) = true := by simp [bne, t1]
    clear hE
    obtain ⟨ev, ec⟩ := leave_bad EE.out (by first | decide | exact EN.out)
    have EV := Lib.hid ev
    have EC := Lib.hid ec
    clear ev ec
    obtain ⟨s0, s1⟩ := two_get BR.out.2.1 (.slice none 0 0) (.slice none 0 0)
    obtain ⟨p1, p2, p3, p4, p5, p6⟩ := BR.out.facts
    have GZ := Lib.hid (BR.out.out (.slice none 0 0) (.slice none 0 0)).1
    clear BR
    go_wp2_with fail
    exact bodyPost_ret (v := .tuple #[lkV none 0 0 none 0 0, .int .i64 0, .int .i64 (errR l r)]) (by simp [results, Try.results16, go_sem, s0, s1]) rfl (by rw [EV.out, EC.out, EE.out]; exact ⟨_, rfl, fun R _ => lkV_zero R _, GZ.out⟩)
  obtain ⟨hv, hr1, hr2⟩ := errR_zero hE
  have HV := Lib.hid (valid_iff.2 hv)
  have VL0 := Lib.hid hv
  have h12 : n2 = n1 := by have := VL0.out.len; rw [L1.out, L2.out] at this; omega
  subst h12
  have E0 : Hid (leaveE l r = if waitsL l r < 0 then 25 else 0) := Lib.hid (by unfold leaveE; rw [if_neg (fun h => h hE)])
  rw [hE]
  clear hv hE
  obtain ⟨p1, p2, p3, p4, p5, p6⟩ := BR.out.facts
  go_wp2_with fail
  refine (waits_any _ l r _ ⟨_, _, _, _, _, _, rfl, K1.out⟩).mono ?_
  rintro e w2 ⟨rfl, hg⟩
  have K2 := keep hg K1
  have BR2 := keep hg BR
  clear hg K1 BR p1 p2 p3 p4 p5 p6
  have BR := BR2
  have K1 := K2
  clear BR2 K2
  rcases waits_spec l r with ⟨hw, -⟩ | ⟨k, x, hw, hx, hrx⟩
  · have EE : Hid (leaveE l r = 25) := Lib.hid (by rw [E0.out, hw]; rfl)
    rw [hw]
    clear hw
    obtain ⟨ev, ec⟩ := leave_bad EE.out (by first | decide | exact EN.out)
    have EV := Lib.hid ev
    have EC := Lib.hid ec
    clear ev ec
    obtain ⟨s0, s1⟩ := two_get BR.out.2.1 (.slice none 0 0) (.slice none 0 0)
    obtain ⟨p1, p2, p3, p4, p5, p6⟩ := BR.out.facts
    have GZ := Lib.hid (BR.out.out (.slice none 0 0) (.slice none 0 0)).1
    clear BR
    go_wp2_with fail
    exact bodyPost_ret (v := .tuple #[lkV none 0 0 none 0 0, .int .i64 0, .int .i64 (25)]) (by simp [results, Try.results16, go_sem, s0, s1]) rfl (by rw [EV.out, EC.out, EE.out]; exact ⟨_, rfl, fun R _ => lkV_zero R _, GZ.out⟩)
  have hkn : k < n2 := by have := (List.getElem?_eq_some_iff.1 hx).1; rw [L2.out] at this; exact this
  have EE : Hid (leaveE l r = 0) := Lib.hid (by rw [E0.out, hw, if_neg (by omega)])
  have EC : Hid (leaveC l r = k) := Lib.hid (by unfold leaveC; rw [if_pos EE.out, hw])
  have EV : Hid (leaveV l r = ⟨l.own, l.q.set k (withL r x)⟩) := Lib.hid (by unfold leaveV; rw [if_pos EE.out]; unfold leaveL withL; rw [hw, Int.toNat_natCast, qAt_of hx])
  have HX := Lib.hid hx
  have hx8 := VL0.out.row hx
  have hnd := Lib.hid (VL0.out.rowNodup hx)
  have hk' : (k : Int) < n2 := by omega
  have hk0 : decide ((k : Int) < 0) = false := by simp
  rw [hw]
  clear hw hx E0
  obtain ⟨p1, p2, p3, p4, p5, p6⟩ := BR.out.facts
  go_wp2_with fail
  refine (clone_any _ l _ ⟨_, _, _, _, _, _, rfl, K1.out⟩ HV.out).mono ?_
  rintro e w3 ⟨v1, v2, rfl, hF, hg⟩
  obtain ⟨g1, k1, g2, k2, base, rfl, rfl, f1, f2, f3, f4, f5, f6, hO, hC⟩ := hF.open (by rw [L1.out]; omega) (by rw [L2.out]; omega)
  rw [L1.out, L2.out] at *
  have BR3 := keep hg BR
  have zz := hg.size
  have zw6 := p6
  clear hg hF BR K1 p1 p2 p3 p4 p5 p6
  obtain ⟨p1, p2, p3, p4, p5, p6⟩ := BR3.out.facts
  obtain ⟨hcap1, hcap2⟩ := hO.capLe
  go_upto_region 8 with fail
  have gB := @boxRes_box w w3 (.slice (some ⟨g1, 0, none⟩) n2 k1) (.slice (some ⟨g2, 0, none⟩) n2 k2)
  have BX := Lib.hid (@BoxRes.put _ _ _ _ (.slice (some ⟨g1, 0, none⟩) n2 k1) (.slice (some ⟨g2, 0, none⟩) n2 k2) BR3.out)
  have O4 := Lib.hid (hO.kept gB (by simp; omega))
  have C4 := Lib.hid (hC.kept gB (fun b hb => by obtain rfl := Option.some.inj hb; omega))
  obtain ⟨X, hX⟩ : ∃ X, X = (w3.setCell ⟨w.heap.size, 0, none⟩ (.slice (some ⟨g1, 0, none⟩) n2 k1)).setCell ⟨w.heap.size, 1, none⟩ (.slice (some ⟨g2, 0, none⟩) n2 k2) := ⟨_, rfl⟩
  rw [← hX] at BX O4 C4 ⊢
  have zX : w3.heap.size ≤ X.heap.size := by rw [hX]; simp
  clear gB hO hC BR3 hX p1 p2 p3 p4 p5 p6
  obtain ⟨p1, p2, p3, p4, p5, p6⟩ := BX.out.facts
  obtain ⟨vx, q1, q2, hvx, hvg⟩ := C4.out.at HX.out
  have VG := Lib.hid hvg
  have zg2 := C4.out.lt
  obtain ⟨gx, kx, rfl, hgx, hOX⟩ := ownR_of_owns hvx (List.length_pos_of_mem hrx)
  have OX := Lib.hid hOX
  have hkx := hOX.capLe
  have hgg : gx ≠ g2 := fun e => hvg (by rw [e]; rfl)
  clear hvx hvg hOX
  rcases idxL_spec r x 0 with ⟨-, hn⟩ | ⟨j, hj, hxj, -⟩
  · exact absurd hrx hn
  rw [Nat.zero_add] at hj
  have hjl : j < x.length := (List.getElem?_eq_some_iff.1 hxj).1
  have WI : Hid (withL r x = x.take j ++ x.drop (j + 1)) := Lib.hid (withL_nodup hnd.out hxj)
  have JJ := Lib.hid hj
  clear hrx hxj hj
  go_wp2_with fail
  refine (Index_any (some ⟨gx, 0, none⟩) x.length kx x r _ OX.out.row).mono ?_
  rintro e w4 ⟨rfl, hw4⟩
  rw [hw4]
  clear hw4
  rw [JJ.out]
  have h1 : (j : Int) < x.length := by omega
  have h2 : (j : Int) ≤ kx := by omega
  have h3 : (j : Int) + 1 ≤ x.length := by omega
  have h4 : (j : Int) + 1 ≤ kx := by omega
  have h5 : (x.length : Int) ≤ kx := by omega
  have h6 : (j : Int) ≤ (j : Int) + 1 := by omega
  have h7 : (0 : Int) ≤ (j : Int) + 1 := by omega
  have u1 : IntKind.i64.wrap ((j : Int) + 1) = ((j + 1 : Nat) : Int) := by rw [IntWalk.i64_in _ (by omega)]; omega
  have CB : Hid (X.cell? ⟨w.heap.size, 1, none⟩ = some (.slice (some ⟨g2, 0, none⟩) n2 k2)) := Lib.hid (by rw [p1]; rfl)
  have RA : Hid (∀ W, X.grownBy W none → RowIn W (some ⟨gx, 0, none⟩) j 1 (ints (x.take j))) := Lib.hid (fun W hW => RowIn.kept (by
    have := OX.out.row.part 0 j (by omega)
    simpa [ints] using this) hW)
  go_upto_region 10 with fail
  go_cut [] (fun wx => OwnR wx g1 k1 n2 3 1 (ints l.own) ∧ RdC wx base g2 k2 n2 (l.q.set k (withL r x)) ∧ BoxRes w wx (.slice (some ⟨g1, 0, none⟩) n2 k1) (.slice (some ⟨g2, 0, none⟩) n2 k2))
  case first =>
    by_cases hkj : kx = j + 1
    · subst hkj
      have XL : Hid (x.length = j + 1) := Lib.hid (by omega)
      have RB : Hid (∀ W, X.grownBy W none → RowIn W (some ⟨gx, 0, none⟩) (0) 1 (ints (x.drop (j + 1)))) := Lib.hid (fun W hW => RowIn.kept ⟨by simp [ints]; have := XL.out; omega, Nat.zero_le _, .inl rfl⟩ hW)
      go_region_held3 (fun w' => w'.cell? ⟨w.heap.size, 1, none⟩ = some (.slice (some ⟨g2, 0, none⟩) n2 k2)) (first | assumption | exact CB.out | exact s3 | exact set_keep s3 (by simp; omega)) ((refine step_append_full St_int rfl (.tmp 40) (.tmp 44) rfl (b := gx) (off := 0) (n := j) (xs := ints (x.take j)) (ys := ints (x.drop (j + 1))) (by rfl) (RA.out _ (by repeat (first | assumption | exact grown_refl _ _ | refine grown_drew ?_ | refine grown_alloc _ ?_))) (B := (some ⟨gx, 0, none⟩)) (m := 0) (c := 0) (by rfl) (RB.out _ (by repeat (first | assumption | exact grown_refl _ _ | refine grown_drew ?_ | refine grown_alloc _ ?_))) (fun h => by cases h) (ints_one _) (ints_one _) (by omega) (by omega) ?_; intro g' off' c' x3 hrow hc1 hc2 hg3 hgl; have gA : X.grownBy x3 none := grown_trans (by repeat (first | assumption | exact grown_refl _ _ | refine grown_drew ?_ | refine grown_alloc _ ?_)) hg3; have s3 := (grown_cell gA p3 (by simp)).trans CB.out; obtain ⟨vz, q3, q4, -, -⟩ := (C4.out.kept gA (by simp)).at HX.out; have q5 := lt_of_cell q3; have RW := Lib.hid hrow; have HC2 := Lib.hid hc2; have HGL := Lib.hid hgl; clear hrow hc2 hg3 hgl))
      go_wp2_with fail
      go_meet
      have hzz : g' = gx ∨ g' = X.heap.size := HGL.out
      have RW2 : RowIn x3 (some ⟨g', off', none⟩) (j) 1 (ints (withL r x)) := by rw [WI.out]; simpa [ints] using RW.out
      exact leave_end O4.out C4.out.rd BX.out hkn f3 (by omega) gA RW2 (by rw [WI.out]; simp; omega) hc1 HC2.out (fun h => by cases h) (fun y hy => by obtain rfl := Option.some.inj hy; simp only; rcases hzz with h | h <;> constructor <;> omega)
    · have hne : ¬ kx - (j + 1) = 0 := by omega
      have RB : Hid (∀ W, X.grownBy W none → RowIn W (some ⟨gx, j + 1, none⟩) (x.length - (j + 1)) 1 (ints (x.drop (j + 1)))) := Lib.hid (fun W hW => RowIn.kept (by have := OX.out.row.part (j + 1) (x.length - (j + 1)) (by omega); rw [Nat.zero_add, Nat.mul_one, Nat.mul_one, List.take_of_length_le (by rw [List.length_drop, ints_len]; exact Nat.le_refl _)] at this; simpa [ints] using this) hW)
      go_region_held3 (fun w' => w'.cell? ⟨w.heap.size, 1, none⟩ = some (.slice (some ⟨g2, 0, none⟩) n2 k2)) (first | assumption | exact CB.out | exact s3 | exact set_keep s3 (by simp; omega)) ((refine step_append_full St_int rfl (.tmp 40) (.tmp 44) rfl (b := gx) (off := 0) (n := j) (xs := ints (x.take j)) (ys := ints (x.drop (j + 1))) (by rfl) (RA.out _ (by repeat (first | assumption | exact grown_refl _ _ | refine grown_drew ?_ | refine grown_alloc _ ?_))) (B := (some ⟨gx, j + 1, none⟩)) (m := x.length - (j + 1)) (c := kx - (j + 1)) (by rfl) (RB.out _ (by repeat (first | assumption | exact grown_refl _ _ | refine grown_drew ?_ | refine grown_alloc _ ?_))) (fun h => by cases h) (ints_one _) (ints_one _) (by omega) (by omega) ?_; intro g' off' c' x3 hrow hc1 hc2 hg3 hgl; have gA : X.grownBy x3 none := grown_trans (by repeat (first | assumption | exact grown_refl _ _ | refine grown_drew ?_ | refine grown_alloc _ ?_)) hg3; have s3 := (grown_cell gA p3 (by simp)).trans CB.out; obtain ⟨vz, q3, q4, -, -⟩ := (C4.out.kept gA (by simp)).at HX.out; have q5 := lt_of_cell q3; have RW := Lib.hid hrow; have HC2 := Lib.hid hc2; have HGL := Lib.hid hgl; clear hrow hc2 hg3 hgl))
      go_wp2_with fail
      go_meet
      have hzz : g' = gx ∨ g' = X.heap.size := HGL.out
      have RW2 : RowIn x3 (some ⟨g', off', none⟩) (j + (x.length - (j + 1))) 1 (ints (withL r x)) := by rw [WI.out]; simpa [ints] using RW.out
      exact leave_end O4.out C4.out.rd BX.out hkn f3 (by omega) gA RW2 (by rw [WI.out]; simp; omega) hc1 HC2.out (fun h => by cases h) (fun y hy => by obtain rfl := Option.some.inj hy; simp only; rcases hzz with h | h <;> constructor <;> omega)
  case rest =>
  obtain ⟨hO5, hC5, hBZ⟩ := hcut
  have O5 := Lib.hid hO5
  have C5 := Lib.hid hC5
  have BZ := Lib.hid hBZ
  clear hO5 hC5 hBZ
  obtain ⟨p1, p2, p3, p4, p5, p6⟩ := BZ.out.facts
  obtain ⟨s0, s1⟩ := two_get BZ.out.2.1 (.slice (some ⟨g1, 0, none⟩) n2 k1) (.slice (some ⟨g2, 0, none⟩) n2 k2)
  obtain ⟨hz1, hz2⟩ := BZ.out.out (.slice (some ⟨g1, 0, none⟩) n2 k1) (.slice (some ⟨g2, 0, none⟩) n2 k2)
  have GZ := Lib.hid hz1
  have O6 := Lib.hid (O5.out.kept hz2 (by simp; omega))
  have C6 := Lib.hid (C5.out.kept hz2 (fun b hb => by obtain rfl := Option.some.inj hb; omega))
  clear hz1 hz2 O5 C5 BZ
  go_wp2_with fail
  exact bodyPost_ret (v := .tuple #[lkV (some ⟨g1, 0, none⟩) n2 k1 (some ⟨g2, 0, none⟩) n2 k2, .int .i64 k, .int .i64 0]) (by simp [results, Try.results16, go_sem, s0, s1]) rfl (by rw [EV.out, EC.out, EE.out]; exact ⟨_, rfl, fun R hR => lkV_rd (l := ⟨l.own, l.q.set k (withL r x)⟩) O6.out C6.out (w0 := w.heap.size) (by omega) (by omega) (by omega) hR, GZ.out⟩)

set_option maxRecDepth 100000 in
set_option maxHeartbeats 6400000 in
theorem rLeave_any (v : Value) (l : Lk) (r : Int) (w : World) (h : LkV none w v l) :
    Calls Try.prog 28 #[v, .int .i64 r] w (GiveLk3 (leaveV l r) (leaveC l r) (leaveE l r) w) := by
  obtain ⟨a1, n1, c1, a2, n2, c2, rfl, h⟩ := h
  obtain ⟨l1, l2, m1, m2⟩ := h.len
  have L1 := Lib.hid l1
  have L2 := Lib.hid l2
  have K0 := keep (boxRes_new w (.slice a1 n1 c1) (.slice a2 n2 c2)).2.2 (Lib.hid h)
  have BR0 := Lib.hid (boxRes_new w (.slice a1 n1 c1) (.slice a2 n2 c2))
  clear h l1 l2
  go_enter Try.func28, Try.ntmps28
  go_wp2_with fail
  refine (robotOnly_any _ l r _ ⟨a1, n1, c1, a2, n2, c2, rfl, K0.out⟩).mono ?_
  rintro e w1 ⟨rfl, hg⟩
  have K1 := keep hg K0
  have BR := keep hg BR0
  clear hg K0 BR0
  by_cases hE : errR l r = 0
  rotate_left
  · have EE : Hid (leaveE l r = errR l r) := Lib.hid (by unfold leaveE; rw [if_pos hE])
    have EN : Hid (¬ errR l r = 0) := Lib.hid hE
    have t1 : (errR l r == 0) = false := beq_eq_false_iff_ne.2 hE
    have t2 : (errR l r != 0) = true := by simp [bne, t1]
    clear hE
    obtain ⟨ev, ec⟩ := leave_bad EE.out (by first | decide | exact EN.out)
    have EV := Lib.hid ev
    have EC := Lib.hid ec
    clear ev ec
    obtain ⟨s0, s1⟩ := two_get BR.out.2.1 (.slice none 0 0) (.slice none 0 0)
    obtain ⟨p1, p2, p3, p4, p5, p6⟩ := BR.out.facts
    have GZ := Lib.hid (BR.out.out (.slice none 0 0) (.slice none 0 0)).1
    clear BR
    go_wp2_with fail
    exact bodyPost_ret (v := .tuple #[lkV none 0 0 none 0 0, .int .i64 0, .int .i64 (errR l r)]) (by simp [results, Try.results28, go_sem, s0, s1]) rfl (by rw [EV.out, EC.out, EE.out]; exact ⟨_, rfl, fun R _ => lkV_zero R _, GZ.out⟩)
  obtain ⟨hv, hr1, hr2⟩ := errR_zero hE
  have HV := Lib.hid (valid_iff.2 hv)
  have VL0 := Lib.hid hv
  have h12 : n2 = n1 := by have := VL0.out.len; rw [L1.out, L2.out] at this; omega
  subst h12
  have E0 : Hid (leaveE l r = if waitsL l r < 0 then 25 else 0) := Lib.hid (by unfold leaveE; rw [if_neg (fun h => h hE)])
  rw [hE]
  clear hv hE
  obtain ⟨p1, p2, p3, p4, p5, p6⟩ := BR.out.facts
  go_wp2_with fail
  refine (rAt_any _ l r _ ⟨_, _, _, _, _, _, rfl, K1.out⟩).mono ?_
  rintro e w2 ⟨rfl, hg⟩
  have K2 := keep hg K1
  have BR2 := keep hg BR
  clear hg K1 BR p1 p2 p3 p4 p5 p6
  have BR := BR2
  have K1 := K2
  clear BR2 K2
  rcases waits_spec l r with ⟨hw, -⟩ | ⟨k, x, hw, hx, hrx⟩
  · have EE : Hid (leaveE l r = 25) := Lib.hid (by rw [E0.out, hw]; rfl)
    rw [hw]
    clear hw
    obtain ⟨ev, ec⟩ := leave_bad EE.out (by first | decide | exact EN.out)
    have EV := Lib.hid ev
    have EC := Lib.hid ec
    clear ev ec
    obtain ⟨s0, s1⟩ := two_get BR.out.2.1 (.slice none 0 0) (.slice none 0 0)
    obtain ⟨p1, p2, p3, p4, p5, p6⟩ := BR.out.facts
    have GZ := Lib.hid (BR.out.out (.slice none 0 0) (.slice none 0 0)).1
    clear BR
    go_wp2_with fail
    exact bodyPost_ret (v := .tuple #[lkV none 0 0 none 0 0, .int .i64 0, .int .i64 (25)]) (by simp [results, Try.results28, go_sem, s0, s1]) rfl (by rw [EV.out, EC.out, EE.out]; exact ⟨_, rfl, fun R _ => lkV_zero R _, GZ.out⟩)
  have hkn : k < n2 := by have := (List.getElem?_eq_some_iff.1 hx).1; rw [L2.out] at this; exact this
  have EE : Hid (leaveE l r = 0) := Lib.hid (by rw [E0.out, hw, if_neg (by omega)])
  have EC : Hid (leaveC l r = k) := Lib.hid (by unfold leaveC; rw [if_pos EE.out, hw])
  have EV : Hid (leaveV l r = ⟨l.own, l.q.set k (withL r x)⟩) := Lib.hid (by unfold leaveV; rw [if_pos EE.out]; unfold leaveL withL; rw [hw, Int.toNat_natCast, qAt_of hx])
  have HX := Lib.hid hx
  have hx8 := VL0.out.row hx
  have hnd := Lib.hid (VL0.out.rowNodup hx)
  have hk' : (k : Int) < n2 := by omega
  have hk0 : decide ((k : Int) < 0) = false := by simp
  rw [hw]
  clear hw hx E0
  obtain ⟨p1, p2, p3, p4, p5, p6⟩ := BR.out.facts
  go_wp2_with fail
  refine (rCopy_any _ l _ ⟨_, _, _, _, _, _, rfl, K1.out⟩ HV.out).mono ?_
  rintro e w3 ⟨v1, v2, rfl, hF, hg⟩
  obtain ⟨g1, k1, g2, k2, base, rfl, rfl, f1, f2, f3, f4, f5, f6, hO, hC⟩ := hF.open (by rw [L1.out]; omega) (by rw [L2.out]; omega)
  rw [L1.out, L2.out] at *
  have BR3 := keep hg BR
  have zz := hg.size
  have zw6 := p6
  clear hg hF BR K1 p1 p2 p3 p4 p5 p6
  obtain ⟨p1, p2, p3, p4, p5, p6⟩ := BR3.out.facts
  obtain ⟨hcap1, hcap2⟩ := hO.capLe
  go_upto_region 8 with fail
  have gB := @boxRes_box w w3 (.slice (some ⟨g1, 0, none⟩) n2 k1) (.slice (some ⟨g2, 0, none⟩) n2 k2)
  have BX := Lib.hid (@BoxRes.put _ _ _ _ (.slice (some ⟨g1, 0, none⟩) n2 k1) (.slice (some ⟨g2, 0, none⟩) n2 k2) BR3.out)
  have O4 := Lib.hid (hO.kept gB (by simp; omega))
  have C4 := Lib.hid (hC.kept gB (fun b hb => by obtain rfl := Option.some.inj hb; omega))
  obtain ⟨X, hX⟩ : ∃ X, X = (w3.setCell ⟨w.heap.size, 0, none⟩ (.slice (some ⟨g1, 0, none⟩) n2 k1)).setCell ⟨w.heap.size, 1, none⟩ (.slice (some ⟨g2, 0, none⟩) n2 k2) := ⟨_, rfl⟩
  rw [← hX] at BX O4 C4 ⊢
  have zX : w3.heap.size ≤ X.heap.size := by rw [hX]; simp
  clear gB hO hC BR3 hX p1 p2 p3 p4 p5 p6
  obtain ⟨p1, p2, p3, p4, p5, p6⟩ := BX.out.facts
  obtain ⟨vx, q1, q2, hvx, hvg⟩ := C4.out.at HX.out
  have VG := Lib.hid hvg
  have zg2 := C4.out.lt
  obtain ⟨AX, kx, rfl, e1, e2, e3, hRX⟩ := sliceIn_owns hvx
  have RX := Lib.hid hRX
  clear hvx hvg hRX hrx
  go_cut [] (fun wx => OwnR wx g1 k1 n2 3 1 (ints l.own) ∧ RdC wx base g2 k2 n2 (l.q.set k (withL r x)) ∧ BoxRes w wx (.slice (some ⟨g1, 0, none⟩) n2 k1) (.slice (some ⟨g2, 0, none⟩) n2 k2))
  case first =>
    go_region_with (go_at_call 49; refine (without_any AX x.length kx x r _ (RowIn.kept RX.out (by repeat (first | assumption | exact grown_refl _ _ | refine grown_drew ?_ | refine grown_alloc _ ?_))) (by omega)).mono ?_; rintro e x1 ⟨v3, rfl, hown1, hg1⟩; have gA : X.grownBy x1 none := grown_trans (by repeat (first | assumption | exact grown_refl _ _ | refine grown_drew ?_ | refine grown_alloc _ ?_)) hg1; have OA := Lib.hid hown1; have b1 := BX.out.kept gA (by simp); have y1 := (b1.facts).1; have y2 := (b1.facts).2.1; have y3 := (b1.facts).2.2.1; have zA := gA.size; obtain ⟨A3, k3, rfl, s1, s2, s3, s4⟩ := sliceIn_owns hown1; have SS := Lib.hid s4; have S3 := Lib.hid s3; have S2 := Lib.hid s2; clear s2 s3 s4; obtain ⟨vz, q3, q4, -, -⟩ := (C4.out.kept gA (by simp)).at HX.out; have q5 := lt_of_cell q3; clear hown1 hg1 b1)
    all_goals
      go_wp2_with fail
      go_meet
      exact leave_end O4.out C4.out.rd BX.out hkn f3 (by omega) gA SS.out rfl s1 S2.out S3.out (fun y hy => by subst hy; have hz : X.heap.size ≤ y.block := (OA.out.lt y.block rfl).1; constructor <;> omega)
  case rest =>
  obtain ⟨hO5, hC5, hBZ⟩ := hcut
  have O5 := Lib.hid hO5
  have C5 := Lib.hid hC5
  have BZ := Lib.hid hBZ
  clear hO5 hC5 hBZ
  obtain ⟨p1, p2, p3, p4, p5, p6⟩ := BZ.out.facts
  obtain ⟨s0, s1⟩ := two_get BZ.out.2.1 (.slice (some ⟨g1, 0, none⟩) n2 k1) (.slice (some ⟨g2, 0, none⟩) n2 k2)
  obtain ⟨hz1, hz2⟩ := BZ.out.out (.slice (some ⟨g1, 0, none⟩) n2 k1) (.slice (some ⟨g2, 0, none⟩) n2 k2)
  have GZ := Lib.hid hz1
  have O6 := Lib.hid (O5.out.kept hz2 (by simp; omega))
  have C6 := Lib.hid (C5.out.kept hz2 (fun b hb => by obtain rfl := Option.some.inj hb; omega))
  clear hz1 hz2 O5 C5 BZ
  go_wp2_with fail
  exact bodyPost_ret (v := .tuple #[lkV (some ⟨g1, 0, none⟩) n2 k1 (some ⟨g2, 0, none⟩) n2 k2, .int .i64 k, .int .i64 0]) (by simp [results, Try.results28, go_sem, s0, s1]) rfl (by rw [EV.out, EC.out, EE.out]; exact ⟨_, rfl, fun R hR => lkV_rd (l := ⟨l.own, l.q.set k (withL r x)⟩) O6.out C6.out (w0 := w.heap.size) (by omega) (by omega) (by omega) hR, GZ.out⟩)
end Go.Proofs.Ytbpobekmbdngbaa
