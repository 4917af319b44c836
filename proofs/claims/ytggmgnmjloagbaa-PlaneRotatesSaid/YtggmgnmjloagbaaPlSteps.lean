/- The walk of PlaneSteps. -/
import Derived.Test.YtggmgnmjloagbaaPlSame
import Derived.Test.YtggmgnmjloagbaaPlTurns2
namespace Go.Proofs.Ytggmgnmjloagbaa
open Go.RowKit
set_option linter.unusedVariables false

theorem bk_neq_self (s : ByteArray) (x y : Int) (W : World) :
    (binOp .neq 30 (.agg #[.string s, .int .i64 x, .int .i64 y]) (.agg #[.string s, .int .i64 x, .int .i64 y])).run Try.prog W = .ok (.bool false) W := by
  simp [binOp, Op.equal, Op.maxDepth, go_sem]

def corner (l : List Bk) (k : Nat) : Pt := (ring (pts l)).getD k (0, 0)
theorem corner_at {l : List Bk} {k : Nat} {t : Bk} (h : l[k]? = some t) : corner l k = t.p := by
  unfold corner; rw [List.getD_eq_getElem?_getD, ring_at (pts_at h)]; rfl
theorem corner_next {l : List Bk} {k n : Nat} {t : Bk} (hl : l.length = n) (hk : k < n) (h : l[(k + 1) % n]? = some t) : corner l (k + 1) = t.p := by
  have hp : (pts l).length = n := by simp [pts, hl]
  unfold corner; rw [List.getD_eq_getElem?_getD, ring_next (by rw [hp]; exact hk) (by rw [hp]; exact pts_at h)]; rfl
theorem corner_end {l : List Bk} {n : Nat} (hl : l.length = n) (hn : 0 < n) : corner l n = corner l 0 := by
  obtain ⟨t, ht⟩ : ∃ t, l[0]? = some t := ⟨_, List.getElem?_eq_getElem (by omega)⟩
  rw [corner_at ht]
  obtain ⟨m, rfl⟩ : ∃ m, n = m + 1 := ⟨n - 1, by omega⟩
  exact corner_next hl (by omega) (by rw [Nat.mod_self]; exact ht)

def StepsAt (l : List Bk) (n : Nat) (k : Nat) (s : Value) : Prop := ∃ re im, s = .complex .f64 re im ∧ Rep re ((corner l k).1 - (corner l 0).1) ∧ Rep im ((corner l k).2 - (corner l 0).2)
theorem back_succ {l : List Bk} {k : Nat} {t : Bk} (h : l[k]? = some t) : t.cells ++ (l.take k).reverse.flatMap Bk.cells = (l.take (k + 1)).reverse.flatMap Bk.cells := by
  rw [List.take_add_one, h]; simp
theorem made_at {l : List Bk} (h : Made l) {k : Nat} {t : Bk} (ht : l[k]? = some t) : ∃ p, t = ⟨⟨#[]⟩, p⟩ ∧ inB p := by
  have := h t (List.mem_of_getElem? ht)
  obtain ⟨nm, p⟩ := t
  obtain ⟨h1, h2⟩ := this
  exact ⟨p, by simp at h1; rw [h1], h2⟩

set_option maxRecDepth 100000 in
set_option maxHeartbeats 4000000 in
theorem PlaneSteps_walk (a0 : Option Addr) (len0 cap0 : Nat) (z0 : List Int) (a1 : Int) (w : World) (w0 : IsRow .i64 w a0 len0 cap0 z0) (w1 : (Lit.int .i64 a1).wf = true) :
    Calls Try.prog 6 #[.slice a0 len0 cap0, .int .i64 a1] w fun e w' => e = .returned (.bool true) ∧ Below w.heap.size w w' := by
  have r0 := Lib.hid w0
  obtain ⟨n, hn, hn1, hn8⟩ : ∃ n : Nat, (n : Int) = 1 + cut a1 8 ∧ 1 ≤ n ∧ n ≤ 8 := by
    have := cut_in a1 8 (by omega)
    exact ⟨(1 + cut a1 8).toNat, by omega, by omega, by omega⟩
  have hc1 := cut_in a1 8 (by omega)
  have HN := Lib.hid hn
  have HB1 := Lib.hid (wf_i64 w1)
  clear w0 w1 hn
  go_enter Try.func6, Try.ntmps6
  go_wp2_with fail
  refine (known_any _).mono ?_
  rintro e w1 ⟨rfl, hg1⟩
  have G1 := Lib.hid hg1
  clear hg1
  go_wp2_with fail
  refine (Cut_any _ _ _ HB1.out.1 HB1.out.2 (by omega) (by omega)).mono ?_
  rintro e w' ⟨rfl, rfl⟩
  go_wp2_with fail
  rw [← HN.out]
  refine (blocks_any a0 len0 cap0 z0 n _ (isRow_kept r0.out G1.out) (by omega)).mono ?_
  rintro e w2 ⟨v, l, rfl, hl, hmade, hown, hg2⟩
  obtain ⟨g, cap, rfl, hgb, hO⟩ := ownR_of_owns hown (by omega)
  obtain ⟨hcap, hcap2⟩ := hO.capLe
  have hR : rowB w2 (some ⟨g, 0, none⟩) n l := hO.row
  have R2 := Lib.hid hR
  have G2 := Lib.hid (grown_trans G1.out hg2)
  have M := Lib.hid hmade
  have L := Lib.hid hl
  have rz1 : Hid (Rep 0 ((corner l 0).1 - (corner l 0).1)) := Lib.hid (by rw [Int.sub_self]; exact rep0)
  have rz2 : Hid (Rep 0 ((corner l 0).2 - (corner l 0).2)) := Lib.hid (by rw [Int.sub_self]; exact rep0)
  clear hR hO hown hmade hl hg2 G1 r0 hgb hc1 HB1 HN
  go_wp2_with fail
  go_loopw [6, 7, 8] (fun s v i wr => ∃ k : Nat, k ≤ n ∧ i = .int .i64 k ∧ StepsAt l n k s ∧ wr.ownsRow w2.heap.size 30 3 v k ((l.take k).reverse.flatMap Bk.cells) ∧ w2.grownBy wr none) (fun _ _ i _ => n - (intOf i).toNat)
  case atStart => exact ⟨0, by omega, rfl, ⟨_, _, rfl, rz1.out, rz2.out⟩, World.ownsRow_nil _ _ _ _, grown_refl _ _⟩
  case round =>
    obtain ⟨k, hk, rfl, ⟨re, im, rfl, hre, him⟩, hown, hG⟩ := hrel
    obtain ⟨A, c, rfl, _, _, hAc, hrow⟩ := rowB_owns hown
    have O := Lib.hid hown
    have F : Hid (rowB wr (some ⟨g, 0, none⟩) n l ∧ w2.grownBy wr none) := ⟨RowIn.kept R2.out hG, hG⟩
    have HA := Lib.hid hAc
    have RB := Lib.hid hrow
    have RE := Lib.hid hre
    have IM := Lib.hid him
    have z2 := hG.size
    clear hown hG hrow hre him hAc
    by_cases hkn : k < n
    · have hml : (k + 1) % n < n := Nat.mod_lt _ (by omega)
      obtain ⟨t, ht⟩ : ∃ t, l[k]? = some t := ⟨_, List.getElem?_eq_getElem (by rw [L.out]; exact hkn)⟩
      obtain ⟨u, hu⟩ : ∃ u, l[(k + 1) % n]? = some u := ⟨_, List.getElem?_eq_getElem (by rw [L.out]; exact hml)⟩
      obtain ⟨⟨x, y⟩, rfl, it⟩ := made_at M.out ht
      obtain ⟨⟨x', y'⟩, rfl, iu⟩ := made_at M.out hu
      have ck := corner_at ht
      have ck1 := corner_next L.out hkn hu
      obtain ⟨t0, ht0⟩ : ∃ t, l[0]? = some t := ⟨_, List.getElem?_eq_getElem (by rw [L.out]; omega)⟩
      obtain ⟨⟨x0, y0⟩, rfl, i0⟩ := made_at M.out ht0
      have c0 := corner_at ht0
      rw [ck, c0] at RE IM
      simp only at RE IM
      have dx := fD_rep (x := x) (u := x') ⟨it.1, it.2.1⟩ ⟨iu.1, iu.2.1⟩
      have dy := fD_rep (x := y) (u := y') ⟨it.2.2.1, it.2.2.2⟩ ⟨iu.2.2.1, iu.2.2.2⟩
      obtain ⟨re', hre', Re'⟩ := rep_add RE.out dx.2 (by have := it.1; have := it.2.1; have := iu.1; have := iu.2.1; have := i0.1; have := i0.2.1; simp only at *; omega)
      obtain ⟨im', him', Im'⟩ := rep_add IM.out dy.2 (by have := it.2.2.1; have := it.2.2.2; have := iu.2.2.1; have := iu.2.2.2; have := i0.2.2.1; have := i0.2.2.2; simp only at *; omega)
      have hop := fun t w => run_complex_sum (P := Try.prog) w .add (Or.inl rfl) t .f64 _ _ _ _ _ _ (csum_of hre' him')
      have RE' : Hid (Rep re' ((corner l (k + 1)).1 - (corner l 0).1)) := Lib.hid (by rw [ck1, c0]; have e : x - x0 + (x' - x) = x' - x0 := by omega
                                                                                      rw [e] at Re'; exact Re')
      have IM' : Hid (Rep im' ((corner l (k + 1)).2 - (corner l 0).2)) := Lib.hid (by rw [ck1, c0]; have e : y - y0 + (y' - y) = y' - y0 := by omega
                                                                                      rw [e] at Im'; exact Im')
      have HB := Lib.hid (back_succ ht)
      have T := Lib.hid ht
      have I1 := Lib.hid it
      have I2 := Lib.hid iu
      obtain ⟨d0, d1, d2⟩ := block_after F.out.1 ht
      obtain ⟨e0, e1, e2⟩ := block_after F.out.1 hu
      rw [Nat.zero_add] at d0 d1 d2 e0 e1 e2
      have hk' : (k : Int) < n := by omega
      have hmod := mod_nat k n
      have hn0 : ¬ n = 0 := by omega
      have hn1 : ¬ (n : Int) = 0 := by omega
      have hmod2 : IntKind.i64.wrap ((k : Int) + 1) = (k : Int) + 1 := by rw [IntWalk.i64_in _ (by omega)]
      generalize (k + 1) % n = m at *
      have hm0 : (0 : Int) ≤ (m : Int) := by omega
      have hm1 : (m : Int) < n := by omega
      have hm2 : ((k : Int) + 1).tmod (n : Int) = (m : Int) := by rw [Int.tmod_eq_emod_of_nonneg (by omega)]; exact hmod
      have zg := lt_of_cell ((d0 ⟨wr, grown_refl _ _⟩))
      simp only at zg
      clear ht hu it iu ck ck1 ht0 i0 c0 dx dy hre' him' Re' Im' RE IM rz1 rz2
      go_wp2_with fail
      refine wp_region_after (by kernel_rfl) (by kernel_rfl) (grown_refl _ _) ?_
      repeat (go_big_quiet_step ((go_at_call 18; exact after_call (Step_ok _ _ _ _ _ _ _ I1.out I2.out))))
      refine wpQuiet_nil ?_
      rintro _ ⟨v3, rfl⟩
      have K3 := keep v3.grown (Lib.hid (And.intro F.out.1 (And.intro O.out (And.intro RB.out F.out.2))))
      have hz3 := v3.grown.size
      obtain ⟨W3, hW3⟩ : ∃ W3, W3 = v3.w := ⟨_, rfl⟩
      rw [← hW3] at K3 hz3 ⊢
      obtain ⟨c0, c1, c2⟩ := block_at0 K3.out.1 T.out
      simp only at c0 c1 c2
      have zg3 := lt_of_cell c0
      simp only at zg3
      have z3 : w2.heap.size ≤ W3.heap.size := Nat.le_trans z2 hz3
      have C4 := fun w => Rotate_ok ⟨#[]⟩ x y 4 w I1.out (by omega)
      have C3 := fun w => Rotate_ok ⟨#[]⟩ x y (-3) w I1.out (by omega)
      have C1 := fun w => Rotate_ok ⟨#[]⟩ x y 1 w I1.out (by omega)
      rw [show quarters 4 = 0 from by decide] at C4
      rw [show quarters (-3) = 1 from by decide] at C3
      rw [show quarters 1 = 1 from by decide] at C1
      simp only [rotN, rot1] at C4 C3 C1
      have C4' := Lib.hid C4
      have C3' := Lib.hid C3
      have C1' := Lib.hid C1
      have q1 := bk_neq_self ⟨#[]⟩ x y
      have q2 := bk_neq_self ⟨#[]⟩ (-y) x
      have Q1 := Lib.hid q1
      have Q2 := Lib.hid q2
      clear hW3 d0 d1 d2 e0 e1 e2 hop hmod hmod2 hm2 F O RB C4 C3 C1 q1 q2
      go_wp2_with (at_builtin; refine wpList_append_in St_block rfl (.tmp 51) (.tmp 52) rfl (by rfl) (World.ownsRow_lit (base := w2.heap.size) W3 #[.string ⟨#[]⟩, .int .i64 x, .int .i64 y] 1 z3 (by unfold maxLen; omega) rfl) (by rfl) (RowIn.kept K3.out.2.2.1 (grown_alloc _ (grown_refl _ _))) HA.out (flatC_one bk_one _) ?c1 ?c2 ?c3 ?_)
      case c1 => unfold maxLen; omega
      case c2 => omega
      case c3 => simp; omega
      intro v' w4 hown4 hg4 hloc
      clear hloc
      have g34 : W3.grownBy w4 none := grown_own (grown_alloc _ (grown_refl W3 none)) hg4 (fun g hg => by simp [Value.ownBlock] at hg; omega)
      have K4 := Lib.hid (And.intro (RowIn.kept K3.out.1 g34) (And.intro hown4 (grown_trans K3.out.2.2.2 g34)))
      obtain ⟨c0, c1, c2⟩ := block_at0 K4.out.1 T.out
      simp only at c0 c1 c2
      have zg4 := lt_of_cell c0
      simp only at zg4
      clear hown4 hg4 g34 K3
      go_wp2_with fail
      refine (C4'.out _).mono ?_
      rintro e w5 ⟨rfl, hg5⟩
      have K5 := keep hg5 K4
      obtain ⟨c0, c1, c2⟩ := block_at0 K5.out.1 T.out
      simp only at c0 c1 c2
      have zg5 := lt_of_cell c0
      simp only at zg5
      clear hg5 K4
      go_wp2_with fail
      refine (C3'.out _).mono ?_
      rintro e w6 ⟨rfl, hg6⟩
      have K6 := next_box hg6 K5
      obtain ⟨c0, c1, c2⟩ := block_at0 K6.out.1.1 T.out
      simp only at c0 c1 c2
      have zg6 := lt_of_cell c0
      simp only at zg6
      clear hg6 K5
      go_wp2_with fail
      refine (C1'.out _).mono ?_
      rintro e w7 ⟨rfl, hg7⟩
      have K7 := next_box hg7 K6
      obtain ⟨c0, c1, c2⟩ := block_at0 K7.out.1.1.1 T.out
      simp only at c0 c1 c2
      have zg7 := lt_of_cell c0
      simp only at zg7
      have p1 := (rules_at K7.out.1.2).1
      have p2 := (rules_at K7.out.2).1
      have zp1 := lt_of_at K7.out.1.2
      have zp2 := lt_of_at K7.out.2
      have q1 := Q1.out
      have q2 := Q2.out
      clear hg7 K6
      go_wp2_with fail
      go_quiet (fail)
      clear p1 p2 q1 q2 c0 c1 c2
      go_wp2_with fail
      go_roundw
      case rel =>
        refine ⟨k + 1, by omega, by go_num, ⟨_, _, rfl, RE'.out, IM'.out⟩, ?_, grown_draw _ (grown_alloc _ K7.out.1.1.2.2)⟩
        rw [← HB.out, Nat.add_comm k 1]
        exact K7.out.1.1.2.1.alloc _
      case measure => simp [intOf]; omega
    · obtain rfl : k = n := by omega
      have ce := corner_end L.out (by omega)
      have RE0 : Hid (Rep re 0) := Lib.hid (by have := RE.out; rw [ce, Int.sub_self] at this; exact this)
      have IM0 : Hid (Rep im 0) := Lib.hid (by have := IM.out; rw [ce, Int.sub_self] at this; exact this)
      have o1 := ord_eq RE0.out rfl
      have o2 := ord_eq IM0.out rfl
      have B := area_bds M.out (by rw [L.out]; omega)
      obtain ⟨B1, B2⟩ := B
      have MR : Hid (Made l.reverse) := Lib.hid (made_sub M.out (fun b hb => List.mem_reverse.1 hb))
      have RB' : Hid (rowB wr A k l.reverse) := Lib.hid (by have := RB.out; rwa [List.take_of_length_le (by rw [L.out]; exact Nat.le_refl _)] at this)
      have HE : Hid (areaI (pts l.reverse) = -areaI (pts l)) := Lib.hid (by rw [← area_reverse]; simp [pts])
      clear ce RE IM RB O hkn rz1 rz2
      go_wp2_with fail
      refine (Area_row F.out.1 M.out (by rw [L.out]; omega)).mono ?_
      rintro e w3 ⟨rfl, hg3⟩
      have K3 := keep hg3 (Lib.hid (And.intro RB'.out F.out.2))
      clear hg3 F RB'
      go_wp2_with fail
      refine (Area_row K3.out.1 MR.out (by simp [L.out]; omega)).mono ?_
      rw [HE.out]
      rintro e w4 ⟨rfl, hg4⟩
      have K4 := keep hg4 K3
      clear hg4 K3
      generalize areaI (pts l) = X at *
      go_wp2_with fail
      go_ret
      exact ⟨by simp, grown_below (grown_trans G2.out K4.out.2)⟩
end Go.Proofs.Ytggmgnmjloagbaa
