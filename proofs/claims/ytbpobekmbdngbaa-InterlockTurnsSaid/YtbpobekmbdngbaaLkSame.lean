/- The contracts of Same, SameInts, SameLists, sameGrants, Shut. -/
import Derived.Test.YtbpobekmbdngbaaLkNew
import Derived.Test.YtbpobekmbdngbaaInts
import Derived.Test.YtbpobekmbdngbaaAfter
namespace Go.Proofs.Ytbpobekmbdngbaa
open Go.RowKit
set_option linter.unusedVariables false

theorem Try.info_bool : (Try.prog.info? 4).map (fun i => (i.zero, i.size, i.bytes)) = some (some (.bool false), 1, 1) := by kernel_rfl
theorem St_bool : SliceT Try.prog 45 4 (.bool false) 1 1 := .mk' Try.underlying45 Try.info_bool rfl (by decide)

theorem made_falses (n : Nat) : (madeCells #[Value.bool false] n).toList = bools (List.replicate n false) := by
  unfold bools
  rw [List.map_replicate]
  apply List.ext_getElem?
  intro j
  simp only [madeCells, List.getElem?_replicate]
  by_cases h : j < n
  · simp only [h, if_pos]; simp [h, Nat.mod_one]
  · simp [h]
theorem bools_set (s : List Bool) (i : Nat) (b : Bool) : (bools s).set i (.bool b) = bools (s.set i b) := by
  unfold bools; rw [List.map_set]

def ShutP (B T : Nat) (ad : Option Addr) (len cap : Nat) (zs : List Int) (k n : Nat) (w : World) (e : Ending) (w' : World) : Prop := ∃ (g : Nat) (s : List Bool) (k' : Nat), e = .returned (.slice (some ⟨g, 0, none⟩) n n) ∧ s.length = n ∧ OwnR w' g n n 4 1 (bools s) ∧ w.heap.size ≤ g ∧
      TapeAt w' B T ad len cap zs k' ∧ k' ≤ k + 3 ∧ w.grownBy w' (some B)

set_option maxHeartbeats 1600000 in
theorem Shut_any (B T : Nat) (ad : Option Addr) (len cap : Nat) (zs : List Int) (k n : Nat) (w : World) (ht : TapeAt w B T ad len cap zs k) (hk : k < 10000) (hn : n ≤ 100) :
    Calls Try.prog 17 #[.pointer (some ⟨B, 0, none⟩), .int .i64 n] w (ShutP B T ad len cap zs k n w) := by
  obtain ⟨ib, hi, hz0, hz1, hz2⟩ := info_parts Try.info_bool
  have hib := Lib.hid hi
  have hib0 := Lib.hid hz0
  have hib1 := Lib.hid hz1
  have hib2 := Lib.hid hz2
  have HT := Lib.hid ht
  have zB := ht.lt
  clear ht hi hz0 hz1 hz2
  go_enter Try.func17, Try.ntmps17
  go_wp2_with (at_make; refine wpList_make_full _ rfl _ _ 45 rfl w.heap.size 4 ib _ 1 Try.underlying45 hib.out hib0.out hib1.out .i64 .i64 _ _ n rfl rfl (by omega) (by omega) (by rw [hib2.out]; omega) (by unfold maxLen; omega) (by omega) ?_)
  intro W2 hC hg2
  rw [made_falses] at hC
  obtain ⟨hO, _⟩ := ownR_of_slice hC
  have O2 := Lib.hid hO
  have T2 := Lib.hid (HT.out.other hg2)
  have G2 := Lib.hid (grown_weak (r := some B) hg2)
  clear hC hg2 hib hib0 hib1 hib2 hO HT
  go_wp2_with fail
  refine (Next_in _ _ _ _ _ _ _ 3 _ T2.out (by omega) (by omega) (by omega)).mono ?_
  rintro e w3 ⟨x, rfl, x0, x1, hT3, hg3⟩
  have K3 : Hid (OwnR w3 w.heap.size n n 4 1 (bools (List.replicate n false)) ∧ TapeAt w3 B T ad len cap zs (k + 1) ∧ w.grownBy w3 (some B)) := ⟨O2.out.kept hg3 (by simp; omega), hT3, grown_trans G2.out hg3⟩
  clear O2 T2 G2 hT3 hg3
  obtain ⟨m, rfl⟩ : ∃ m : Nat, x = m := ⟨x.toNat, by omega⟩
  have hm3 : m < 3 := by omega
  go_wp2_with fail
  go_loopw [6] (fun i wr => ∃ (j : Nat) (s : List Bool), j ≤ m ∧ i = .int .i64 j ∧ s.length = n ∧ OwnR wr w.heap.size n n 4 1 (bools s) ∧ TapeAt wr B T ad len cap zs (k + 1 + (m - j)) ∧ w.grownBy wr (some B)) (fun i _ => (intOf i).toNat)
  case atStart => exact ⟨m, List.replicate n false, Nat.le_refl _, rfl, by simp, K3.out.1, by rw [Nat.sub_self]; exact K3.out.2.1, K3.out.2.2⟩
  case round =>
    obtain ⟨j, s, hj, rfl, hs, hO, hT, hG⟩ := hrel
    have O := Lib.hid hO
    have T1 := Lib.hid hT
    have G := Lib.hid hG
    have S := Lib.hid hs
    have zG := hG.size
    clear hO hT hG hs K3
    by_cases hj0 : 0 < j
    · have hj0' : (0 : Int) < (j : Int) := by omega
      by_cases hn0 : 0 < n
      · have hn0' : (0 : Int) < (n : Int) := by omega
        go_wp2_with fail
        refine (Next_in _ _ _ _ _ _ _ n _ T1.out (by omega) (by omega) (by omega)).mono ?_
        rintro e w5 ⟨y, rfl, y0, y1, hT5, hg5⟩
        obtain ⟨q, rfl⟩ : ∃ q : Nat, y = q := ⟨y.toNat, by omega⟩
        have hO5 := O.out.kept hg5 (by simp; omega)
        have O5 := Lib.hid (hO5.set (i := q) (.bool true))
        have T5 := Lib.hid (hT5.set (p := ⟨w.heap.size, q, none⟩) (by simp; omega) (.bool true))
        have G5 := Lib.hid (grown_set (p := ⟨w.heap.size, q, none⟩) (.bool true) (grown_trans G.out hg5) (.inl (by simp)))
        obtain ⟨bq, hbq⟩ : ∃ b, s[q]? = some b := ⟨_, List.getElem?_eq_getElem (by rw [S.out]; omega)⟩
        have q1 := hO5.cell (i := q) (v := .bool bq) (by simp [bools, hbq])
        have q2 := hO5.free q
        have z5 := hO5.lt
        clear hO5 hT5 hg5 O T1 G hbq
        rw [bools_set] at O5
        go_wp2_with fail
        go_roundw
        case rel => exact ⟨j - 1, s.set q true, by omega, by rw [show ((j : Int) - 1) = ((j - 1 : Nat) : Int) by omega], by simp [S.out], O5.out, by rw [show k + 1 + (m - (j - 1)) = k + 1 + (m - j) + 1 by omega]; exact T5.out, G5.out⟩
        case measure => simp [intOf]; omega
      · have hn0' : ¬ (0 : Int) < (n : Int) := by omega
        go_wp2_with fail
        go_ret
        exact ⟨_, s, _, rfl, S.out, O.out, Nat.le_refl _, T1.out, by omega, G.out⟩
    · have hj0' : ¬ (0 : Int) < (j : Int) := by omega
      go_wp2_with fail
      go_ret
      exact ⟨_, s, _, rfl, S.out, O.out, Nat.le_refl _, T1.out, by omega, G.out⟩


set_option maxHeartbeats 800000 in
theorem rSameInts_any (a b : Option Addr) (n m c d : Nat) (zs ys : List Int) (w : World) (hz : RowIn w a n 1 (ints zs)) (hy : RowIn w b m 1 (ints ys)) :
    Calls Try.prog 38 #[.slice a n c, .slice b m d] w fun e w' => e = .returned (.bool (decide (zs = ys))) ∧ w.grownBy w' none := by
  have lz := hz.len1
  have ly := hy.len1
  have hm := hz.2.1
  have hm2 := hy.2.1
  unfold maxLen at hm hm2
  by_cases hnm : n = m
  · subst hnm
    have F0 : Hid (RowIn w a n 1 (ints zs) ∧ RowIn w b n 1 (ints ys) ∧ w.grownBy w none) := ⟨hz, hy, grown_refl w none⟩
    have LZ := Lib.hid lz
    have LY := Lib.hid ly
    clear hz hy lz ly
    go_enter Try.func38, Try.ntmps38
    go_wp2_with fail
    go_loopw [5] (fun i wr => ∃ k : Nat, k ≤ n ∧ i = .int .i64 k ∧ zs.take k = ys.take k ∧ (RowIn wr a n 1 (ints zs) ∧ RowIn wr b n 1 (ints ys) ∧ w.grownBy wr none)) (fun i _ => n - (intOf i).toNat)
    case atStart => exact ⟨0, by omega, rfl, rfl, F0.out⟩
    case round =>
      obtain ⟨k, hk, rfl, he, hF⟩ := hrel
      have E := Lib.hid he
      have F := Lib.hid hF
      clear he hF F0
      by_cases hkn : k < n
      · obtain ⟨u, hu⟩ : ∃ u, zs[k]? = some u := ⟨_, List.getElem?_eq_getElem (by rw [LZ.out]; exact hkn)⟩
        obtain ⟨v, hv⟩ : ∃ v, ys[k]? = some v := ⟨_, List.getElem?_eq_getElem (by rw [LY.out]; exact hkn)⟩
        obtain ⟨b1, o1, rfl, _, c1⟩ := F.out.1.int hu
        obtain ⟨b2, o2, rfl, _, c2⟩ := F.out.2.1.int hv
        have U := Lib.hid hu
        have V := Lib.hid hv
        have hk' : (k : Int) < n := by omega
        clear hu hv
        by_cases huv : u = v
        · have t1 : (u == v) = true := by simpa using huv
          have t2 : (u != v) = false := by simpa using huv
          have HE := Lib.hid huv
          clear huv
          go_wp2_with fail
          go_quiet (fail)
          clear c1 c2
          go_wp2_with fail
          go_roundw
          case rel => exact ⟨k + 1, by omega, by go_num, (take_eq_succ U.out V.out E.out).2 HE.out, (keep (grown_draw _ (grown_refl wr none)) F).out⟩
          case measure => simp [intOf]; omega
        · have t1 : (u == v) = false := by simpa using huv
          have t2 : (u != v) = true := by simpa using huv
          have HE := Lib.hid huv
          clear huv
          go_wp2_with fail
          go_quiet (fail)
          clear c1 c2
          go_wp2_with fail
          go_ret
          exact ⟨ret_bool (decide_eq_false (ne_of_at U.out V.out HE.out)).symm, grown_draw _ F.out.2.2⟩
      · obtain rfl : k = n := by omega
        go_wp2_with fail
        go_ret
        refine ⟨ret_bool (decide_eq_true ?_).symm, F.out.2.2⟩
        have := E.out
        rwa [List.take_of_length_le (by rw [LZ.out]; exact Nat.le_refl _), List.take_of_length_le (by rw [LY.out]; exact Nat.le_refl _)] at this
  · have H : Hid (zs ≠ ys) := Lib.hid (by rintro rfl; omega)
    have h1 : ¬ (n : Int) = m := by omega
    have h2 : ((n : Int) == m) = false := by simpa using h1
    have h3 : ((n : Int) != m) = true := by simpa using h1
    clear hz hy lz ly
    go_enter Try.func38, Try.ntmps38
    go_wp2_with fail
    go_ret
    exact ⟨ret_bool (decide_eq_false H.out).symm, grown_refl w _⟩

set_option maxHeartbeats 1600000 in
theorem SameLists_any (a b : Option Addr) (n m c d : Nat) (zs ys : List (List Int)) (w : World) (hz : ListsR none w a n zs) (hy : ListsR none w b m ys) :
    Calls Try.prog 20 #[.slice a n c, .slice b m d] w fun e w' => e = .returned (.bool (decide (zs = ys))) ∧ w.grownBy w' none := by
  obtain ⟨lz, hm⟩ := hz.len
  obtain ⟨ly, hm2⟩ := hy.len
  unfold maxLen at hm hm2
  by_cases hnm : n = m
  · subst hnm
    have F0 : Hid (ListsR none w a n zs ∧ ListsR none w b n ys ∧ w.grownBy w none) := ⟨hz, hy, grown_refl w none⟩
    have LZ := Lib.hid lz
    have LY := Lib.hid ly
    clear hz hy lz ly
    go_enter Try.func20, Try.ntmps20
    go_wp2_with fail
    go_loopw [5] (fun i wr => ∃ k : Nat, k ≤ n ∧ i = .int .i64 k ∧ zs.take k = ys.take k ∧ (ListsR none wr a n zs ∧ ListsR none wr b n ys ∧ w.grownBy wr none)) (fun i _ => n - (intOf i).toNat)
    case atStart => exact ⟨0, by omega, rfl, rfl, F0.out⟩
    case round =>
      obtain ⟨k, hk, rfl, he, hF⟩ := hrel
      have E := Lib.hid he
      have F := Lib.hid hF
      clear he hF F0
      by_cases hkn : k < n
      · obtain ⟨u, hu⟩ : ∃ u, zs[k]? = some u := ⟨_, List.getElem?_eq_getElem (by rw [LZ.out]; exact hkn)⟩
        obtain ⟨v, hv⟩ : ∃ v, ys[k]? = some v := ⟨_, List.getElem?_eq_getElem (by rw [LY.out]; exact hkn)⟩
        obtain ⟨b1, o1, A1, k1, rfl, z1, d1, _, _, _, r1⟩ := F.out.1.at hu
        obtain ⟨b2, o2, A2, k2, rfl, z2, d2, _, _, _, r2⟩ := F.out.2.1.at hv
        have U := Lib.hid hu
        have V := Lib.hid hv
        have R1 := Lib.hid r1.1
        have R2 := Lib.hid r2.1
        have hk' : (k : Int) < n := by omega
        clear hu hv r1 r2
        go_wp2_with fail
        have y1 : ∀ x : After wr, x.w.cell? ⟨b1, o1 + k, none⟩ = some (.slice A1 u.length k1) := fun x => (grown_cell x.grown z1 (by simp)).trans d1
        have y2 : ∀ x : After wr, x.w.cell? ⟨b2, o2 + k, none⟩ = some (.slice A2 v.length k2) := fun x => (grown_cell x.grown z2 (by simp)).trans d2
        have S : Hid (∀ x : After wr, Calls Try.prog 19 #[.slice A1 u.length k1, .slice A2 v.length k2] x.w fun e w' => e = .returned (.bool (decide (u = v))) ∧ x.w.grownBy w' none) := Lib.hid (fun x => SameInts_any _ _ _ _ _ _ _ _ _ (RowIn.kept R1.out x.grown) (RowIn.kept R2.out x.grown))
        by_cases huv : u = v
        · have HE := Lib.hid huv
          rw [decide_eq_true huv] at S
          clear huv
          refine wp_region_after (by kernel_rfl) (by kernel_rfl) (grown_refl _ _) ?_
          repeat (go_big_quiet_step ((go_at_call 19; exact after_call (S.out _))))
          refine wpQuiet_nil ?_
          rintro _ ⟨x, rfl⟩
          have F1 := keep x.grown F
          clear y1 y2 S R1 R2 d1 d2 F
          go_wp2_with fail
          go_roundw
          case rel => exact ⟨k + 1, by omega, by go_num, (take_eq_succ U.out V.out E.out).2 HE.out, F1.out⟩
          case measure => simp [intOf]; omega
        · have HE := Lib.hid huv
          rw [decide_eq_false huv] at S
          clear huv
          refine wp_region_after (by kernel_rfl) (by kernel_rfl) (grown_refl _ _) ?_
          repeat (go_big_quiet_step ((go_at_call 19; exact after_call (S.out _))))
          refine wpQuiet_nil ?_
          rintro _ ⟨x, rfl⟩
          have F1 := keep x.grown F
          clear y1 y2 S R1 R2 d1 d2 F
          go_wp2_with fail
          go_ret
          exact ⟨ret_bool (decide_eq_false (ne_of_at U.out V.out HE.out)).symm, F1.out.2.2⟩
      · obtain rfl : k = n := by omega
        go_wp2_with fail
        go_ret
        refine ⟨ret_bool (decide_eq_true ?_).symm, F.out.2.2⟩
        have := E.out
        rwa [List.take_of_length_le (by rw [LZ.out]; exact Nat.le_refl _), List.take_of_length_le (by rw [LY.out]; exact Nat.le_refl _)] at this
  · have H : Hid (zs ≠ ys) := Lib.hid (by rintro rfl; omega)
    have h1 : ¬ (n : Int) = m := by omega
    have h2 : ((n : Int) == m) = false := by simpa using h1
    have h3 : ((n : Int) != m) = true := by simpa using h1
    clear hz hy lz ly
    go_enter Try.func20, Try.ntmps20
    go_wp2_with fail
    go_ret
    exact ⟨ret_bool (decide_eq_false H.out).symm, grown_refl w _⟩

/-! ### Grants -/
def gc (g : Int × Int) : List Value := [.int .i64 g.1, .int .i64 g.2]
def grs (gs : List (Int × Int)) : List Value := gs.flatMap gc
theorem gc_len (g : Int × Int) : (gc g).length = 2 := rfl
theorem grs_len (gs : List (Int × Int)) : (grs gs).length = gs.length * 2 := flatC_length gc 2 gc_len gs
theorem grs_one (gs : List (Int × Int)) : ∀ u ∈ grs gs, u.oneCell' = true := flatC_one (fun x u hu => by
  simp [gc] at hu
  rcases hu with rfl | rfl <;> rfl) gs
theorem grs_cell {w : World} {a : Option Addr} {n : Nat} {gs : List (Int × Int)} (h : RowIn w a n 2 (grs gs)) {k : Nat} {g : Int × Int} (hk : gs[k]? = some g) :
    ∃ b off, a = some ⟨b, off, none⟩ ∧ b < w.heap.size ∧ w.cell? ⟨b, off + k * 2, none⟩ = some (.int .i64 g.1) ∧ w.cell? ⟨b, off + k * 2 + 1, none⟩ = some (.int .i64 g.2) := by
  obtain ⟨b, off, e, hb, hc⟩ := flatC_cell gc 2 gc_len h (by omega) hk
  exact ⟨b, off, e, hb, hc 0 _ rfl, hc 1 _ rfl⟩
theorem grs_n {w : World} {a : Option Addr} {n : Nat} {gs : List (Int × Int)} (h : RowIn w a n 2 (grs gs)) : gs.length = n := by
  have := h.1
  rw [grs_len] at this
  omega

set_option maxHeartbeats 1600000 in
theorem sameGrants_any (a b : Option Addr) (n m c d : Nat) (zs ys : List (Int × Int)) (w : World) (hz : RowIn w a n 2 (grs zs)) (hy : RowIn w b m 2 (grs ys)) :
    Calls Try.prog 40 #[.slice a n c, .slice b m d] w fun e w' => e = .returned (.bool (decide (zs = ys))) ∧ w.grownBy w' none := by
  have lz := grs_n hz
  have ly := grs_n hy
  have hm := hz.2.1
  have hm2 := hy.2.1
  unfold maxLen at hm hm2
  by_cases hnm : n = m
  · subst hnm
    have F0 : Hid (RowIn w a n 2 (grs zs) ∧ RowIn w b n 2 (grs ys) ∧ w.grownBy w none) := ⟨hz, hy, grown_refl w none⟩
    have LZ := Lib.hid lz
    have LY := Lib.hid ly
    clear hz hy lz ly
    go_enter Try.func40, Try.ntmps40
    go_wp2_with fail
    go_loopw [5] (fun i wr => ∃ k : Nat, k ≤ n ∧ i = .int .i64 k ∧ zs.take k = ys.take k ∧ (RowIn wr a n 2 (grs zs) ∧ RowIn wr b n 2 (grs ys) ∧ w.grownBy wr none)) (fun i _ => n - (intOf i).toNat)
    case atStart => exact ⟨0, by omega, rfl, rfl, F0.out⟩
    case round =>
      obtain ⟨k, hk, rfl, he, hF⟩ := hrel
      have E := Lib.hid he
      have F := Lib.hid hF
      clear he hF F0
      by_cases hkn : k < n
      · obtain ⟨⟨u1, u2⟩, hu⟩ : ∃ u, zs[k]? = some u := ⟨_, List.getElem?_eq_getElem (by rw [LZ.out]; exact hkn)⟩
        obtain ⟨⟨v1, v2⟩, hv⟩ : ∃ v, ys[k]? = some v := ⟨_, List.getElem?_eq_getElem (by rw [LY.out]; exact hkn)⟩
        obtain ⟨b1, o1, rfl, zb1, c1, c2⟩ := grs_cell F.out.1 hu
        obtain ⟨b2, o2, rfl, zb2, c3, c4⟩ := grs_cell F.out.2.1 hv
        have U := Lib.hid hu
        have V := Lib.hid hv
        have hk' : (k : Int) < n := by omega
        clear hu hv
        by_cases huv : u1 = v1 ∧ u2 = v2
        · obtain ⟨rfl, rfl⟩ := huv
          go_wp2_with fail
          go_quiet (fail)
          clear c1 c2 c3 c4
          go_wp2_with fail
          go_roundw
          case rel => exact ⟨k + 1, by omega, by go_num, (take_eq_succ U.out V.out E.out).2 rfl, (keep (grown_draw _ (grown_refl wr none)) F).out⟩
          case measure => simp [intOf]; omega
        · have HE : Hid ((u1, u2) ≠ (v1, v2)) := Lib.hid (fun h => huv (by simpa using h))
          by_cases h1 : u1 = v1
          · subst h1
            have h2 : ¬ u2 = v2 := fun h => huv ⟨rfl, h⟩
            have t1 : (u2 == v2) = false := beq_eq_false_iff_ne.2 h2
            clear huv h2
            go_wp2_with fail
            go_quiet (fail)
            clear c1 c2 c3 c4
            go_wp2_with fail
            go_ret
            exact ⟨ret_bool (decide_eq_false (ne_of_at U.out V.out HE.out)).symm, grown_draw _ F.out.2.2⟩
          · have t1 : (u1 == v1) = false := beq_eq_false_iff_ne.2 h1
            clear huv h1
            go_wp2_with fail
            go_quiet (fail)
            clear c1 c2 c3 c4
            go_wp2_with fail
            go_ret
            exact ⟨ret_bool (decide_eq_false (ne_of_at U.out V.out HE.out)).symm, grown_draw _ F.out.2.2⟩
      · obtain rfl : k = n := by omega
        go_wp2_with fail
        go_ret
        refine ⟨ret_bool (decide_eq_true ?_).symm, F.out.2.2⟩
        have := E.out
        rwa [List.take_of_length_le (by rw [LZ.out]; exact Nat.le_refl _), List.take_of_length_le (by rw [LY.out]; exact Nat.le_refl _)] at this
  · have H : Hid (zs ≠ ys) := Lib.hid (by rintro rfl; omega)
    have h1 : ¬ (n : Int) = m := by omega
    have h2 : ((n : Int) == m) = false := by simpa using h1
    have h3 : ((n : Int) != m) = true := by simpa using h1
    clear hz hy lz ly
    go_enter Try.func40, Try.ntmps40
    go_wp2_with fail
    go_ret
    exact ⟨ret_bool (decide_eq_false H.out).symm, grown_refl w _⟩

/-! ### Same -/
def sameL (l m : Lk) : Bool := decide (l.own = m.own) && decide (l.q = m.q)
theorem sameL_own {l m : Lk} (h : l.own ≠ m.own) : sameL l m = false := by unfold sameL; rw [decide_eq_false h]; rfl
theorem sameL_q {l m : Lk} (h : l.q ≠ m.q) : sameL l m = false := by unfold sameL; rw [decide_eq_false h, Bool.and_false]
theorem sameL_eq {l m : Lk} (h : l.own = m.own) (k : l.q = m.q) : sameL l m = true := by unfold sameL; rw [decide_eq_true h, decide_eq_true k]; rfl

set_option maxRecDepth 100000 in
set_option maxHeartbeats 6400000 in
theorem rSame_any (v u : Value) (l m : Lk) (w : World) (h : LkV none w v l) (k : LkV none w u m) :
    Calls Try.prog 22 #[v, u] w fun e w' => e = .returned (.bool (sameL l m)) ∧ w.grownBy w' none := by
  obtain ⟨a1, n1, c1, a2, n2, c2, rfl, h⟩ := h
  obtain ⟨b1, m1, d1, b2, m2, d2, rfl, k⟩ := k
  obtain ⟨l1, l2, x1, x2⟩ := h.len
  obtain ⟨l3, l4, x3, x4⟩ := k.len
  have L1 := Lib.hid l1
  have L2 := Lib.hid l2
  have L3 := Lib.hid l3
  have L4 := Lib.hid l4
  have H := Lib.hid h
  have K := Lib.hid k
  obtain ⟨W0, hW0⟩ : ∃ W0, W0 = (w.alloc (.cells #[.slice a1 n1 c1, .slice a2 n2 c2] 26)).alloc (.cells #[.slice b1 m1 d1, .slice b2 m2 d2] 26) := ⟨_, rfl⟩
  have B1 : Hid (W0.heap[w.heap.size]? = some (.cells #[.slice a1 n1 c1, .slice a2 n2 c2] 26 (0, 0)) ∧ W0.heap[w.heap.size + 1]? = some (.cells #[.slice b1 m1 d1, .slice b2 m2 d2] 26 (0, 0)) ∧ w.grownBy W0 none) := Lib.hid (by
    rw [hW0]
    refine ⟨at_alloc _ (at_new w _), ?_, grown_alloc _ (grown_alloc _ (grown_refl _ _))⟩
    have := at_new (w.alloc (.cells #[.slice a1 n1 c1, .slice a2 n2 c2] 26)) (.cells #[.slice b1 m1 d1, .slice b2 m2 d2] 26)
    rw [World.size_alloc] at this
    exact this)
  clear h k l1 l2 l3 l4
  by_cases h1 : n1 = m1
  rotate_left
  · have E : Hid (sameL l m = false) := Lib.hid (sameL_own (fun e => h1 (by rw [← L1.out, ← L3.out, e])))
    have t1 : ((n1 : Int) == m1) = false := beq_eq_false_iff_ne.2 (by omega)
    have t2 : ((n1 : Int) != m1) = true := by simp [bne, t1]
    clear h1
    go_enter Try.func22, Try.ntmps22
    go_upto_region 1 with fail
    rw [← hW0]
    clear hW0
    have p1 := (rules_at B1.out.1).1
    have p2 := (rules_at B1.out.2.1).1
    have zb1 := lt_of_at B1.out.1
    have zb2 := lt_of_at B1.out.2.1
    go_wp2_with fail
    go_ret
    exact ⟨ret_bool E.out.symm, B1.out.2.2⟩
  subst h1
  by_cases h2 : n2 = m2
  rotate_left
  · have E : Hid (sameL l m = false) := Lib.hid (sameL_q (fun e => h2 (by rw [← L2.out, ← L4.out, e])))
    have t1 : ((n2 : Int) == m2) = false := beq_eq_false_iff_ne.2 (by omega)
    have t2 : ((n2 : Int) != m2) = true := by simp [bne, t1]
    clear h2
    go_enter Try.func22, Try.ntmps22
    go_upto_region 1 with fail
    rw [← hW0]
    clear hW0
    have p1 := (rules_at B1.out.1).1
    have p2 := (rules_at B1.out.2.1).1
    have zb1 := lt_of_at B1.out.1
    have zb2 := lt_of_at B1.out.2.1
    go_wp2_with fail
    go_ret
    exact ⟨ret_bool E.out.symm, B1.out.2.2⟩
  subst h2
  go_enter Try.func22, Try.ntmps22
  go_upto_region 1 with fail
  rw [← hW0]
  clear hW0
  have p1 := (rules_at B1.out.1).1
  have p2 := (rules_at B1.out.2.1).1
  have zb1 := lt_of_at B1.out.1
  have zb2 := lt_of_at B1.out.2.1
  go_wp2_with fail
  clear p1 p2 zb1 zb2
  go_loopw [5] (fun i wr => ∃ k : Nat, k ≤ n1 ∧ i = .int .i64 k ∧ l.own.take k = m.own.take k ∧ (wr.heap[w.heap.size]? = some (.cells #[.slice a1 n1 c1, .slice a2 n2 c2] 26 (0, 0)) ∧ wr.heap[w.heap.size + 1]? = some (.cells #[.slice b1 n1 d1, .slice b2 n2 d2] 26 (0, 0)) ∧ w.grownBy wr none)) (fun i _ => n1 - (intOf i).toNat)
  case atStart => exact ⟨0, by omega, rfl, rfl, B1.out⟩
  case round =>
    obtain ⟨k, hk, rfl, he, hF⟩ := hrel
    have E := Lib.hid he
    have F := Lib.hid hF
    have p1 := (rules_at hF.1).1
    have p2 := (rules_at hF.2.1).1
    have zb1 := lt_of_at hF.1
    have zb2 := lt_of_at hF.2.1
    clear he hF B1
    by_cases hkn : k < n1
    · obtain ⟨u, hu⟩ : ∃ u, l.own[k]? = some u := ⟨_, List.getElem?_eq_getElem (by rw [L1.out]; exact hkn)⟩
      obtain ⟨v, hv⟩ : ∃ v, m.own[k]? = some v := ⟨_, List.getElem?_eq_getElem (by rw [L3.out]; exact hkn)⟩
      obtain ⟨q1, o1, rfl, zq1, g1⟩ := (keep F.out.2.2 H).out.1.1.1.int hu
      obtain ⟨q2, o2, rfl, zq2, g2⟩ := (keep F.out.2.2 K).out.1.1.1.int hv
      have U := Lib.hid hu
      have V := Lib.hid hv
      have hk' : (k : Int) < n1 := by omega
      clear hu hv
      by_cases huv : u = v
      · have t1 : (u == v) = true := by simpa using huv
        have t2 : (u != v) = false := by simpa using huv
        have HE := Lib.hid huv
        clear huv
        go_wp2_with fail
        go_quiet (fail)
        clear g1 g2 p1 p2
        go_wp2_with fail
        go_roundw
        case rel => exact ⟨k + 1, by omega, by go_num, (take_eq_succ U.out V.out E.out).2 HE.out, (keep (grown_draw _ (grown_refl wr none)) F).out⟩
        case measure => simp [intOf]; omega
      · have t1 : (u == v) = false := by simpa using huv
        have t2 : (u != v) = true := by simpa using huv
        have HE := Lib.hid huv
        clear huv
        go_wp2_with fail
        go_quiet (fail)
        clear g1 g2 p1 p2
        go_wp2_with fail
        go_ret
        exact ⟨ret_bool (sameL_own (ne_of_at U.out V.out HE.out)).symm, grown_draw _ F.out.2.2⟩
    · obtain rfl : k = n1 := by omega
      have OW : Hid (l.own = m.own) := Lib.hid (by
        have := E.out
        rwa [List.take_of_length_le (by rw [L1.out]; exact Nat.le_refl _), List.take_of_length_le (by rw [L3.out]; exact Nat.le_refl _)] at this)
      clear E hkn
      go_wp2_with fail
      clear p1 p2 zb1 zb2
      go_loopw [6] (fun i wr => ∃ k2 : Nat, k2 ≤ n2 ∧ i = .int .i64 k2 ∧ l.q.take k2 = m.q.take k2 ∧ (wr.heap[w.heap.size]? = some (.cells #[.slice a1 k c1, .slice a2 n2 c2] 26 (0, 0)) ∧ wr.heap[w.heap.size + 1]? = some (.cells #[.slice b1 k d1, .slice b2 n2 d2] 26 (0, 0)) ∧ w.grownBy wr none)) (fun i _ => n2 - (intOf i).toNat)
      case atStart => exact ⟨0, by omega, rfl, rfl, F.out⟩
      case round =>
        obtain ⟨k2, hk2, rfl, he, hF⟩ := hrel
        have E := Lib.hid he
        clear F
        have F := Lib.hid hF
        have p1 := (rules_at hF.1).1
        have p2 := (rules_at hF.2.1).1
        have zb1 := lt_of_at hF.1
        have zb2 := lt_of_at hF.2.1
        clear he hF
        by_cases hkn : k2 < n2
        · obtain ⟨u, hu⟩ : ∃ u, l.q[k2]? = some u := ⟨_, List.getElem?_eq_getElem (by rw [L2.out]; exact hkn)⟩
          obtain ⟨v, hv⟩ : ∃ v, m.q[k2]? = some v := ⟨_, List.getElem?_eq_getElem (by rw [L4.out]; exact hkn)⟩
          obtain ⟨q1, o1, A1, j1, rfl, zq1, g1, _, _, _, r1⟩ := (keep F.out.2.2 H).out.1.2.at hu
          obtain ⟨q2, o2, A2, j2, rfl, zq2, g2, _, _, _, r2⟩ := (keep F.out.2.2 K).out.1.2.at hv
          have U := Lib.hid hu
          have V := Lib.hid hv
          have R1 := Lib.hid r1.1
          have R2 := Lib.hid r2.1
          have hk' : (k2 : Int) < n2 := by omega
          clear hu hv r1 r2
          go_wp2_with fail
          clear p1 p2
          have w1 := after_at F.out.1
          have w2 := after_at F.out.2.1
          have y1 : ∀ x : After wr, x.w.cell? ⟨q1, o1 + k2, none⟩ = some (.slice A1 u.length j1) := fun x => (grown_cell x.grown zq1 (by simp)).trans g1
          have y2 : ∀ x : After wr, x.w.cell? ⟨q2, o2 + k2, none⟩ = some (.slice A2 v.length j2) := fun x => (grown_cell x.grown zq2 (by simp)).trans g2
          have S : Hid (∀ x : After wr, Calls Try.prog 38 #[.slice A1 u.length j1, .slice A2 v.length j2] x.w fun e w' => e = .returned (.bool (decide (u = v))) ∧ x.w.grownBy w' none) := Lib.hid (fun x => rSameInts_any _ _ _ _ _ _ _ _ _ (RowIn.kept R1.out x.grown) (RowIn.kept R2.out x.grown))
          by_cases huv : u = v
          · have HE := Lib.hid huv
            rw [decide_eq_true huv] at S
            clear huv
            refine wp_region_after (by kernel_rfl) (by kernel_rfl) (grown_refl _ _) ?_
            repeat (go_big_quiet_step ((go_at_call 38; exact after_call (S.out _))))
            refine wpQuiet_nil ?_
            rintro _ ⟨x, rfl⟩
            have F1 := keep x.grown F
            clear y1 y2 w1 w2 S R1 R2 g1 g2 F
            go_wp2_with fail
            go_roundw
            case rel => exact ⟨k2 + 1, by omega, by go_num, (take_eq_succ U.out V.out E.out).2 HE.out, F1.out⟩
            case measure => simp [intOf]; omega
          · have HE := Lib.hid huv
            rw [decide_eq_false huv] at S
            clear huv
            refine wp_region_after (by kernel_rfl) (by kernel_rfl) (grown_refl _ _) ?_
            repeat (go_big_quiet_step ((go_at_call 38; exact after_call (S.out _))))
            refine wpQuiet_nil ?_
            rintro _ ⟨x, rfl⟩
            have F1 := keep x.grown F
            clear y1 y2 w1 w2 S R1 R2 g1 g2 F
            go_wp2_with fail
            go_ret
            exact ⟨ret_bool (sameL_q (ne_of_at U.out V.out HE.out)).symm, F1.out.2.2⟩
        · obtain rfl : k2 = n2 := by omega
          go_wp2_with fail
          go_ret
          refine ⟨ret_bool (sameL_eq OW.out ?_).symm, F.out.2.2⟩
          have := E.out
          rwa [List.take_of_length_le (by rw [L2.out]; exact Nat.le_refl _), List.take_of_length_le (by rw [L4.out]; exact Nat.le_refl _)] at this
end Go.Proofs.Ytbpobekmbdngbaa
