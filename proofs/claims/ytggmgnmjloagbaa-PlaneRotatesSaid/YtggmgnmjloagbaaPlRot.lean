/- The walk of PlaneRotates. -/
import Derived.Test.YtggmgnmjloagbaaPlMoved
import Derived.Test.YtggmgnmjloagbaaInts
namespace Go.Proofs.Ytggmgnmjloagbaa
open Go.RowKit
set_option linter.unusedVariables false

theorem turnsV_made {l : List Bk} (h : Made l) (hl : l.length ≤ 48) : checkI l = 0 ∧ turnsV l = turnsI (pts l) := by
  obtain ⟨h1, _⟩ := made_ok h hl
  exact ⟨h1, by unfold turnsV; rw [if_pos h1]⟩
theorem mapB_len (f : Pt → Pt) (l : List Bk) : (mapB f l).length = l.length := by simp [mapB]
theorem mapB_at {f : Pt → Pt} {l : List Bk} {k : Nat} {t : Bk} (h : l[k]? = some t) : (mapB f l)[k]? = some ⟨t.nm, f t.p⟩ := by simp [mapB, h]

/-- What is known of three ways: the way, rotated, rotated and mirrored. -/
def Three (w : World) (g A2 A3 : Option Addr) (n : Nat) (l l2 l3 : List Bk) : Prop := rowB w g n l ∧ rowB w A2 n l2 ∧ rowB w A3 n l3
instance {w W : World} {g A2 A3 : Option Addr} {n : Nat} {l l2 l3 : List Bk} : Stay none w W (Three w g A2 A3 n l l2 l3) (Three W g A2 A3 n l l2 l3) := ⟨fun hg h => ⟨RowIn.kept h.1 hg, RowIn.kept h.2.1 hg, RowIn.kept h.2.2 hg⟩⟩

theorem swap_in {t : Int} (h : 0 ≤ t ∧ t ≤ 4) : (t = 1 ∧ swapT t = 2) ∨ (t = 2 ∧ swapT t = 1) ∨ (t ≠ 1 ∧ t ≠ 2 ∧ swapT t = t) := by
  have : t = 0 ∨ t = 1 ∨ t = 2 ∨ t = 3 ∨ t = 4 := by omega
  rcases this with rfl | rfl | rfl | rfl | rfl <;> simp [swapT]

set_option maxRecDepth 100000 in
set_option maxHeartbeats 4000000 in
theorem PlaneRotates_walk (a0 : Option Addr) (len0 cap0 : Nat) (z0 : List Int) (a1 q : Int) (w : World) (w0 : IsRow .i64 w a0 len0 cap0 z0) (w1 : (Lit.int .i64 a1).wf = true) (w2 : (Lit.int .i64 q).wf = true) :
    Calls Try.prog 8 #[.slice a0 len0 cap0, .int .i64 a1, .int .i64 q] w fun e w' => e = .returned (.bool true) ∧ Below w.heap.size w w' := by
  have r0 := Lib.hid w0
  obtain ⟨n, hn, hn1, hn8⟩ : ∃ n : Nat, (n : Int) = 2 + cut a1 6 ∧ 2 ≤ n ∧ n ≤ 7 := by
    have := cut_in a1 6 (by omega)
    exact ⟨(2 + cut a1 6).toNat, by omega, by omega, by omega⟩
  have hc1 := cut_in a1 6 (by omega)
  have HN := Lib.hid hn
  have HB1 := Lib.hid (wf_i64 w1)
  have HQ := Lib.hid (wf_i64 w2)
  clear w0 w1 w2 hn
  go_enter Try.func8, Try.ntmps8
  go_wp2_with fail
  refine (known_any _).mono ?_
  rintro e w1 ⟨rfl, hg1⟩
  have G1 := Lib.hid hg1
  clear hg1
  go_wp2_with fail
  refine (Cut_any _ _ _ HB1.out.1 HB1.out.2 (by omega) (by omega)).mono ?_
  rintro e w' ⟨rfl, rfl⟩
  go_wp2_with fail
  rw [← HN.out]
  refine (blocks_any a0 len0 cap0 z0 n _ (isRow_kept r0.out G1.out) (by omega)).mono ?_
  rintro e w2 ⟨v, l, rfl, hl, hmade, hown, hg2⟩
  obtain ⟨g, cap, rfl, hgb, hO⟩ := ownR_of_owns hown (by omega)
  obtain ⟨hcap, hcap2⟩ := hO.capLe
  have hR : rowB w2 (some ⟨g, 0, none⟩) n l := hO.row
  have K2 := Lib.hid (And.intro hR (grown_trans G1.out hg2))
  have M := Lib.hid hmade
  have L := Lib.hid hl
  have hcm : cap ≤ maxLen := by unfold maxLen; omega
  have HM := Lib.hid hcm
  clear hR hO hown hmade hl hg2 G1 r0 hgb hc1 HB1 HN hcm
  go_wp2_with fail
  refine (moved_false g n cap l q _ K2.out.1 (by omega) hcap M.out HQ.out).mono ?_
  rintro e w3 ⟨v3, rfl, hown3, hg3⟩
  obtain ⟨A3, c3, rfl, h3a, h3b, _, hr3⟩ := rowB_owns hown3
  have K3 := keep hg3 K2
  have R3 := Lib.hid hr3
  have H3 := Lib.hid (And.intro h3a h3b)
  clear hown3 hg3 hr3 K2 h3a h3b
  go_wp2_with fail
  refine (moved_true g n cap l q _ K3.out.1 (by omega) hcap M.out HQ.out).mono ?_
  rintro e w4 ⟨v4, rfl, hown4, hg4⟩
  obtain ⟨A4, c4, rfl, h4a, h4b, _, hr4⟩ := rowB_owns hown4
  have H4 := Lib.hid (And.intro h4a h4b)
  have K4 : Hid (Three w4 (some ⟨g, 0, none⟩) A3 A4 n l (mapB (rotN (quarters q)) l) (mapB (fun p => mir (rotN (quarters q) p)) l) ∧ w.grownBy w4 none) := ⟨⟨RowIn.kept K3.out.1 hg4, RowIn.kept R3.out hg4, hr4⟩, grown_trans K3.out.2 hg4⟩
  have M2 := Lib.hid (made_map M.out (rot_in q))
  have M3 := Lib.hid (made_map M.out (rotmir_in q))
  obtain ⟨l2, hl2⟩ : ∃ l2, l2 = mapB (rotN (quarters q)) l := ⟨_, rfl⟩
  obtain ⟨l3, hl3⟩ : ∃ l3, l3 = mapB (fun p => mir (rotN (quarters q) p)) l := ⟨_, rfl⟩
  rw [← hl2] at M2
  rw [← hl3] at M3
  rw [← hl2, ← hl3] at K4
  have T1 := turnsV_made M.out (by rw [L.out]; omega)
  have T2 := turnsV_made M2.out (by rw [hl2, mapB_len, L.out]; omega)
  have T3 := turnsV_made M3.out (by rw [hl3, mapB_len, L.out]; omega)
  have e2 : turnsV l2 = turnsV l := by rw [T2.2, T1.2, hl2, pts_map, turns_map _ id (fun a b c => turn_rotN _ a b c), List.map_id]
  have e3 : turnsV l3 = (turnsV l).map swapT := by
    rw [T3.2, T1.2, hl3, pts_map]
    exact turns_map _ swapT (fun a b c => by rw [turn_mir, turn_rotN]) _
  have a2 : areaV l2 = areaV l := by rw [(made_ok M2.out (by rw [hl2, mapB_len, L.out]; omega)).2, (made_ok M.out (by rw [L.out]; omega)).2, hl2, pts_map, area_rot]
  have a3 : areaV l3 = -areaV l := by
    rw [(made_ok M3.out (by rw [hl3, mapB_len, L.out]; omega)).2, (made_ok M.out (by rw [L.out]; omega)).2, hl3, pts_map, ← area_rot (quarters q) (pts l), ← area_mir, List.map_map]
    rfl
  have B := area_bds M.out (by rw [L.out]; omega)
  rw [← (made_ok M.out (by rw [L.out]; omega)).2] at B
  obtain ⟨B1, B2⟩ := B
  obtain ⟨zs, hzs⟩ : ∃ zs, zs = turnsV l := ⟨_, rfl⟩
  have hin : ∀ t ∈ zs, 0 ≤ t ∧ t ≤ 4 := by
    rw [hzs, T1.2]
    intro t ht
    obtain ⟨i, _, rfl⟩ := List.mem_map.1 ht
    exact turn_in _ _ _
  rw [← hzs] at e2 e3
  have E1 : Hid (turnsV l = zs) := Lib.hid hzs.symm
  have E2 := Lib.hid e2
  have E3 := Lib.hid e3
  have D2 := Lib.hid a2
  have D3 := Lib.hid a3
  have X1 := Lib.hid T1.1
  have X2 := Lib.hid T2.1
  have X3 := Lib.hid T3.1
  have HI := Lib.hid hin
  have HL2 := Lib.hid hl2
  obtain ⟨ar, har⟩ : ∃ ar, ar = areaV l := ⟨_, rfl⟩
  rw [← har] at B1 B2 D2 D3
  have D1 : Hid (areaV l = ar) := Lib.hid har.symm
  clear hown4 hg4 hr4 K3 R3 h4a h4b hl2 hl3 T1 T2 T3 e2 e3 a2 a3 hzs hin har
  go_wp2_with fail
  refine (Turns_any _ n cap l _ K4.out.1.1 hcap HM.out).mono ?_
  rw [E1.out, X1.out]
  rintro e w5 ⟨v5, rfl, hO5, hg5⟩
  obtain ⟨A5, c5, rfl, _, _, _, hS5⟩ := sliceIn_owns hO5
  have K5 := keep hg5 K4
  have S5 := Lib.hid hS5
  clear hO5 hg5 K4 hS5
  go_wp2_with fail
  refine (Turns_any _ n c3 l2 _ K5.out.1.2.1 H3.out.1 H3.out.2).mono ?_
  rw [E2.out, X2.out]
  rintro e w6 ⟨v6, rfl, hO6, hg6⟩
  obtain ⟨A6, c6, rfl, _, _, _, hS6⟩ := sliceIn_owns hO6
  have K6 := keep hg6 K5
  have S6 := Lib.hid (And.intro (RowIn.kept S5.out hg6) hS6)
  clear hO6 hg6 K5 hS6 S5
  go_wp2_with fail
  refine (Turns_any _ n c4 l3 _ K6.out.1.2.2 H4.out.1 H4.out.2).mono ?_
  rw [E3.out, X3.out, List.length_map]
  rintro e w7 ⟨v7, rfl, hO7, hg7⟩
  obtain ⟨A7, c7, rfl, _, _, _, hS7⟩ := sliceIn_owns hO7
  have K7 := keep hg7 K6
  have S7 := Lib.hid (And.intro (RowIn.kept S6.out.1 hg7) (And.intro (RowIn.kept S6.out.2 hg7) hS7))
  clear hO7 hg7 K6 hS7 S6
  go_wp2_with fail
  refine (Area_any _ n cap l _ K7.out.1.1).mono ?_
  rw [D1.out, X1.out]
  rintro e w8 ⟨rfl, hg8⟩
  have K8 := keep hg8 K7
  have S8 := keep hg8 S7
  clear hg8 K7 S7
  go_wp2_with fail
  refine (Area_any _ n c3 l2 _ K8.out.1.2.1).mono ?_
  rw [D2.out, X2.out]
  rintro e w9 ⟨rfl, hg9⟩
  have K9 := keep hg9 K8
  have S9 := keep hg9 S8
  clear hg9 K8 S8
  go_wp2_with fail
  refine (Area_any _ n c4 l3 _ K9.out.1.2.2).mono ?_
  rw [D3.out, X3.out]
  rintro e w10 ⟨rfl, hg10⟩
  have K10 := keep hg10 K9
  have S10 := keep hg10 S9
  clear hg10 K9 S9
  go_wp2_with fail
  refine (SameInts_any _ _ _ _ _ _ _ _ _ S10.out.1 S10.out.2.1).mono ?_
  rw [decide_eq_true rfl]
  rintro e w11 ⟨rfl, hg11⟩
  have K11 := keep hg11 K10
  have S11 := keep hg11 S10
  clear hg11 K10 S10
  go_wp2_with fail
  have LZ := S11.out.1.2.1
  unfold maxLen at LZ
  go_loop [24] (fun i => ∃ k : Nat, k ≤ zs.length ∧ i = .int .i64 k) (fun i => zs.length - (intOf i).toNat)
  case atStart => exact ⟨0, by omega, rfl⟩
  case round =>
    obtain ⟨k, hk, rfl⟩ := hrel
    by_cases hkn : k < zs.length
    · obtain ⟨t, ht⟩ : ∃ t, zs[k]? = some t := ⟨_, List.getElem?_eq_getElem hkn⟩
      obtain ⟨b5, o5, rfl, zb5, d5⟩ := S11.out.1.int ht
      obtain ⟨b7, o7, rfl, zb7, d7⟩ := S11.out.2.2.int (k := k) (z := swapT t) (by simp [ht])
      have hti := HI.out t (List.mem_of_getElem? ht)
      have hk' : (k : Int) < (zs.length : Int) := by omega
      obtain ⟨t1, t2⟩ := hti
      rcases swap_in ⟨t1, t2⟩ with ⟨rfl, hs⟩ | ⟨rfl, hs⟩ | ⟨hn1, hn2, hs⟩
      · rw [hs] at d7
        clear hs ht
        go_wp2_with fail
        go_round
        case rel => exact ⟨k + 1, by omega, by go_num⟩
        case measure => simp [intOf]; omega
      · rw [hs] at d7
        clear hs ht
        go_wp2_with fail
        go_round
        case rel => exact ⟨k + 1, by omega, by go_num⟩
        case measure => simp [intOf]; omega
      · rw [hs] at d7
        have u1 : (t == 1) = false := by simpa using hn1
        have u2 : (t == 2) = false := by simpa using hn2
        clear hs ht hn1 hn2
        go_wp2_with fail
        go_round
        case rel => exact ⟨k + 1, by omega, by go_num⟩
        case measure => simp [intOf]; omega
    · obtain rfl : k = zs.length := by omega
      obtain ⟨t0, ht0⟩ : ∃ t, l[0]? = some t := ⟨_, List.getElem?_eq_getElem (by rw [L.out]; omega)⟩
      obtain ⟨t1, ht1⟩ : ∃ t, l[1]? = some t := ⟨_, List.getElem?_eq_getElem (by rw [L.out]; omega)⟩
      obtain ⟨⟨x0, y0⟩, rfl, i0⟩ := made_at M.out ht0
      obtain ⟨⟨x1, y1⟩, rfl, i1⟩ := made_at M.out ht1
      have hm0 : l2[0]? = some ⟨⟨#[]⟩, rotN (quarters q) (x0, y0)⟩ := by rw [HL2.out]; exact mapB_at ht0
      have hm1 : l2[1]? = some ⟨⟨#[]⟩, rotN (quarters q) (x1, y1)⟩ := by rw [HL2.out]; exact mapB_at ht1
      have j0 := rotN_in i0 (quarters q)
      have j1 := rotN_in i1 (quarters q)
      have CS1 := fun nm nm' w => Square_ok nm nm' x0 y0 x1 y1 w i0 i1
      have CS2 := fun nm nm' w => Square_ok nm nm' _ _ _ _ w j0 j1
      rw [show sqI ((rotN (quarters q) (x0, y0)).1, (rotN (quarters q) (x0, y0)).2) ((rotN (quarters q) (x1, y1)).1, (rotN (quarters q) (x1, y1)).2) = sqI (x0, y0) (x1, y1) from sq_rotN _ _ _] at CS2
      generalize sqI (x0, y0) (x1, y1) = sq at *
      generalize rotN (quarters q) (x0, y0) = p0 at *
      generalize rotN (quarters q) (x1, y1) = p1 at *
      have CS1' := Lib.hid CS1
      have CS2' := Lib.hid CS2
      obtain ⟨d0, d1, d2⟩ := block_after K11.out.1.1 ht0
      obtain ⟨e0, e1, e2⟩ := block_after K11.out.1.1 ht1
      rw [Nat.zero_add] at d0 d1 d2 e0 e1 e2
      have zg := lt_of_cell ((d0 ⟨w11, grown_refl _ _⟩))
      simp only at zg
      clear CS1 CS2 i0 i1 j0 j1 ht0 ht1 hkn S11
      go_wp2_with fail
      refine wp_region_after (by kernel_rfl) (by kernel_rfl) (grown_refl _ _) ?_
      repeat (go_big_quiet_step ((go_at_call 22; exact after_call (CS1'.out _ _ _))))
      refine wpQuiet_nil ?_
      rintro _ ⟨v12, rfl⟩
      have K12 := keep v12.grown K11
      obtain ⟨W12, hW⟩ : ∃ W12, W12 = v12.w := ⟨_, rfl⟩
      rw [← hW] at K12 ⊢
      obtain ⟨bb, oo, rfl, zbb, _⟩ := block_at K12.out.1.2.1 hm0
      obtain ⟨f0, f1, f2⟩ := block_after K12.out.1.2.1 hm0
      obtain ⟨g0, g1, g2⟩ := block_after K12.out.1.2.1 hm1
      simp only [Nat.zero_mul, Nat.add_zero] at f0 f1 f2
      simp only [Nat.one_mul] at g0 g1 g2
      have hn2 : n ≤ c3 := H3.out.1
      have hc3 := H3.out.2
      unfold maxLen at hc3
      clear hW d0 d1 d2 e0 e1 e2 K11 hm0 hm1
      go_wp2_with fail
      refine wp_region_after (by kernel_rfl) (by kernel_rfl) (grown_refl _ _) ?_
      repeat (go_big_quiet_step ((go_at_call 22; exact after_call (CS2'.out _ _ _))))
      refine wpQuiet_nil ?_
      rintro _ ⟨v13, rfl⟩
      have K13 := keep v13.grown K12
      clear f0 f1 f2 g0 g1 g2 K12
      go_wp2_with fail
      go_ret
      exact ⟨rfl, grown_below K13.out.2⟩
end Go.Proofs.Ytggmgnmjloagbaa
