/- The walk of FrameCodes. -/
import Derived.Test.YtnhmnkldpmomfaaFrAll
import Derived.StillTailTactics
namespace Go.Proofs.Ytnhmnkldpmomfaa
open Go.RowKit
set_option linter.unusedVariables false

theorem at_new_eq (w : World) (p : Obj) {n : Nat} (h : n = w.heap.size) : (w.alloc p).heap[n]? = some p := by
  subst h; exact at_new w p

theorem bytes_have {w : World} {b : Nat} {cur : Array Value} {xs : List Int} (hb : w.heap[b]? = some (.cells cur 5 (0, 0))) (ht : cur.toList.take 12 = xs.map (Value.int .u8)) (hl : xs.length = 12) (hx : ∀ x ∈ xs, 0 ≤ x ∧ x < 256) :
    BytesIn w (some ⟨b, 0, none⟩) 12 xs := by
  refine ⟨hl, by unfold maxLen; omega, getD_bd (fun x h => by have := hx x h; omega), .inr ⟨b, 0, rfl, fun i hi => ?_⟩⟩
  rw [cell_at hb, Nat.zero_add]
  have h2 := congrArg (fun l => l[i]?) ht
  simp only [List.getElem?_take, hi, if_true, Array.getElem?_toList, List.getElem?_map] at h2
  rw [h2]
  simp [List.getD_eq_getElem?_getD, show i < xs.length by omega]

theorem bytes_set {w : World} {b c d : Nat} {cur : Array Value} {xs : List Int} (hb : w.heap[b]? = some (.cells cur 5 (0, 0))) (ht : cur.toList.take 12 = xs.map (Value.int .u8)) (hl : xs.length = 12) (hx : ∀ x ∈ xs, 0 ≤ x ∧ x < 256)
    (hd : d < 256) : ∃ xs, BytesIn ((w.setCell ⟨b, c, none⟩ (.int .u8 d)).drew) (some ⟨b, 0, none⟩) 12 xs := by
  refine ⟨xs.set c d, bytes_have (w := (w.setCell ⟨b, c, none⟩ (.int .u8 d)).drew) (b := b) (cur := cur.setIfInBounds c (.int .u8 d)) (at_set _ hb) ?_ (by simp [hl]) ?_⟩
  · rw [Array.toList_setIfInBounds, List.take_set, ht, List.map_set]
  · intro x h
    rcases List.mem_or_eq_of_mem_set h with h | rfl
    · exact hx x h
    · omega

set_option maxRecDepth 100000 in
set_option maxHeartbeats 4000000 in
theorem FrameCodes_walk (f : Fr) (hf : f.fits) (a1 : Option Addr) (len1 cap1 : Nat) (z1 : List Int) (a2 : Option Addr) (len2 cap2 : Nat) (z2 : List Int) (ca cb : Int) (w : World)
    (w1 : IsRow .u8 w a1 len1 cap1 z1) (w2 : IsRow .i64 w a2 len2 cap2 z2) (wa : (Lit.int .i64 ca).wf = true) (wb : (Lit.int .i64 cb).wf = true) :
    Calls Try.prog 4 #[f.val, .slice a1 len1 cap1, .slice a2 len2 cap2, .agg #[.int .i64 ca, .int .i64 cb]] w fun e w' => e = .returned (.bool true) ∧ Below w.heap.size w w' := by
  have hraw := Lib.hid (bytesIn_raw w1)
  have r2 := Lib.hid w2
  obtain ⟨ba1, ba2⟩ := wf_i64 wa
  obtain ⟨bb1, bb2⟩ := wf_i64 wb
  have hf' := Lib.hid hf
  clear w1 w2 wa wb hf
  generalize z1.take len1 = x1 at hraw
  obtain ⟨k1, rr1, s1, c1, f1⟩ := f
  unfold Fr.val
  simp only
  go_enter Try.func4, Try.ntmps4
  go_wp2_with fail
  refine (known_any _).mono ?_
  rintro e w3 ⟨rfl, hg3⟩
  have hb4 := Lib.hid (grown_at hg3 (at_alloc (.cells #[.int .i64 ca, .int .i64 cb] 36) (at_new w _)) (by simp))
  have hb7 := Lib.hid (grown_at hg3 (at_new (w.alloc _) _) (by simp))
  have hG3 := Lib.hid (grown_trans (grown_alloc _ (grown_alloc _ (grown_refl w _))) hg3)
  go_wp2_with fail
  refine (Frame_any w3.heap.size 30 a2 len2 cap2 _ 0 _ (tape_new r2.out hG3.out _) (by omega)).mono ?_
  rintro e w5 ⟨⟨m, rfl, hm⟩, hg5⟩
  simp only [World.size_alloc] at hb7
  have hsz := hg3.size
  simp only [World.size_alloc] at hsz
  have hlt4 := lt_of_at hb4.out
  have hlt7 := lt_of_at hb7.out
  have hb4' := Lib.hid (grown_at hg5 (at_alloc _ hb4.out) (by simp; omega))
  have hb7' := Lib.hid (grown_at hg5 (at_alloc _ hb7.out) (by simp; omega))
  have hG5 := Lib.hid (grown_new (grown_alloc _ hG3.out) hg5 (by omega))
  clear hg3 hb4 hb7 hg5 r2 hsz hlt4 hlt7
  have hmok := Lib.hid hm
  have hem := Lib.hid (EncodeR_ok m hm)
  clear hm
  obtain ⟨k2, rr2, s2, c2, f2⟩ := m
  simp only [Fr.val] at hem ⊢
  go_wp2_with fail
  refine (hem.out _).mono ?_
  rintro e w6 ⟨v, rfl, hbv, hg6⟩
  obtain ⟨b, cp, cur, rfl, hbase, hbb, htk⟩ := hbv
  have hb4 := Lib.hid (grown_at hg6 (at_alloc _ hb4'.out) (by simp))
  have hb7 := Lib.hid (grown_at hg6 (at_alloc _ hb7'.out) (by simp))
  have hb9 := Lib.hid (grown_at hg6 (at_new w5 _) (by simp))
  have hG6 := Lib.hid (grown_trans (grown_alloc _ hG5.out) hg6)
  have hbb' := Lib.hid hbb
  have htk' := Lib.hid htk
  have hs5 : w.heap.size < w5.heap.size := lt_of_at hb4'.out
  simp only [World.size_alloc] at hbase
  clear hb4' hb7' hG5 hg6 hem hbb htk
  have q7 := (rules_at hb7.out).1
  have q4 := (rules_at hb4.out).1
  have q9 := (rules_at hb9.out).1
  have hn4 : ¬ w.heap.size = b := by omega
  have hn9 : ¬ w5.heap.size = b := by omega
  have hl4 := lt_of_at hb4.out
  have hl9 := lt_of_at hb9.out
  by_cases hcut : 0 < cut ca 3
  · go_wp2_with fail
    refine (Cut_any _ _ _ ba1 ba2 (by omega) (by omega)).mono ?_
    rintro e w' ⟨rfl, rfl⟩
    go_wp2_with fail
    obtain ⟨c, hc, hc12⟩ := cut_nat ca (n := 12) (by omega)
    obtain ⟨d, hd, hd256⟩ := cut_nat cb (n := 256) (by omega)
    have CA : Hid (∀ W, Calls Try.prog 11 #[.int .i64 ca, .int .i64 12] W fun e w' => e = .returned (.int .i64 c) ∧ w' = W) := fun W => by
      have := Cut_any ca 12 W ba1 ba2 (by omega) (by omega)
      rw [hc] at this; exact this
    have CB : Hid (∀ W, Calls Try.prog 11 #[.int .i64 cb, .int .i64 256] W fun e w' => e = .returned (.int .i64 d) ∧ w' = W) := fun W => by
      have := Cut_any cb 256 W bb1 bb2 (by omega) (by omega)
      rw [hd] at this; exact this
    have hcsz : 12 ≤ cur.size := by
      have := congrArg List.length htk'.out
      simp [Fr.bytes] at this
      omega
    have hcc : ∃ u, w'.cell? ⟨b, c, none⟩ = some u := ⟨cur[c]'(by omega), by rw [cell_at hbb'.out]; simp [show c < cur.size by omega]⟩
    obtain ⟨u, hcu⟩ := hcc
    have hcf := (rules_at hbb'.out).2 c
    clear hc hd
    go_still_tail 11, (by kernel_rfl)
    still_call (CA.out _)
    repeat still_step
    still_call (CB.out _)
    repeat still_step
    refine wpStill_nil ?_
    change wpList _ _ _ _ _ w'.drew
    have hGW := Lib.hid (grown_drew (grown_set (p := ⟨b, c, none⟩) (.int .u8 d) hG6.out (.inl (by simp; omega))))
    have hBI : ∃ xs, BytesIn ((w'.setCell ⟨b, c, none⟩ (.int .u8 d)).drew) (some ⟨b, 0, none⟩) 12 xs := bytes_set hbb'.out htk'.out rfl (Fr.bytes_bd hmok.out) (by omega)
    clear hcsz
    go_wp2_with fail
    obtain ⟨xs, hbi⟩ := hBI
    have hfit1 : (Fr.mk k1 rr1 s1 c1 f1).fits := hf'.out
    have hfit2 : (Fr.mk k2 rr2 s2 c2 f2).fits := ⟨by have : 1 ≤ s2 := hmok.out.2.2.2.1; show 0 ≤ s2; omega, hmok.out.2.2.2.2.1⟩
    have hfit1' := Lib.hid hfit1
    have hfit2' := Lib.hid hfit2
    clear hfit1 hfit2
    go_loopw [14] (fun i wr => ∃ k : Nat, k ≤ 2 ∧ i = .int .i64 k ∧ w.grownBy wr none ∧ wr.heap[w'.heap.size]? = some (.cells #[.int .i64 k1, .int .i64 rr1, .int .u64 s1, .int .i64 c1, .int .i64 f1, .int .i64 k2, .int .i64 rr2, .int .u64 s2, .int .i64 c2, .int .i64 f2] 26 (0, 0)) ∧
        wr.heap[w'.heap.size + 1]? = some (.cells #[.slice a1 len1 cap1, .slice (some ⟨b, 0, none⟩) 12 cp] 31 (0, 0)) ∧ BytesIn wr a1 len1 x1 ∧ BytesIn wr (some ⟨b, 0, none⟩) 12 xs) (fun i _ => (2 - intOf i).toNat)
    case atStart => exact ⟨0, by omega, rfl, grown_alloc _ (grown_alloc _ hGW.out), at_alloc _ (at_new_eq _ _ (by simp)), at_new_eq (World.alloc _ _) _ (by simp), (hraw.out.kept hGW.out).kept (grown_alloc _ (grown_alloc _ (grown_refl _ _))), hbi.kept (grown_alloc _ (grown_alloc _ (grown_refl _ _)))⟩
    case round =>
      obtain ⟨k, hk2, rfl, hgr, hF, hS, hraw2, hbi2⟩ := hrel
      have hF' := Lib.hid hF
      have hS' := Lib.hid hS
      have hgr' := Lib.hid hgr
      have hraw2 := Lib.hid hraw2
      have hbi2 := Lib.hid hbi2
      have qF0 := (rules_at hF).1
      have hltF := lt_of_at hF
      clear hF hS hgr
      rcases (show k = 2 ∨ k = 0 ∨ k = 1 from by omega) with rfl | rfl | rfl
      · go_wp2
        go_ret
        exact ⟨rfl, grown_below hgr'.out⟩
      · have eP := Lib.hid (EncodeP_all (Fr.mk k1 rr1 s1 c1 f1) hfit1'.out)
        have eR := Lib.hid (EncodeR_all (Fr.mk k1 rr1 s1 c1 f1) hfit1'.out)
        have vP := Lib.hid (ValidP (Fr.mk k1 rr1 s1 c1 f1) hfit1'.out)
        have vR := Lib.hid (ValidR (Fr.mk k1 rr1 s1 c1 f1) hfit1'.out)
        generalize hO : encOut (Fr.mk k1 rr1 s1 c1 f1) = O at eP eR
        generalize hB : (Fr.mk k1 rr1 s1 c1 f1).okB = ok at vP vR
        simp only [Fr.val] at eP eR vP vR
        clear hO hB
        obtain ⟨os, oc⟩ := O
        simp only at eP eR
        go_wp2_with fail
        refine (eP.out _).mono ?_
        rintro e wa ⟨va, rfl, hca, hga⟩
        have qF := (rules_at (grown_at hga hF'.out (by simp))).1
        go_wp2_with fail
        refine (eR.out _).mono ?_
        rintro e wb ⟨vb, rfl, hcb, hgb⟩
        have hgab := Lib.hid (grown_trans hga hgb)
        have hca' := Lib.hid hca
        have hcb' := Lib.hid hcb
        have qS := (rules_at (grown_at hgab.out hS'.out (by simp))).1
        clear hga hca hcb eP eR qF
        have hgb' := Lib.hid hgb
        clear hgb
        go_wp2_with fail
        refine (DecodeP_all a1 len1 cap1 x1 _ ((hraw2).out.kept hgab.out)).mono ?_
        generalize hD : decOut len1 x1 = D
        rintro e wc ⟨rfl, hgc⟩
        obtain ⟨⟨d1, d2, d3, d4, d5⟩, dc⟩ := D
        have hgc' := Lib.hid hgc
        have qS2 := (rules_at (grown_at hgc (grown_at hgab.out hS'.out (by simp)) (by simp))).1
        have hltS := lt_of_at (grown_at hgc (grown_at hgab.out hS'.out (by simp)) (by simp))
        clear hgc qS
        unfold Fr.val
        simp only
        go_wp2_with fail
        refine (DecodeR_all a1 len1 cap1 x1 _ ((hraw2).out.kept (grown_alloc _ (grown_trans hgab.out hgc'.out)))).mono ?_
        rw [hD]
        rintro e wd ⟨rfl, hgd⟩
        have hgd' := Lib.hid hgd
        have hAll := Lib.hid (grown_alloc (.cells #[.int .i64 d1, .int .i64 d2, .int .u64 d3, .int .i64 d4, .int .i64 d5] 26) (grown_trans (grown_alloc (.cells #[.int .i64 d1, .int .i64 d2, .int .u64 d3, .int .i64 d4, .int .i64 d5] 26) (grown_trans hgab.out hgc'.out)) hgd))
        unfold Fr.val
        simp only
        clear hgd qS2 hltS hD
        go_wp2_with fail
        have ca1 := fun (v : After (wd.alloc (.cells #[.int .i64 d1, .int .i64 d2, .int .u64 d3, .int .i64 d4, .int .i64 d5] 26))) => hca'.out v.w (grown_trans (grown_alloc _ (grown_trans (grown_alloc _ (grown_trans hgb'.out hgc'.out)) hgd'.out)) v.grown)
        have cb1 := fun (v : After (wd.alloc (.cells #[.int .i64 d1, .int .i64 d2, .int .u64 d3, .int .i64 d4, .int .i64 d5] 26))) => hcb'.out v.w (grown_trans (grown_alloc _ (grown_trans (grown_alloc _ hgc'.out) hgd'.out)) v.grown)
        have y19 := after_at (at_alloc (.cells #[.int .i64 d1, .int .i64 d2, .int .u64 d3, .int .i64 d4, .int .i64 d5] 26) (grown_at hgd'.out (at_new wc _) (by simp)))
        have y21 := after_at (at_new wd (.cells #[.int .i64 d1, .int .i64 d2, .int .u64 d3, .int .i64 d4, .int .i64 d5] 26))
        have yF := after_at (grown_at hAll.out hF'.out (by simp))
        have fn := fr_neq_self d1 d2 d3 d4 d5
        refine wp_region_after (by kernel_rfl) (by kernel_rfl) (grown_refl _ _) ?_
        repeat (go_big_quiet_step ((first | (go_at_call 14; exact after_call (vP.out _)) | (go_at_call 15; exact after_call (vR.out _)))))
        refine wpQuiet_nil ?_
        rintro _ ⟨v, rfl⟩
        have hV := Lib.hid v.grown
        clear ca1 cb1 y19 y21 yF fn vP vR
        go_wp2
        go_roundw
        case rel => exact ⟨1, by omega, rfl, grown_trans hgr'.out (grown_trans hAll.out hV.out), grown_at hV.out (grown_at hAll.out hF'.out (by simp)) (by simp), grown_at hV.out (grown_at hAll.out hS'.out (by simp)) (by simp), hraw2.out.kept (grown_trans hAll.out hV.out), hbi2.out.kept (grown_trans hAll.out hV.out)⟩
        case measure => simp [intOf]
      · have eP := Lib.hid (EncodeP_all (Fr.mk k2 rr2 s2 c2 f2) hfit2'.out)
        have eR := Lib.hid (EncodeR_all (Fr.mk k2 rr2 s2 c2 f2) hfit2'.out)
        have vP := Lib.hid (ValidP (Fr.mk k2 rr2 s2 c2 f2) hfit2'.out)
        have vR := Lib.hid (ValidR (Fr.mk k2 rr2 s2 c2 f2) hfit2'.out)
        generalize hO : encOut (Fr.mk k2 rr2 s2 c2 f2) = O at eP eR
        generalize hB : (Fr.mk k2 rr2 s2 c2 f2).okB = ok at vP vR
        simp only [Fr.val] at eP eR vP vR
        clear hO hB
        obtain ⟨os, oc⟩ := O
        simp only at eP eR
        go_wp2_with fail
        refine (eP.out _).mono ?_
        rintro e wa ⟨va, rfl, hca, hga⟩
        have qF := (rules_at (grown_at hga hF'.out (by simp))).1
        go_wp2_with fail
        refine (eR.out _).mono ?_
        rintro e wb ⟨vb, rfl, hcb, hgb⟩
        have hgab := Lib.hid (grown_trans hga hgb)
        have hca' := Lib.hid hca
        have hcb' := Lib.hid hcb
        have qS := (rules_at (grown_at hgab.out hS'.out (by simp))).1
        clear hga hca hcb eP eR qF
        have hgb' := Lib.hid hgb
        clear hgb
        go_wp2_with fail
        refine (DecodeP_all (some ⟨b, 0, none⟩) 12 cp xs _ ((hbi2).out.kept hgab.out)).mono ?_
        generalize hD : decOut 12 xs = D
        rintro e wc ⟨rfl, hgc⟩
        obtain ⟨⟨d1, d2, d3, d4, d5⟩, dc⟩ := D
        have hgc' := Lib.hid hgc
        have qS2 := (rules_at (grown_at hgc (grown_at hgab.out hS'.out (by simp)) (by simp))).1
        have hltS := lt_of_at (grown_at hgc (grown_at hgab.out hS'.out (by simp)) (by simp))
        clear hgc qS
        unfold Fr.val
        simp only
        go_wp2_with fail
        refine (DecodeR_all (some ⟨b, 0, none⟩) 12 cp xs _ ((hbi2).out.kept (grown_alloc _ (grown_trans hgab.out hgc'.out)))).mono ?_
        rw [hD]
        rintro e wd ⟨rfl, hgd⟩
        have hgd' := Lib.hid hgd
        have hAll := Lib.hid (grown_alloc (.cells #[.int .i64 d1, .int .i64 d2, .int .u64 d3, .int .i64 d4, .int .i64 d5] 26) (grown_trans (grown_alloc (.cells #[.int .i64 d1, .int .i64 d2, .int .u64 d3, .int .i64 d4, .int .i64 d5] 26) (grown_trans hgab.out hgc'.out)) hgd))
        unfold Fr.val
        simp only
        clear hgd qS2 hltS hD
        go_wp2_with fail
        have ca1 := fun (v : After (wd.alloc (.cells #[.int .i64 d1, .int .i64 d2, .int .u64 d3, .int .i64 d4, .int .i64 d5] 26))) => hca'.out v.w (grown_trans (grown_alloc _ (grown_trans (grown_alloc _ (grown_trans hgb'.out hgc'.out)) hgd'.out)) v.grown)
        have cb1 := fun (v : After (wd.alloc (.cells #[.int .i64 d1, .int .i64 d2, .int .u64 d3, .int .i64 d4, .int .i64 d5] 26))) => hcb'.out v.w (grown_trans (grown_alloc _ (grown_trans (grown_alloc _ hgc'.out) hgd'.out)) v.grown)
        have y19 := after_at (at_alloc (.cells #[.int .i64 d1, .int .i64 d2, .int .u64 d3, .int .i64 d4, .int .i64 d5] 26) (grown_at hgd'.out (at_new wc _) (by simp)))
        have y21 := after_at (at_new wd (.cells #[.int .i64 d1, .int .i64 d2, .int .u64 d3, .int .i64 d4, .int .i64 d5] 26))
        have yF := after_at (grown_at hAll.out hF'.out (by simp))
        have fn := fr_neq_self d1 d2 d3 d4 d5
        refine wp_region_after (by kernel_rfl) (by kernel_rfl) (grown_refl _ _) ?_
        repeat (go_big_quiet_step ((first | (go_at_call 14; exact after_call (vP.out _)) | (go_at_call 15; exact after_call (vR.out _)))))
        refine wpQuiet_nil ?_
        rintro _ ⟨v, rfl⟩
        have hV := Lib.hid v.grown
        clear ca1 cb1 y19 y21 yF fn vP vR
        go_wp2
        go_roundw
        case rel => exact ⟨2, by omega, rfl, grown_trans hgr'.out (grown_trans hAll.out hV.out), grown_at hV.out (grown_at hAll.out hF'.out (by simp)) (by simp), grown_at hV.out (grown_at hAll.out hS'.out (by simp)) (by simp), hraw2.out.kept (grown_trans hAll.out hV.out), hbi2.out.kept (grown_trans hAll.out hV.out)⟩
        case measure => simp [intOf]
  · go_wp2_with fail
    refine (Cut_any _ _ _ ba1 ba2 (by omega) (by omega)).mono ?_
    rintro e w' ⟨rfl, rfl⟩
    have hGW := hG6
    have hBI : ∃ xs, BytesIn w' (some ⟨b, 0, none⟩) 12 xs := ⟨_, bytes_have hbb'.out htk'.out rfl (Fr.bytes_bd hmok.out)⟩
    go_wp2_with fail
    obtain ⟨xs, hbi⟩ := hBI
    have hfit1 : (Fr.mk k1 rr1 s1 c1 f1).fits := hf'.out
    have hfit2 : (Fr.mk k2 rr2 s2 c2 f2).fits := ⟨by have : 1 ≤ s2 := hmok.out.2.2.2.1; show 0 ≤ s2; omega, hmok.out.2.2.2.2.1⟩
    have hfit1' := Lib.hid hfit1
    have hfit2' := Lib.hid hfit2
    clear hfit1 hfit2
    go_loopw [14] (fun i wr => ∃ k : Nat, k ≤ 2 ∧ i = .int .i64 k ∧ w.grownBy wr none ∧ wr.heap[w'.heap.size]? = some (.cells #[.int .i64 k1, .int .i64 rr1, .int .u64 s1, .int .i64 c1, .int .i64 f1, .int .i64 k2, .int .i64 rr2, .int .u64 s2, .int .i64 c2, .int .i64 f2] 26 (0, 0)) ∧
        wr.heap[w'.heap.size + 1]? = some (.cells #[.slice a1 len1 cap1, .slice (some ⟨b, 0, none⟩) 12 cp] 31 (0, 0)) ∧ BytesIn wr a1 len1 x1 ∧ BytesIn wr (some ⟨b, 0, none⟩) 12 xs) (fun i _ => (2 - intOf i).toNat)
    case atStart => exact ⟨0, by omega, rfl, grown_alloc _ (grown_alloc _ hGW.out), at_alloc _ (at_new_eq _ _ (by simp)), at_new_eq (World.alloc _ _) _ (by simp), (hraw.out.kept hGW.out).kept (grown_alloc _ (grown_alloc _ (grown_refl _ _))), hbi.kept (grown_alloc _ (grown_alloc _ (grown_refl _ _)))⟩
    case round =>
      obtain ⟨k, hk2, rfl, hgr, hF, hS, hraw2, hbi2⟩ := hrel
      have hF' := Lib.hid hF
      have hS' := Lib.hid hS
      have hgr' := Lib.hid hgr
      have hraw2 := Lib.hid hraw2
      have hbi2 := Lib.hid hbi2
      have qF0 := (rules_at hF).1
      have hltF := lt_of_at hF
      clear hF hS hgr
      rcases (show k = 2 ∨ k = 0 ∨ k = 1 from by omega) with rfl | rfl | rfl
      · go_wp2
        go_ret
        exact ⟨rfl, grown_below hgr'.out⟩
      · have eP := Lib.hid (EncodeP_all (Fr.mk k1 rr1 s1 c1 f1) hfit1'.out)
        have eR := Lib.hid (EncodeR_all (Fr.mk k1 rr1 s1 c1 f1) hfit1'.out)
        have vP := Lib.hid (ValidP (Fr.mk k1 rr1 s1 c1 f1) hfit1'.out)
        have vR := Lib.hid (ValidR (Fr.mk k1 rr1 s1 c1 f1) hfit1'.out)
        generalize hO : encOut (Fr.mk k1 rr1 s1 c1 f1) = O at eP eR
        generalize hB : (Fr.mk k1 rr1 s1 c1 f1).okB = ok at vP vR
        simp only [Fr.val] at eP eR vP vR
        clear hO hB
        obtain ⟨os, oc⟩ := O
        simp only at eP eR
        go_wp2_with fail
        refine (eP.out _).mono ?_
        rintro e wa ⟨va, rfl, hca, hga⟩
        have qF := (rules_at (grown_at hga hF'.out (by simp))).1
        go_wp2_with fail
        refine (eR.out _).mono ?_
        rintro e wb ⟨vb, rfl, hcb, hgb⟩
        have hgab := Lib.hid (grown_trans hga hgb)
        have hca' := Lib.hid hca
        have hcb' := Lib.hid hcb
        have qS := (rules_at (grown_at hgab.out hS'.out (by simp))).1
        clear hga hca hcb eP eR qF
        have hgb' := Lib.hid hgb
        clear hgb
        go_wp2_with fail
        refine (DecodeP_all a1 len1 cap1 x1 _ ((hraw2).out.kept hgab.out)).mono ?_
        generalize hD : decOut len1 x1 = D
        rintro e wc ⟨rfl, hgc⟩
        obtain ⟨⟨d1, d2, d3, d4, d5⟩, dc⟩ := D
        have hgc' := Lib.hid hgc
        have qS2 := (rules_at (grown_at hgc (grown_at hgab.out hS'.out (by simp)) (by simp))).1
        have hltS := lt_of_at (grown_at hgc (grown_at hgab.out hS'.out (by simp)) (by simp))
        clear hgc qS
        unfold Fr.val
        simp only
        go_wp2_with fail
        refine (DecodeR_all a1 len1 cap1 x1 _ ((hraw2).out.kept (grown_alloc _ (grown_trans hgab.out hgc'.out)))).mono ?_
        rw [hD]
        rintro e wd ⟨rfl, hgd⟩
        have hgd' := Lib.hid hgd
        have hAll := Lib.hid (grown_alloc (.cells #[.int .i64 d1, .int .i64 d2, .int .u64 d3, .int .i64 d4, .int .i64 d5] 26) (grown_trans (grown_alloc (.cells #[.int .i64 d1, .int .i64 d2, .int .u64 d3, .int .i64 d4, .int .i64 d5] 26) (grown_trans hgab.out hgc'.out)) hgd))
        unfold Fr.val
        simp only
        clear hgd qS2 hltS hD
        go_wp2_with fail
        have ca1 := fun (v : After (wd.alloc (.cells #[.int .i64 d1, .int .i64 d2, .int .u64 d3, .int .i64 d4, .int .i64 d5] 26))) => hca'.out v.w (grown_trans (grown_alloc _ (grown_trans (grown_alloc _ (grown_trans hgb'.out hgc'.out)) hgd'.out)) v.grown)
        have cb1 := fun (v : After (wd.alloc (.cells #[.int .i64 d1, .int .i64 d2, .int .u64 d3, .int .i64 d4, .int .i64 d5] 26))) => hcb'.out v.w (grown_trans (grown_alloc _ (grown_trans (grown_alloc _ hgc'.out) hgd'.out)) v.grown)
        have y19 := after_at (at_alloc (.cells #[.int .i64 d1, .int .i64 d2, .int .u64 d3, .int .i64 d4, .int .i64 d5] 26) (grown_at hgd'.out (at_new wc _) (by simp)))
        have y21 := after_at (at_new wd (.cells #[.int .i64 d1, .int .i64 d2, .int .u64 d3, .int .i64 d4, .int .i64 d5] 26))
        have yF := after_at (grown_at hAll.out hF'.out (by simp))
        have fn := fr_neq_self d1 d2 d3 d4 d5
        refine wp_region_after (by kernel_rfl) (by kernel_rfl) (grown_refl _ _) ?_
        repeat (go_big_quiet_step ((first | (go_at_call 14; exact after_call (vP.out _)) | (go_at_call 15; exact after_call (vR.out _)))))
        refine wpQuiet_nil ?_
        rintro _ ⟨v, rfl⟩
        have hV := Lib.hid v.grown
        clear ca1 cb1 y19 y21 yF fn vP vR
        go_wp2
        go_roundw
        case rel => exact ⟨1, by omega, rfl, grown_trans hgr'.out (grown_trans hAll.out hV.out), grown_at hV.out (grown_at hAll.out hF'.out (by simp)) (by simp), grown_at hV.out (grown_at hAll.out hS'.out (by simp)) (by simp), hraw2.out.kept (grown_trans hAll.out hV.out), hbi2.out.kept (grown_trans hAll.out hV.out)⟩
        case measure => simp [intOf]
      · have eP := Lib.hid (EncodeP_all (Fr.mk k2 rr2 s2 c2 f2) hfit2'.out)
        have eR := Lib.hid (EncodeR_all (Fr.mk k2 rr2 s2 c2 f2) hfit2'.out)
        have vP := Lib.hid (ValidP (Fr.mk k2 rr2 s2 c2 f2) hfit2'.out)
        have vR := Lib.hid (ValidR (Fr.mk k2 rr2 s2 c2 f2) hfit2'.out)
        generalize hO : encOut (Fr.mk k2 rr2 s2 c2 f2) = O at eP eR
        generalize hB : (Fr.mk k2 rr2 s2 c2 f2).okB = ok at vP vR
        simp only [Fr.val] at eP eR vP vR
        clear hO hB
        obtain ⟨os, oc⟩ := O
        simp only at eP eR
        go_wp2_with fail
        refine (eP.out _).mono ?_
        rintro e wa ⟨va, rfl, hca, hga⟩
        have qF := (rules_at (grown_at hga hF'.out (by simp))).1
        go_wp2_with fail
        refine (eR.out _).mono ?_
        rintro e wb ⟨vb, rfl, hcb, hgb⟩
        have hgab := Lib.hid (grown_trans hga hgb)
        have hca' := Lib.hid hca
        have hcb' := Lib.hid hcb
        have qS := (rules_at (grown_at hgab.out hS'.out (by simp))).1
        clear hga hca hcb eP eR qF
        have hgb' := Lib.hid hgb
        clear hgb
        go_wp2_with fail
        refine (DecodeP_all (some ⟨b, 0, none⟩) 12 cp xs _ ((hbi2).out.kept hgab.out)).mono ?_
        generalize hD : decOut 12 xs = D
        rintro e wc ⟨rfl, hgc⟩
        obtain ⟨⟨d1, d2, d3, d4, d5⟩, dc⟩ := D
        have hgc' := Lib.hid hgc
        have qS2 := (rules_at (grown_at hgc (grown_at hgab.out hS'.out (by simp)) (by simp))).1
        have hltS := lt_of_at (grown_at hgc (grown_at hgab.out hS'.out (by simp)) (by simp))
        clear hgc qS
        unfold Fr.val
        simp only
        go_wp2_with fail
        refine (DecodeR_all (some ⟨b, 0, none⟩) 12 cp xs _ ((hbi2).out.kept (grown_alloc _ (grown_trans hgab.out hgc'.out)))).mono ?_
        rw [hD]
        rintro e wd ⟨rfl, hgd⟩
        have hgd' := Lib.hid hgd
        have hAll := Lib.hid (grown_alloc (.cells #[.int .i64 d1, .int .i64 d2, .int .u64 d3, .int .i64 d4, .int .i64 d5] 26) (grown_trans (grown_alloc (.cells #[.int .i64 d1, .int .i64 d2, .int .u64 d3, .int .i64 d4, .int .i64 d5] 26) (grown_trans hgab.out hgc'.out)) hgd))
        unfold Fr.val
        simp only
        clear hgd qS2 hltS hD
        go_wp2_with fail
        have ca1 := fun (v : After (wd.alloc (.cells #[.int .i64 d1, .int .i64 d2, .int .u64 d3, .int .i64 d4, .int .i64 d5] 26))) => hca'.out v.w (grown_trans (grown_alloc _ (grown_trans (grown_alloc _ (grown_trans hgb'.out hgc'.out)) hgd'.out)) v.grown)
        have cb1 := fun (v : After (wd.alloc (.cells #[.int .i64 d1, .int .i64 d2, .int .u64 d3, .int .i64 d4, .int .i64 d5] 26))) => hcb'.out v.w (grown_trans (grown_alloc _ (grown_trans (grown_alloc _ hgc'.out) hgd'.out)) v.grown)
        have y19 := after_at (at_alloc (.cells #[.int .i64 d1, .int .i64 d2, .int .u64 d3, .int .i64 d4, .int .i64 d5] 26) (grown_at hgd'.out (at_new wc _) (by simp)))
        have y21 := after_at (at_new wd (.cells #[.int .i64 d1, .int .i64 d2, .int .u64 d3, .int .i64 d4, .int .i64 d5] 26))
        have yF := after_at (grown_at hAll.out hF'.out (by simp))
        have fn := fr_neq_self d1 d2 d3 d4 d5
        refine wp_region_after (by kernel_rfl) (by kernel_rfl) (grown_refl _ _) ?_
        repeat (go_big_quiet_step ((first | (go_at_call 14; exact after_call (vP.out _)) | (go_at_call 15; exact after_call (vR.out _)))))
        refine wpQuiet_nil ?_
        rintro _ ⟨v, rfl⟩
        have hV := Lib.hid v.grown
        clear ca1 cb1 y19 y21 yF fn vP vR
        go_wp2
        go_roundw
        case rel => exact ⟨2, by omega, rfl, grown_trans hgr'.out (grown_trans hAll.out hV.out), grown_at hV.out (grown_at hAll.out hF'.out (by simp)) (by simp), grown_at hV.out (grown_at hAll.out hS'.out (by simp)) (by simp), hraw2.out.kept (grown_trans hAll.out hV.out), hbi2.out.kept (grown_trans hAll.out hV.out)⟩
        case measure => simp [intOf]
end Go.Proofs.Ytnhmnkldpmomfaa
