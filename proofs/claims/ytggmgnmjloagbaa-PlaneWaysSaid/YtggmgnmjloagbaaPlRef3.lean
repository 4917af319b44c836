/- The contracts of the chapter's own all, Turns, Area. -/
import Derived.Test.YtggmgnmjloagbaaPlTurns2
import Derived.Test.YtggmgnmjloagbaaPlRef2
namespace Go.Proofs.Ytggmgnmjloagbaa
open Go.RowKit
set_option linter.unusedVariables false

set_option maxHeartbeats 800000 in
theorem all_any (a : Option Addr) (n cap : Nat) (l : List Bk) (w : World) (h : rowB w a n l) (hn : n ≤ 48) :
    Calls Try.prog 29 #[.slice a n cap] w fun e w' => e = .returned (.bool (l.all Bk.ok)) ∧ w.grownBy w' none := by
  have hl := Lib.hid (rowB_len h)
  have F0 : Hid (rowB w a n l ∧ w.grownBy w none) := ⟨h, grown_refl w none⟩
  clear h
  go_enter Try.func29, Try.ntmps29
  go_wp2_with fail
  go_loopw [3] (fun i wr => ∃ k : Nat, k ≤ n ∧ i = .int .i64 k ∧ (l.take k).all Bk.ok = true ∧ (rowB wr a n l ∧ w.grownBy wr none)) (fun i _ => n - (intOf i).toNat)
  case atStart => exact ⟨0, by omega, rfl, rfl, F0.out⟩
  case round =>
    obtain ⟨k, hk, rfl, hall, hF⟩ := hrel
    have F := Lib.hid hF
    have A := Lib.hid hall
    clear hall hF F0
    by_cases hkn : k < n
    · obtain ⟨t, ht⟩ : ∃ t, l[k]? = some t := ⟨_, List.getElem?_eq_getElem (by rw [hl.out]; exact hkn)⟩
      obtain ⟨b, off, rfl, hb, c0, c1, c2⟩ := block_at F.out.1 ht
      have T := Lib.hid ht
      have hk' : (k : Int) < n := by omega
      clear ht
      by_cases hok : inP t.p.1 t.p.2
      · have HO := Lib.hid hok
        clear hok
        go_wp2_with fail
        refine (rvalid_ok _ _ _ _ HO.out).mono ?_
        rintro e w1 ⟨rfl, hg⟩
        have F1 := keep hg F
        clear c0 c1 c2 hg F
        go_wp2_with fail
        go_roundw
        case rel => exact ⟨k + 1, by omega, by go_num, all_step T.out A.out HO.out, F1.out⟩
        case measure => simp [intOf]; omega
      · have HO := Lib.hid hok
        clear hok
        go_wp2_with fail
        refine (rvalid_no _ _ _ _ HO.out).mono ?_
        rintro e w1 ⟨rfl, hg⟩
        have F1 := keep hg F
        clear c0 c1 c2 hg F
        go_wp2_with fail
        go_ret
        exact ⟨ret_bool (all_bad T.out HO.out).symm, F1.out.2⟩
    · obtain rfl : k = n := by omega
      go_wp2_with fail
      go_ret
      refine ⟨ret_bool ?_, F.out.2⟩
      have := A.out
      rw [List.take_of_length_le (by rw [hl.out]; exact Nat.le_refl _)] at this
      exact this.symm

set_option maxHeartbeats 2000000 in
theorem rTurns_any (a : Option Addr) (n cap : Nat) (l : List Bk) (w : World) (h : rowB w a n l) (hcap : n ≤ cap) (hcm : cap ≤ maxLen) :
    Calls Try.prog 15 #[.slice a n cap] w fun e w' => ∃ v, e = .returned (.tuple #[v, .int .i64 (checkI l)]) ∧ w'.ownsRow w.heap.size 3 1 v (turnsV l).length (ints (turnsV l)) ∧ w.grownBy w' none := by
  have F0 : Hid (rowB w a n l ∧ w.grownBy w none) := ⟨h, grown_refl w none⟩
  have hl := Lib.hid (rowB_len h)
  unfold maxLen at hcm
  clear h
  by_cases hc : checkI l = 0
  · have HC := Lib.hid hc
    obtain ⟨h48, hall⟩ := check_zero hc
    rw [hl.out] at h48
    have HA := Lib.hid hall
    have HB := Lib.hid (inB_of hall)
    have HL : Hid ((pts l).length = n) := by show (pts l).length = n; simp [pts, hl.out]
    have HV : Hid (turnsV l = turnsUp l (n - 2)) := by show turnsV l = _; unfold turnsV turnsUp turnsI; rw [if_pos HC.out, HL.out]
    have hh : (n : Int) ≤ 48 := by omega
    clear hc hall
    go_enter Try.func15, Try.ntmps15
    go_wp2_with fail
    refine (all_any a n cap l _ F0.out.1 h48).mono ?_
    rintro e w1 ⟨rfl, hg⟩
    rw [HA.out]
    have F1 := keep hg F0
    have O1 := Lib.hid (World.ownsRow_nil w1 w.heap.size 3 1)
    clear hg
    go_wp2_with fail
    go_loopw [4, 5] (fun s i wr => ∃ k : Nat, (k = 0 ∨ k ≤ n - 2) ∧ i = .int .i64 ((k : Int) + 1) ∧ wr.ownsRow w.heap.size 3 1 s k (ints (turnsUp l k)) ∧ w.grownBy wr none) (fun _ i _ => n - (intOf i).toNat)
    case atStart => exact ⟨0, .inl rfl, rfl, O1.out, F1.out.2⟩
    case round =>
      obtain ⟨k, hk, rfl, hown, hF⟩ := hrel
      have F : Hid (rowB wr a n l ∧ w.grownBy wr none) := ⟨RowIn.kept F0.out.1 hF, hF⟩
      have O := Lib.hid hown
      clear hown hF F1 O1
      by_cases hkn : k + 2 < n
      · obtain ⟨t0, ht0⟩ : ∃ t, l[k]? = some t := ⟨_, List.getElem?_eq_getElem (by rw [hl.out]; omega)⟩
        obtain ⟨t1, ht1⟩ : ∃ t, l[k + 1]? = some t := ⟨_, List.getElem?_eq_getElem (by rw [hl.out]; omega)⟩
        obtain ⟨t2, ht2⟩ : ∃ t, l[k + 2]? = some t := ⟨_, List.getElem?_eq_getElem (by rw [hl.out]; omega)⟩
        have i0 := Lib.hid (HB.out _ (List.mem_of_getElem? (pts_at ht0)))
        have i1 := Lib.hid (HB.out _ (List.mem_of_getElem? (pts_at ht1)))
        have i2 := Lib.hid (HB.out _ (List.mem_of_getElem? (pts_at ht2)))
        have HT := Lib.hid (tri_at ht0 ht1 ht2)
        obtain ⟨bl, off, rfl, hb, _⟩ := block_at F.out.1 ht0
        obtain ⟨c0, c1, c2⟩ := block_after F.out.1 ht0
        obtain ⟨d0, d1, d2⟩ := block_after F.out.1 ht1
        obtain ⟨e0, e1, e2⟩ := block_after F.out.1 ht2
        have hk' : (k : Int) + 1 + 1 < n := by omega
        have hz0 := F.out.2.size
        clear ht0 ht1 ht2
        go_wp2_with fail
        have u1 : IntKind.i64.wrap ((k : Int) + 1 - 1) = (k : Int) := by rw [IntWalk.i64_in _ (by omega)]; omega
        have u2 : IntKind.i64.wrap ((k : Int) + 1 + 1) = ((k + 2 : Nat) : Int) := by rw [IntWalk.i64_in _ (by omega)]; omega
        have u3 : ((k : Int) + 1).toNat = k + 1 := by omega
        refine wp_region_after (by kernel_rfl) (by kernel_rfl) (grown_refl _ _) ?_
        repeat (go_big_quiet_step ((go_at_call 30; exact after_call (rTurn_ok _ _ _ _ _ _ _ _ _ _ i0.out i1.out i2.out))))
        refine wpQuiet_nil ?_
        rintro _ ⟨v, rfl⟩
        have F2 := keep v.grown F
        have O2 := keep v.grown O
        have hz1 := v.grown.size
        obtain ⟨W2, hW2⟩ : ∃ W2, W2 = v.w := ⟨_, rfl⟩
        rw [← hW2] at F2 O2 hz1 ⊢
        clear hW2 c0 c1 c2 d0 d1 d2 e0 e1 e2 u1 u2 u3 F O
        obtain ⟨tt, htt⟩ : ∃ tt, tt = turnP (t0.p.1, t0.p.2) (t1.p.1, t1.p.2) (t2.p.1, t2.p.2) := ⟨_, rfl⟩
        rw [← htt]
        have HT2 : Hid (tri (pts l) k = tt) := Lib.hid (HT.out.trans htt.symm)
        clear htt HT
        go_wp2_with (at_builtin; refine wpList_append_in St_int rfl (.tmp 39) (.tmp 41) rfl rfl (O2.out.alloc (.cells #[.int .i64 tt] 3)) rfl (cell_one _ _ rfl) (fun h => by cases h) (flat_one rfl) ?c1 ?c2 ?c3 ?_)
        case c1 => unfold maxLen; omega
        case c2 => omega
        case c3 => simp; omega
        intro v' w3 hown hg hloc
        clear hloc
        have O3 := Lib.hid hown
        have G3 := Lib.hid (grown_own (grown_alloc (.cells #[.int .i64 tt] 3) F2.out.2) hg (fun g hg => (O2.out.lt g hg).1))
        clear hown hg O2 F2
        go_wp2_with fail
        go_roundw
        case rel => exact ⟨k + 1, by omega, by go_num, by rw [turnsUp_succ, HT2.out]; exact O3.out, G3.out⟩
        case measure => simp [intOf]; omega
      · have HK : Hid (k = n - 2) := Lib.hid (by omega)
        have hk' : ¬ (k : Int) + 1 + 1 < n := by omega
        clear hkn
        go_wp2_with fail
        refine bodyPost_ret (v := .tuple #[u4, .int .i64 0]) (by simp [results, Try.results15, go_sem]) rfl ⟨u4, by rw [HC.out], ?_, F.out.2⟩
        rw [HV.out, turnsUp_len, ← HK.out]
        exact O.out
  · have HC := Lib.hid hc
    have HV : Hid (turnsV l = []) := Lib.hid (if_neg hc)
    clear hc
    by_cases h48 : 48 < n
    · have HG : Hid (checkI l = 14) := Lib.hid (if_pos (by rw [hl.out]; exact h48))
      have hh : (48 : Int) < n := by omega
      go_enter Try.func15, Try.ntmps15
      go_wp2_with fail
      refine bodyPost_ret (v := .tuple #[.slice none 0 0, .int .i64 14]) (by simp [results, Try.results15, go_sem]) rfl ⟨_, by rw [HG.out], by rw [HV.out]; exact World.ownsRow_nil _ _ _ _, F0.out.2⟩
    · have hall : l.all Bk.ok = false := by
        cases hh : l.all Bk.ok with
        | false => rfl
        | true => exact absurd (by unfold checkI; rw [if_neg (by rw [hl.out]; exact h48), hh]; rfl) HC.out
      have HG : Hid (checkI l = 19) := Lib.hid (by unfold checkI; rw [if_neg (by rw [hl.out]; exact h48), hall]; rfl)
      have HA := Lib.hid hall
      have hh : (n : Int) ≤ 48 := by omega
      clear hall
      go_enter Try.func15, Try.ntmps15
      go_wp2_with fail
      refine (all_any a n cap l _ F0.out.1 (by omega)).mono ?_
      rintro e w1 ⟨rfl, hg⟩
      rw [HA.out]
      have F1 := keep hg F0
      clear hg F0
      go_wp2_with fail
      refine bodyPost_ret (v := .tuple #[.slice none 0 0, .int .i64 19]) (by simp [results, Try.results15, go_sem]) rfl ⟨_, by rw [HG.out], by rw [HV.out]; exact World.ownsRow_nil _ _ _ _, F1.out.2⟩
end Go.Proofs.Ytggmgnmjloagbaa
