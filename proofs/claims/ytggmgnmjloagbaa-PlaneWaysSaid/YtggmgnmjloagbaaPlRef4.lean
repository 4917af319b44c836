/- The contract of the chapter's own Area. -/
import Derived.Test.YtggmgnmjloagbaaPlRef3
namespace Go.Proofs.Ytggmgnmjloagbaa
open Go.RowKit
set_option linter.unusedVariables false

theorem area_small {l : List Bk} (h : l.length < 3) : areaI (pts l) = 0 := by
  match l, h with
  | [], _ => rfl
  | [a], _ => simp [areaI, ring, pts, ps, cross_self]
  | [a, b], _ => simp [areaI, ring, pts, ps]; have := cross_anti a.p b.p; omega

def SumAt (l : List Pt) (n : Nat) (s i : Value) : Prop := ∃ k : Nat, k ≤ n ∧ i = .int .i64 k ∧ s = .int .i64 (ps ((ring l).take (k + 1)))

theorem six_later {W w : World} {b j k : Nat} {x y z x' y' z' : Value} (h : (W.cell? ⟨b, j, none⟩ = some x ∧ W.cell? ⟨b, j + 1, none⟩ = some y ∧ W.cell? ⟨b, j + 2, none⟩ = some z) ∧ (W.cell? ⟨b, k, none⟩ = some x' ∧ W.cell? ⟨b, k + 1, none⟩ = some y' ∧ W.cell? ⟨b, k + 2, none⟩ = some z')) (hb : b < W.heap.size) (hg : W.grownBy w none) :
    w.cell? ⟨b, j, none⟩ = some x ∧ w.cell? ⟨b, j + 1, none⟩ = some y ∧ w.cell? ⟨b, j + 2, none⟩ = some z ∧ w.cell? ⟨b, k, none⟩ = some x' ∧ w.cell? ⟨b, k + 1, none⟩ = some y' ∧ w.cell? ⟨b, k + 2, none⟩ = some z' := by
  obtain ⟨h1, h2, h3⟩ := cells_later h.1 hg
  exact ⟨h1, h2, h3, cells_later h.2 hg⟩

set_option maxHeartbeats 2000000 in
theorem rArea_any (a : Option Addr) (n cap : Nat) (l : List Bk) (w : World) (h : rowB w a n l) (hcap : n ≤ cap) (hcm : cap ≤ maxLen) :
    Calls Try.prog 16 #[.slice a n cap] w fun e w' => e = .returned (.tuple #[.int .i64 (areaV l), .int .i64 (checkI l)]) ∧ w.grownBy w' none := by
  have F0 : Hid (rowB w a n l ∧ w.grownBy w none) := ⟨h, grown_refl w none⟩
  have hl := Lib.hid (rowB_len h)
  unfold maxLen at hcm
  clear h
  by_cases hc : checkI l = 0
  · have HC := Lib.hid hc
    obtain ⟨h48, hall⟩ := check_zero hc
    rw [hl.out] at h48
    have HA := Lib.hid hall
    have HB := Lib.hid (inB_of hall)
    have HL : Hid ((pts l).length = n) := by show (pts l).length = n; simp [pts, hl.out]
    have HV : Hid (areaV l = areaI (pts l)) := Lib.hid (if_pos hc)
    have hh : (n : Int) ≤ 48 := by omega
    clear hc hall
    go_enter Try.func16, Try.ntmps16
    go_wp2_with fail
    refine (all_any a n cap l _ F0.out.1 h48).mono ?_
    rintro e w1 ⟨rfl, hg⟩
    rw [HA.out]
    have F1 := keep hg F0
    clear hg
    by_cases h3 : n < 3
    · have h3' : (n : Int) < 3 := by omega
      have HZ : Hid (areaI (pts l) = 0) := Lib.hid (area_small (by rw [hl.out]; exact h3))
      go_wp2_with fail
      go_ret2
      exact ⟨by rw [HV.out, HZ.out, HC.out]; rfl, F1.out.2⟩
    have h3' : (3 : Int) ≤ n := by omega
    have rz : Hid (ps ((ring (pts l)).take (0 + 1)) = 0) := by
      show ps ((ring (pts l)).take (0 + 1)) = 0
      cases hr : ring (pts l) with
      | nil => rfl
      | cons p t => simp [ps]
    go_wp2_with fail
    go_loopw [4, 5] (fun s i wr => SumAt (pts l) n s i ∧ (rowB wr a n l ∧ w.grownBy wr none)) (fun _ i _ => n - (intOf i).toNat)
    case atStart => exact ⟨⟨0, by omega, rfl, by rw [rz.out]⟩, F1.out⟩
    case round =>
      obtain ⟨⟨k, hk, rfl, rfl⟩, hF⟩ := hrel
      have F := Lib.hid hF
      clear hF F1 F0
      by_cases hkn : k < n
      · have hml : (k + 1) % n < n := Nat.mod_lt _ (by omega)
        obtain ⟨t, ht⟩ : ∃ t, l[k]? = some t := ⟨_, List.getElem?_eq_getElem (by rw [hl.out]; exact hkn)⟩
        obtain ⟨u, hu⟩ : ∃ u, l[(k + 1) % n]? = some u := ⟨_, List.getElem?_eq_getElem (by rw [hl.out]; exact hml)⟩
        have it := HB.out _ (List.mem_of_getElem? (pts_at ht))
        have iu := HB.out _ (List.mem_of_getElem? (pts_at hu))
        have hstep := ps_snoc (ring (pts l)) k t.p u.p (ring_at (pts_at ht)) (ring_next (by rw [HL.out]; exact hkn) (by rw [HL.out]; exact pts_at hu))
        have hbd := sum_bd HB.out (by rw [HL.out]; omega) (k + 1)
        have hbd2 := sum_bd HB.out (by rw [HL.out]; omega) (k + 2)
        obtain ⟨m1, m2⟩ := @mul_bd t.p.1 u.p.2 ⟨it.1, it.2.1⟩ ⟨iu.2.2.1, iu.2.2.2⟩
        obtain ⟨m3, m4⟩ := @mul_bd t.p.2 u.p.1 ⟨it.2.2.1, it.2.2.2⟩ ⟨iu.1, iu.2.1⟩
        obtain ⟨s1, s2⟩ := hbd
        obtain ⟨s3, s4⟩ := hbd2
        have ST := Lib.hid hstep
        obtain ⟨bl, off, rfl, hb, c0, c1, c2⟩ := block_at F.out.1 ht
        obtain ⟨bl', off', he, hb', d0, d1, d2⟩ := block_at F.out.1 hu
        obtain ⟨rfl, rfl⟩ : bl = bl' ∧ off = off' := by simpa using he
        have hk' : (k : Int) < n := by omega
        have hmod := mod_nat k n
        have hn0 : ¬ n = 0 := by omega
        have hn1 : ¬ (n : Int) = 0 := by omega
        have hmod2 : IntKind.i64.wrap ((k : Int) + 1) = (k : Int) + 1 := by rw [IntWalk.i64_in _ (by omega)]
        generalize (k + 1) % n = m at *
        generalize ps ((ring (pts l)).take (k + 1)) = S at *
        have hm0 : (0 : Int) ≤ (m : Int) := by omega
        have hm1 : (m : Int) < n := by omega
        have hm2 : ((k : Int) + 1).tmod (n : Int) = (m : Int) := by rw [Int.tmod_eq_emod_of_nonneg (by omega)]; exact hmod
        have C := Lib.hid (And.intro (And.intro c0 (And.intro c1 c2)) (And.intro d0 (And.intro d1 d2)))
        clear hstep ht hu it iu he hb' c0 c1 c2 d0 d1 d2
        go_wp2_with fail
        go_region_held3 (fun w' => w'.cell? ⟨bl, off + k * 3, none⟩ = some (.string t.nm) ∧ w'.cell? ⟨bl, off + k * 3 + 1, none⟩ = some (.int .i64 t.p.1) ∧ w'.cell? ⟨bl, off + k * 3 + 2, none⟩ = some (.int .i64 t.p.2) ∧ w'.cell? ⟨bl, off + m * 3, none⟩ = some (.string u.nm) ∧ w'.cell? ⟨bl, off + m * 3 + 1, none⟩ = some (.int .i64 u.p.1) ∧ w'.cell? ⟨bl, off + m * 3 + 2, none⟩ = some (.int .i64 u.p.2)) (exact six_later C.out hb (by repeat (first | exact grown_refl _ _ | refine grown_drew ?_ | refine grown_alloc _ ?_ | refine grown_set _ ?_ (.inl (by simp)) | refine grown_set _ ?_ (.inl (by simp; omega))))) (fail)
        all_goals
          have HS : Hid (ps ((ring (pts l)).take (k + 2)) = S + (t.p.1 * u.p.2 - t.p.2 * u.p.1)) := ST.out
          have s3' : -100000000000 ≤ S + (t.p.1 * u.p.2 - t.p.2 * u.p.1) := by rw [← HS.out]; exact s3
          have s4' : S + (t.p.1 * u.p.2 - t.p.2 * u.p.1) ≤ 100000000000 := by rw [← HS.out]; exact s4
          clear hmod hmod2 hm2 s3 s4
          go_wp2_with fail
          go_roundw
          case rel => exact ⟨⟨k + 1, by omega, by go_num, by rw [HS.out]⟩, RowIn.kept F.out.1 (by repeat (first | exact grown_refl wr none | refine grown_drew ?_ | refine grown_alloc _ ?_)), grown_trans F.out.2 (by repeat (first | exact grown_refl wr none | refine grown_drew ?_ | refine grown_alloc _ ?_))⟩
          case measure => simp [intOf]; omega
      · obtain rfl : k = n := by omega
        have HE := Lib.hid (area_full HL.out)
        clear hkn
        go_wp2_with fail
        go_ret2
        exact ⟨by rw [HC.out, HV.out, ← HE.out]; rfl, F.out.2⟩
  · have HC := Lib.hid hc
    have HV : Hid (areaV l = 0) := Lib.hid (if_neg hc)
    clear hc
    by_cases h48 : 48 < n
    · have HG : Hid (checkI l = 14) := Lib.hid (if_pos (by rw [hl.out]; exact h48))
      have hh : (48 : Int) < n := by omega
      go_enter Try.func16, Try.ntmps16
      go_wp2_with fail
      go_ret2
      exact ⟨by rw [HG.out, HV.out]; rfl, F0.out.2⟩
    · have hall : l.all Bk.ok = false := by
        cases hh : l.all Bk.ok with
        | false => rfl
        | true => exact absurd (by unfold checkI; rw [if_neg (by rw [hl.out]; exact h48), hh]; rfl) HC.out
      have HG : Hid (checkI l = 19) := Lib.hid (by unfold checkI; rw [if_neg (by rw [hl.out]; exact h48), hall]; rfl)
      have HA := Lib.hid hall
      have hh : (n : Int) ≤ 48 := by omega
      clear hall
      go_enter Try.func16, Try.ntmps16
      go_wp2_with fail
      refine (all_any a n cap l _ F0.out.1 (by omega)).mono ?_
      rintro e w1 ⟨rfl, hg⟩
      rw [HA.out]
      have F1 := keep hg F0
      clear hg F0
      go_wp2_with fail
      go_ret2
      exact ⟨by rw [HG.out, HV.out]; rfl, F1.out.2⟩
end Go.Proofs.Ytggmgnmjloagbaa
