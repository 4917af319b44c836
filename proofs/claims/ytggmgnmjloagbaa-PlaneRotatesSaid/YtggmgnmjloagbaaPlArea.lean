/- The contract of Area. -/
import Derived.Test.YtggmgnmjloagbaaPlCheck
namespace Go.Proofs.Ytggmgnmjloagbaa
open Go.RowKit
set_option linter.unusedVariables false

def pts (l : List Bk) : List Pt := l.map Bk.p
theorem pts_at {l : List Bk} {k : Nat} {t : Bk} (h : l[k]? = some t) : (pts l)[k]? = some t.p := by simp [pts, h]
theorem ring_len (l : List Pt) (h : 0 < l.length) : (ring l).length = l.length + 1 := by simp [ring]; omega
theorem ring_at {l : List Pt} {k : Nat} {p : Pt} (h : l[k]? = some p) : (ring l)[k]? = some p := by
  unfold ring
  rw [List.getElem?_append_left (List.getElem?_eq_some_iff.1 h).1, h]
theorem ring_next {l : List Pt} {k : Nat} {p : Pt} (hk : k < l.length) (h : l[(k + 1) % l.length]? = some p) : (ring l)[k + 1]? = some p := by
  by_cases h1 : k + 1 < l.length
  · rw [Nat.mod_eq_of_lt h1] at h; exact ring_at h
  · have h2 : k + 1 = l.length := by omega
    rw [h2, Nat.mod_self] at h
    unfold ring
    rw [List.getElem?_append_right (by omega), h2, Nat.sub_self, List.getElem?_take_of_lt (by omega), h]
theorem inB_of {l : List Bk} (h : l.all Bk.ok = true) : ∀ p ∈ pts l, inB p := by
  intro p hp
  obtain ⟨b, hb, rfl⟩ := List.mem_map.1 hp
  have := List.all_eq_true.1 h b hb
  simp [Bk.ok] at this
  exact this
theorem ring_in {l : List Pt} (h : ∀ p ∈ l, inB p) : ∀ p ∈ ring l, inB p := by
  intro p hp
  rcases List.mem_append.1 hp with h1 | h1
  · exact h p h1
  · exact h p (List.mem_of_mem_take h1)
theorem sum_bd {l : List Pt} (h : ∀ p ∈ l, inB p) (hl : l.length ≤ 48) (k : Nat) : -100000000000 ≤ ps ((ring l).take k) ∧ ps ((ring l).take k) ≤ 100000000000 := by
  have h1 := ps_bd ((ring l).take k) (fun p hp => ring_in h p (List.mem_of_mem_take hp))
  have h2 : ((ring l).take k).length ≤ 96 := by
    rw [List.length_take]
    have : (ring l).length ≤ 96 := by simp [ring]; omega
    omega
  omega

theorem check_zero {l : List Bk} (h : checkI l = 0) : l.length ≤ 48 ∧ l.all Bk.ok = true := by
  unfold checkI at h
  split at h
  · cases h
  · split at h
    · exact ⟨by omega, by assumption⟩
    · cases h
theorem check_val (l : List Bk) : checkI l = 0 ∨ checkI l = 14 ∨ checkI l = 19 := by
  unfold checkI
  split
  · exact .inr (.inl rfl)
  · split
    · exact .inl rfl
    · exact .inr (.inr rfl)

/-- The word of a cross product. -/
theorem cross_rep {p q : Pt} (hp : inB p) (hq : inB q) : ∃ re im, cMulBits (floatOfInt .f64 p.1) (Op.negFloat .f64 (floatOfInt .f64 p.2)) (floatOfInt .f64 q.1) (floatOfInt .f64 q.2) = some (re, im) ∧ Rep im (cross p q) := by
  obtain ⟨a, b, c, d⟩ := hp
  obtain ⟨e, f, g, h⟩ := hq
  obtain ⟨re, im, h1, _, h2⟩ := cmul_rep (rep_ofInt (n := p.1) (by omega)) (rep_neg (rep_ofInt (n := p.2) (by omega))) (rep_ofInt (n := q.1) (by omega)) (rep_ofInt (n := q.2) (by omega))
    (by have := @mul_bd p.1 q.1; omega) (by have := @mul_bd (-p.2) q.2; omega) (by have := @mul_bd p.1 q.2; omega) (by have := @mul_bd (-p.2) q.1; omega)
  refine ⟨re, im, h1, ?_⟩
  rw [show cross p q = p.1 * q.2 + -p.2 * q.1 by unfold cross; rw [Int.neg_mul]; omega]
  exact h2

def AreaAt (l : List Pt) (n : Nat) (s i : Value) : Prop := ∃ (k b : Nat), k ≤ n ∧ i = .int .i64 k ∧ s = .float .f64 b ∧ Rep b (ps ((ring l).take (k + 1)))

theorem mod_nat (k n : Nat) : ((k : Int) + 1) % (n : Int) = (((k + 1) % n : Nat) : Int) := by rw [Int.natCast_emod]; rfl

theorem two_new (w : World) (A B : Obj) : ((w.alloc A).alloc B).heap[w.heap.size]? = some A ∧ ((w.alloc A).alloc B).heap[w.heap.size + 1]? = some B ∧ w.grownBy ((w.alloc A).alloc B) none := by
  have := boxes (w := w) (A := A) (B := B) (grown_refl _ _)
  exact this
theorem area_full {l : List Pt} {n : Nat} (h : l.length = n) : ps ((ring l).take (n + 1)) = areaI l := by
  unfold areaI
  rw [List.take_of_length_le]
  simp [ring]; omega
theorem area_bd {l : List Pt} (h : ∀ p ∈ l, inB p) (hl : l.length ≤ 48) : -100000000000 ≤ areaI l ∧ areaI l ≤ 100000000000 := by
  have := sum_bd h hl (l.length + 1)
  rw [area_full rfl] at this
  exact this

/-- What Area returns beside the error. -/
def areaV (l : List Bk) : Int := if checkI l = 0 then areaI (pts l) else 0

set_option maxHeartbeats 2000000 in
theorem Area_any (a : Option Addr) (n cap : Nat) (l : List Bk) (w : World) (h : rowB w a n l) :
    Calls Try.prog 13 #[.slice a n cap] w fun e w' => e = .returned (.tuple #[.int .i64 (areaV l), .int .i64 (checkI l)]) ∧ w.grownBy w' none := by
  have F0 : Hid (rowB w a n l ∧ w.grownBy w none) := ⟨h, grown_refl w none⟩
  have hl := Lib.hid (rowB_len h)
  have hm := h.2.1
  unfold maxLen at hm
  clear h
  by_cases hc : checkI l = 0
  · have HC := Lib.hid hc
    obtain ⟨h48, hall⟩ := check_zero hc
    rw [hl.out] at h48
    have HB := Lib.hid (inB_of hall)
    have HL : Hid ((pts l).length = n) := by show (pts l).length = n; simp [pts, hl.out]
    have rz : Hid (Rep 0 (ps ((ring (pts l)).take (0 + 1)))) := by
      have : ps ((ring (pts l)).take (0 + 1)) = 0 := by
        cases hr : ring (pts l) with
        | nil => rfl
        | cons p t => simp [ps]
      show Rep 0 _
      rw [this]; exact rep0
    clear hc hall
    go_enter Try.func13, Try.ntmps13
    go_wp2_with fail
    refine (check_any a n cap l _ F0.out.1).mono ?_
    rintro e w1 ⟨rfl, hg⟩
    rw [HC.out]
    have F1 := keep hg F0
    clear hg F0
    go_wp2_with fail
    go_loopw [5, 16] (fun s i wr => AreaAt (pts l) n s i ∧ (rowB wr a n l ∧ w.grownBy wr none)) (fun _ i _ => n - (intOf i).toNat)
    case atStart => exact ⟨⟨0, 0, by omega, rfl, rfl, rz.out⟩, F1.out⟩
    case round =>
      obtain ⟨⟨k, b, hk, rfl, rfl, hrep⟩, hF⟩ := hrel
      have F := Lib.hid hF
      have R := Lib.hid hrep
      clear hrep hF F1
      by_cases hkn : k < n
      · have hml : (k + 1) % n < n := Nat.mod_lt _ (by omega)
        obtain ⟨t, ht⟩ : ∃ t, l[k]? = some t := ⟨_, List.getElem?_eq_getElem (by rw [hl.out]; exact hkn)⟩
        obtain ⟨u, hu⟩ : ∃ u, l[(k + 1) % n]? = some u := ⟨_, List.getElem?_eq_getElem (by rw [hl.out]; exact hml)⟩
        have it := HB.out _ (List.mem_of_getElem? (pts_at ht))
        have iu := HB.out _ (List.mem_of_getElem? (pts_at hu))
        obtain ⟨re, im, hmul, him⟩ := cross_rep it iu
        have hstep := ps_snoc (ring (pts l)) k t.p u.p (ring_at (pts_at ht)) (ring_next (by rw [HL.out]; exact hkn) (by rw [HL.out]; exact pts_at hu))
        have hbd := sum_bd HB.out (by rw [HL.out]; omega) (k + 2)
        obtain ⟨s', hadd, hs'⟩ := rep_add R.out him (by rw [← hstep]; omega)
        rw [← hstep] at hs'
        have S := Lib.hid hs'
        have hop := fun t w => run_complex_mul (P := Try.prog) w t _ _ _ _ _ _ hmul
        have hop2 := fun t w => run_float_arith (P := Try.prog) w .add t .f64 b im s' hadd
        obtain ⟨bl, off, rfl, hb, c0, c1, c2⟩ := block_at F.out.1 ht
        obtain ⟨bl', off', he, hb', d0, d1, d2⟩ := block_at F.out.1 hu
        obtain ⟨rfl, rfl⟩ : bl = bl' ∧ off = off' := by simpa using he
        have hk' : (k : Int) < n := by omega
        have hmod := mod_nat k n
        generalize (k + 1) % n = m at *
        have HI : Hid (inP t.p.1 t.p.2 ∧ inP u.p.1 u.p.2) := ⟨it, iu⟩
        clear hmul him hstep hbd hadd hs' ht hu it iu he hb'
        go_wp2_with fail
        have B := two_new wr (.cells #[.string t.nm, .int .i64 t.p.1, .int .i64 t.p.2] 30) (.cells #[.string u.nm, .int .i64 u.p.1, .int .i64 u.p.2] 30)
        have y1 := after_at B.1
        have y2 := after_at B.2.1
        have hB := Lib.hid B.2.2
        refine wp_region_after (by kernel_rfl) (by kernel_rfl) (grown_refl _ _) ?_
        repeat (go_big_quiet_step ((first | (go_at_call 28; exact after_call (point_ok _ _ _ _)) | (go_at_call 26; exact after_same (conjugate_ok _ _ _)))))
        refine wpQuiet_nil ?_
        rintro _ ⟨v, rfl⟩
        have F3 := keep (grown_trans hB.out v.grown) F
        clear y1 y2 c0 c1 c2 d0 d1 d2 hop hop2 hmod B F
        go_wp2_with fail
        go_roundw
        case rel => exact ⟨⟨k + 1, s', by omega, by go_num, rfl, S.out⟩, F3.out⟩
        case measure => simp [intOf]; omega
      · obtain rfl : k = n := by omega
        have hcv : Hid (∀ w, (convert 57 3 (.float .f64 b)).run Try.prog w = .ok (.int .i64 (areaI (pts l))) w) := by
          have R' := R.out
          rw [area_full (by rw [HL.out])] at R'
          exact conv_rep R' (by have := area_bd HB.out (by rw [HL.out]; omega); omega)
        have hcv2 := hcv.out
        clear hkn hcv
        go_wp2_with fail
        go_ret2
        exact ⟨by rw [show areaV l = areaI (pts l) from if_pos HC.out, HC.out]; rfl, F.out.2⟩
  · have HC := Lib.hid hc
    have hv := check_val l
    clear hc
    go_enter Try.func13, Try.ntmps13
    go_wp2_with fail
    refine (check_any a n cap l _ F0.out.1).mono ?_
    generalize hcg : checkI l = c at *
    have HG := Lib.hid hcg
    clear hcg
    rintro e w1 ⟨rfl, hg⟩
    have F1 := keep hg F0
    clear hg F0
    rcases hv with rfl | rfl | rfl
    · exact absurd rfl HC.out
    · go_wp2_with fail
      go_ret2
      exact ⟨by rw [show areaV l = 0 from if_neg (by rw [HG.out]; exact HC.out), HG.out]; rfl, F1.out.2⟩
    · go_wp2_with fail
      go_ret2
      exact ⟨by rw [show areaV l = 0 from if_neg (by rw [HG.out]; exact HC.out), HG.out]; rfl, F1.out.2⟩
end Go.Proofs.Ytggmgnmjloagbaa
