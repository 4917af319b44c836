/- The contracts of the reference: Begin and Start. -/
import Derived.Test.YtfdnbkclpnaijaaArRef2
namespace Go.Proofs.Ytfdnbkclpnaijaa
open Go.RowKit
set_option linter.unusedVariables false

theorem bump_set {ts : List Tk} {k i : Nat} {x : Tk} (hi : i ≤ k) : bump (ts.set k x) i = (bump ts i).set k x := by
  unfold bump
  rw [List.take_set, List.drop_set, List.set_eq_of_length_le (by simp; omega), if_neg (by omega)]
  by_cases h : i ≤ ts.length
  · rw [List.set_append_right _ _ (by simp; omega)]
    simp [Nat.min_eq_left h]
  · rw [List.set_append_right _ _ (by simp; omega)]
    have : ts.drop i = [] := List.drop_eq_nil_of_le (by omega)
    rw [this]; simp

set_option maxHeartbeats 3200000 in
theorem rBegin_ok (a : Option Addr) (n cap : Nat) (ts : List Tk) (k0 : Nat) (t0 : Tk) (robot : Int) (w : World) (h : RowIn w a n 5 (flat ts)) (hn : ts.length = n) (hc : a = none → cap = 0) (h32 : n ≤ 32)
    (hover : ∀ (i : Nat) (t : Tk), ts[i]? = some t → 0 ≤ t.over ∧ t.over ≤ 32) (ht : ts[k0]? = some t0) :
    Calls Try.prog 25 #[.slice a n cap, .int .i64 k0, .int .i64 robot] w fun e w' => ∃ g cp, e = .returned (.slice (some ⟨g, 0, none⟩) n cp) ∧ w.heap.size ≤ g ∧
      OwnT w' g cp n (startTs ts k0 robot) ∧ w.grownBy w' none := by
  have hkn := (List.getElem?_eq_some_iff.1 ht).1
  have R := Lib.hid h
  have HC := Lib.hid hc
  have HT := Lib.hid ht
  have OV := Lib.hid hover
  have L := Lib.hid hn
  have HR : Hid (startTs ts k0 robot = bump (ts.set k0 { t0 with state := 1, robot := robot }) k0) := Lib.hid (by
    rw [bump_set (Nat.le_refl _)]
    unfold startTs; rw [ht])
  have hk' : (k0 : Int) < n := by omega
  clear h hc ht hover
  go_enter Try.func25, Try.ntmps25
  go_wp2_with (at_builtin; refine wpList_append_in St_task rfl (.const (.slice none 0 0)) (.tmp 9) rfl rfl (World.ownsRow_nil w w.heap.size 31 5) rfl (news := flat ts) R.out HC.out tasks_one ?d1 ?d2 ?d3 ?_)
  case d1 => unfold maxLen; omega
  case d2 => omega
  case d3 => exact Nat.le_refl _
  intro v w1 hown hg hloc
  clear hloc
  have hown' : w1.ownsRow w.heap.size 31 5 v n (flat ts) := by simpa using hown
  have G1 : Hid (w.grownBy w1 none) := Lib.hid (grown_own (grown_refl w none) hg (fun g hg => by cases hg))
  obtain ⟨g, cp, rfl, hgb, hO⟩ := ownT_of_owns hown' (by omega)
  have O1 := Lib.hid hO
  have hlg := hO.lt
  have hfr := hO.free
  obtain ⟨_, _, hcp1, hcp2, _⟩ := id hO
  unfold maxLen at hcp2
  obtain ⟨b', off', he, c0, c1, c2, c3, c4⟩ := task_at hO.row HT.out
  obtain ⟨rfl, rfl⟩ : g = b' ∧ 0 = off' := by simpa using he
  simp only [Nat.zero_add] at c0 c1 c2 c3 c4
  have s1 := O1.out.set (j := 2) (t' := { t0 with state := 1 }) (v := .int .i64 1) HT.out (by omega) (by simp [Tk.cells])
  have hb1 : (ts.set k0 { t0 with state := 1 })[k0]? = some { t0 with state := 1 } := by rw [List.getElem?_set_self hkn]
  have s2 := s1.set (j := 3) (t' := { t0 with state := 1, robot := robot }) (v := .int .i64 robot) hb1 (by omega) (by simp [Tk.cells])
  rw [List.set_set] at s2
  have S2 := Lib.hid s2
  have G2 := Lib.hid (grown_set (p := ⟨g, k0 * 5 + 3, none⟩) (.int .i64 robot) (grown_set (p := ⟨g, k0 * 5 + 2, none⟩) (.int .i64 1) G1.out (.inl (by simp; omega))) (.inl (by simp; omega)))
  clear hown hown' hg hO s1 s2 hb1 he
  go_wp2_with fail
  clear c0 c1 c2 c3 c4 hfr
  go_loopw [8] (fun i wr => ∃ k : Nat, k ≤ k0 ∧ i = .int .i64 k ∧ OwnT wr g cp n (bump (ts.set k0 { t0 with state := 1, robot := robot }) k) ∧ w.grownBy wr none) (fun i _ => k0 - (intOf i).toNat)
  case atStart => exact ⟨0, by omega, rfl, S2.out, G2.out⟩
  case round =>
    obtain ⟨k, hk, rfl, hOr, hgr⟩ := hrel
    have OR := Lib.hid hOr
    have GR := Lib.hid hgr
    have hltg := hOr.lt
    have hfr := hOr.free
    clear hOr hgr S2 G2 O1 G1
    by_cases hkk : k < k0
    · obtain ⟨t, htk⟩ : ∃ t, ts[k]? = some t := ⟨_, List.getElem?_eq_getElem (by omega)⟩
      have htk2 : (ts.set k0 { t0 with state := 1, robot := robot })[k]? = some t := by rw [List.getElem?_set_ne (by omega)]; exact htk
      obtain ⟨b', off', he, c0, c1, c2, c3, c4⟩ := task_at OR.out.row (bump_at htk2)
      obtain ⟨rfl, rfl⟩ : g = b' ∧ 0 = off' := by simpa using he
      simp only [Nat.zero_add] at c0 c1 c2 c3 c4
      obtain ⟨ho1, ho2⟩ := OV.out k t htk
      have K2 := Lib.hid htk2
      have hkk' : (k : Int) < k0 := by omega
      have hkn' : (k : Int) < n := by omega
      clear htk htk2 he
      by_cases hs : t.state = 0
      · have hset := Lib.hid (OR.out.set (j := 4) (t' := bumpT t) (v := .int .i64 (t.over + 1)) (bump_at K2.out) (by omega) (by simp [bumpT, hs, Tk.cells]))
        rw [bump_succ K2.out] at hset
        rw [hs] at c2
        clear hs
        go_wp2_with fail
        go_roundw
        case rel => exact ⟨k + 1, by omega, by go_num, hset.out, grown_set _ GR.out (.inl (by simp; omega))⟩
        case measure => simp [intOf]; omega
      · have hsb : (t.state == 0) = false := by simpa using hs
        have hsame := Lib.hid (bump_same K2.out hs)
        clear hs
        go_wp2_with fail
        go_roundw
        case rel => exact ⟨k + 1, by omega, by go_num, by rw [hsame.out]; exact OR.out, GR.out⟩
        case measure => simp [intOf]; omega
    · obtain rfl : k = k0 := by omega
      go_wp2_with fail
      go_ret
      exact ⟨g, cp, rfl, hgb, by rw [HR.out]; exact OR.out, GR.out⟩

set_option maxHeartbeats 3200000 in
theorem rStart_all (a : Option Addr) (n cap : Nat) (ts : List Tk) (task robot : Int) (w : World) (h : RowIn w a n 5 (flat ts)) (hc : a = none → cap = 0) :
    Calls Try.prog 18 #[.slice a n cap, .int .i64 task, .int .i64 robot] w (StartR ts task robot w) := by
  have hn := tk_len h
  have hm := h.2.1
  unfold maxLen at hm
  have L := Lib.hid hn
  have K0 : Hid (RowIn w a n 5 (flat ts) ∧ w.grownBy w none) := Lib.hid ⟨h, grown_refl _ _⟩
  have HC := Lib.hid hc
  clear h hc
  go_enter Try.func18, Try.ntmps18
  go_wp2_with fail
  refine (validR a n cap ts _ K0.out.1 L.out).mono ?_
  rintro e w1 ⟨rfl, hg⟩
  have K1 := keep hg K0
  have z1 := hg.size
  clear hg K0
  cases hv : validB ts
  · have E : Hid (startE ts task robot = 20) := Lib.hid (by simp [startE, hv])
    clear hv
    go_wp2_with fail
    exact bodyPost_ret (v := .tuple #[.slice none 0 0, .int .i64 20]) (by simp [results, Try.results18, go_sem]) rfl ⟨K1.out.2, by rw [E.out]; rfl⟩
  have HV := Lib.hid hv
  clear hv
  by_cases h1 : task < 0
  · have E : Hid (startE ts task robot = 19) := Lib.hid (by unfold startE; rw [if_neg (by simp [HV.out]), if_pos (.inl h1)])
    go_wp2_with fail
    exact bodyPost_ret (v := .tuple #[.slice none 0 0, .int .i64 19]) (by simp [results, Try.results18, go_sem]) rfl ⟨K1.out.2, by rw [E.out]; rfl⟩
  have t1 : decide (task < 0) = false := by simpa using h1
  by_cases h2 : (n : Int) ≤ task
  · have E : Hid (startE ts task robot = 19) := Lib.hid (by unfold startE; rw [if_neg (by simp [HV.out]), if_pos (.inr (.inl (by omega)))])
    go_wp2_with fail
    exact bodyPost_ret (v := .tuple #[.slice none 0 0, .int .i64 19]) (by simp [results, Try.results18, go_sem]) rfl ⟨K1.out.2, by rw [E.out]; rfl⟩
  have t2 : decide ((n : Int) ≤ task) = false := by simpa using h2
  by_cases h3 : robot < 0
  · have E : Hid (startE ts task robot = 19) := Lib.hid (by unfold startE; rw [if_neg (by simp [HV.out]), if_pos (.inr (.inr (.inl h3)))])
    go_wp2_with fail
    exact bodyPost_ret (v := .tuple #[.slice none 0 0, .int .i64 19]) (by simp [results, Try.results18, go_sem]) rfl ⟨K1.out.2, by rw [E.out]; rfl⟩
  have t3 : decide (robot < 0) = false := by simpa using h3
  by_cases h4 : 8 ≤ robot
  · have E : Hid (startE ts task robot = 19) := Lib.hid (by unfold startE; rw [if_neg (by simp [HV.out]), if_pos (.inr (.inr (.inr h4)))])
    go_wp2_with fail
    exact bodyPost_ret (v := .tuple #[.slice none 0 0, .int .i64 19]) (by simp [results, Try.results18, go_sem]) rfl ⟨K1.out.2, by rw [E.out]; rfl⟩
  have t4 : decide (8 ≤ robot) = false := by simpa using h4
  obtain ⟨k, rfl⟩ : ∃ k : Nat, task = k := ⟨task.toNat, by omega⟩
  obtain ⟨t, ht⟩ : ∃ t, ts[k]? = some t := ⟨_, List.getElem?_eq_getElem (by omega)⟩
  obtain ⟨b, off, rfl, c0, c1, c2, c3, c4⟩ := task_at K1.out.1 ht
  have HT := Lib.hid ht
  have hkn' : (k : Int) < n := by omega
  clear ht
  by_cases h0 : t.state = 0
  · have E : Hid (startE ts k robot = 0) := Lib.hid (by unfold startE; rw [if_neg (by simp [HV.out]), if_neg (by omega), Int.toNat_natCast, HT.out]; simp [h0])
    rw [h0] at c2
    clear h0
    go_wp2_with fail
    have h32 : n ≤ 32 := by
      have := HV.out
      simp only [validB, Bool.and_eq_true, decide_eq_true_eq] at this
      omega
    refine (rBegin_ok _ n cap ts k t robot _ K1.out.1 L.out HC.out h32 (fun i t hi => by
      have hv := HV.out
      unfold validB at hv
      rw [Bool.and_eq_true, List.all_eq_true] at hv
      have := of_decide_eq_true (hv.2 t (List.mem_of_getElem? hi))
      omega) HT.out).mono ?_
    rintro e w2 ⟨g, cp, rfl, hgb, hO, hg⟩
    have O2 : Hid (w2.ownsRow w.heap.size 31 5 (.slice (some ⟨g, 0, none⟩) n cp) n (flat (startTs ts k robot))) := Lib.hid (hO.owns (by omega))
    have G2 := Lib.hid (grown_trans K1.out.2 hg)
    clear hO hg K1
    go_wp2_with fail
    exact bodyPost_ret (v := .tuple #[.slice (some ⟨g, 0, none⟩) n cp, .int .i64 0]) (by simp [results, Try.results18, go_sem]) rfl ⟨G2.out, by rw [if_pos E.out, Int.toNat_natCast, L.out]; exact ⟨_, rfl, O2.out⟩⟩
  · have hb : (t.state == 0) = false := by simpa using h0
    have hb' : (t.state != 0) = true := by simpa [bne] using h0
    have E : Hid (startE ts k robot = 24) := Lib.hid (by unfold startE; rw [if_neg (by simp [HV.out]), if_neg (by omega), Int.toNat_natCast, HT.out]; simp [h0])
    clear h0
    go_wp2_with fail
    exact bodyPost_ret (v := .tuple #[.slice none 0 0, .int .i64 24]) (by simp [results, Try.results18, go_sem]) rfl ⟨K1.out.2, by rw [E.out]; rfl⟩
end Go.Proofs.Ytfdnbkclpnaijaa
