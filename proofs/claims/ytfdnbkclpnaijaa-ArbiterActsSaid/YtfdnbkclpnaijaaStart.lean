/- The contract of arbiter.Start. -/
import Derived.Test.YtfdnbkclpnaijaaTask2
namespace Go.Proofs.Ytfdnbkclpnaijaa
open Go.RowKit
set_option linter.unusedVariables false

def bumpT (t : Tk) : Tk := if t.state = 0 then { t with over := t.over + 1 } else t
def bump (ts : List Tk) (k : Nat) : List Tk := (ts.take k).map bumpT ++ ts.drop k
/-- P23.3: the tasks behind a start. -/
def startTs (ts : List Tk) (k : Nat) (robot : Int) : List Tk :=
  match ts[k]? with
  | some t => (bump ts k).set k { t with state := 1, robot := robot }
  | none => ts

theorem bump_zero (ts : List Tk) : bump ts 0 = ts := rfl
theorem bump_at {ts : List Tk} {k : Nat} {t : Tk} (ht : ts[k]? = some t) : (bump ts k)[k]? = some t := by
  have hk := (List.getElem?_eq_some_iff.1 ht).1
  unfold bump
  rw [List.getElem?_append_right (by simp; omega)]
  simp [show min k ts.length = k by omega, ht]
theorem bump_succ {ts : List Tk} {k : Nat} {t : Tk} (ht : ts[k]? = some t) : (bump ts k).set k (bumpT t) = bump ts (k + 1) := by
  have hk := (List.getElem?_eq_some_iff.1 ht).1
  have he : ts[k] = t := by simpa [List.getElem?_eq_getElem hk] using ht
  unfold bump
  rw [List.set_append_right _ _ (by simp; omega), List.length_map, List.length_take, show k - min k ts.length = 0 by omega, List.drop_eq_getElem_cons hk, he, List.set_cons_zero,
    List.take_succ_eq_append_getElem hk, he, List.map_append]
  simp
theorem bump_same {ts : List Tk} {k : Nat} {t : Tk} (ht : ts[k]? = some t) (h0 : ¬ t.state = 0) : bump ts (k + 1) = bump ts k := by
  rw [← bump_succ ht]
  have hb : bumpT t = t := if_neg h0
  rw [hb]
  apply List.ext_getElem?
  intro i
  rw [List.getElem?_set]
  split
  · rename_i h; subst h
    have hk := (List.getElem?_eq_some_iff.1 (bump_at ht)).1
    rw [if_pos hk, bump_at ht]
  · rfl

set_option maxHeartbeats 400000 in
theorem StartP_invalid (a : Option Addr) (n cap : Nat) (ts : List Tk) (task robot : Int) (w : World) (h : RowIn w a n 5 (flat ts)) (hn : ts.length = n) (hv : validB ts = false) :
    Calls Try.prog 12 #[.slice a n cap, .int .i64 task, .int .i64 robot] w fun e w' => e = .returned (.tuple #[.slice none 0 0, .int .i64 20]) ∧ w.grownBy w' none := by
  have hc := validP a n cap ts w h hn
  rw [hv] at hc
  have hc' := Lib.hid hc
  clear hc h hv
  go_enter Try.func12, Try.ntmps12
  go_wp2_with fail
  refine hc'.out.mono ?_
  rintro e w1 ⟨rfl, hg⟩
  have hg' := Lib.hid hg
  clear hg hc'
  go_wp2
  go_ret2
  exact ⟨rfl, hg'.out⟩

set_option maxHeartbeats 1600000 in
theorem StartP_range (a : Option Addr) (n cap : Nat) (ts : List Tk) (task robot : Int) (w : World) (h : RowIn w a n 5 (flat ts)) (hn : ts.length = n) (hv : validB ts = true)
    (hr : task < 0 ∨ (n : Int) ≤ task ∨ robot < 0 ∨ 8 ≤ robot) :
    Calls Try.prog 12 #[.slice a n cap, .int .i64 task, .int .i64 robot] w fun e w' => e = .returned (.tuple #[.slice none 0 0, .int .i64 19]) ∧ w.grownBy w' none := by
  have hc := validP a n cap ts w h hn
  rw [hv] at hc
  have hc' := Lib.hid hc
  clear hc h hv
  by_cases h1 : task < 0
  · go_enter Try.func12, Try.ntmps12
    go_wp2_with fail
    refine hc'.out.mono ?_
    rintro e w1 ⟨rfl, hg⟩
    have hg' := Lib.hid hg
    clear hg hc' hr
    go_wp2
    go_ret2
    exact ⟨rfl, hg'.out⟩
  · have h1' : 0 ≤ task := by omega
    by_cases h2 : (n : Int) ≤ task
    · go_enter Try.func12, Try.ntmps12
      go_wp2_with fail
      refine hc'.out.mono ?_
      rintro e w1 ⟨rfl, hg⟩
      have hg' := Lib.hid hg
      clear hg hc' hr h1
      go_wp2
      go_ret2
      exact ⟨rfl, hg'.out⟩
    · have h2' : task < n := by omega
      by_cases h3 : robot < 0
      · go_enter Try.func12, Try.ntmps12
        go_wp2_with fail
        refine hc'.out.mono ?_
        rintro e w1 ⟨rfl, hg⟩
        have hg' := Lib.hid hg
        clear hg hc' hr h1 h2
        go_wp2
        go_ret2
        exact ⟨rfl, hg'.out⟩
      · have h4 : 8 ≤ robot := by omega
        go_enter Try.func12, Try.ntmps12
        go_wp2_with fail
        refine hc'.out.mono ?_
        rintro e w1 ⟨rfl, hg⟩
        have hg' := Lib.hid hg
        clear hg hc' hr h1 h2 h3
        go_wp2
        go_ret2
        exact ⟨rfl, hg'.out⟩

set_option maxHeartbeats 800000 in
theorem StartP_illegal (a : Option Addr) (n cap : Nat) (ts : List Tk) (k : Nat) (t : Tk) (robot : Int) (w : World) (h : RowIn w a n 5 (flat ts)) (hn : ts.length = n) (hv : validB ts = true)
    (ht : ts[k]? = some t) (h0 : ¬ t.state = 0) (hr0 : 0 ≤ robot) (hr8 : robot < 8) :
    Calls Try.prog 12 #[.slice a n cap, .int .i64 k, .int .i64 robot] w fun e w' => e = .returned (.tuple #[.slice none 0 0, .int .i64 24]) ∧ w.grownBy w' none := by
  have hc := validP a n cap ts w h hn
  rw [hv] at hc
  have hc' := Lib.hid hc
  have hkn := (List.getElem?_eq_some_iff.1 ht).1
  have hr := Lib.hid h
  have ht' := Lib.hid ht
  clear hc h hv ht
  have hk' : (k : Int) < n := by omega
  have hm := hr.out.2.1
  unfold maxLen at hm
  have hb : (t.state == 0) = false := by simpa using h0
  have hb' : (t.state != 0) = true := by simpa [bne] using h0
  go_enter Try.func12, Try.ntmps12
  go_wp2_with fail
  refine hc'.out.mono ?_
  rintro e w1 ⟨rfl, hg⟩
  have hg' := Lib.hid hg
  obtain ⟨b, off, rfl, c0, c1, c2, c3, c4⟩ := task_at (hr.out.kept hg) ht'.out
  clear hg hc'
  go_wp2
  go_ret2
  exact ⟨rfl, hg'.out⟩

set_option maxHeartbeats 3200000 in
theorem StartP_ok (a : Option Addr) (n cap : Nat) (ts : List Tk) (k0 : Nat) (t0 : Tk) (robot : Int) (w : World) (h : RowIn w a n 5 (flat ts)) (hn : ts.length = n) (hv : validB ts = true)
    (ht : ts[k0]? = some t0) (h0 : t0.state = 0) (hr0 : 0 ≤ robot) (hr8 : robot < 8) :
    Calls Try.prog 12 #[.slice a n cap, .int .i64 k0, .int .i64 robot] w fun e w' => ∃ g cp, e = .returned (.tuple #[.slice (some ⟨g, 0, none⟩) n cp, .int .i64 0]) ∧ w.heap.size ≤ g ∧
      OwnT w' g cp n (startTs ts k0 robot) ∧ w.grownBy w' none := by
  have hc := validP a n cap ts w h hn
  rw [hv] at hc
  have hc' := Lib.hid hc
  have hkn := (List.getElem?_eq_some_iff.1 ht).1
  have h32 : n ≤ 32 := by
    unfold validB at hv
    simp at hv
    omega
  have hover : Hid (∀ (i : Nat) (t : Tk), ts[i]? = some t → 0 ≤ t.over ∧ t.over ≤ 32) := Lib.hid (fun i t hi => by
    unfold validB at hv
    rw [Bool.and_eq_true, List.all_eq_true] at hv
    have := of_decide_eq_true (hv.2 t (List.mem_of_getElem? hi))
    omega)
  have hr := Lib.hid h
  have ht' := Lib.hid ht
  have hres : Hid (startTs ts k0 robot = (bump ts k0).set k0 { t0 with state := 1, robot := robot }) := by
    show startTs ts k0 robot = _
    unfold startTs; rw [ht]
  clear hc h hv ht
  have hk' : (k0 : Int) < n := by omega
  go_enter Try.func12, Try.ntmps12
  go_wp2_with fail
  refine hc'.out.mono ?_
  rintro e w1 ⟨rfl, hg⟩
  have hg' := Lib.hid hg
  obtain ⟨b, off, rfl, c0, c1, c2, c3, c4⟩ := task_at (hr.out.kept hg) ht'.out
  rw [h0] at c2
  have hrk := Lib.hid (hr.out.kept hg)
  clear hg hc' hr
  go_wp2_with fail
  refine (Clone_some _ n cap ts w1 hrk.out (by omega)).mono ?_
  rintro e w2 ⟨v, rfl, hown, hg2⟩
  obtain ⟨g, cp, rfl, hgb, hO⟩ := ownT_of_owns hown (by omega)
  have hO' := Lib.hid hO
  have hG := Lib.hid (grown_trans hg'.out hg2)
  have hgs : w.heap.size ≤ g := Nat.le_trans hg'.out.size hgb
  have hcp := hO.row.2.1
  obtain ⟨_, _, hncp, hcpm, _⟩ := hO
  unfold maxLen at hcpm
  clear c0 c1 c2 c3 c4 hrk hown hg2 hg'
  go_wp2
  go_loopw [43] (fun i wr => ∃ k : Nat, k ≤ k0 ∧ i = .int .i64 k ∧ OwnT wr g cp n (bump ts k) ∧ w.grownBy wr none) (fun i _ => k0 - (intOf i).toNat)
  case atStart => exact ⟨0, by omega, rfl, hO'.out, hG.out⟩
  case round =>
    obtain ⟨k, hk, rfl, hOr, hgr⟩ := hrel
    have hOr' := Lib.hid hOr
    have hgr' := Lib.hid hgr
    have hltg := hOr.lt
    have hfr := hOr.free
    clear hOr hgr
    by_cases hkk : k < k0
    · obtain ⟨t, htk⟩ : ∃ t, ts[k]? = some t := ⟨_, List.getElem?_eq_getElem (by omega)⟩
      obtain ⟨b', off', he, c0, c1, c2, c3, c4⟩ := task_at hOr'.out.row (bump_at htk)
      obtain ⟨rfl, rfl⟩ : g = b' ∧ 0 = off' := by simpa using he
      simp only [Nat.zero_add] at c0 c1 c2 c3 c4
      obtain ⟨ho1, ho2⟩ := hover.out k t htk
      have htk' := Lib.hid htk
      have hkk' : (k : Int) < k0 := by omega
      have hkn' : (k : Int) < n := by omega
      clear htk he
      by_cases hs : t.state = 0
      · have hset := Lib.hid (hOr'.out.set (j := 4) (t' := bumpT t) (v := .int .i64 (t.over + 1)) (bump_at htk'.out) (by omega) (by simp [bumpT, hs, Tk.cells]))
        rw [bump_succ htk'.out] at hset
        rw [hs] at c2
        clear hs
        go_wp2
        go_roundw
        case rel => exact ⟨k + 1, by omega, by go_num, hset.out, grown_set _ hgr'.out (.inl (by simp; omega))⟩
        case measure => simp [intOf]; omega
      · have hsb : (t.state == 0) = false := by simpa using hs
        have hsame := Lib.hid (bump_same htk'.out hs)
        clear hs
        go_wp2
        go_roundw
        case rel => exact ⟨k + 1, by omega, by go_num, by rw [hsame.out]; exact hOr'.out, hgr'.out⟩
        case measure => simp [intOf]; omega
    · obtain rfl : k = k0 := by omega
      obtain ⟨b', off', he, c0, c1, c2, c3, c4⟩ := task_at hOr'.out.row (bump_at ht'.out)
      obtain ⟨rfl, rfl⟩ : g = b' ∧ 0 = off' := by simpa using he
      simp only [Nat.zero_add] at c0 c1 c2 c3 c4
      have s1 := hOr'.out.set (j := 2) (t' := { t0 with state := 1 }) (v := .int .i64 1) (bump_at ht'.out) (by omega) (by simp [Tk.cells])
      have hb1 : ((bump ts k).set k { t0 with state := 1 })[k]? = some { t0 with state := 1 } := by
        rw [List.getElem?_set_self (List.getElem?_eq_some_iff.1 (bump_at ht'.out)).1]
      have s2 := s1.set (j := 3) (t' := { t0 with state := 1, robot := robot }) (v := .int .i64 robot) hb1 (by omega) (by simp [Tk.cells])
      rw [List.set_set, ← hres.out] at s2
      have s2' := Lib.hid s2
      clear s1 s2 hb1 he
      go_wp2
      go_ret2
      exact ⟨g, cp, rfl, hgs, s2'.out, grown_set _ (grown_set _ hgr'.out (.inl (by simp; omega))) (.inl (by simp; omega))⟩
end Go.Proofs.Ytfdnbkclpnaijaa
