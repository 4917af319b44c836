/- The contracts of Choose (program and reference). -/
import Derived.Test.YtfdnbkclpnaijaaTask
import Derived.Test.YtfdnbkclpnaijaaScope
namespace Go.Proofs.Ytfdnbkclpnaijaa
open Go.RowKit
set_option linter.unusedVariables false

/-- P23.2: the task that is chosen, from place i on. -/
def nextI : List Tk → List Bool → Int → Nat → Int
  | t :: ts, c :: cs, ag, i => if t.state = 0 then (if c then (i : Int) else if ag ≤ t.over then -1 else nextI ts cs ag (i + 1)) else nextI ts cs ag (i + 1)
  | _, _, _, _ => -1
def chooseOut (ts : List Tk) (cs : List Bool) (ag : Int) : Int × Int :=
  if validB ts then (if cs.length = ts.length ∧ 0 ≤ ag ∧ ag ≤ 4 then (nextI ts cs ag 0, 0) else (0, 19)) else (0, 20)

theorem nextI_step {ts : List Tk} {cs : List Bool} {ag : Int} {k : Nat} {t : Tk} {c : Bool} (ht : ts[k]? = some t) (hc : cs[k]? = some c) :
    nextI (ts.drop k) (cs.drop k) ag k = if t.state = 0 then (if c then (k : Int) else if ag ≤ t.over then -1 else nextI (ts.drop (k + 1)) (cs.drop (k + 1)) ag (k + 1)) else nextI (ts.drop (k + 1)) (cs.drop (k + 1)) ag (k + 1) := by
  obtain ⟨h1, h2⟩ := List.getElem?_eq_some_iff.1 ht
  obtain ⟨h3, h4⟩ := List.getElem?_eq_some_iff.1 hc
  rw [List.drop_eq_getElem_cons h1, List.drop_eq_getElem_cons h3, h2, h4, nextI]
theorem nextI_end {ts : List Tk} {cs : List Bool} {ag : Int} {k : Nat} (h : ts.length ≤ k) : nextI (ts.drop k) (cs.drop k) ag k = -1 := by
  rw [List.drop_eq_nil_of_le h, nextI]
  simp

theorem bool_at {w : World} {a : Option Addr} {n : Nat} {cs : List Bool} (h : RowIn w a n 1 (cs.map Value.bool)) {k : Nat} {c : Bool} (hk : cs[k]? = some c) :
    ∃ b off, a = some ⟨b, off, none⟩ ∧ w.cell? ⟨b, off + k, none⟩ = some (.bool c) := by
  have hl := h.1
  have hkl := (List.getElem?_eq_some_iff.1 hk).1
  simp at hl
  obtain ⟨b, off, rfl, hc⟩ := h.at (by omega)
  exact ⟨b, off, rfl, hc k _ (by simp [hk])⟩

def chJ (a : Option Addr) (n cap : Nat) (ac : Option Addr) (m capc : Nat) (ag : Int) (ts : List Tk) (cs : List Bool) (w : World) (nn l : Nat) (A : Act) (w' : World) : Prop :=
  w.grownBy w' none ∧
  ((l = 1 ∧ ∃ k : Nat, k ≤ n ∧ nn + k = n + 5 ∧ nextI ts cs ag 0 = nextI (ts.drop k) (cs.drop k) ag k ∧ ∃ y3 y4 y5 y9 y10 y11 y12 y13 y14 y15 y16 y17 y18 y19 y20 y21 y22 y23 y24 y25 y26 y27 y28 y29 y30 y31 y32 y33 y34 y35 y36 y37 y38 y39 y40 y41 y42 y43 y44 y45 y46 y47 y48 : Value, A = { tmps := #[.slice a n cap, .slice ac m capc, .int .i64 ag, y3, y4, y5, .int .i64 0, .int .i64 0, .int .i64 k, y9, y10, y11, y12, y13, y14, y15, y16, y17, y18, y19, y20, y21, y22, y23, y24, y25, y26, y27, y28, y29, y30, y31, y32, y33, y34, y35, y36, y37, y38, y39, y40, y41, y42, y43, y44, y45, y46, y47, y48], defers := [] }) ∨
   (l = 0 ∧ nextI ts cs ag 0 = -1 ∧ ∃ y0 y1 y2 y3 y4 y5 y8 y9 y10 y11 y12 y13 y14 y15 y16 y17 y18 y19 y20 y21 y22 y23 y24 y25 y26 y27 y28 y29 y30 y31 y32 y33 y34 y35 y36 y37 y38 y39 y40 y41 y42 y43 y44 y45 y46 y47 y48 : Value, A = { tmps := #[y0, y1, y2, y3, y4, y5, .int .i64 0, .int .i64 0, y8, y9, y10, y11, y12, y13, y14, y15, y16, y17, y18, y19, y20, y21, y22, y23, y24, y25, y26, y27, y28, y29, y30, y31, y32, y33, y34, y35, y36, y37, y38, y39, y40, y41, y42, y43, y44, y45, y46, y47, y48], defers := [] }))

set_option maxHeartbeats 400000 in
theorem ChooseP_invalid (a : Option Addr) (n cap : Nat) (ts : List Tk) (v : Value) (ag : Int) (w : World) (h : RowIn w a n 5 (flat ts)) (hn : ts.length = n) (hv : validB ts = false) :
    Calls Try.prog 9 #[.slice a n cap, v, .int .i64 ag] w fun e w' => e = .returned (.tuple #[.int .i64 0, .int .i64 20]) ∧ w.grownBy w' none := by
  have hc := validP a n cap ts w h hn
  rw [hv] at hc
  have hc' := Lib.hid hc
  clear hc h hv
  go_enter Try.func9, Try.ntmps9
  go_wp2
  refine wp_scope_straight ?_
  go_wp2_with fail
  refine hc'.out.mono ?_
  rintro e w1 ⟨rfl, hg⟩
  have hg' := Lib.hid hg
  clear hg hc'
  go_wp2
  (try rw [Exit.noGoto_ret])
  go_ret2
  exact ⟨rfl, hg'.out⟩

set_option maxHeartbeats 800000 in
theorem ChooseP_range (a : Option Addr) (n cap : Nat) (ts : List Tk) (ac : Option Addr) (m capc : Nat) (ag : Int) (w : World) (h : RowIn w a n 5 (flat ts)) (hn : ts.length = n) (hv : validB ts = true)
    (hm : m ≤ 9223372036854775807) (hr : ¬ (m = n ∧ 0 ≤ ag ∧ ag ≤ 4)) :
    Calls Try.prog 9 #[.slice a n cap, .slice ac m capc, .int .i64 ag] w fun e w' => e = .returned (.tuple #[.int .i64 0, .int .i64 19]) ∧ w.grownBy w' none := by
  have hnm := h.2.1
  unfold maxLen at hnm
  have hc := validP a n cap ts w h hn
  rw [hv] at hc
  have hc' := Lib.hid hc
  clear hc h hv
  by_cases h1 : m = n
  · subst h1
    by_cases h2 : ag < 0
    · go_enter Try.func9, Try.ntmps9
      go_wp2
      refine wp_scope_straight ?_
      go_wp2_with fail
      refine hc'.out.mono ?_
      rintro e w1 ⟨rfl, hg⟩
      have hg' := Lib.hid hg
      clear hg hc' hr
      go_wp2
      (try rw [Exit.noGoto_ret])
      go_ret2
      exact ⟨rfl, hg'.out⟩
    · have h3 : 4 < ag := by omega
      go_enter Try.func9, Try.ntmps9
      go_wp2
      refine wp_scope_straight ?_
      go_wp2_with fail
      refine hc'.out.mono ?_
      rintro e w1 ⟨rfl, hg⟩
      have hg' := Lib.hid hg
      clear hg hc' hr
      go_wp2
      (try rw [Exit.noGoto_ret])
      go_ret2
      exact ⟨rfl, hg'.out⟩
  · have hb : ((m : Int) == (n : Int)) = false := by simp; omega
    have hb' : ((m : Int) != (n : Int)) = true := by simp [bne]; omega
    clear h1 hr
    go_enter Try.func9, Try.ntmps9
    go_wp2
    refine wp_scope_straight ?_
    go_wp2_with fail
    refine hc'.out.mono ?_
    rintro e w1 ⟨rfl, hg⟩
    have hg' := Lib.hid hg
    clear hg hc'
    go_wp2
    (try rw [Exit.noGoto_ret])
    go_ret2
    exact ⟨rfl, hg'.out⟩

set_option maxHeartbeats 1600000 in
theorem ChooseP_ok (a : Option Addr) (n cap : Nat) (ts : List Tk) (ac : Option Addr) (capc : Nat) (cs : List Bool) (ag : Int) (w : World) (h : RowIn w a n 5 (flat ts)) (hn : ts.length = n) (hv : validB ts = true)
    (hcs : RowIn w ac n 1 (cs.map Value.bool)) (ha : 0 ≤ ag) (ha4 : ag ≤ 4) :
    Calls Try.prog 9 #[.slice a n cap, .slice ac n capc, .int .i64 ag] w fun e w' => e = .returned (.tuple #[.int .i64 (nextI ts cs ag 0), .int .i64 0]) ∧ w.grownBy w' none := by
  have hnm := h.2.1
  unfold maxLen at hnm
  have hc := validP a n cap ts w h hn
  rw [hv] at hc
  have hc' := Lib.hid hc
  have hr := Lib.hid h
  have hcr := Lib.hid hcs
  have hcn : cs.length = n := by have := hcs.1; simpa using this
  clear hc h hv hcs
  go_enter Try.func9, Try.ntmps9
  go_wp2
  refine wp_scope_many (chJ a n cap ac n capc ag ts cs w) ?_ ?_
  · go_wp2_with fail
    refine hc'.out.mono ?_
    rintro e w1 ⟨rfl, hg⟩
    have hg' := Lib.hid hg
    have hrk := Lib.hid (hr.out.kept hg)
    have hck := Lib.hid (hcr.out.kept hg)
    clear hg hc' hr hcr
    go_wp2
    go_step3
    by_cases hkn : 0 < n
    · obtain ⟨t, ht⟩ : ∃ t, ts[0]? = some t := ⟨_, List.getElem?_eq_getElem (by omega)⟩
      obtain ⟨c, hcv⟩ : ∃ c, cs[0]? = some c := ⟨_, List.getElem?_eq_getElem (by omega)⟩
      obtain ⟨b, off, rfl, c0, c1, c2, c3, c4⟩ := task_at hrk.out ht
      obtain ⟨bc, offc, rfl, cc⟩ := bool_at hck.out hcv
      have hlt := lt_of_cell c0
      simp only at hlt
      have hk' : (0 : Int) < n := by omega
      have hkb : ((0 : Int) == (n : Int)) = false := by simp; omega
      have hst := Lib.hid ((show nextI ts cs ag 0 = _ from nextI_step (k := 0) (ag := ag) ht hcv))
      simp only [Nat.zero_mul, Nat.add_zero] at c0 c1 c2 c3 c4 cc
      clear ht hcv
      by_cases h0 : t.state = 0
      · rw [h0] at c2
        cases c
        · by_cases hov : ag ≤ t.over
          · have hfin : Hid (nextI ts cs ag 0 = -1) := Lib.hid (by
              have := hst.out; simp only [h0, if_true, Bool.false_eq_true, if_false, if_pos hov] at this; exact this)
            clear hst h0
            go_wp2
            go_step3
            (try simp only [Exit.then])
            refine jumpsTo_goto ⟨0, hg'.out, .inr ⟨rfl, hfin.out, ⟨_, _, _, _, _, _, _, _, _, _, _, _, _, _, _, _, _, _, _, _, _, _, _, _, _, _, _, _, _, _, _, _, _, _, _, _, _, _, _, _, _, _, _, _, _, _, _, rfl⟩⟩⟩
          · have hfin : Hid (nextI ts cs ag 0 = nextI (ts.drop (0 + 1)) (cs.drop (0 + 1)) ag (0 + 1)) := Lib.hid (by
              have := hst.out; simp only [h0, if_true, Bool.false_eq_true, if_false, if_neg hov] at this; exact this)
            have hov' : t.over < ag := by omega
            clear hst h0 hov
            go_wp2
            go_step3
            (try simp only [Exit.then])
            refine jumpsTo_goto ⟨n + 4, hg'.out, .inl ⟨rfl, 0 + 1, by omega, by omega, hfin.out, ⟨_, _, _, _, _, _, _, _, _, _, _, _, _, _, _, _, _, _, _, _, _, _, _, _, _, _, _, _, _, _, _, _, _, _, _, _, _, _, _, _, _, _, _, rfl⟩⟩⟩
        · have hfin : Hid (nextI ts cs ag 0 = 0) := Lib.hid (by
            have := hst.out; simp only [h0, if_true] at this; exact this)
          clear hst h0
          go_wp2
          refine jumpsTo_ret ?_
          go_ret2
          exact ⟨by rw [hfin.out]; rfl, hg'.out⟩
      · have hsb : (t.state == 0) = false := by simpa using h0
        have hfin : Hid (nextI ts cs ag 0 = nextI (ts.drop (0 + 1)) (cs.drop (0 + 1)) ag (0 + 1)) := Lib.hid (by
          have := hst.out; simp only [if_neg h0] at this; exact this)
        clear hst h0
        go_wp2
        go_step3
        (try simp only [Exit.then])
        refine jumpsTo_goto ⟨n + 4, hg'.out, .inl ⟨rfl, 0 + 1, by omega, by omega, hfin.out, ⟨_, _, _, _, _, _, _, _, _, _, _, _, _, _, _, _, _, _, _, _, _, _, _, _, _, _, _, _, _, _, _, _, _, _, _, _, _, _, _, _, _, _, _, rfl⟩⟩⟩
    · have hfin := Lib.hid ((show nextI ts cs ag 0 = -1 from nextI_end (ts := ts) (cs := cs) (ag := ag) (k := 0) (by omega)))
      have hkb : ((0 : Int) == (n : Int)) = true := by simp; omega
      go_wp2
      go_step3
      (try simp only [Exit.then])
      refine jumpsTo_goto ⟨0, hg'.out, .inr ⟨rfl, hfin.out, ⟨_, _, _, _, _, _, _, _, _, _, _, _, _, _, _, _, _, _, _, _, _, _, _, _, _, _, _, _, _, _, _, _, _, _, _, _, _, _, _, _, _, _, _, _, _, _, _, rfl⟩⟩⟩
  · rintro nn l A w1 ⟨hg, ⟨rfl, k, hk, hnn, hnx, y3, y4, y5, y9, y10, y11, y12, y13, y14, y15, y16, y17, y18, y19, y20, y21, y22, y23, y24, y25, y26, y27, y28, y29, y30, y31, y32, y33, y34, y35, y36, y37, y38, y39, y40, y41, y42, y43, y44, y45, y46, y47, y48, rfl⟩ | ⟨rfl, hnx, y0, y1, y2, y3, y4, y5, y8, y9, y10, y11, y12, y13, y14, y15, y16, y17, y18, y19, y20, y21, y22, y23, y24, y25, y26, y27, y28, y29, y30, y31, y32, y33, y34, y35, y36, y37, y38, y39, y40, y41, y42, y43, y44, y45, y46, y47, y48, rfl⟩⟩
    · refine ⟨_, rfl, ?_⟩
      have hg' := Lib.hid hg
      have hrk := Lib.hid (hr.out.kept hg)
      have hck := Lib.hid (hcr.out.kept hg)
      have hnx' := Lib.hid hnx
      clear hg hc' hr hcr hnx
      by_cases hkn : k < n
      · obtain ⟨t, ht⟩ : ∃ t, ts[k]? = some t := ⟨_, List.getElem?_eq_getElem (by omega)⟩
        obtain ⟨c, hcv⟩ : ∃ c, cs[k]? = some c := ⟨_, List.getElem?_eq_getElem (by omega)⟩
        obtain ⟨b, off, rfl, c0, c1, c2, c3, c4⟩ := task_at hrk.out ht
        obtain ⟨bc, offc, rfl, cc⟩ := bool_at hck.out hcv
        have hlt := lt_of_cell c0
        simp only at hlt
        have hk' : (k : Int) < n := by omega
        have hkb : ((k : Int) == (n : Int)) = false := by simp; omega
        have hst := Lib.hid (hnx'.out.trans (nextI_step ht hcv))
        skip
        clear ht hcv
        by_cases h0 : t.state = 0
        · rw [h0] at c2
          cases c
          · by_cases hov : ag ≤ t.over
            · have hfin : Hid (nextI ts cs ag 0 = -1) := Lib.hid (by
                have := hst.out; simp only [h0, if_true, Bool.false_eq_true, if_false, if_pos hov] at this; exact this)
              clear hst h0
              go_wp2
              go_step3
              (try simp only [Exit.then])
              refine jumpsTo_goto ⟨0, by omega, hg'.out, .inr ⟨rfl, hfin.out, ⟨_, _, _, _, _, _, _, _, _, _, _, _, _, _, _, _, _, _, _, _, _, _, _, _, _, _, _, _, _, _, _, _, _, _, _, _, _, _, _, _, _, _, _, _, _, _, _, rfl⟩⟩⟩
            · have hfin : Hid (nextI ts cs ag 0 = nextI (ts.drop (k + 1)) (cs.drop (k + 1)) ag (k + 1)) := Lib.hid (by
                have := hst.out; simp only [h0, if_true, Bool.false_eq_true, if_false, if_neg hov] at this; exact this)
              have hov' : t.over < ag := by omega
              clear hst h0 hov
              go_wp2
              go_step3
              (try simp only [Exit.then])
              refine jumpsTo_goto ⟨nn - 1, by omega, hg'.out, .inl ⟨rfl, k + 1, by omega, by omega, hfin.out, ⟨_, _, _, _, _, _, _, _, _, _, _, _, _, _, _, _, _, _, _, _, _, _, _, _, _, _, _, _, _, _, _, _, _, _, _, _, _, _, _, _, _, _, _, rfl⟩⟩⟩
          · have hfin : Hid (nextI ts cs ag 0 = k) := Lib.hid (by
              have := hst.out; simp only [h0, if_true] at this; exact this)
            clear hst h0
            go_wp2
            refine jumpsTo_ret ?_
            go_ret2
            exact ⟨by rw [hfin.out]; rfl, hg'.out⟩
        · have hsb : (t.state == 0) = false := by simpa using h0
          have hfin : Hid (nextI ts cs ag 0 = nextI (ts.drop (k + 1)) (cs.drop (k + 1)) ag (k + 1)) := Lib.hid (by
            have := hst.out; simp only [if_neg h0] at this; exact this)
          clear hst h0
          go_wp2
          go_step3
          (try simp only [Exit.then])
          refine jumpsTo_goto ⟨nn - 1, by omega, hg'.out, .inl ⟨rfl, k + 1, by omega, by omega, hfin.out, ⟨_, _, _, _, _, _, _, _, _, _, _, _, _, _, _, _, _, _, _, _, _, _, _, _, _, _, _, _, _, _, _, _, _, _, _, _, _, _, _, _, _, _, _, rfl⟩⟩⟩
      · have hfin := Lib.hid (hnx'.out.trans (nextI_end (by omega)))
        have hkb : ((k : Int) == (n : Int)) = true := by simp; omega
        go_wp2
        go_step3
        (try simp only [Exit.then])
        refine jumpsTo_goto ⟨0, by omega, hg'.out, .inr ⟨rfl, hfin.out, ⟨_, _, _, _, _, _, _, _, _, _, _, _, _, _, _, _, _, _, _, _, _, _, _, _, _, _, _, _, _, _, _, _, _, _, _, _, _, _, _, _, _, _, _, _, _, _, _, rfl⟩⟩⟩
    · refine ⟨_, rfl, ?_⟩
      have hg' := Lib.hid hg
      have hnx' := Lib.hid hnx
      clear hg hc' hr hcr hnx
      go_wp2
      refine jumpsTo_ret ?_
      go_ret2
      exact ⟨by rw [hnx'.out]; rfl, hg'.out⟩
end Go.Proofs.Ytfdnbkclpnaijaa
