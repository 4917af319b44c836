/- The contracts of the reference: Next, Choose, Begin, Start; one result for program and reference. -/
import Derived.Test.YtfdnbkclpnaijaaArRef
import Derived.Test.YtfdnbkclpnaijaaChoose
namespace Go.Proofs.Ytfdnbkclpnaijaa
open Go.RowKit
set_option linter.unusedVariables false

set_option maxHeartbeats 1600000 in
theorem rNext_any (a : Option Addr) (n cap : Nat) (ts : List Tk) (ac : Option Addr) (capc : Nat) (cs : List Bool) (ag : Int) (w : World) (h : RowIn w a n 5 (flat ts)) (hn : ts.length = n)
    (hcs : RowIn w ac n 1 (cs.map Value.bool)) :
    Calls Try.prog 24 #[.slice a n cap, .slice ac n capc, .int .i64 ag] w fun e w' => e = .returned (.int .i64 (nextI ts cs ag 0)) ∧ w' = w := by
  have hnm := h.2.1
  have hcl : cs.length = n := by have := hcs.1; simpa using this
  unfold maxLen at hnm
  have R := Lib.hid h
  have C := Lib.hid hcs
  have L := Lib.hid hn
  have M := Lib.hid hcl
  clear h hcs hn hcl
  go_enter Try.func24, Try.ntmps24
  go_wp2_with fail
  go_loopw [7] (fun i wr => ∃ k : Nat, k ≤ n ∧ i = .int .i64 k ∧ nextI ts cs ag 0 = nextI (ts.drop k) (cs.drop k) ag k ∧ wr = w) (fun i _ => n - (intOf i).toNat)
  case atStart => exact ⟨0, by omega, rfl, rfl, rfl⟩
  case round =>
    obtain ⟨k, hk, rfl, hx, rfl⟩ := hrel
    have X := Lib.hid hx
    clear hx
    by_cases hkn : k < n
    · obtain ⟨t, ht⟩ : ∃ t, ts[k]? = some t := ⟨_, List.getElem?_eq_getElem (by rw [L.out]; exact hkn)⟩
      obtain ⟨c, hc⟩ : ∃ c, cs[k]? = some c := ⟨_, List.getElem?_eq_getElem (by rw [M.out]; exact hkn)⟩
      obtain ⟨b, off, rfl, c0, c1, c2, c3, c4⟩ := task_at R.out ht
      obtain ⟨bc, offc, rfl, cc⟩ := bool_at C.out hc
      have hk' : (k : Int) < n := by omega
      have ST := Lib.hid (X.out.trans (nextI_step ht hc))
      clear ht hc
      by_cases h0 : t.state = 0
      · rw [h0] at c2
        cases c
        · by_cases hov : ag ≤ t.over
          · have F : Hid (nextI ts cs ag 0 = -1) := Lib.hid (by have := ST.out; simp only [h0, if_true, Bool.false_eq_true, if_false, if_pos hov] at this; exact this)
            clear ST h0
            go_wp2_with fail
            go_ret
            exact ⟨ret_int F.out.symm, rfl⟩
          · have F : Hid (nextI ts cs ag 0 = nextI (ts.drop (k + 1)) (cs.drop (k + 1)) ag (k + 1)) := Lib.hid (by have := ST.out; simp only [h0, if_true, Bool.false_eq_true, if_false, if_neg hov] at this; exact this)
            have hov' : t.over < ag := by omega
            clear ST h0 hov
            go_wp2_with fail
            go_roundw
            case rel => exact ⟨k + 1, by omega, by go_num, F.out, trivial⟩
            case measure => simp [intOf]; omega
        · have F : Hid (nextI ts cs ag 0 = k) := Lib.hid (by have := ST.out; simp only [h0, if_true] at this; exact this)
          clear ST h0
          go_wp2_with fail
          go_ret
          exact ⟨ret_int F.out.symm, rfl⟩
      · have hsb : (t.state == 0) = false := by simpa using h0
        have hsb' : (t.state != 0) = true := by simpa [bne] using h0
        have F : Hid (nextI ts cs ag 0 = nextI (ts.drop (k + 1)) (cs.drop (k + 1)) ag (k + 1)) := Lib.hid (by have := ST.out; simp only [if_neg h0] at this; exact this)
        clear ST h0
        go_wp2_with fail
        go_roundw
        case rel => exact ⟨k + 1, by omega, by go_num, F.out, trivial⟩
        case measure => simp [intOf]; omega
    · have F := Lib.hid (X.out.trans (nextI_end (by have := L.out; omega)))
      obtain rfl : k = n := by omega
      go_wp2_with fail
      go_ret
      exact ⟨ret_int F.out.symm, rfl⟩

/-- What Choose returns, whatever came in. -/
def ChooseR (ts : List Tk) (cs : List Bool) (ag : Int) (w : World) (e : Ending) (w' : World) : Prop := e = .returned (.tuple #[.int .i64 (chooseOut ts cs ag).1, .int .i64 (chooseOut ts cs ag).2]) ∧ w.grownBy w' none
theorem Choose_all (a : Option Addr) (n cap : Nat) (ts : List Tk) (ac : Option Addr) (m capc : Nat) (cs : List Bool) (ag : Int) (w : World) (h : RowIn w a n 5 (flat ts)) (hcs : RowIn w ac m 1 (bools cs)) :
    Calls Try.prog 9 #[.slice a n cap, .slice ac m capc, .int .i64 ag] w (ChooseR ts cs ag w) := by
  have hn := tk_len h
  have hm := hcs.len1b
  have hmm := hcs.2.1
  unfold maxLen at hmm
  unfold ChooseR chooseOut
  cases hv : validB ts
  · exact (ChooseP_invalid a n cap ts _ ag w h hn hv).mono fun e w' ⟨h1, h2⟩ => ⟨by simpa using h1, h2⟩
  · by_cases hr : m = n ∧ 0 ≤ ag ∧ ag ≤ 4
    · obtain ⟨rfl, h1, h2⟩ := hr
      refine (ChooseP_ok a m cap ts ac capc cs ag w h hn hv hcs h1 h2).mono fun e w' ⟨h1', h2'⟩ => ⟨?_, h2'⟩
      rw [if_pos rfl, if_pos ⟨by omega, h1, h2⟩]; exact h1'
    · refine (ChooseP_range a n cap ts ac m capc ag w h hn hv (by omega) hr).mono fun e w' ⟨h1', h2'⟩ => ⟨?_, h2'⟩
      rw [if_pos rfl, if_neg (fun k => hr ⟨by omega, k.2⟩)]; exact h1'

set_option maxHeartbeats 1600000 in
theorem rChoose_all (a : Option Addr) (n cap : Nat) (ts : List Tk) (ac : Option Addr) (m capc : Nat) (cs : List Bool) (ag : Int) (w : World) (h : RowIn w a n 5 (flat ts)) (hcs : RowIn w ac m 1 (bools cs)) :
    Calls Try.prog 17 #[.slice a n cap, .slice ac m capc, .int .i64 ag] w (ChooseR ts cs ag w) := by
  have L := Lib.hid (tk_len h)
  have M := Lib.hid hcs.len1b
  have hnm := h.2.1
  have hmm := hcs.2.1
  unfold maxLen at hmm hnm
  have K0 : Hid (RowIn w a n 5 (flat ts) ∧ RowIn w ac m 1 (bools cs) ∧ w.grownBy w none) := Lib.hid ⟨h, hcs, grown_refl _ _⟩
  clear h hcs
  go_enter Try.func17, Try.ntmps17
  go_wp2_with fail
  refine (validR a n cap ts _ K0.out.1 L.out).mono ?_
  rintro e w1 ⟨rfl, hg⟩
  have K1 := keep hg K0
  clear hg K0
  cases hv : validB ts
  · have E : Hid (chooseOut ts cs ag = (0, 20)) := Lib.hid (by simp [chooseOut, hv])
    clear hv
    go_wp2_with fail
    exact bodyPost_ret (v := .tuple #[.int .i64 0, .int .i64 20]) (by simp [results, Try.results17, go_sem]) rfl ⟨by rw [E.out], K1.out.2.2⟩
  have HV := Lib.hid hv
  clear hv
  by_cases hmn : m = n
  · subst hmn
    by_cases h1 : ag < 0
    · have E : Hid (chooseOut ts cs ag = (0, 19)) := Lib.hid (by unfold chooseOut; rw [if_pos HV.out, if_neg (by omega)])
      go_wp2_with fail
      exact bodyPost_ret (v := .tuple #[.int .i64 0, .int .i64 19]) (by simp [results, Try.results17, go_sem]) rfl ⟨by rw [E.out], K1.out.2.2⟩
    by_cases h2 : 4 < ag
    · have E : Hid (chooseOut ts cs ag = (0, 19)) := Lib.hid (by unfold chooseOut; rw [if_pos HV.out, if_neg (by omega)])
      go_wp2_with fail
      exact bodyPost_ret (v := .tuple #[.int .i64 0, .int .i64 19]) (by simp [results, Try.results17, go_sem]) rfl ⟨by rw [E.out], K1.out.2.2⟩
    have t1 : decide (ag < 0) = false := by simpa using h1
    have t2 : decide (4 < ag) = false := by simpa using h2
    have E : Hid (chooseOut ts cs ag = (nextI ts cs ag 0, 0)) := Lib.hid (by unfold chooseOut; rw [if_pos HV.out, if_pos ⟨by rw [M.out, L.out], by omega, by omega⟩])
    go_wp2_with fail
    refine (rNext_any a m cap ts ac capc cs ag _ K1.out.1 L.out K1.out.2.1).mono ?_
    rintro e w2 ⟨rfl, rfl⟩
    go_wp2_with fail
    exact bodyPost_ret (v := .tuple #[.int .i64 (nextI ts cs ag 0), .int .i64 0]) (by simp [results, Try.results17, go_sem]) rfl ⟨by rw [E.out], K1.out.2.2⟩
  · have E : Hid (chooseOut ts cs ag = (0, 19)) := Lib.hid (by unfold chooseOut; rw [if_pos HV.out, if_neg (fun k => hmn (by have := k.1; rw [M.out, L.out] at this; exact this))])
    have t1 : ((m : Int) == (n : Int)) = false := by simp; omega
    have t2 : ((m : Int) != (n : Int)) = true := by simp [bne]; omega
    go_wp2_with fail
    exact bodyPost_ret (v := .tuple #[.int .i64 0, .int .i64 19]) (by simp [results, Try.results17, go_sem]) rfl ⟨by rw [E.out], K1.out.2.2⟩

/-- The error of Start. -/
def startE (ts : List Tk) (task robot : Int) : Int :=
  if validB ts = false then 20 else if task < 0 ∨ (ts.length : Int) ≤ task ∨ robot < 0 ∨ 8 ≤ robot then 19 else if (ts[task.toNat]?).any (fun t => t.state == 0) then 0 else 24
/-- What Start returns. -/
def StartR (ts : List Tk) (task robot : Int) (w : World) (e : Ending) (w' : World) : Prop :=
  w.grownBy w' none ∧ if startE ts task robot = 0 then ∃ v, e = .returned (.tuple #[v, .int .i64 0]) ∧ w'.ownsRow w.heap.size 31 5 v ts.length (flat (startTs ts task.toNat robot))
    else e = .returned (.tuple #[.slice none 0 0, .int .i64 (startE ts task robot)])
theorem OwnT.owns {w : World} {g cap n base : Nat} {ts : List Tk} (h : OwnT w g cap n ts) (hb : base ≤ g) : w.ownsRow base 31 5 (.slice (some ⟨g, 0, none⟩) n cap) n (flat ts) := by
  have hl := h.len
  obtain ⟨cur, hg, h1, h2, h3, h4⟩ := h
  exact ⟨by rw [flat_length, hl], .inr ⟨g, cap, cur, rfl, hb, hg, h1, h2, h3, h4⟩⟩
theorem Start_all (a : Option Addr) (n cap : Nat) (ts : List Tk) (task robot : Int) (w : World) (h : RowIn w a n 5 (flat ts)) :
    Calls Try.prog 12 #[.slice a n cap, .int .i64 task, .int .i64 robot] w (StartR ts task robot w) := by
  have hn := tk_len h
  unfold StartR
  cases hv : validB ts
  · refine (StartP_invalid a n cap ts task robot w h hn hv).mono fun e w' ⟨h1, h2⟩ => ⟨h2, ?_⟩
    have : startE ts task robot = 20 := by simp [startE, hv]
    rw [this]; exact h1
  by_cases hr : task < 0 ∨ (n : Int) ≤ task ∨ robot < 0 ∨ 8 ≤ robot
  · refine (StartP_range a n cap ts task robot w h hn hv hr).mono fun e w' ⟨h1, h2⟩ => ⟨h2, ?_⟩
    have : startE ts task robot = 19 := by unfold startE; rw [if_neg (by simp [hv]), if_pos (by rw [hn]; exact hr)]
    rw [this]; exact h1
  obtain ⟨k, rfl⟩ : ∃ k : Nat, task = k := ⟨task.toNat, by omega⟩
  obtain ⟨t, ht⟩ : ∃ t, ts[k]? = some t := ⟨_, List.getElem?_eq_getElem (by omega)⟩
  by_cases h0 : t.state = 0
  · refine (StartP_ok a n cap ts k t robot w h hn hv ht h0 (by omega) (by omega)).mono fun e w' ⟨g, cp, h1, h2, h3, h4⟩ => ⟨h4, ?_⟩
    have : startE ts k robot = 0 := by unfold startE; rw [if_neg (by simp [hv]), if_neg (by rw [hn]; exact hr), Int.toNat_natCast, ht]; simp [h0]
    rw [if_pos this, Int.toNat_natCast, hn]
    exact ⟨_, h1, h3.owns h2⟩
  · refine (StartP_illegal a n cap ts k t robot w h hn hv ht h0 (by omega) (by omega)).mono fun e w' ⟨h1, h2⟩ => ⟨h2, ?_⟩
    have : startE ts k robot = 24 := by unfold startE; rw [if_neg (by simp [hv]), if_neg (by rw [hn]; exact hr), Int.toNat_natCast, ht]; simp [h0]
    rw [this]; exact h1
end Go.Proofs.Ytfdnbkclpnaijaa
