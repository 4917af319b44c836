/- Rows of blocks; the contracts of check, IndexFunc, ContainsFunc. -/
import Derived.Test.YtggmgnmjloagbaaPlane3
namespace Go.Proofs.Ytggmgnmjloagbaa
open Go.RowKit
set_option linter.unusedVariables false

structure Bk where
  nm : ByteArray
  p : Pt
def Bk.cells (b : Bk) : List Value := [.string b.nm, .int .i64 b.p.1, .int .i64 b.p.2]
theorem Bk.size (b : Bk) : b.cells.length = 3 := rfl
def rowB (w : World) (a : Option Addr) (n : Nat) (l : List Bk) : Prop := RowIn w a n 3 (l.flatMap Bk.cells)
instance {w W : World} {a : Option Addr} {n : Nat} {l : List Bk} : Stay none w W (rowB w a n l) (rowB W a n l) := ⟨fun hg h => h.kept hg⟩
theorem rowB_len {w : World} {a : Option Addr} {n : Nat} {l : List Bk} (h : rowB w a n l) : l.length = n := by
  have := h.1
  rw [flatC_length Bk.cells 3 Bk.size] at this
  omega
theorem block_at {w : World} {a : Option Addr} {n : Nat} {l : List Bk} (h : rowB w a n l) {k : Nat} {t : Bk} (hk : l[k]? = some t) :
    ∃ b off, a = some ⟨b, off, none⟩ ∧ b < w.heap.size ∧ w.cell? ⟨b, off + k * 3, none⟩ = some (.string t.nm) ∧ w.cell? ⟨b, off + k * 3 + 1, none⟩ = some (.int .i64 t.p.1) ∧ w.cell? ⟨b, off + k * 3 + 2, none⟩ = some (.int .i64 t.p.2) := by
  obtain ⟨b, off, rfl, hb, hc⟩ := flatC_cell Bk.cells 3 Bk.size h (by omega) hk
  exact ⟨b, off, rfl, hb, hc 0 _ rfl, hc 1 _ rfl, hc 2 _ rfl⟩

instance (x y : Int) : Decidable (inP x y) := by unfold inP; infer_instance
def Bk.ok (b : Bk) : Bool := decide (inP b.p.1 b.p.2)
/-- P8: the first error of a way. -/
def checkI (l : List Bk) : Int := if 48 < l.length then 14 else if l.all Bk.ok then 0 else 19

theorem all_step {l : List Bk} {k : Nat} {t : Bk} (ht : l[k]? = some t) (h : (l.take k).all Bk.ok = true) (ho : inP t.p.1 t.p.2) : (l.take (k + 1)).all Bk.ok = true := by
  rw [List.take_add_one, ht, List.all_append, h]
  simp [Bk.ok, ho]
theorem all_bad {l : List Bk} {k : Nat} {t : Bk} (ht : l[k]? = some t) (ho : ¬ inP t.p.1 t.p.2) : l.all Bk.ok = false := by
  rw [List.all_eq_false]
  exact ⟨t, List.mem_of_getElem? ht, by simp [Bk.ok, ho]⟩

def FirstBad (l : List Bk) (w : World) (e : Ending) (w' : World) : Prop := ∃ r : Int, e = .returned (.int .i64 r) ∧ -1 ≤ r ∧ r < 9000000000 ∧ (0 ≤ r ↔ l.all Bk.ok = false) ∧ w.grownBy w' none

set_option maxHeartbeats 800000 in
theorem Index_any (a : Option Addr) (n cap : Nat) (l : List Bk) (w : World) (h : rowB w a n l) (hn : n ≤ 48) :
    Calls Try.prog 40 #[.slice a n cap, .func (.func 25) #[] #[]] w (FirstBad l w) := by
  have hl := Lib.hid (rowB_len h)
  have F0 : Hid (rowB w a n l ∧ w.grownBy w none) := ⟨h, grown_refl w none⟩
  clear h
  go_enter Try.func40, Try.ntmps40
  go_wp2_with fail
  go_loopw [8] (fun i wr => ∃ k : Nat, k ≤ n ∧ i = .int .i64 k ∧ (l.take k).all Bk.ok = true ∧ (rowB wr a n l ∧ w.grownBy wr none)) (fun i _ => n - (intOf i).toNat)
  case atStart => exact ⟨0, by omega, rfl, rfl, F0.out⟩
  case round =>
    obtain ⟨k, hk, rfl, hall, hF⟩ := hrel
    have F := Lib.hid hF
    have A := Lib.hid hall
    clear hall hF F0
    by_cases hkn : k < n
    · obtain ⟨t, ht⟩ : ∃ t, l[k]? = some t := ⟨_, List.getElem?_eq_getElem (by rw [hl.out]; exact hkn)⟩
      obtain ⟨b, off, rfl, hb, c0, c1, c2⟩ := block_at F.out.1 ht
      have T := Lib.hid ht
      have hk' : (k : Int) < n := by omega
      clear ht
      by_cases hok : inP t.p.1 t.p.2
      · have HO := Lib.hid hok
        clear hok
        go_wp2_with fail
        refine (invalid_ok _ _ _ _ HO.out).mono ?_
        rintro e w1 ⟨rfl, hg⟩
        have F1 := keep hg F
        clear c0 c1 c2 hg F
        go_wp2_with fail
        go_roundw
        case rel => exact ⟨k + 1, by omega, by go_num, all_step T.out A.out HO.out, F1.out⟩
        case measure => simp [intOf]; omega
      · have HO := Lib.hid hok
        clear hok
        go_wp2_with fail
        refine (invalid_no _ _ _ _ HO.out).mono ?_
        rintro e w1 ⟨rfl, hg⟩
        have F1 := keep hg F
        clear c0 c1 c2 hg F
        go_wp2_with fail
        go_ret
        exact ⟨k, rfl, by omega, by omega, ⟨fun _ => all_bad T.out HO.out, fun _ => by omega⟩, F1.out.2⟩
    · obtain rfl : k = n := by omega
      go_wp2_with fail
      go_ret
      refine ⟨-1, rfl, by omega, by omega, ⟨fun h => absurd h (by omega), fun h => ?_⟩, F.out.2⟩
      have := A.out
      rw [List.take_of_length_le (by rw [hl.out]; exact Nat.le_refl _)] at this
      rw [this] at h; cases h

theorem Contains_any (a : Option Addr) (n cap : Nat) (l : List Bk) (w : World) (h : rowB w a n l) (hn : n ≤ 48) :
    Calls Try.prog 38 #[.slice a n cap, .func (.func 25) #[] #[]] w fun e w' => e = .returned (.bool (!(l.all Bk.ok))) ∧ w.grownBy w' none := by
  have H := Lib.hid h
  clear h
  go_enter Try.func38, Try.ntmps38
  go_wp2_with fail
  refine (Index_any a n cap l _ H.out hn).mono ?_
  rintro e w1 ⟨r, rfl, h1, h2, h3, hg⟩
  have H3 := Lib.hid h3
  have G := Lib.hid hg
  clear h3 hg
  by_cases hr : 0 ≤ r
  · have E : Hid ((!(l.all Bk.ok)) = true) := Lib.hid (by rw [H3.out.1 hr]; rfl)
    go_wp2_with fail
    go_ret
    exact ⟨ret_bool E.out.symm, G.out⟩
  · have E : Hid ((!(l.all Bk.ok)) = false) := Lib.hid (by
      cases hh : l.all Bk.ok with
      | true => rfl
      | false => exact absurd (H3.out.2 hh) hr)
    go_wp2_with fail
    go_ret
    exact ⟨ret_bool (by rw [E.out]; exact decide_eq_false (by omega)), G.out⟩

theorem check_any (a : Option Addr) (n cap : Nat) (l : List Bk) (w : World) (h : rowB w a n l) :
    Calls Try.prog 27 #[.slice a n cap] w fun e w' => e = .returned (.int .i64 (checkI l)) ∧ w.grownBy w' none := by
  have H := Lib.hid h
  have hl := Lib.hid (rowB_len h)
  have hm := h.2.1
  unfold maxLen at hm
  clear h
  by_cases h48 : 48 < n
  · have E : Hid (checkI l = 14) := Lib.hid (if_pos (by rw [hl.out]; exact h48))
    have hh : (48 : Int) < n := by omega
    go_enter Try.func27, Try.ntmps27
    go_wp2_with fail
    go_ret
    exact ⟨ret_int E.out.symm, grown_refl w _⟩
  · have hh : (n : Int) ≤ 48 := by omega
    have E0 : Hid (checkI l = if l.all Bk.ok then 0 else 19) := Lib.hid (if_neg (by rw [hl.out]; exact h48))
    go_enter Try.func27, Try.ntmps27
    go_wp2_with fail
    refine (Contains_any a n cap l _ H.out (by omega)).mono ?_
    generalize hb : l.all Bk.ok = ok at *
    have HB := Lib.hid hb
    clear hb
    rintro e w1 ⟨rfl, hg⟩
    have G := Lib.hid hg
    clear hg
    cases ok
    · go_wp2_with fail
      go_ret
      exact ⟨ret_int (by rw [E0.out]; rfl), G.out⟩
    · go_wp2_with fail
      go_ret
      exact ⟨ret_int (by rw [E0.out]; rfl), G.out⟩
end Go.Proofs.Ytggmgnmjloagbaa
