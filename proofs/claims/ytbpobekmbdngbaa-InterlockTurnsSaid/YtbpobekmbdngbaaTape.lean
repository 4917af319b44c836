/- The contracts of blockwaymade.Cut and (*blockwaymade.Tape).Next. -/
import Derived.Test.YtbpobekmbdngbaaBase
namespace Go.Proofs.Ytbpobekmbdngbaa
open Go.RowKit
set_option linter.unusedVariables false

set_option maxHeartbeats 400000 in
theorem Cut_any (v n : Int) (w : World) (h1 : -9223372036854775808 ≤ v) (h2 : v ≤ 9223372036854775807) (h3 : -9223372036854775808 ≤ n) (h4 : n ≤ 9223372036854775807) :
    Calls Try.prog 8 #[.int .i64 v, .int .i64 n] w fun e w' => e = .returned (.int .i64 (cut v n)) ∧ w' = w := by
  by_cases h : n ≤ 1
  · have H := Lib.hid (cut_le (v := v) h)
    go_enter Try.func8, Try.ntmps8
    go_wp2
    go_ret
    exact ⟨ret_int H.out.symm, rfl⟩
  · have hb := tmod_bd v n (by omega)
    have hb1 := hb.1
    have hb2 := hb.2
    clear hb
    by_cases h' : v.tmod n < 0
    · have H := Lib.hid (cut_lt (v := v) (by omega) h')
      go_enter Try.func8, Try.ntmps8
      go_wp2
      go_ret
      exact ⟨ret_int H.out.symm, rfl⟩
    · have H := Lib.hid (cut_ge (v := v) (n := n) (by omega) (by omega))
      go_enter Try.func8, Try.ntmps8
      go_wp2
      go_ret
      exact ⟨ret_int H.out.symm, rfl⟩

set_option maxHeartbeats 800000 in
theorem Next_raw (B T : Nat) (ad : Option Addr) (len cap : Nat) (zs : List Int) (k : Nat) (n : Int) (w : World)
    (ht : TapeAt w B T ad len cap zs k) (h3 : -9223372036854775808 ≤ n) (h4 : n ≤ 9223372036854775807) :
    Calls Try.prog 13 #[.pointer (some ⟨B, 0, none⟩), .int .i64 n] w fun e w' => e = .returned (.int .i64 (tnext zs k n)) ∧
      ∃ m, w' = (w.drewN m).setCell ⟨B, 1, none⟩ (.int .i64 (k + 1)) := by
  have c0 : w.cell? ⟨B, 0, none⟩ = some (.slice ad len cap) := by rw [cell_at ht.blk]; rfl
  have c1 : w.cell? ⟨B, 1, none⟩ = some (.int .i64 k) := by rw [cell_at ht.blk]; rfl
  have f1 : w.frozen? ⟨B, 1, none⟩ = false := free_at ht.blk
  have hk := ht.small
  have hlen := Lib.hid ht.len
  by_cases hlt : k < zs.length
  · obtain ⟨b, off, rfl, _, hc⟩ := ht.cells k hlt
    have hll : (k : Int) < (len : Int) := by rw [hlen.out]; omega
    have hbd := ht.bd (zs.getD k 0) (by rw [List.getD_eq_getElem?_getD, List.getElem?_eq_getElem hlt]; exact List.getElem_mem hlt)
    have hV := tapeV_lt hlt
    generalize zs.getD k 0 = z at *
    have H : Hid (tnext zs k n = cut z n) := by unfold tnext; rw [hV]; exact rfl
    have hb1 := hbd.1
    have hb2 := hbd.2
    clear hV hbd ht hlt
    go_enter Try.func13, Try.ntmps13
    go_wp2
    go_quiet (fail)
    go_wp2
    go_quiet (fail)
    go_wp2_with (go_at_call 8; refine (Cut_any _ _ _ (by omega) (by omega) (by omega) (by omega)).mono ?_; rintro e w' ⟨rfl, rfl⟩)
    go_ret
    exact ⟨ret_int H.out.symm, _, rfl⟩
  · have hll : ¬ (k : Int) < (len : Int) := by rw [hlen.out]; omega
    have hd : decide ((k : Int) < (len : Int)) = false := by simpa using hll
    have hV := tapeV_ge hlt
    have H : Hid (tnext zs k n = cut ((k : Int) * 7 % 11) n) := by unfold tnext; rw [hV]; exact rfl
    clear hV ht hlt
    go_enter Try.func13, Try.ntmps13
    go_wp2
    go_quiet (fail)
    go_wp2_with (go_at_call 8; refine (Cut_any _ _ _ (by omega) (by omega) (by omega) (by omega)).mono ?_; rintro e w' ⟨rfl, rfl⟩)
    go_ret
    exact ⟨ret_int H.out.symm, _, rfl⟩

theorem Next_any (B T : Nat) (ad : Option Addr) (len cap : Nat) (zs : List Int) (k : Nat) (n : Int) (w : World)
    (ht : TapeAt w B T ad len cap zs k) (hk : k < 1000000) (h3 : -9223372036854775808 ≤ n) (h4 : n ≤ 9223372036854775807) :
    Calls Try.prog 13 #[.pointer (some ⟨B, 0, none⟩), .int .i64 n] w fun e w' => e = .returned (.int .i64 (tnext zs k n)) ∧
      TapeAt w' B T ad len cap zs (k + 1) ∧ w.grownBy w' (some B) := by
  refine (Next_raw B T ad len cap zs k n w ht h3 h4).mono ?_
  rintro e w' ⟨rfl, m, rfl⟩
  have hg : w.grownBy ((w.drewN m).setCell ⟨B, 1, none⟩ (.int .i64 (k + 1))) (some B) := grown_set _ (grown_draw _ (grown_refl w _)) (.inr rfl)
  refine ⟨rfl, ⟨?_, ht.len, fun i hi => ?_, ht.bd, by omega⟩, hg⟩
  · have hb : (w.drewN m).heap[B]? = some (.cells #[.slice ad len cap, .int .i64 k] T (0, 0)) := ht.blk
    rw [at_set _ hb]
    simp
  · obtain ⟨b, off, e, hne, hc⟩ := ht.cells i hi
    exact ⟨b, off, e, hne, (grown_cell hg (lt_of_cell hc) (by simp; omega)).trans hc⟩

theorem Next_in (B T : Nat) (ad : Option Addr) (len cap : Nat) (zs : List Int) (k : Nat) (n : Int) (w : World)
    (ht : TapeAt w B T ad len cap zs k) (hk : k < 1000000) (h3 : 1 ≤ n) (h4 : n ≤ 9223372036854775807) :
    Calls Try.prog 13 #[.pointer (some ⟨B, 0, none⟩), .int .i64 n] w fun e w' => ∃ x, e = .returned (.int .i64 x) ∧ 0 ≤ x ∧ x < n ∧
      TapeAt w' B T ad len cap zs (k + 1) ∧ w.grownBy w' (some B) :=
  (Next_any B T ad len cap zs k n w ht hk (by omega) h4).mono fun e w' ⟨he, h1, h2⟩ => ⟨_, he, (tnext_in zs k n h3).1, (tnext_in zs k n h3).2, h1, h2⟩
end Go.Proofs.Ytbpobekmbdngbaa
