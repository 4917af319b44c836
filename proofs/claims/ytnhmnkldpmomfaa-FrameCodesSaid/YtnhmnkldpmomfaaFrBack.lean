/- The walk of FrameBack. -/
import Derived.Test.YtnhmnkldpmomfaaFrBackL
namespace Go.Proofs.Ytnhmnkldpmomfaa
open Go.RowKit
set_option linter.unusedVariables false

theorem fr_neq_self (k1 r1 s1 c1 f1 : Int) (W : World) :
    (binOp .neq 26 (.agg #[.int .i64 k1, .int .i64 r1, .int .u64 s1, .int .i64 c1, .int .i64 f1]) (.agg #[.int .i64 k1, .int .i64 r1, .int .u64 s1, .int .i64 c1, .int .i64 f1])).run Try.prog W =
      .ok (.bool false) W := by
  simp [binOp, Op.equal, Op.maxDepth, go_sem]

theorem IsRow.kept {k : IntKind} {w W : World} {a : Option Addr} {n cap : Nat} {z : List Int} (h : IsRow k w a n cap z) (hg : w.grownBy W none) : IsRow k W a n cap z := by
  rcases h with h | ⟨x, rfl, hl, hm, hz, hc, hwf⟩
  · exact .inl h
  · exact .inr ⟨x, rfl, hl, hm, hz, fun i hi => (grown_cell hg (lt_of_cell (hc i hi)) (by simp)).trans (hc i hi), hwf⟩

/-- 'string(raw)' of bytes that came in. -/
theorem conv_raw {w W : World} {a : Option Addr} {n cap : Nat} {z : List Int} (h : IsRow .u8 w a n cap z) (hg : w.grownBy W none) (hn : 0 < n) :
    (convert 31 9 (.slice a n cap)).run Try.prog W = .ok (.string (strOfNums (z.take n))) W := by
  rcases h with ⟨rfl, rfl, rfl, rfl⟩ | ⟨x, rfl, hl, hm, hz, hc, hwf⟩
  · omega
  · obtain ⟨b, off, spot⟩ := x
    have hspot : spot = none := by
      have h0 := hc 0 (by omega)
      simpa [Addr.add] using World.cell?_spot h0
    subst hspot
    refine run_convert_bytes_arg W 31 5 Try.underlying31 Try.underlying5 b off n cap (z.take n) (by simp; omega) (fun i hi => ?_) 9 Try.underlying9
    have hci := hc i (by omega)
    have hadd : (⟨b, off, none⟩ : Addr).add i = ⟨b, off + i, none⟩ := by unfold Addr.add; split <;> simp_all
    rw [hadd] at hci
    rw [grown_cell hg (lt_of_cell hci) (by simp), hci]
    simp [List.getD_eq_getElem?_getD, hi]

set_option maxHeartbeats 1600000 in
theorem FrameBack_walk (a0 : Option Addr) (len0 cap0 : Nat) (z0 : List Int) (a1 : Option Addr) (len1 cap1 : Nat) (z1 : List Int) (w : World)
    (w0 : IsRow .i64 w a0 len0 cap0 z0) (w1 : IsRow .u8 w a1 len1 cap1 z1) :
    Calls Try.prog 5 #[.slice a0 len0 cap0, .slice a1 len1 cap1] w fun e w' => e = .returned (.bool true) ∧ Below w.heap.size w w' := by
  have r0 := Lib.hid w0
  have r1 := Lib.hid w1
  clear w0 w1
  go_enter Try.func5, Try.ntmps5
  go_wp2_with fail
  refine (known_any _).mono ?_
  rintro e w1 ⟨rfl, hg1⟩
  go_wp2_with fail
  refine (Frame_any w1.heap.size 30 a0 len0 cap0 _ 0 _ (tape_new r0.out hg1 _) (by omega)).mono ?_
  rintro e w2 ⟨⟨f, rfl, hf⟩, hg2⟩
  have hg2' : w.grownBy w2 none := grown_new (grown_alloc _ hg1) hg2 hg1.size
  clear hg2 hg1 r0
  have hf' := Lib.hid hf
  have hef := Lib.hid (EncodeP_ok f hf)
  have hvf : Hid (∀ w : World, Calls Try.prog 14 #[f.val] w fun e w' => e = .returned (.bool true) ∧ w.grownBy w' none) := fun w => by
    have := ValidP f ⟨by have := hf.2.2.2.1; omega, hf.2.2.2.2.1⟩ w
    rw [show f.okB = true from decide_eq_true hf] at this; exact this
  have hkf : Hid (knownB (f.bytes.getD 0 0) = true) := knownB_t hf.1
  have hvF : Hid ((frOf f.bytes).okB = true) := by
    show (frOf f.bytes).okB = true
    rw [frOf_bytes hf]; exact decide_eq_true hf
  have hfb := Lib.hid (frOf_bytes hf)
  have hbd : Hid (∀ i, 0 ≤ f.bytes.getD i 0 ∧ f.bytes.getD i 0 ≤ 255) := fun i => by
    by_cases hi : i < f.bytes.length
    · rw [List.getD_eq_getElem?_getD, List.getElem?_eq_getElem hi]
      have := Fr.bytes_bd hf _ (List.getElem_mem hi)
      simp only [Option.getD_some]; omega
    · rw [List.getD_eq_getElem?_getD, List.getElem?_eq_none (by omega)]
      simp
  clear hf
  obtain ⟨k1, rr1, s1, c1, f1⟩ := f
  simp only [Fr.val] at hef hvf ⊢
  go_wp2_with fail
  refine (hef.out _).mono ?_
  rintro e w3 ⟨b, rfl, hb, hbb, hg3⟩
  have hG := Lib.hid (grown_trans (grown_alloc _ hg2') hg3)
  have hc5 := Lib.hid (grown_at hg3 (at_new w2 _) (by simp))
  have hblk := Lib.hid hbb
  clear hg3 hef hg2' hbb hb
  go_wp2_with fail
  have hD := DecodeP_12 b 0 12 (Fr.bytes ⟨k1, rr1, s1, c1, f1⟩) w3 (fun i hi => by rw [cell_at hblk.out, Nat.zero_add]; exact map_cells _ i (by simpa [Fr.bytes] using hi)) hbd.out hkf.out true hvF.out
  rw [hfb.out] at hD
  simp only [Fr.val, if_true] at hD
  refine hD.mono ?_
  clear hD
  rintro e w4 ⟨rfl, hg4⟩
  have hG4 := Lib.hid (grown_trans hG.out hg4)
  have hq5 := Lib.hid (grown_at hg4 hc5.out (by simp))
  clear hg4 hG hc5 hblk hbd hkf hvF hfb
  have q5 := (rules_at hq5.out).1
  have hl5 := lt_of_at hq5.out
  have fn := fr_neq_self k1 rr1 s1 c1 f1
  go_wp2_with fail
  refine (hvf.out _).mono ?_
  rintro e w5 ⟨rfl, hg5⟩
  have hG5 := Lib.hid (grown_trans (grown_alloc _ hG4.out) hg5)
  clear hg5 hG4 hq5 q5 fn hvf hl5
  go_wp2_with fail
  refine (DecodeP_raw a1 len1 cap1 z1 _ (r1.out.kept hG5.out)).mono ?_
  rintro e w6 ⟨hg6, ⟨c, hc1, hc2, rfl⟩ | ⟨rfl, y, hy, hyb, rfl⟩⟩
  · have hcb : (c != 0) = true := by simp [bne]; omega
    have fe := fr_binOp 0 0 0 0 0 0 0 0 0 0
    unfold Fr.val
    go_wp2
    go_ret
    exact ⟨rfl, grown_below (grown_alloc _ (grown_trans hG5.out hg6))⟩
  · have hey := Lib.hid (EncodeP_ok y hy)
    have hG6 := Lib.hid (grown_trans hG5.out hg6)
    have hyb' := Lib.hid hyb
    obtain ⟨k2, r2, s2, c2, f2⟩ := y
    simp only [Fr.val] at hey ⊢
    clear hg6 hG5 hyb hy
    go_wp2_with fail
    refine (hey.out _).mono ?_
    rintro e w7 ⟨b7, rfl, hb7, hbb7, hg7⟩
    have hG7 := Lib.hid (grown_trans (grown_alloc _ hG6.out) hg7)
    have kc1 := conv_at (cap := 12) (n := 12) (w := w7) hbb7 (map_cells (Fr.bytes ⟨k2, r2, s2, c2, f2⟩)) rfl
    have kc2 := conv_raw (W := w7) r1.out hG7.out (by omega)
    rw [← hyb'.out] at kc2
    clear hg7 hG6 hbb7 hey hb7 hyb'
    go_wp2
    go_ret
    exact ⟨ret_bool (by simp), grown_below hG7.out⟩
end Go.Proofs.Ytnhmnkldpmomfaa
