/- The walk of FrameShort. -/
import Derived.Test.YtnhmnkldpmomfaaDecP
namespace Go.Proofs.Ytnhmnkldpmomfaa
open Go.RowKit
set_option linter.unusedVariables false

theorem Try.info_u8 : (Try.prog.info? 5).map (fun i => (i.zero, i.size, i.bytes)) = some (some (.int .u8 0), 1, 1) := by kernel_rfl

/-- A block of one-cell elements, known whole, as a row that may be appended to. -/
theorem owns_at {w : World} {b : Nat} {cs : Array Value} {e : TypeId} (hb : w.heap[b]? = some (.cells cs e (0, 0))) (n : Nat) (hn : cs.size = n) (hm : n ≤ maxLen) :
    w.ownsRow 0 e 1 (.slice (some ⟨b, 0, none⟩) n n) n cs.toList :=
  ⟨by simp [hn], .inr ⟨b, n, cs, rfl, Nat.zero_le _, hb, Nat.le_refl _, hm, by omega, by rw [Nat.mul_one, ← hn, ← Array.length_toList, List.take_length]⟩⟩

theorem owns_shape {w : World} {base e size n : Nat} {v : Value} {xs : List Value} (h : w.ownsRow base e size v n xs) (hn : 0 < n) : ∃ g cap, v = .slice (some ⟨g, 0, none⟩) n cap := by
  rcases h.2 with ⟨_, h0⟩ | ⟨g, cap, _, hv, _⟩
  · omega
  · exact ⟨g, cap, hv⟩

theorem cut_nat (v : Int) {n : Int} (h : 1 ≤ n) : ∃ c : Nat, cut v n = c ∧ (c : Int) < n := by
  have := cut_in v n h
  exact ⟨(cut v n).toNat, by omega, by omega⟩

set_option maxHeartbeats 1600000 in
theorem FrameShort_walk (a0 : Option Addr) (len0 cap0 : Nat) (z0 : List Int) (a1 : Int) (w : World)
    (w0 : IsRow .i64 w a0 len0 cap0 z0) (w1 : (Lit.int .i64 a1).wf = true) :
    Calls Try.prog 6 #[.slice a0 len0 cap0, .int .i64 a1] w fun e w' => e = .returned (.bool true) ∧ Below w.heap.size w w' := by
  have r0 := Lib.hid w0
  obtain ⟨ba, bb⟩ := wf_i64 w1
  obtain ⟨c, hc, hc12⟩ := cut_nat a1 (n := 12) (by omega)
  obtain ⟨d, hd, hd256⟩ := cut_nat a1 (n := 256) (by omega)
  have Hc := Lib.hid hc
  have Hd := Lib.hid hd
  clear w0 w1 hc hd
  go_enter Try.func6, Try.ntmps6
  go_wp2_with fail
  refine (known_any _).mono ?_
  rintro e w1 ⟨rfl, hg1⟩
  go_wp2_with fail
  refine (Frame_any w1.heap.size 30 a0 len0 cap0 _ 0 _ (tape_new r0.out hg1 _) (by omega)).mono ?_
  rintro e w2 ⟨⟨f, rfl, hf⟩, hg2⟩
  have hg2' : w.grownBy w2 none := grown_new (grown_alloc _ hg1) hg2 hg1.size
  clear hg2 hg1 r0
  have hef := Lib.hid (EncodeP_ok f hf)
  clear hf
  go_wp2_with fail
  refine (hef.out _).mono ?_
  rintro e w3 ⟨b, rfl, hb, hbb, hg3⟩
  have hG := Lib.hid (grown_trans hg2' hg3)
  have hGs := hg2'.size
  have hblk := Lib.hid hbb
  clear hg3 hef hg2' hbb
  go_wp2_with fail
  refine (Cut_any _ _ _ ba bb (by omega) (by omega)).mono ?_
  rintro e w' ⟨rfl, rfl⟩
  rw [Hc.out]
  go_wp2_with fail
  refine (DecodeP_short _ c 12 (by omega) _ (by omega)).mono ?_
  rintro e w4 ⟨rfl, hg4⟩
  have hG4 := Lib.hid (grown_trans hG.out hg4)
  have hblk4 := Lib.hid (grown_at hg4 hblk.out (by simp))
  clear hg4 hG hblk Hc
  unfold Fr.val
  go_wp2_with fail
  refine (Cut_any _ _ _ ba bb (by omega) (by omega)).mono ?_
  rintro e w' ⟨rfl, rfl⟩
  rw [Hd.out]
  have hblk5 := at_alloc (.cells #[.int .u8 d] 5) (at_alloc (.cells #[.int .i64 0, .int .i64 0, .int .u64 0, .int .i64 0, .int .i64 0] 26) hblk4.out)
  have hown := owns_at hblk5 12 (by simp [Fr.bytes]) (by unfold maxLen; omega)
  obtain ⟨i0, hi, hz0, hz1, hz2⟩ := info_parts Try.info_u8
  have hu : w2.heap.size ≤ b := hb
  clear hblk5
  go_wp2_with (at_builtin; refine wpList_append_own _ rfl _ _ 31 rfl 0 5 i0 (.int .u8 0) 1 1 Try.underlying31 hi hz0 hz1 hz2 rfl (by decide) _ 12 _ rfl hown ⟨w4.heap.size + 1, 0, none⟩ 1 1 [.int .u8 d] rfl rfl ?c1 ?c2 (by unfold maxLen; omega) (by omega) (Nat.zero_le _) ?_)
  case c1 =>
    intro j u hj
    match j, hj with
    | 0, hj => simp at hj; subst hj; simp [Addr.add]
  case c2 => intro u hu; simp at hu; subst hu; rfl
  intro v' w5 hown' hgrow _
  obtain ⟨g, cp, hv⟩ := owns_shape hown' (by omega)
  rw [hv]
  have hG5 := Lib.hid (grown_new (grown_alloc _ (grown_alloc _ hG4.out)) hgrow (show w.heap.size ≤ b from Nat.le_trans hGs hu))
  clear hown hown' hgrow hv hi hz0 hz1 hz2 hblk4 hG4 Hd
  go_wp2_with fail
  refine (DecodeP_short _ 13 cp (by omega) _ (by omega)).mono ?_
  rintro e w6 ⟨rfl, hg6⟩
  unfold Fr.val
  go_wp2
  go_ret
  exact ⟨rfl, grown_below (grown_alloc _ (grown_trans hG5.out hg6))⟩
end Go.Proofs.Ytnhmnkldpmomfaa
