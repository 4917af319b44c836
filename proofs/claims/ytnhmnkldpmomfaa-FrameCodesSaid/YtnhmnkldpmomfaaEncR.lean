/- The contract of the reference's Encode. -/
import Derived.Test.YtnhmnkldpmomfaaFrShort
namespace Go.Proofs.Ytnhmnkldpmomfaa
open Go.RowKit
set_option linter.unusedVariables false

theorem owns_from {w : World} {b base : Nat} {cs : Array Value} {e : TypeId} (hb : w.heap[b]? = some (.cells cs e (0, 0))) (n : Nat) (hn : cs.size = n) (hm : n ≤ maxLen) (hbase : base ≤ b) :
    w.ownsRow base e 1 (.slice (some ⟨b, 0, none⟩) n n) n cs.toList := by
  have h := owns_at hb n hn hm
  refine ⟨h.1, .inr ?_⟩
  rcases h.2 with ⟨h0, _⟩ | ⟨g, cap, cur, hv, _, r⟩
  · cases h0
  · simp only [Value.slice.injEq, Option.some.injEq, Addr.mk.injEq, and_true, true_and] at hv
    obtain ⟨rfl, rfl⟩ := hv
    exact ⟨b, n, cur, rfl, hbase, r⟩

theorem grown_own {w w1 w2 : World} {v : Value} (h : w.grownBy w1 none) (k : w1.grownBy w2 v.ownBlock) (hr : ∀ g, v.ownBlock = some g → w.heap.size ≤ g) : w.grownBy w2 none :=
  ⟨k.os.trans h.os, k.tape.trans h.tape, k.output.trans h.output, Nat.le_trans h.size k.size,
    fun i hi hne => (k.block i (Nat.lt_of_lt_of_le hi h.size) (by intro e; have := hr i e.symm; omega)).trans (h.block i hi hne)⟩

/-- The bytes of a result: twelve at the head of a new block. -/
def BytesAt (w : World) (base : Nat) (v : Value) (xs : List Int) : Prop :=
  ∃ b cap cur, v = .slice (some ⟨b, 0, none⟩) 12 cap ∧ base ≤ b ∧ w.heap[b]? = some (.cells cur 5 (0, 0)) ∧ cur.toList.take 12 = xs.map (Value.int .u8)

theorem bytesAt_owns {w : World} {base : Nat} {v : Value} {xs : List Int} (h : w.ownsRow base 5 1 v 12 (xs.map (Value.int .u8))) : BytesAt w base v xs := by
  rcases h.2 with ⟨_, h0⟩ | ⟨g, cap, cur, hv, hb, hh, _, _, _, ht⟩
  · omega
  · exact ⟨g, cap, cur, hv, hb, hh, by simpa using ht⟩

theorem BytesAt.low {w : World} {base base' : Nat} {v : Value} {xs : List Int} (h : BytesAt w base v xs) (hb : base' ≤ base) : BytesAt w base' v xs := by
  obtain ⟨b, cap, cur, h1, h2, h3⟩ := h
  exact ⟨b, cap, cur, h1, by omega, h3⟩

theorem cell_one {W : World} (x : Value) (T : TypeId) : ∀ j u, [x][j]? = some u → (W.alloc (.cells #[x] T)).cell? ((⟨W.heap.size, 0, none⟩ : Addr).add j) = some u := by
  intro j u hj
  match j, hj with
  | 0, hj => simp at hj; subst hj; simp [Addr.add]
theorem cell_two {W : World} (x y : Value) (T : TypeId) : ∀ j u, [x, y][j]? = some u → (W.alloc (.cells #[x, y] T)).cell? ((⟨W.heap.size, 0, none⟩ : Addr).add j) = some u := by
  intro j u hj
  match j, hj with
  | 0, hj => simp at hj; subst hj; simp [Addr.add]
  | 1, hj => simp at hj; subst hj; simp [Addr.add]
theorem one_u8 (x : Int) : ∀ u ∈ [Value.int .u8 x], u.oneCell' = true := by
  intro u hu; simp at hu; subst hu; rfl
theorem two_u8 (x y : Int) : ∀ u ∈ [Value.int .u8 x, Value.int .u8 y], u.oneCell' = true := by
  intro u hu; simp at hu; rcases hu with rfl | rfl <;> rfl

set_option maxHeartbeats 400000 in
theorem EncodeR_kind (f : Fr) (hk : knownB f.kind = false) (w : World) :
    Calls Try.prog 10 #[f.val] w fun e w' => e = .returned (.tuple #[.slice none 0 0, .int .i64 22]) ∧ w.grownBy w' none := by
  obtain ⟨kd, r, s, c, fl⟩ := f
  simp only at hk
  unfold Fr.val
  simp only
  go_enter Try.func10, Try.ntmps10
  go_wp2_with (go_at_call 18; refine (knownR _ _).mono ?_; rintro e w' ⟨rfl, rfl⟩)
  go_ret2
  exact ⟨rfl, grown_alloc _ (grown_refl w _)⟩

set_option maxHeartbeats 400000 in
theorem EncodeR_range (f : Fr) (hfit : f.fits) (hk : knownB f.kind = true) (hv : f.okB = false) (w : World) :
    Calls Try.prog 10 #[f.val] w fun e w' => e = .returned (.tuple #[.slice none 0 0, .int .i64 19]) ∧ w.grownBy w' none := by
  have hvc : ∀ w : World, Calls Try.prog 15 #[f.val] w fun e w' => e = .returned (.bool false) ∧ w.grownBy w' none := fun w => by
    have := ValidR f hfit w
    rw [hv] at this; exact this
  obtain ⟨kd, r, s, c, fl⟩ := f
  simp only at hk
  unfold Fr.val at hvc ⊢
  simp only at hvc ⊢
  have hvc' := Lib.hid hvc
  clear hv hvc hfit
  go_enter Try.func10, Try.ntmps10
  go_wp2_with (go_at_call 18; refine (knownR _ _).mono ?_; rintro e w' ⟨rfl, rfl⟩)
  refine (hvc'.out _).mono ?_
  rintro e w1 ⟨rfl, hg1⟩
  clear hvc'
  go_wp2
  go_ret2
  exact ⟨rfl, grown_trans (World.grownBy_alloc w _ _) hg1⟩

set_option maxHeartbeats 3200000 in
theorem EncodeR_ok (f : Fr) (hf : f.ok) (w : World) :
    Calls Try.prog 10 #[f.val] w fun e w' => ∃ v, e = .returned (.tuple #[v, .int .i64 0]) ∧ BytesAt w' w.heap.size v f.bytes ∧ w.grownBy w' none := by
  have hk : knownB f.kind = true := knownB_t hf.1
  have hvc : ∀ w : World, Calls Try.prog 15 #[f.val] w fun e w' => e = .returned (.bool true) ∧ w.grownBy w' none := fun w => by
    have := ValidR f ⟨by have := hf.2.2.2.1; omega, hf.2.2.2.2.1⟩ w
    rw [show f.okB = true from decide_eq_true hf] at this; exact this
  obtain ⟨kd, r, s, c, fl⟩ := f
  obtain ⟨h1, h2, h3, h4, h5, h6, h7, h8, h9, -⟩ := hf
  simp only at h1 h2 h3 h4 h5 h6 h7 h8 h9 hk
  have hbytes : Hid (Fr.bytes ⟨kd, r, s, c, fl⟩ = [kd, r, s / 72057594037927936, s / 281474976710656 % 256, s / 1099511627776 % 256, s / 4294967296 % 256, s / 16777216 % 256, s / 65536 % 256, s / 256 % 256, s % 256, c, fl]) := by
    show Fr.bytes _ = _
    have e : s / 72057594037927936 % 256 = s / 72057594037927936 := by omega
    simp [Fr.bytes, e]
  unfold Fr.val at hvc ⊢
  simp only at hvc ⊢
  have hvc' := Lib.hid hvc
  clear hvc
  have k1 : 1 ≤ kd := by omega
  have k2 : kd ≤ 3 := by omega
  clear h1
  obtain ⟨i0, hi, hz0, hz1, hz2⟩ := info_parts Try.info_u8
  have hi' := Lib.hid hi
  have hz0' := Lib.hid hz0
  have hz1' := Lib.hid hz1
  have hz2' := Lib.hid hz2
  clear hi hz0 hz1 hz2
  go_enter Try.func10, Try.ntmps10
  go_wp2_with (go_at_call 18; refine (knownR _ _).mono ?_; rintro e w' ⟨rfl, rfl⟩)
  refine (hvc'.out _).mono ?_
  rintro e w1 ⟨rfl, hg1⟩
  have hb1 := grown_at hg1 (at_new w _) (by simp)
  have hb1' := Lib.hid hb1
  have r1 := (rules_at hb1).1
  have hG1 := Lib.hid (grown_trans (World.grownBy_alloc w _ _) hg1)
  have hs1 : w.heap.size < w1.heap.size := lt_of_at hb1
  clear hvc' hg1 hb1
  go_wp2
  go_loopw [4, 5] (fun v i wr => ∃ j : Nat, j ≤ 8 ∧ i = .int .i64 (7 - j) ∧ wr.ownsRow w1.heap.size 5 1 v (2 + j) (([kd, r, s / 72057594037927936, s / 281474976710656 % 256, s / 1099511627776 % 256, s / 4294967296 % 256, s / 16777216 % 256, s / 65536 % 256, s / 256 % 256, s % 256].take (2 + j)).map (Value.int .u8)) ∧ w1.grownBy wr none) (fun _ i _ => (intOf i + 1).toNat)
  case atStart => exact ⟨0, by omega, rfl, owns_from (at_new w1 _) 2 rfl (by unfold maxLen; omega) (by omega), World.grownBy_alloc w1 _ _⟩
  case round =>
    obtain ⟨j, hj, rfl, hown, hgr⟩ := hrel
    have hbr := grown_at hgr hb1'.out (by simp)
    have rr := (rules_at hbr).1
    have hls := lt_of_at hbr
    have hgr' := Lib.hid hgr
    have hws : w1.heap.size ≤ wr.heap.size := hgr.size
    clear hbr hgr
    rcases (show j = 8 ∨ j = 0 ∨ j = 1 ∨ j = 2 ∨ j = 3 ∨ j = 4 ∨ j = 5 ∨ j = 6 ∨ j = 7 from by omega) with rfl | rfl | rfl | rfl | rfl | rfl | rfl | rfl | rfl
    · go_wp2_with (at_builtin; refine wpList_append_own _ rfl _ _ 31 rfl w1.heap.size 5 i0 (.int .u8 0) 1 1 Try.underlying31 hi'.out hz0'.out hz1'.out hz2'.out rfl (by decide) _ 10 _ rfl (hown.alloc _) ⟨wr.heap.size, 0, none⟩ 2 2 [.int .u8 c, .int .u8 fl] rfl rfl (cell_two _ _ _) (two_u8 _ _) (by unfold maxLen; omega) (by omega) (by simp; omega) ?_)
      intro v' w2 hown' hgrow _
      have hgr2 := Lib.hid (grown_own (grown_alloc _ hgr'.out) hgrow (fun g hg => (hown.lt g hg).1))
      have hown2 := Lib.hid (bytesAt_owns (xs := [kd, r, s / 72057594037927936, s / 281474976710656 % 256, s / 1099511627776 % 256, s / 4294967296 % 256, s / 16777216 % 256, s / 65536 % 256, s / 256 % 256, s % 256, c, fl]) hown')
      clear hown' hgrow hown rr hls
      go_wp2
      go_ret2
      refine ⟨v', rfl, ?_, grown_trans hG1.out hgr2.out⟩
      rw [hbytes.out]
      exact hown2.out.low (by omega)
    · go_wp2_with (at_builtin; refine wpList_append_own _ rfl _ _ 31 rfl w1.heap.size 5 i0 (.int .u8 0) 1 1 Try.underlying31 hi'.out hz0'.out hz1'.out hz2'.out rfl (by decide) _ 2 _ rfl (hown.alloc _) ⟨wr.heap.size, 0, none⟩ 1 1 [.int .u8 (s / 72057594037927936)] rfl rfl (cell_one _ _) (one_u8 _) (by unfold maxLen; omega) (by omega) (by simp; omega) ?_)
      intro v' w2 hown' hgrow _
      have hgr2 := Lib.hid (grown_own (grown_alloc _ hgr'.out) hgrow (fun g hg => (hown.lt g hg).1))
      have hown2 := Lib.hid hown'
      clear hown' hgrow hown rr hls
      go_wp2
      go_roundw
      case rel => exact ⟨1, by omega, by go_num, hown2.out, hgr2.out⟩
      case measure => simp [intOf]
    · go_wp2_with (at_builtin; refine wpList_append_own _ rfl _ _ 31 rfl w1.heap.size 5 i0 (.int .u8 0) 1 1 Try.underlying31 hi'.out hz0'.out hz1'.out hz2'.out rfl (by decide) _ 3 _ rfl (hown.alloc _) ⟨wr.heap.size, 0, none⟩ 1 1 [.int .u8 (s / 281474976710656 % 256)] rfl rfl (cell_one _ _) (one_u8 _) (by unfold maxLen; omega) (by omega) (by simp; omega) ?_)
      intro v' w2 hown' hgrow _
      have hgr2 := Lib.hid (grown_own (grown_alloc _ hgr'.out) hgrow (fun g hg => (hown.lt g hg).1))
      have hown2 := Lib.hid hown'
      clear hown' hgrow hown rr hls
      go_wp2
      go_roundw
      case rel => exact ⟨2, by omega, by go_num, hown2.out, hgr2.out⟩
      case measure => simp [intOf]
    · go_wp2_with (at_builtin; refine wpList_append_own _ rfl _ _ 31 rfl w1.heap.size 5 i0 (.int .u8 0) 1 1 Try.underlying31 hi'.out hz0'.out hz1'.out hz2'.out rfl (by decide) _ 4 _ rfl (hown.alloc _) ⟨wr.heap.size, 0, none⟩ 1 1 [.int .u8 (s / 1099511627776 % 256)] rfl rfl (cell_one _ _) (one_u8 _) (by unfold maxLen; omega) (by omega) (by simp; omega) ?_)
      intro v' w2 hown' hgrow _
      have hgr2 := Lib.hid (grown_own (grown_alloc _ hgr'.out) hgrow (fun g hg => (hown.lt g hg).1))
      have hown2 := Lib.hid hown'
      clear hown' hgrow hown rr hls
      go_wp2
      go_roundw
      case rel => exact ⟨3, by omega, by go_num, hown2.out, hgr2.out⟩
      case measure => simp [intOf]
    · go_wp2_with (at_builtin; refine wpList_append_own _ rfl _ _ 31 rfl w1.heap.size 5 i0 (.int .u8 0) 1 1 Try.underlying31 hi'.out hz0'.out hz1'.out hz2'.out rfl (by decide) _ 5 _ rfl (hown.alloc _) ⟨wr.heap.size, 0, none⟩ 1 1 [.int .u8 (s / 4294967296 % 256)] rfl rfl (cell_one _ _) (one_u8 _) (by unfold maxLen; omega) (by omega) (by simp; omega) ?_)
      intro v' w2 hown' hgrow _
      have hgr2 := Lib.hid (grown_own (grown_alloc _ hgr'.out) hgrow (fun g hg => (hown.lt g hg).1))
      have hown2 := Lib.hid hown'
      clear hown' hgrow hown rr hls
      go_wp2
      go_roundw
      case rel => exact ⟨4, by omega, by go_num, hown2.out, hgr2.out⟩
      case measure => simp [intOf]
    · go_wp2_with (at_builtin; refine wpList_append_own _ rfl _ _ 31 rfl w1.heap.size 5 i0 (.int .u8 0) 1 1 Try.underlying31 hi'.out hz0'.out hz1'.out hz2'.out rfl (by decide) _ 6 _ rfl (hown.alloc _) ⟨wr.heap.size, 0, none⟩ 1 1 [.int .u8 (s / 16777216 % 256)] rfl rfl (cell_one _ _) (one_u8 _) (by unfold maxLen; omega) (by omega) (by simp; omega) ?_)
      intro v' w2 hown' hgrow _
      have hgr2 := Lib.hid (grown_own (grown_alloc _ hgr'.out) hgrow (fun g hg => (hown.lt g hg).1))
      have hown2 := Lib.hid hown'
      clear hown' hgrow hown rr hls
      go_wp2
      go_roundw
      case rel => exact ⟨5, by omega, by go_num, hown2.out, hgr2.out⟩
      case measure => simp [intOf]
    · go_wp2_with (at_builtin; refine wpList_append_own _ rfl _ _ 31 rfl w1.heap.size 5 i0 (.int .u8 0) 1 1 Try.underlying31 hi'.out hz0'.out hz1'.out hz2'.out rfl (by decide) _ 7 _ rfl (hown.alloc _) ⟨wr.heap.size, 0, none⟩ 1 1 [.int .u8 (s / 65536 % 256)] rfl rfl (cell_one _ _) (one_u8 _) (by unfold maxLen; omega) (by omega) (by simp; omega) ?_)
      intro v' w2 hown' hgrow _
      have hgr2 := Lib.hid (grown_own (grown_alloc _ hgr'.out) hgrow (fun g hg => (hown.lt g hg).1))
      have hown2 := Lib.hid hown'
      clear hown' hgrow hown rr hls
      go_wp2
      go_roundw
      case rel => exact ⟨6, by omega, by go_num, hown2.out, hgr2.out⟩
      case measure => simp [intOf]
    · go_wp2_with (at_builtin; refine wpList_append_own _ rfl _ _ 31 rfl w1.heap.size 5 i0 (.int .u8 0) 1 1 Try.underlying31 hi'.out hz0'.out hz1'.out hz2'.out rfl (by decide) _ 8 _ rfl (hown.alloc _) ⟨wr.heap.size, 0, none⟩ 1 1 [.int .u8 (s / 256 % 256)] rfl rfl (cell_one _ _) (one_u8 _) (by unfold maxLen; omega) (by omega) (by simp; omega) ?_)
      intro v' w2 hown' hgrow _
      have hgr2 := Lib.hid (grown_own (grown_alloc _ hgr'.out) hgrow (fun g hg => (hown.lt g hg).1))
      have hown2 := Lib.hid hown'
      clear hown' hgrow hown rr hls
      go_wp2
      go_roundw
      case rel => exact ⟨7, by omega, by go_num, hown2.out, hgr2.out⟩
      case measure => simp [intOf]
    · go_wp2_with (at_builtin; refine wpList_append_own _ rfl _ _ 31 rfl w1.heap.size 5 i0 (.int .u8 0) 1 1 Try.underlying31 hi'.out hz0'.out hz1'.out hz2'.out rfl (by decide) _ 9 _ rfl (hown.alloc _) ⟨wr.heap.size, 0, none⟩ 1 1 [.int .u8 (s % 256)] rfl rfl (cell_one _ _) (one_u8 _) (by unfold maxLen; omega) (by omega) (by simp; omega) ?_)
      intro v' w2 hown' hgrow _
      have hgr2 := Lib.hid (grown_own (grown_alloc _ hgr'.out) hgrow (fun g hg => (hown.lt g hg).1))
      have hown2 := Lib.hid hown'
      clear hown' hgrow hown rr hls
      go_wp2
      go_roundw
      case rel => exact ⟨8, by omega, by go_num, hown2.out, hgr2.out⟩
      case measure => simp [intOf]
end Go.Proofs.Ytnhmnkldpmomfaa
