/- The contract of Reverse. -/
import Derived.Test.YtidilepbepkpiaaReVal
namespace Go.Proofs.Ytidilepbepkpiaa
open Go.RowKit
set_option linter.unusedVariables false

def revL (g : Gr) (k j : Nat) : Gr := (List.range g.length).map fun (x : Nat) => revAt g k j x
theorem revL_len (g : Gr) (k j : Nat) : (revL g k j).length = g.length := by simp [revL]
theorem revL_at {g : Gr} {k j x : Nat} (h : x < g.length) : (revL g k j)[x]? = some (revAt g k j x) := by simp [revL, h]
theorem revL_zero (g : Gr) : revL g 0 0 = List.replicate g.length [] := by
  apply List.ext_getElem?
  intro i
  by_cases h : i < g.length
  · rw [revL_at h]; simp [h, revAt, preds]
  · rw [List.getElem?_eq_none (by rw [revL_len]; omega), List.getElem?_eq_none (by simp; omega)]
theorem revL_next {g : Gr} {k j : Nat} (h : (adj g k).length ≤ j) : revL g k j = revL g (k + 1) 0 := by
  unfold revL
  refine List.map_congr_left fun x _ => ?_
  rw [revAt_full g k x h, revAt_zero]
theorem revL_end (g : Gr) : revL g g.length 0 = rev g := by
  unfold revL rev
  refine List.map_congr_left fun x _ => ?_
  rw [revAt_zero]
theorem revL_set {g : Gr} {k j x : Nat} (hx : (adj g k)[j]? = some (x : Int)) (hn : (adj g k).Nodup) (hl : x < g.length) : (revL g k j).set x (revAt g k j x ++ [(k : Int)]) = revL g k (j + 1) := by
  apply List.ext_getElem?
  intro i
  by_cases hi : i < g.length
  · rw [revL_at hi]
    by_cases e : x = i
    · subst e
      rw [List.getElem?_set_self (by rw [revL_len]; exact hl), revAt_hit hx hn]
    · rw [List.getElem?_set_ne e, revL_at hi, revAt_miss hx (by omega)]
  · rw [List.getElem?_eq_none (by rw [List.length_set, revL_len]; omega), List.getElem?_eq_none (by rw [revL_len]; omega)]
theorem revAt_len {g : Gr} {k j x : Nat} : (revAt g k j x).length ≤ k + 1 := by
  unfold revAt preds
  rw [List.length_append, List.length_map]
  have := List.length_filter_le (fun v => decide ((x : Int) ∈ adj g v)) (List.range k)
  rw [List.length_range] at this
  split <;> simp <;> omega
theorem ints_snoc (l : List Int) (x : Int) : ints (l ++ [x]) = ints l ++ [.int .i64 x] := by simp [ints]
theorem cell_one {W : World} (x : Value) (T : TypeId) {m : Nat} (hm : m = W.heap.size) : RowIn (W.alloc (.cells #[x] T)) (some ⟨m, 0, none⟩) 1 1 [x] := by
  subst hm
  exact rowIn_block (n := 1) (size := 1) (at_new W _) rfl (by unfold maxLen; omega)
theorem grown_own {w w1 w2 : World} {r : Option Nat} (h : w.grownBy w1 none) (k : w1.grownBy w2 r) (hr : ∀ g, r = some g → w.heap.size ≤ g) : w.grownBy w2 none :=
  ⟨k.os.trans h.os, k.tape.trans h.tape, k.output.trans h.output, Nat.le_trans h.size k.size,
    fun i hi hne => (k.block i (Nat.lt_of_lt_of_le hi h.size) (by intro e; have := hr i e.symm; omega)).trans (h.block i hi hne)⟩

/-- What Reverse returns beside the error, and that it lies in new memory. -/
def GivesL (w : World) (g : Gr) (err : Int) (e : Ending) (w' : World) : Prop :=
  ∃ a n c, e = .returned (.tuple #[.slice a n c, .int .i64 err]) ∧ n ≤ c ∧ c ≤ maxLen ∧ (a = none → c = 0) ∧ (∀ R : Option Nat, (∀ b, R = some b → b < w.heap.size) → ListsR R w' a n g) ∧ w.grownBy w' none
theorem listsR_nil (R : Option Nat) (w : World) : ListsR R w none 0 [] := ⟨[], ⟨⟨by simp, Nat.zero_le _, .inl rfl⟩, by simp⟩, rfl, fun i xs h => by simp at h⟩

set_option maxHeartbeats 3200000 in
theorem Reverse_ok (a : Option Addr) (n cap : Nat) (g : Gr) (w : World) (h : ListsR none w a n g) (hv : validB g = true) :
    Calls Try.prog 11 #[.slice a n cap] w (GivesL w (rev g) 0) := by
  obtain ⟨hl, hm⟩ := h.len
  have H := Lib.hid h
  have L := Lib.hid hl
  have HV := Lib.hid hv
  have hn24 : n ≤ 24 := by have := (valid_iff.1 hv).1; omega
  obtain ⟨ib, hi, hz0, hz1, hz2⟩ := info_parts Try.info_ints
  have hib := Lib.hid hi
  have hib0 := Lib.hid hz0
  have hib1 := Lib.hid hz1
  have hib2 := Lib.hid hz2
  clear h hl hv hi hz0 hz1 hz2 hm
  go_enter Try.func11, Try.ntmps11
  go_wp2_with fail
  refine (Valid_any a n cap g _ H.out).mono ?_
  rw [HV.out]
  rintro e w1 ⟨rfl, rfl⟩
  go_wp2_with (at_make; refine wpList_make_full _ rfl _ _ 27 rfl w1.heap.size 22 ib _ 1 Try.underlying27 hib.out hib0.out hib1.out .i64 .i64 _ _ n rfl rfl (by omega) (by omega) (by rw [hib2.out]; omega) (by unfold maxLen; omega) (by omega) ?_)
  intro W2 hC hg2
  rw [made_nils] at hC
  have OL : Hid (OwnL W2 w1.heap.size w1.heap.size n (revL g 0 0) ∧ w1.grownBy W2 none) := ⟨by rw [revL_zero, L.out]; exact ownL_made hC rfl (by unfold maxLen; omega), hg2⟩
  clear hC hg2 hib hib0 hib1 hib2
  go_wp2_with fail
  go_loopw [17] (fun i wr => ∃ k : Nat, k ≤ n ∧ i = .int .i64 k ∧ OwnL wr w1.heap.size w1.heap.size n (revL g k 0) ∧ w1.grownBy wr none) (fun i _ => n - (intOf i).toNat)
  case atStart => exact ⟨0, by omega, rfl, OL.out⟩
  case round =>
    obtain ⟨k, hk, rfl, hO, hG⟩ := hrel
    have K := Lib.hid (And.intro hO hG)
    clear hO hG OL
    by_cases hkn : k < n
    · obtain ⟨l, hl⟩ : ∃ l, g[k]? = some l := ⟨_, List.getElem?_eq_getElem (by rw [L.out]; exact hkn)⟩
      have AD := Lib.hid (adj_at hl)
      obtain ⟨b, off, A, c, rfl, zb1, c1, hlc, hcm, hA, hrow⟩ := H.out.at hl
      have RW := Lib.hid hrow.1
      have c0 := (grown_cell K.out.2 (lt_of_cell c1) (by simp)).trans c1
      have zb := Nat.lt_of_lt_of_le zb1 K.out.2.size
      have okl := (valid_iff.1 HV.out).2 k (by rw [L.out]; exact hkn)
      rw [AD.out] at okl
      have ND := Lib.hid (okB_nodup okl)
      have MEM := Lib.hid (okB_mem okl)
      have hk' : (k : Int) < n := by omega
      obtain ⟨wo, hwo⟩ : ∃ wo : World, wo = wr := ⟨_, rfl⟩
      unfold maxLen at hcm
      clear hl hrow okl hwo c1
      go_wp2_with fail
      go_loopw [24] (fun i wq => ∃ j : Nat, j ≤ l.length ∧ i = .int .i64 j ∧ OwnL wq w1.heap.size w1.heap.size n (revL g k j) ∧ w1.grownBy wq none) (fun i _ => l.length - (intOf i).toNat)
      case atStart => exact ⟨0, by omega, rfl, K.out.1, K.out.2⟩
      case round =>
        obtain ⟨j, hj, rfl, hO, hG⟩ := hrel
        have O := Lib.hid hO
        have G := Lib.hid hG
        clear hO hG K c0
        by_cases hjl : j < l.length
        · obtain ⟨x, hx⟩ : ∃ x, l[j]? = some x := ⟨_, List.getElem?_eq_getElem hjl⟩
          obtain ⟨m1, m2, m3⟩ := MEM.out x (List.mem_of_getElem? hx)
          rw [L.out] at m2
          obtain ⟨y, rfl⟩ : ∃ y : Nat, x = y := ⟨x.toNat, by omega⟩
          have hyn : y < n := by omega
          obtain ⟨bb, oo, rfl, zbb, d0⟩ := (RowIn.kept RW.out G.out).int hx
          obtain ⟨v, q1, q2, hown, hvg⟩ := O.out.at (revL_at (k := k) (j := j) (by rw [L.out]; exact hyn))
          have Q1 := Lib.hid q1
          have OV := Lib.hid hown
          have HX := Lib.hid hx
          have hj' : (j : Int) < (l.length : Int) := by omega
          have hlen := revAt_len (g := g) (k := k) (j := j) (x := y)
          have zg := O.out.lt
          have zs := G.out.size
          have HVG := Lib.hid hvg
          obtain ⟨csO, hB, _⟩ := O.out
          have HB := Lib.hid hB
          clear hB
          clear hx hown q2 hvg
          go_wp2_with (at_builtin; refine wpList_append_in St_int rfl (.tmp 33) (.tmp 35) rfl rfl (OV.out.alloc (.cells #[.int .i64 k] 3)) rfl (cell_one _ _ rfl) (fun h => by cases h) (flat_one rfl) ?c1 ?c2 ?c3 ?_)
          case c1 => unfold maxLen; omega
          case c2 => omega
          case c3 => simp; omega
          intro v' w3 hown3 hg3 hloc
          obtain ⟨A3, c3, rfl, _, _, _, _⟩ := sliceIn_owns hown3
          have g3 : wr.grownBy w3 v.ownBlock := grown_trans (grown_alloc _ (grown_refl wr _)) hg3
          have O3 := Lib.hid (O.out.put (i := y) (ys := revAt g k j y ++ [(k : Int)]) (revL_at (by rw [L.out]; exact hyn)) Q1.out g3 (.inr rfl) (by rw [List.length_append, ints_snoc]; exact hown3) (hloc.imp id (fun h m hm => by rw [h] at hm; simp at hm; omega)))
          have G3 : Hid (w1.grownBy (w3.setCell ⟨w1.heap.size, y, none⟩ _) none) := Lib.hid (grown_set (.slice A3 ((revAt g k j y).length + 1) c3) (grown_own G.out g3 (fun m hm => (OV.out.lt m hm).1)) (.inl (by simp)))
          have HC3 := Lib.hid (grown_at g3 HB.out (fun e => HVG.out e.symm))
          have q3 := (rules_at HC3.out).1
          have q4 := (rules_at HC3.out).2
          have z3 := lt_of_at HC3.out
          clear hown3 hg3 hloc g3 q1 OV O Q1 G
          rw [revL_set (by rw [AD.out]; exact HX.out) (by rw [AD.out]; exact ND.out) (by rw [L.out]; exact hyn)] at O3
          go_wp2_with fail
          go_roundw
          case rel => exact ⟨j + 1, by omega, by go_num, O3.out, G3.out⟩
          case measure => simp [intOf]; omega
        · obtain rfl : j = l.length := by omega
          rw [revL_next (by rw [AD.out]; exact Nat.le_refl _)] at O
          clear hjl
          go_wp2_with fail
          go_roundw
          case rel => exact ⟨k + 1, by omega, by go_num, O.out, G.out⟩
          case measure => simp [intOf]; omega
    · obtain rfl : k = n := by omega
      have KO := K.out.1
      rw [← L.out, revL_end, L.out] at KO
      have O := Lib.hid KO
      have G := Lib.hid K.out.2
      clear hkn K KO
      go_wp2_with fail
      refine bodyPost_ret (v := .tuple #[.slice (some ⟨w1.heap.size, 0, none⟩) k k, .int .i64 0]) (by simp [results, Try.results11, go_sem]) rfl ⟨_, _, _, rfl, Nat.le_refl _, by unfold maxLen; omega, (fun h => by cases h), (fun R hR => O.out.lists hR), G.out⟩

theorem Reverse_no (a : Option Addr) (n cap : Nat) (g : Gr) (w : World) (h : ListsR none w a n g) (hv : validB g = false) :
    Calls Try.prog 11 #[.slice a n cap] w (GivesL w [] 20) := by
  have H := Lib.hid h
  have HV := Lib.hid hv
  clear h hv
  go_enter Try.func11, Try.ntmps11
  go_wp2_with fail
  refine (Valid_any a n cap g _ H.out).mono ?_
  rw [HV.out]
  rintro e w1 ⟨rfl, rfl⟩
  go_wp2_with fail
  exact bodyPost_ret (v := .tuple #[.slice none 0 0, .int .i64 20]) (by simp [results, Try.results11, go_sem]) rfl ⟨_, _, _, rfl, Nat.le_refl _, Nat.zero_le _, (fun _ => rfl), (fun R _ => listsR_nil R _), grown_refl _ _⟩
end Go.Proofs.Ytidilepbepkpiaa
