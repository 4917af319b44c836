/- known: the example of the chapter. -/
import Derived.Test.YtidilepbepkpiaaReMut
import Derived.Test.YtidilepbepkpiaaReLists
namespace Go.Proofs.Ytidilepbepkpiaa
open Go.RowKit
set_option linter.unusedVariables false

theorem at_new' {w : World} {o : Obj} {m : Nat} (h : m = w.heap.size) : (w.alloc o).heap[m]? = some o := by subst h; exact at_new w o
def G3 : Gr := [[1], [2], [0]]
theorem G3_valid : validB G3 = true := by decide
theorem G3_step {s : List Bool} {u v x : Nat} (h : Reach G3 s u v) (hx : (x : Int) ∈ adj G3 v) (ho : isOpen s x) : Reach G3 s u x := .step h hx ho
theorem G3_mut : Mut G3 [false, false, false] := by
  have a0 : ∀ x : Nat, x < 3 → isOpen [false, false, false] x := fun x hx => by
    match x, hx with
    | 0, _ => rfl
    | 1, _ => rfl
    | 2, _ => rfl
  have e01 : ((1 : Nat) : Int) ∈ adj G3 0 := by decide
  have e12 : ((2 : Nat) : Int) ∈ adj G3 1 := by decide
  have e20 : ((0 : Nat) : Int) ∈ adj G3 2 := by decide
  have r00 : Reach G3 [false, false, false] 0 0 := .base (a0 0 (by omega))
  have r01 := G3_step r00 e01 (a0 1 (by omega))
  have r02 := G3_step r01 e12 (a0 2 (by omega))
  have r22 : Reach G3 [false, false, false] 2 2 := .base (a0 2 (by omega))
  have r20 := G3_step r22 e20 (a0 0 (by omega))
  have r11 : Reach G3 [false, false, false] 1 1 := .base (a0 1 (by omega))
  have r10 := (G3_step r11 e12 (a0 2 (by omega))).trans r20
  refine ⟨0, a0 0 (by omega), fun w hw => ?_⟩
  have hl := (List.getElem?_eq_some_iff.1 hw).1
  match w, hl with
  | 0, _ => exact ⟨r00, r00⟩
  | 1, _ => exact ⟨r01, r10⟩
  | 2, _ => exact ⟨r02, r20⟩
theorem G3_reach1 {x : Nat} : ¬ Reach G3 [false, true, false] x 1 := fun h => by
  have := h.opens.2
  simp [isOpen] at this
theorem G3_not : ¬ Mut G3 [false, true, false] := by
  refine mut_no (v := 0) (w := 2) (by rfl) (by rfl) (fun h => ?_)
  have h2 : ∀ x, Reach G3 [false, true, false] 0 x → x = 0 := by
    intro x hx
    induction hx with
    | base _ => rfl
    | step hu he ho ih =>
      subst ih
      rename_i y
      have : (y : Int) = 1 := by simpa [adj, G3] using he
      obtain rfl : y = 1 := by omega
      simp [isOpen] at ho
  have := h2 2 h.1
  omega
theorem G3_from {L : List Bool} (hl : L.length = 3) (h : ∀ x : Nat, L[x]? = some true ↔ Reach G3 [false, true, false] 2 x) : L = [true, false, true] := by
  have r22 : Reach G3 [false, true, false] 2 2 := .base (by rfl)
  have r20 : Reach G3 [false, true, false] 2 0 := G3_step r22 (by decide) (by rfl)
  have h0 := (h 0).2 r20
  have h2 := (h 2).2 r22
  have h1 : L[1]? ≠ some true := fun e => G3_reach1 ((h 1).1 e)
  match L, hl with
  | [a, b, c], _ =>
    simp at h0 h1 h2
    simp [h0, h1, h2]

theorem lists3 {W : World} {b0 b1 b2 b3 : Nat} (h0 : W.heap[b0]? = some (.cells #[.int .i64 1] 3 (0, 0))) (h1 : W.heap[b1]? = some (.cells #[.int .i64 2] 3 (0, 0))) (h2 : W.heap[b2]? = some (.cells #[.int .i64 0] 3 (0, 0)))
    (h3 : W.heap[b3]? = some (.cells #[.slice (some ⟨b0, 0, none⟩) 1 1, .slice (some ⟨b1, 0, none⟩) 1 1, .slice (some ⟨b2, 0, none⟩) 1 1] 22 (0, 0))) : ListsR none W (some ⟨b3, 0, none⟩) 3 G3 := by
  refine ⟨_, rowR_none (rowIn_block (n := 3) (size := 1) h3 rfl (by unfold maxLen; omega)), rfl, fun i xs hi => ?_⟩
  match i, hi with
  | 0, hi =>
    obtain rfl : [1] = xs := by simpa [G3] using hi
    exact ⟨_, _, rfl, Nat.le_refl _, by unfold maxLen; simp, (fun h => by cases h), rowR_none (rowIn_block (n := 1) (size := 1) h0 rfl (by unfold maxLen; omega))⟩
  | 1, hi =>
    obtain rfl : [2] = xs := by simpa [G3] using hi
    exact ⟨_, _, rfl, Nat.le_refl _, by unfold maxLen; simp, (fun h => by cases h), rowR_none (rowIn_block (n := 1) (size := 1) h1 rfl (by unfold maxLen; omega))⟩
  | 2, hi =>
    obtain rfl : [0] = xs := by simpa [G3] using hi
    exact ⟨_, _, rfl, Nat.le_refl _, by unfold maxLen; simp, (fun h => by cases h), rowR_none (rowIn_block (n := 1) (size := 1) h2 rfl (by unfold maxLen; omega))⟩
  | i + 3, hi => simp [G3] at hi

set_option maxHeartbeats 1600000 in
theorem known_any (w : World) : Calls Try.prog 8 #[] w fun e w' => e = .returned (.bool true) ∧ w.grownBy w' none := by
  have V := Lib.hid G3_valid
  go_enter Try.func8, Try.ntmps8
  go_upto_region 2 with fail
  obtain ⟨W, hW⟩ : ∃ W, W = ((((w.alloc (.cells #[.int .i64 1] 3)).alloc (.cells #[.int .i64 2] 3)).alloc (.cells #[.int .i64 0] 3)).alloc (.cells #[.slice (some ⟨w.heap.size, 0, none⟩) 1 1, .slice (some ⟨w.heap.size + 1, 0, none⟩) 1 1, .slice (some ⟨w.heap.size + 1 + 1, 0, none⟩) 1 1] 22)) := ⟨_, rfl⟩
  rw [← hW]
  have K1 : Hid (ListsR none W (some ⟨w.heap.size + 1 + 1 + 1, 0, none⟩) 3 G3 ∧ w.grownBy W none) := Lib.hid (by
    rw [hW]
    exact ⟨lists3 (at_alloc _ (at_alloc _ (at_alloc _ (at_new w _)))) (at_alloc _ (at_alloc _ (at_new' (by simp)))) (at_alloc _ (at_new' (by simp))) (at_new' (by simp)), grown_alloc _ (grown_alloc _ (grown_alloc _ (grown_alloc _ (grown_refl _ _))))⟩)
  clear hW
  go_wp2_with fail
  have K2 := keep (grown_alloc (.cells #[.bool false, .bool false, .bool false] 4) (grown_refl W none)) K1
  refine (Mutual_ok _ 3 3 G3 _ 3 [false, false, false] _ K2.out.1 (rowIn_block (n := 3) (size := 1) (at_new' (by simp)) rfl (by unfold maxLen; omega)) V.out).mono ?_
  rintro e w2 ⟨bv, rfl, hb, hg2⟩
  obtain rfl : bv = true := hb.2 G3_mut
  have K3 := keep hg2 K2
  clear hb hg2 K1 K2
  go_wp2_with fail
  have K4 := keep (grown_alloc (.cells #[.bool false, .bool true, .bool false] 4) (grown_refl w2 none)) K3
  refine (Mutual_ok _ 3 3 G3 _ 3 [false, true, false] _ K4.out.1 (rowIn_block (n := 3) (size := 1) (at_new' (by simp)) rfl (by unfold maxLen; omega)) V.out).mono ?_
  rintro e w3 ⟨bv, rfl, hb, hg3⟩
  obtain rfl : bv = false := by
    cases bv
    · rfl
    · exact absurd (hb.1 rfl) G3_not
  have K5 := keep hg3 K4
  clear hb hg3 K3 K4
  go_wp2_with fail
  have K6 := keep (grown_alloc (.cells #[.bool false, .bool true, .bool false] 4) (grown_refl w3 none)) K5
  refine (From_ok _ 3 3 G3 _ 3 [false, true, false] 2 _ K6.out.1 (rowIn_block (n := 3) (size := 1) (at_new' (by simp)) rfl (by unfold maxLen; omega)) V.out (by omega)).mono ?_
  rintro e w4 ⟨A, c, L, rfl, f1, f2, f3, f4, f5, f6, hg4⟩
  obtain rfl := G3_from f4 f5
  have K7 := Lib.hid (And.intro (keep hg4 K6).out (f6 none (by simp)).1)
  clear f4 f5 f6 hg4 K5 K6
  go_wp2_with fail
  have K8 := keep (grown_alloc (.cells #[.bool true, .bool false, .bool true] 4) (grown_refl w4 none)) K7
  refine (SameBools_any A _ 3 3 c 3 [true, false, true] [true, false, true] _ K8.out.2 (rowIn_block (n := 3) (size := 1) (at_new' (by simp)) rfl (by unfold maxLen; omega))).mono ?_
  rintro e w5 ⟨rfl, hg5⟩
  have K9 := keep hg5 K8
  clear hg5 K7 K8
  go_wp2_with fail
  refine (Valid_any _ 3 3 G3 _ K9.out.1.1).mono ?_
  rintro e w6 ⟨rfl, rfl⟩
  rw [V.out]
  go_wp2_with fail
  go_ret
  exact ⟨rfl, K9.out.1.2⟩
end Go.Proofs.Ytidilepbepkpiaa
