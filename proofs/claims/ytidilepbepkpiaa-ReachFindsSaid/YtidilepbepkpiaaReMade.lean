/- Has, Insert, Shut, Graph: what the laws make. -/
import Derived.Test.YtidilepbepkpiaaReRev
namespace Go.Proofs.Ytidilepbepkpiaa
open Go.RowKit
set_option linter.unusedVariables false

theorem not_mem_take {l : List Int} {k : Nat} {x y : Int} (hy : l[k]? = some y) (h : x ∉ l.take k) (hne : y ≠ x) : x ∉ l.take (k + 1) := by
  rw [List.take_add_one, hy]; simp [h, hne.symm]

set_option maxHeartbeats 800000 in
theorem Has_any (a : Option Addr) (n cap : Nat) (zs : List Int) (x : Int) (w : World) (h : RowIn w a n 1 (ints zs)) :
    Calls Try.prog 24 #[.slice a n cap, .int .i64 x] w fun e w' => e = .returned (.bool (decide (x ∈ zs))) ∧ w' = w := by
  have L := Lib.hid h.len1
  have H := Lib.hid h
  have hm := h.2.1
  unfold maxLen at hm
  clear h
  go_enter Try.func24, Try.ntmps24
  go_wp2_with fail
  go_loop [5] (fun i => ∃ k : Nat, k ≤ n ∧ i = .int .i64 k ∧ x ∉ zs.take k) (fun i => n - (intOf i).toNat)
  case atStart => exact ⟨0, by omega, rfl, by simp⟩
  case round =>
    obtain ⟨k, hk, rfl, hn⟩ := hrel
    have N := Lib.hid hn
    clear hn
    by_cases hkn : k < n
    · obtain ⟨y, hy⟩ : ∃ y, zs[k]? = some y := ⟨_, List.getElem?_eq_getElem (by rw [L.out]; exact hkn)⟩
      obtain ⟨b, o, rfl, zb, d0⟩ := H.out.int hy
      have Y := Lib.hid hy
      have hk' : (k : Int) < n := by omega
      clear hy
      by_cases hyx : y = x
      · have t : (y == x) = true := by simpa using hyx
        have E : Hid (decide (x ∈ zs) = true) := Lib.hid (decide_eq_true (by rw [← hyx]; exact List.mem_of_getElem? Y.out))
        clear hyx
        go_wp2_with fail
        go_ret
        exact ⟨ret_bool E.out.symm, rfl⟩
      · have t : (y == x) = false := by simpa using hyx
        have N2 := Lib.hid (not_mem_take Y.out N.out hyx)
        clear hyx
        go_wp2_with fail
        go_round
        case rel => exact ⟨k + 1, by omega, by go_num, N2.out⟩
        case measure => simp [intOf]; omega
    · obtain rfl : k = n := by omega
      have E : Hid (decide (x ∈ zs) = false) := Lib.hid (decide_eq_false (by have := N.out; rwa [List.take_of_length_le (by rw [L.out]; exact Nat.le_refl _)] at this))
      clear hkn
      go_wp2_with fail
      go_ret
      exact ⟨ret_bool E.out.symm, rfl⟩

/-! ### Insert -/
def ins (x : Int) : List Int → List Int
  | [] => [x]
  | y :: t => if x < y then x :: y :: t else y :: ins x t
def insStep (x : Int) (s : Bool × List Int) (y : Int) : Bool × List Int := if s.1 = false ∧ x < y then (true, s.2 ++ [x] ++ [y]) else (s.1, s.2 ++ [y])
def insAt (x : Int) (l : List Int) (k : Nat) : Bool × List Int := (l.take k).foldl (insStep x) (false, [])
theorem insAt_succ {x : Int} {l : List Int} {k : Nat} {y : Int} (hy : l[k]? = some y) : insAt x l (k + 1) = insStep x (insAt x l k) y := by
  unfold insAt; rw [List.take_add_one, hy]; simp
theorem fold_true (x : Int) (l o : List Int) : l.foldl (insStep x) (true, o) = (true, o ++ l) := by
  induction l generalizing o with
  | nil => simp
  | cons y l ih =>
    rw [List.foldl_cons, show insStep x (true, o) y = (true, o ++ [y]) from by unfold insStep; rw [if_neg (fun e => by cases e.1)], ih]
    simp
theorem fold_ins (x : Int) (l o : List Int) : (let s := l.foldl (insStep x) (false, o); if s.1 then s.2 else s.2 ++ [x]) = o ++ ins x l := by
  induction l generalizing o with
  | nil => simp [ins]
  | cons y l ih =>
    rw [List.foldl_cons]
    by_cases h : x < y
    · rw [show insStep x (false, o) y = (true, o ++ [x] ++ [y]) from by unfold insStep; rw [if_pos ⟨rfl, h⟩], fold_true]
      simp [ins, h]
    · rw [show insStep x (false, o) y = (false, o ++ [y]) from by unfold insStep; rw [if_neg (fun e => h e.2)]]
      rw [ih (o ++ [y])]
      simp [ins, h]
theorem ins_end {x : Int} {l : List Int} {n : Nat} (hl : l.length ≤ n) : ins x l = if (insAt x l n).1 then (insAt x l n).2 else (insAt x l n).2 ++ [x] := by
  have := fold_ins x l []
  unfold insAt
  rw [List.take_of_length_le hl]
  rw [List.nil_append] at this
  exact this.symm
theorem ins_mem {x y : Int} {l : List Int} : y ∈ ins x l ↔ y = x ∨ y ∈ l := by
  induction l with
  | nil => simp [ins]
  | cons z l ih =>
    unfold ins
    split
    · simp
    · simp only [List.mem_cons, ih]
      constructor
      · rintro (h | h | h)
        · exact .inr (.inl h)
        · exact .inl h
        · exact .inr (.inr h)
      · rintro (h | h | h)
        · exact .inr (.inl h)
        · exact .inl h
        · exact .inr (.inr h)
theorem ins_ok {n v last x : Int} {l : List Int} (h : okB n v last l = true) (h1 : last < x) (h2 : x < n) (h3 : x ≠ v) (h4 : x ∉ l) : okB n v last (ins x l) = true := by
  induction l generalizing last with
  | nil => simp [ins, okB, h1, h2, h3]
  | cons y l ih =>
    simp only [okB, Bool.and_eq_true, decide_eq_true_eq, bne_iff_ne] at h
    simp only [List.mem_cons, not_or] at h4
    unfold ins
    split
    · simp only [okB, Bool.and_eq_true, decide_eq_true_eq, bne_iff_ne]
      exact ⟨⟨⟨h1, h2⟩, h3⟩, ⟨⟨by assumption, h.1.1.2⟩, h.1.2⟩, h.2⟩
    · simp only [okB, Bool.and_eq_true, decide_eq_true_eq, bne_iff_ne]
      exact ⟨⟨⟨h.1.1.1, h.1.1.2⟩, h.1.2⟩, ih h.2 (by omega) h4.2⟩
theorem okB_len {n v last : Int} {l : List Int} (h : okB n v last l = true) (hl : last < n) : (l.length : Int) ≤ n - 1 - last := by
  induction l generalizing last with
  | nil => simp; omega
  | cons y l ih =>
    simp only [okB, Bool.and_eq_true, decide_eq_true_eq] at h
    have := ih h.2 (by omega)
    simp only [List.length_cons]
    omega
theorem insAt_len {x : Int} {l : List Int} {k : Nat} (hk : k ≤ l.length) : (insAt x l k).2.length ≤ k + 1 ∧ ((insAt x l k).1 = false → (insAt x l k).2.length = k) := by
  induction k with
  | zero => simp [insAt]
  | succ k ih =>
    obtain ⟨y, hy⟩ : ∃ y, l[k]? = some y := ⟨_, List.getElem?_eq_getElem (by omega)⟩
    rw [insAt_succ hy]
    have := ih (by omega)
    unfold insStep
    split
    · rename_i h; have := this.2 h.1; simp; omega
    · simp only [List.length_append, List.length_singleton]; exact ⟨by omega, fun e => by have := this.2 e; omega⟩

set_option maxHeartbeats 1600000 in
theorem Insert_any (a : Option Addr) (n cap : Nat) (zs : List Int) (x : Int) (w : World) (h : RowIn w a n 1 (ints zs)) (hn : n ≤ 100) :
    Calls Try.prog 25 #[.slice a n cap, .int .i64 x] w fun e w' => ∃ v, e = .returned v ∧ w'.ownsRow w.heap.size 3 1 v (ins x zs).length (ints (ins x zs)) ∧ w.grownBy w' none := by
  have L := Lib.hid h.len1
  have H := Lib.hid h
  clear h
  go_enter Try.func25, Try.ntmps25
  go_wp2_with fail
  go_loopw [5, 6, 7] (fun v d i wr => ∃ k : Nat, k ≤ n ∧ i = .int .i64 k ∧ d = .bool (insAt x zs k).1 ∧ wr.ownsRow w.heap.size 3 1 v (insAt x zs k).2.length (ints (insAt x zs k).2) ∧ w.grownBy wr none) (fun _ _ i _ => n - (intOf i).toNat)
  case atStart => exact ⟨0, by omega, rfl, rfl, World.ownsRow_nil _ _ _ _, grown_refl _ _⟩
  case round =>
    obtain ⟨k, hk, rfl, rfl, hown, hG⟩ := hrel
    have O := Lib.hid hown
    have G := Lib.hid hG
    have zs0 := hG.size
    clear hown hG
    by_cases hkn : k < n
    · obtain ⟨y, hy⟩ : ∃ y, zs[k]? = some y := ⟨_, List.getElem?_eq_getElem (by rw [L.out]; exact hkn)⟩
      obtain ⟨b, o, rfl, zb, d0⟩ := (RowIn.kept H.out G.out).int hy
      have Y := Lib.hid hy
      have SU := Lib.hid (insAt_succ (x := x) hy)
      obtain ⟨ln, ln2⟩ := insAt_len (x := x) (l := zs) (k := k) (by rw [L.out]; omega)
      have LN2 := Lib.hid ln2
      have hk' : (k : Int) < n := by omega
      generalize hs : insAt x zs k = s at *
      obtain ⟨d, out⟩ := s
      simp only at O ln
      clear hy hs ln2
      by_cases hgo : d = false ∧ x < y
      · obtain ⟨rfl, hxy⟩ := hgo
        have SU2 : Hid (insAt x zs (k + 1) = (true, out ++ [x] ++ [y])) := Lib.hid (by rw [SU.out]; unfold insStep; rw [if_pos ⟨rfl, hxy⟩])
        clear SU
        go_wp2_with (at_builtin; refine wpList_append_in St_int rfl (.tmp 24) (.tmp 26) rfl rfl (O.out.alloc (.cells #[.int .i64 x] 3)) rfl (cell_one _ _ rfl) (fun h => by cases h) (flat_one rfl) ?c1 ?c2 ?c3 ?_)
        case c1 => unfold maxLen; omega
        case c2 => omega
        case c3 => first | omega | (simp; omega)
        intro v3 w3 hown3 hg3 hloc
        have G3 := Lib.hid (grown_own (grown_alloc (.cells #[.int .i64 x] 3) G.out) hg3 (fun m hm => (O.out.lt m hm).1))
        have O3 := Lib.hid hown3
        have zs3 := G3.out.size
        obtain ⟨b', o', he, zb', d0'⟩ := (RowIn.kept H.out G3.out).int Y.out
        obtain ⟨rfl, rfl⟩ : b = b' ∧ o = o' := by simpa using he
        clear hown3 hg3 hloc O G d0 he
        go_wp2_with (at_builtin; refine wpList_append_in St_int rfl (.tmp 28) (.tmp 33) rfl rfl (O3.out.alloc (.cells #[.int .i64 y] 3)) rfl (cell_one _ _ rfl) (fun h => by cases h) (flat_one rfl) ?c4 ?c5 ?c6 ?_)
        case c4 => unfold maxLen; omega
        case c5 => omega
        case c6 => first | omega | (simp; omega)
        intro v4 w4 hown4 hg4 hloc
        have G4 := Lib.hid (grown_own (grown_alloc (.cells #[.int .i64 y] 3) G3.out) hg4 (fun m hm => (O3.out.lt m hm).1))
        have O4 : Hid (w4.ownsRow w.heap.size 3 1 v4 (out ++ [x] ++ [y]).length (ints (out ++ [x] ++ [y]))) := Lib.hid (by rw [show (out ++ [x] ++ [y]).length = out.length + 1 + 1 by simp, show ints (out ++ [x] ++ [y]) = ints out ++ [.int .i64 x, .int .i64 y] by simp [ints]]; simpa using hown4)
        clear hown4 hg4 hloc O3 G3 d0'
        go_wp2_with fail
        go_roundw
        case rel => exact ⟨k + 1, by omega, by go_num, by rw [SU2.out], by rw [SU2.out]; exact O4.out, G4.out⟩
        case measure => simp [intOf]; omega
      · have SU2 : Hid (insAt x zs (k + 1) = (d, out ++ [y])) := Lib.hid (by rw [SU.out]; unfold insStep; rw [if_neg hgo])
        have hgo2 : d = true ∨ (d = false ∧ ¬ x < y) := by cases d <;> simp_all
        clear SU hgo
        rcases hgo2 with rfl | ⟨rfl, hxy⟩
        all_goals
          go_wp2_with (at_builtin; refine wpList_append_in St_int rfl (.tmp 28) (.tmp 33) rfl rfl (O.out.alloc (.cells #[.int .i64 y] 3)) rfl (cell_one _ _ rfl) (fun h => by cases h) (flat_one rfl) ?c4 ?c5 ?c6 ?_)
          case c4 => unfold maxLen; omega
          case c5 => omega
          case c6 => first | omega | (simp; omega)
          intro v4 w4 hown4 hg4 hloc
          have G4 := Lib.hid (grown_own (grown_alloc (.cells #[.int .i64 y] 3) G.out) hg4 (fun m hm => (O.out.lt m hm).1))
          have O4 : Hid (w4.ownsRow w.heap.size 3 1 v4 (out ++ [y]).length (ints (out ++ [y]))) := Lib.hid (by rw [show (out ++ [y]).length = out.length + 1 by simp, ints_snoc]; exact hown4)
          clear hown4 hg4 hloc O G d0
          go_wp2_with fail
          go_roundw
          case rel => exact ⟨k + 1, by omega, by go_num, by rw [SU2.out], by rw [SU2.out]; exact O4.out, G4.out⟩
          case measure => simp [intOf]; omega
    · obtain rfl : k = n := by omega
      have E := Lib.hid (ins_end (x := x) (l := zs) (n := k) (by rw [L.out]; exact Nat.le_refl _))
      have ln := (insAt_len (x := x) (l := zs) (k := k) (by rw [L.out]; exact Nat.le_refl _)).1
      generalize hs : insAt x zs k = s at *
      obtain ⟨d, out⟩ := s
      simp only at O E ln
      clear hs hkn
      cases d
      · simp only [Bool.false_eq_true, if_false] at E
        go_wp2_with (at_builtin; refine wpList_append_in St_int rfl (.tmp 37) (.tmp 39) rfl rfl (O.out.alloc (.cells #[.int .i64 x] 3)) rfl (cell_one _ _ rfl) (fun h => by cases h) (flat_one rfl) ?c4 ?c5 ?c6 ?_)
        case c4 => unfold maxLen; omega
        case c5 => omega
        case c6 => first | omega | (simp; omega)
        intro v4 w4 hown4 hg4 hloc
        have G4 := Lib.hid (grown_own (grown_alloc (.cells #[.int .i64 x] 3) G.out) hg4 (fun m hm => (O.out.lt m hm).1))
        have O4 : Hid (w4.ownsRow w.heap.size 3 1 v4 (ins x zs).length (ints (ins x zs))) := Lib.hid (by rw [E.out, show (out ++ [x]).length = out.length + 1 by simp, ints_snoc]; exact hown4)
        clear hown4 hg4 hloc O G
        go_wp2_with fail
        exact bodyPost_ret (v := v4) (by simp [results, Try.results25, go_sem]) rfl ⟨v4, rfl, O4.out, G4.out⟩
      · simp only [if_true] at E
        have O4 : Hid (wr.ownsRow w.heap.size 3 1 u5 (ins x zs).length (ints (ins x zs))) := Lib.hid (by rw [E.out]; exact O.out)
        clear O
        go_wp2_with fail
        exact bodyPost_ret (v := u5) (by simp [results, Try.results25, go_sem]) rfl ⟨u5, rfl, O4.out, G.out⟩
end Go.Proofs.Ytidilepbepkpiaa
