/- Locks in memory; the contracts of Has, Index, Contains, Clone, isRobot. -/
import Derived.Test.YtbpobekmbdngbaaGrm
import Derived.Test.YtbpobekmbdngbaaLkLaw
import Derived.Test.YtbpobekmbdngbaaInts
namespace Go.Proofs.Ytbpobekmbdngbaa
open Go.RowKit
set_option linter.unusedVariables false

abbrev lkV (a1 : Option Addr) (n1 c1 : Nat) (a2 : Option Addr) (n2 c2 : Nat) : Value := .agg #[.slice a1 n1 c1, .slice a2 n2 c2]
/-- The two slices hold the lock l; nothing of it lies in block R. -/
def LkR (R : Option Nat) (w : World) (a1 : Option Addr) (n1 c1 : Nat) (a2 : Option Addr) (n2 c2 : Nat) (l : Lk) : Prop :=
  (RowR R w a1 n1 1 (ints l.own) ∧ ListsR R w a2 n2 l.q) ∧ (a1 = none → c1 = 0) ∧ (a2 = none → c2 = 0) ∧ n1 ≤ c1 ∧ c1 ≤ maxLen ∧ n2 ≤ c2 ∧ c2 ≤ maxLen
def LkV (R : Option Nat) (w : World) (v : Value) (l : Lk) : Prop := ∃ a1 n1 c1 a2 n2 c2, v = lkV a1 n1 c1 a2 n2 c2 ∧ LkR R w a1 n1 c1 a2 n2 c2 l
section
variable {R : Option Nat} {w W : World} {a1 a2 : Option Addr} {n1 c1 n2 c2 : Nat} {l : Lk} {v : Value}
theorem LkR.kept (h : LkR R w a1 n1 c1 a2 n2 c2 l) (hg : w.grownBy W R) : LkR R W a1 n1 c1 a2 n2 c2 l := ⟨(keep hg (Lib.hid h.1)).out, h.2⟩
theorem LkV.kept (h : LkV R w v l) (hg : w.grownBy W R) : LkV R W v l := by
  obtain ⟨a1, n1, c1, a2, n2, c2, e, h⟩ := h
  exact ⟨a1, n1, c1, a2, n2, c2, e, h.kept hg⟩
instance : Stay R w W (LkR R w a1 n1 c1 a2 n2 c2 l) (LkR R W a1 n1 c1 a2 n2 c2 l) := ⟨fun hg h => h.kept hg⟩
instance : Stay R w W (LkV R w v l) (LkV R W v l) := ⟨fun hg h => h.kept hg⟩
theorem LkR.plain (h : LkR R w a1 n1 c1 a2 n2 c2 l) : LkR none w a1 n1 c1 a2 n2 c2 l := ⟨⟨rowR_none h.1.1.1, h.1.2.plain⟩, h.2⟩
theorem LkV.plain (h : LkV R w v l) : LkV none w v l := by
  obtain ⟨a1, n1, c1, a2, n2, c2, e, h⟩ := h
  exact ⟨a1, n1, c1, a2, n2, c2, e, h.plain⟩
theorem LkR.len (h : LkR R w a1 n1 c1 a2 n2 c2 l) : l.own.length = n1 ∧ l.q.length = n2 ∧ n1 ≤ 9223372036854775807 ∧ n2 ≤ 9223372036854775807 := by
  have h1 := h.1.1.1.len1
  have h2 := h.1.2.len.1
  have h3 := h.1.1.1.2.1
  have h4 := h.1.2.len.2
  unfold maxLen at h3 h4
  omega
end
theorem lkV_zero (R : Option Nat) (w : World) : LkV R w (lkV none 0 0 none 0 0) zeroL :=
  ⟨none, 0, 0, none, 0, 0, rfl, ⟨⟨⟨by simp [zeroL, ints], Nat.zero_le _, .inl rfl⟩, by simp⟩, ⟨[], ⟨⟨by simp, Nat.zero_le _, .inl rfl⟩, by simp⟩, rfl, fun i xs h => by simp [zeroL] at h⟩⟩, fun _ => rfl, fun _ => rfl, Nat.le_refl _, Nat.zero_le _, Nat.le_refl _, Nat.zero_le _⟩
/-- A lock and an error are returned. -/
def GiveLk (l : Lk) (err : Int) (w : World) (e : Ending) (w' : World) : Prop :=
  ∃ v, e = .returned (.tuple #[v, .int .i64 err]) ∧ (∀ R, (∀ b, R = some b → b < w.heap.size) → LkV R w' v l) ∧ w.grownBy w' none

theorem not_mem_take {l : List Int} {k : Nat} {x y : Int} (hy : l[k]? = some y) (h : x ∉ l.take k) (hne : y ≠ x) : x ∉ l.take (k + 1) := by
  rw [List.take_add_one, hy]; simp [h, hne.symm]

set_option maxHeartbeats 800000 in
theorem Has_any (a : Option Addr) (n cap : Nat) (zs : List Int) (x : Int) (w : World) (h : RowIn w a n 1 (ints zs)) :
    Calls Try.prog 11 #[.slice a n cap, .int .i64 x] w fun e w' => e = .returned (.bool (decide (x ∈ zs))) ∧ w' = w := by
  have L := Lib.hid h.len1
  have H := Lib.hid h
  have hm := h.2.1
  unfold maxLen at hm
  clear h
  go_enter Try.func11, Try.ntmps11
  go_wp2_with fail
  go_loop [5] (fun i => ∃ k : Nat, k ≤ n ∧ i = .int .i64 k ∧ x ∉ zs.take k) (fun i => n - (intOf i).toNat)
  case atStart => exact ⟨0, by omega, rfl, by simp⟩
  case round =>
    obtain ⟨k, hk, rfl, hn⟩ := hrel
    have N := Lib.hid hn
    clear hn
    by_cases hkn : k < n
    · obtain ⟨y, hy⟩ : ∃ y, zs[k]? = some y := ⟨_, List.getElem?_eq_getElem (by rw [L.out]; exact hkn)⟩
      obtain ⟨b, o, rfl, zb, d0⟩ := H.out.int hy
      have Y := Lib.hid hy
      have hk' : (k : Int) < n := by omega
      clear hy
      by_cases hyx : y = x
      · have t : (y == x) = true := by simpa using hyx
        have E : Hid (decide (x ∈ zs) = true) := Lib.hid (decide_eq_true (by rw [← hyx]; exact List.mem_of_getElem? Y.out))
        clear hyx
        go_wp2_with fail
        go_ret
        exact ⟨ret_bool E.out.symm, rfl⟩
      · have t : (y == x) = false := by simpa using hyx
        have N2 := Lib.hid (not_mem_take Y.out N.out hyx)
        clear hyx
        go_wp2_with fail
        go_round
        case rel => exact ⟨k + 1, by omega, by go_num, N2.out⟩
        case measure => simp [intOf]; omega
    · obtain rfl : k = n := by omega
      have E : Hid (decide (x ∈ zs) = false) := Lib.hid (decide_eq_false (by have := N.out; rwa [List.take_of_length_le (by rw [L.out]; exact Nat.le_refl _)] at this))
      clear hkn
      go_wp2_with fail
      go_ret
      exact ⟨ret_bool E.out.symm, rfl⟩


/-! ### Index, Contains, Clone -/
def idxL (x : Int) : List Int → Nat → Int
  | [], _ => -1
  | y :: l, i => if y = x then (i : Int) else idxL x l (i + 1)
theorem idxL_step {x : Int} {l : List Int} {k : Nat} {y : Int} (h : l[k]? = some y) : idxL x (l.drop k) k = if y = x then (k : Int) else idxL x (l.drop (k + 1)) (k + 1) := by
  obtain ⟨h1, h2⟩ := List.getElem?_eq_some_iff.1 h
  rw [List.drop_eq_getElem_cons h1, h2, idxL]
theorem idxL_end {x : Int} {l : List Int} {k : Nat} (h : l.length ≤ k) : idxL x (l.drop k) k = -1 := by
  rw [List.drop_eq_nil_of_le h, idxL]
theorem idxL_spec (x : Int) (l : List Int) (i : Nat) : (idxL x l i = -1 ∧ x ∉ l) ∨ ∃ k : Nat, idxL x l i = ((i + k : Nat) : Int) ∧ l[k]? = some x ∧ x ∉ l.take k := by
  induction l generalizing i with
  | nil => left; simp [idxL]
  | cons y l ih =>
    by_cases h : y = x
    · right; exact ⟨0, by simp [idxL, h], by simp [h], by simp⟩
    · rcases ih (i + 1) with ⟨h1, h2⟩ | ⟨k, h1, h2, h3⟩
      · left
        exact ⟨by simp [idxL, h, h1], by simp [h2]; exact fun k => h k.symm⟩
      · right; exact ⟨k + 1, by rw [idxL, if_neg h, h1]; omega, by simpa using h2, by simp [h3]; exact fun k => h k.symm⟩
set_option maxHeartbeats 800000 in
theorem Index_any (a : Option Addr) (n cap : Nat) (zs : List Int) (x : Int) (w : World) (h : RowIn w a n 1 (ints zs)) :
    Calls Try.prog 36 #[.slice a n cap, .int .i64 x] w fun e w' => e = .returned (.int .i64 (idxL x zs 0)) ∧ w' = w := by
  have L := Lib.hid h.len1
  have H := Lib.hid h
  have hm := h.2.1
  unfold maxLen at hm
  clear h
  go_enter Try.func36, Try.ntmps36
  go_wp2_with fail
  go_loop [8] (fun i => ∃ k : Nat, k ≤ n ∧ i = .int .i64 k ∧ idxL x zs 0 = idxL x (zs.drop k) k) (fun i => n - (intOf i).toNat)
  case atStart => exact ⟨0, by omega, rfl, rfl⟩
  case round =>
    obtain ⟨k, hk, rfl, hn⟩ := hrel
    have N := Lib.hid hn
    clear hn
    by_cases hkn : k < n
    · obtain ⟨y, hy⟩ : ∃ y, zs[k]? = some y := ⟨_, List.getElem?_eq_getElem (by rw [L.out]; exact hkn)⟩
      obtain ⟨b, o, rfl, zb, d0⟩ := H.out.int hy
      have Y := Lib.hid hy
      have hk' : (k : Int) < n := by omega
      clear hy
      by_cases hyx : y = x
      · have t : (x == y) = true := by simp [hyx]
        have E : Hid (idxL x zs 0 = k) := Lib.hid (by rw [N.out, idxL_step Y.out, if_pos hyx])
        clear hyx
        go_wp2_with fail
        go_ret
        exact ⟨ret_int E.out.symm, rfl⟩
      · have t : (x == y) = false := by simp; exact fun h => hyx h.symm
        have N2 : Hid (idxL x zs 0 = idxL x (zs.drop (k + 1)) (k + 1)) := Lib.hid (by rw [N.out, idxL_step Y.out, if_neg hyx])
        clear hyx
        go_wp2_with fail
        go_round
        case rel => exact ⟨k + 1, by omega, by go_num, N2.out⟩
        case measure => simp [intOf]; omega
    · obtain rfl : k = n := by omega
      have E : Hid (idxL x zs 0 = -1) := Lib.hid (by rw [N.out, idxL_end (by rw [L.out]; exact Nat.le_refl _)])
      clear hkn
      go_wp2_with fail
      go_ret
      exact ⟨ret_int E.out.symm, rfl⟩


set_option maxHeartbeats 400000 in
theorem Contains_any (a : Option Addr) (n cap : Nat) (zs : List Int) (x : Int) (w : World) (h : RowIn w a n 1 (ints zs)) :
    Calls Try.prog 32 #[.slice a n cap, .int .i64 x] w fun e w' => e = .returned (.bool (decide (x ∈ zs))) ∧ w' = w := by
  have hs := idxL_spec x zs 0
  have H := Lib.hid h
  have hm := h.2.1
  unfold maxLen at hm
  by_cases hx : x ∈ zs
  · have E : Hid (decide (x ∈ zs) = true) := Lib.hid (decide_eq_true hx)
    have t : decide (0 ≤ idxL x zs 0) = true := by
      rcases hs with ⟨_, h2⟩ | ⟨k, h1, _⟩
      · exact absurd hx h2
      · rw [h1]; simp
    clear h hs hx
    go_enter Try.func32, Try.ntmps32
    go_wp2_with fail
    refine (Index_any a n cap zs x _ H.out).mono ?_
    rintro e w1 ⟨rfl, rfl⟩
    go_wp2_with fail
    go_ret
    exact ⟨ret_bool E.out.symm, rfl⟩
  · have E : Hid (decide (x ∈ zs) = false) := Lib.hid (decide_eq_false hx)
    have t : decide (0 ≤ idxL x zs 0) = false := by
      rcases hs with ⟨h1, h2⟩ | ⟨k, _, h2, _⟩
      · rw [h1]; rfl
      · exact absurd (List.mem_of_getElem? h2) hx
    clear h hs hx
    go_enter Try.func32, Try.ntmps32
    go_wp2_with fail
    refine (Index_any a n cap zs x _ H.out).mono ?_
    rintro e w1 ⟨rfl, rfl⟩
    go_wp2_with fail
    go_ret
    exact ⟨ret_bool E.out.symm, rfl⟩

theorem St_ints : SliceT Try.prog 24 22 (.slice none 0 0) 1 24 := .mk' Try.underlying24 Try.info_ints rfl (by decide)
/-- slices.Clone of a slice of one-cell elements. -/
theorem row_nil {w : World} {n size : Nat} {xs : List Value} (h : RowIn w none n size xs) : n = 0 ∧ xs = [] := by
  have hn : n = 0 := by
    rcases h.2.2 with h | ⟨b, off, h, _⟩
    · exact h
    · cases h
  exact ⟨hn, List.eq_nil_of_length_eq_zero (by have := h.1; rw [hn] at this; simpa using this)⟩

set_option maxHeartbeats 800000 in
theorem CloneI_any (a : Option Addr) (n cap : Nat) (xs : List Value) (w : World) (h : RowIn w a n 1 xs) (hc : a = none → cap = 0) (h1 : ∀ u ∈ xs, u.oneCell' = true) (hn : n ≤ 100000) :
    Calls Try.prog 54 #[.slice a n cap] w fun e w' => ∃ v, e = .returned v ∧ w'.ownsRow w.heap.size 3 1 v n xs ∧ w.grownBy w' none ∧ (0 < n → ∃ g c, v = .slice (some ⟨g, 0, none⟩) n c) := by
  have hq := Lib.run_eql_slice_nil (P := Try.prog)
  have R := Lib.hid h
  have ONE := Lib.hid h1
  cases a with
  | none =>
    obtain rfl := hc rfl
    obtain ⟨rfl, rfl⟩ := row_nil h
    clear h hc h1 R ONE
    go_enter Try.func54, Try.ntmps54
    go_wp2_with fail
    go_ret
    exact ⟨_, rfl, World.ownsRow_nil _ _ _ _, grown_refl _ _, by omega⟩
  | some ad =>
    have HR : Hid (RowIn (w.alloc (.cells #[] 3)) (some ad) n 1 xs) := Lib.hid (h.kept (grown_alloc _ (grown_refl w none)))
    have O := Lib.hid (World.ownsRow_made (base := w.heap.size) (size := 1) (e := 3) w #[] 0 (Nat.le_refl _) (Nat.zero_le _) (by simp))
    clear h hc h1
    go_enter Try.func54, Try.ntmps54
    go_wp2_with (at_builtin; refine wpList_append_in St_int rfl (.tmp 5) (.tmp 6) rfl rfl O.out rfl HR.out (fun h => by cases h) ONE.out ?c1 ?c2 ?c3 ?_)
    case c1 => unfold maxLen; omega
    case c2 => omega
    case c3 => first | omega | simp
    intro v w1 hown hg hloc
    clear hloc
    have O1 : Hid (w1.ownsRow w.heap.size 3 1 v n xs) := Lib.hid (by simpa using hown)
    have G1 := Lib.hid (grown_new (World.grownBy_alloc w (.cells #[] 3) none) hg (by simp))
    clear hown hg
    go_wp2_with fail
    go_ret
    exact ⟨v, rfl, O1.out, G1.out, fun h0 => by obtain ⟨g, c, e, _⟩ := ownR_of_owns O1.out h0; exact ⟨g, c, e⟩⟩

set_option maxHeartbeats 800000 in
theorem CloneL_any (a : Option Addr) (n cap : Nat) (xs : List Value) (w : World) (h : RowIn w a n 1 xs) (hc : a = none → cap = 0) (h1 : ∀ u ∈ xs, u.oneCell' = true) (hn : n ≤ 100000) :
    Calls Try.prog 55 #[.slice a n cap] w fun e w' => ∃ v, e = .returned v ∧ w'.ownsRow w.heap.size 22 1 v n xs ∧ w.grownBy w' none ∧ (0 < n → ∃ g c, v = .slice (some ⟨g, 0, none⟩) n c) := by
  have hq := Lib.run_eql_slice_nil (P := Try.prog)
  have R := Lib.hid h
  have ONE := Lib.hid h1
  cases a with
  | none =>
    obtain rfl := hc rfl
    obtain ⟨rfl, rfl⟩ := row_nil h
    clear h hc h1 R ONE
    go_enter Try.func55, Try.ntmps55
    go_wp2_with fail
    go_ret
    exact ⟨_, rfl, World.ownsRow_nil _ _ _ _, grown_refl _ _, by omega⟩
  | some ad =>
    have HR : Hid (RowIn (w.alloc (.cells #[] 22)) (some ad) n 1 xs) := Lib.hid (h.kept (grown_alloc _ (grown_refl w none)))
    have O := Lib.hid (World.ownsRow_made (base := w.heap.size) (size := 1) (e := 22) w #[] 0 (Nat.le_refl _) (Nat.zero_le _) (by simp))
    clear h hc h1
    go_enter Try.func55, Try.ntmps55
    go_wp2_with (at_builtin; refine wpList_append_in St_ints rfl (.tmp 5) (.tmp 6) rfl rfl O.out rfl HR.out (fun h => by cases h) ONE.out ?c1 ?c2 ?c3 ?_)
    case c1 => unfold maxLen; omega
    case c2 => omega
    case c3 => first | omega | simp
    intro v w1 hown hg hloc
    clear hloc
    have O1 : Hid (w1.ownsRow w.heap.size 22 1 v n xs) := Lib.hid (by simpa using hown)
    have G1 := Lib.hid (grown_new (World.grownBy_alloc w (.cells #[] 22) none) hg (by simp))
    clear hown hg
    go_wp2_with fail
    go_ret
    exact ⟨v, rfl, O1.out, G1.out, fun h0 => by obtain ⟨g, c, e, _⟩ := ownR_of_owns O1.out h0; exact ⟨g, c, e⟩⟩

theorem isRobot_any (r : Int) (w : World) : Calls Try.prog 50 #[.int .i64 r] w fun e w' => e = .returned (.bool (decide (0 ≤ r ∧ r < 8))) ∧ w' = w := by
  by_cases h1 : 0 ≤ r
  · by_cases h2 : r < 8
    · have E : Hid (decide (0 ≤ r ∧ r < 8) = true) := Lib.hid (decide_eq_true ⟨h1, h2⟩)
      go_enter Try.func50, Try.ntmps50
      go_wp2_with fail
      go_ret
      first | exact ⟨ret_bool E.out.symm, rfl⟩ | exact ⟨rfl, rfl⟩
    · have E : Hid (decide (0 ≤ r ∧ r < 8) = false) := Lib.hid (decide_eq_false (fun h => h2 h.2))
      have t : decide (r < 8) = false := by simpa using h2
      go_enter Try.func50, Try.ntmps50
      go_wp2_with fail
      go_ret
      first | exact ⟨ret_bool E.out.symm, rfl⟩ | exact ⟨rfl, rfl⟩
  · have E : Hid (decide (0 ≤ r ∧ r < 8) = false) := Lib.hid (decide_eq_false (fun h => h1 h.1))
    have t : decide (0 ≤ r) = false := by simpa using h1
    go_enter Try.func50, Try.ntmps50
    go_wp2_with fail
    go_ret
    first | exact ⟨ret_bool E.out.symm, rfl⟩ | exact ⟨rfl, rfl⟩
end Go.Proofs.Ytbpobekmbdngbaa
