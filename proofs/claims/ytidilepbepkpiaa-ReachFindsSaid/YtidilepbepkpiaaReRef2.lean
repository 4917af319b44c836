/- The contracts of the reference's From and Mutual; Mutual and Without on what they do not take. -/
import Derived.Test.YtidilepbepkpiaaReRef
import Derived.Test.YtidilepbepkpiaaReWo
namespace Go.Proofs.Ytidilepbepkpiaa
open Go.RowKit
set_option linter.unusedVariables false

def RFromP (g : Gr) (s : List Bool) (n v : Nat) (w : World) (e : Ending) (w' : World) : Prop :=
  ∃ A c L, e = .returned (.tuple #[.slice A n c, .int .i64 0]) ∧ n ≤ c ∧ c ≤ maxLen ∧ (A = none → c = 0) ∧ L.length = n ∧ (∀ x : Nat, L[x]? = some true ↔ Reach g s v x) ∧ RowIn w' A n 1 (bools L) ∧ w.grownBy w' none
theorem rFrom_ok (a : Option Addr) (n cap : Nat) (g : Gr) (a1 : Option Addr) (c1 : Nat) (s : List Bool) (v : Nat) (w : World) (h : ListsR none w a n g) (hs : RowIn w a1 n 1 (bools s)) (hv : validB g = true) (hvn : v < n) :
    Calls Try.prog 17 #[.slice a n cap, .slice a1 n c1, .int .i64 v] w (RFromP g s n v w) := by
  have L := Lib.hid h.len.1
  have H := Lib.hid h
  have S0 := Lib.hid hs
  have V := Lib.hid hv
  have C0 : Hid (chkM g n = 0) := Lib.hid (by simp [chkM, hv, L.out])
  have hvn' : (v : Int) < n := by omega
  clear h hs hv
  go_enter Try.func17, Try.ntmps17
  go_wp2_with fail
  refine (rCheck_any a n cap g _ _ _ _ H.out).mono ?_
  rw [C0.out]
  rintro e w1 ⟨rfl, rfl⟩
  go_wp2_with fail
  refine (rReach_any a n cap g a1 c1 s v _ H.out S0.out V.out hvn).mono ?_
  rintro e w2 ⟨A, c, X, rfl, f1, f2, f3, lx, hx, rx, hg⟩
  have LX := Lib.hid lx
  have HX := Lib.hid hx
  have RX := Lib.hid rx
  have G := Lib.hid hg
  clear lx hx rx hg
  go_wp2_with fail
  exact bodyPost_ret (v := .tuple #[.slice A n c, .int .i64 0]) (by simp [results, Try.results17, go_sem]) rfl ⟨A, c, X, rfl, f1, f2, f3, LX.out, HX.out, RX.out, G.out⟩
theorem chk_of {g : Gr} {m : Nat} {v : Int} (h : chkM g m ≠ 0) : chk g m v = chkM g m := by
  unfold chk chkM at *
  split
  · rfl
  · rename_i hv
    rw [if_neg hv] at h
    split at h
    · rename_i hm
      rw [if_pos (.inl hm), if_pos hm]
    · exact absurd rfl h
theorem rFrom_bad (a : Option Addr) (n cap : Nat) (g : Gr) (a1 : Option Addr) (m c1 : Nat) (v : Int) (w : World) (h : ListsR none w a n g) (hc : chk g m v ≠ 0) :
    Calls Try.prog 17 #[.slice a n cap, .slice a1 m c1, .int .i64 v] w (fun e w' => e = .returned (.tuple #[.slice none 0 0, .int .i64 (chk g m v)]) ∧ w' = w) := by
  have H := Lib.hid h
  have L := Lib.hid h.len.1
  by_cases hm : chkM g m = 0
  · have HM := Lib.hid hm
    have hr : (v < 0 ∨ (n : Int) ≤ v) ∧ chk g m v = 19 := by
      have hl := L.out
      unfold chk chkM at *
      by_cases hv : validB g = false
      · rw [if_pos hv] at hm; cases hm
      · rw [if_neg hv] at hc ⊢
        rw [if_neg hv] at hm
        by_cases h1 : (m : Int) ≠ g.length ∨ v < 0 ∨ v ≥ g.length
        · rw [if_pos h1]
          refine ⟨?_, rfl⟩
          by_cases h2 : (m : Int) ≠ g.length
          · rw [if_pos h2] at hm; cases hm
          · rcases h1 with h1 | h1 | h1
            · exact absurd h1 h2
            · exact .inl h1
            · rw [hl] at h1; exact .inr h1
        · rw [if_neg h1] at hc; exact absurd rfl hc
    obtain ⟨hr, hc19⟩ := hr
    rw [hc19]
    clear h hc hm hc19
    go_enter Try.func17, Try.ntmps17
    go_wp2_with fail
    refine (rCheck_any a n cap g _ _ _ _ H.out).mono ?_
    rw [HM.out]
    rintro e w1 ⟨rfl, rfl⟩
    by_cases h0 : v < 0
    · clear hr
      go_wp2_with fail
      exact bodyPost_ret (v := .tuple #[.slice none 0 0, .int .i64 19]) (by simp [results, Try.results17, go_sem]) rfl ⟨rfl, rfl⟩
    · have h1 : (n : Int) ≤ v := hr.resolve_left h0
      clear hr
      go_wp2_with fail
      exact bodyPost_ret (v := .tuple #[.slice none 0 0, .int .i64 19]) (by simp [results, Try.results17, go_sem]) rfl ⟨rfl, rfl⟩
  · have E := chk_of (v := v) hm
    rw [E]
    obtain ⟨x, hx⟩ : ∃ x, x = chkM g m := ⟨_, rfl⟩
    rw [← hx] at hm ⊢
    have HX := Lib.hid hx
    clear h hc E hx
    go_enter Try.func17, Try.ntmps17
    go_wp2_with fail
    refine (rCheck_any a n cap g _ _ _ _ H.out).mono ?_
    rw [← HX.out]
    rintro e w1 ⟨rfl, rfl⟩
    go_wp2_with fail
    exact bodyPost_ret (v := .tuple #[.slice none 0 0, .int .i64 x]) (by simp [results, Try.results17, go_sem]) rfl ⟨rfl, rfl⟩

/-! ### On what is not taken -/
theorem rMutual_bad (a : Option Addr) (n cap : Nat) (g : Gr) (a1 : Option Addr) (m c1 : Nat) (w : World) (h : ListsR none w a n g) (hc : chkM g m ≠ 0) :
    Calls Try.prog 21 #[.slice a n cap, .slice a1 m c1] w (fun e w' => e = .returned (.tuple #[.bool false, .int .i64 (chkM g m)]) ∧ w' = w) := by
  have H := Lib.hid h
  obtain ⟨x, hx⟩ : ∃ x, x = chkM g m := ⟨_, rfl⟩
  rw [← hx] at hc ⊢
  have HX := Lib.hid hx
  clear h hx
  go_enter Try.func21, Try.ntmps21
  go_wp2_with fail
  refine (rCheck_any a n cap g _ _ _ _ H.out).mono ?_
  rw [← HX.out]
  rintro e w1 ⟨rfl, rfl⟩
  go_wp2_with fail
  exact bodyPost_ret (v := .tuple #[.bool false, .int .i64 x]) (by simp [results, Try.results21, go_sem]) rfl ⟨rfl, rfl⟩
theorem rWithout_bad (a : Option Addr) (n cap : Nat) (g : Gr) (a1 : Option Addr) (m c1 : Nat) (w : World) (h : ListsR none w a n g) (hc : chkM g m ≠ 0) :
    Calls Try.prog 23 #[.slice a n cap, .slice a1 m c1] w (fun e w' => e = .returned (.tuple #[.slice none 0 0, .int .i64 (chkM g m)]) ∧ w' = w) := by
  have H := Lib.hid h
  obtain ⟨x, hx⟩ : ∃ x, x = chkM g m := ⟨_, rfl⟩
  rw [← hx] at hc ⊢
  have HX := Lib.hid hx
  clear h hx
  go_enter Try.func23, Try.ntmps23
  go_wp2_with fail
  refine (rCheck_any a n cap g _ _ _ _ H.out).mono ?_
  rw [← HX.out]
  rintro e w1 ⟨rfl, rfl⟩
  go_wp2_with fail
  exact bodyPost_ret (v := .tuple #[.slice none 0 0, .int .i64 x]) (by simp [results, Try.results23, go_sem]) rfl ⟨rfl, rfl⟩
theorem Mutual_bad (a : Option Addr) (n cap : Nat) (g : Gr) (a1 : Option Addr) (m c1 : Nat) (w : World) (h : ListsR none w a n g) (hc : chkM g m ≠ 0) :
    Calls Try.prog 14 #[.slice a n cap, .slice a1 m c1] w (fun e w' => e = .returned (.tuple #[.bool false, .int .i64 (chkM g m)]) ∧ w.grownBy w' none) := by
  have H := Lib.hid h
  have L := Lib.hid h.len.1
  cases hv : validB g
  · have E : chkM g m = 20 := by simp [chkM, hv]
    rw [E]
    have V := Lib.hid hv
    clear h hc E hv
    go_enter Try.func14, Try.ntmps14
    go_wp2_with fail
    refine (Reverse_no a n cap g _ H.out V.out).mono ?_
    rintro e w1 ⟨ra, rn, rc, rfl, _, _, _, _, hg⟩
    have G := Lib.hid hg
    clear hg
    go_wp2_with fail
    exact bodyPost_ret (v := .tuple #[.bool false, .int .i64 20]) (by simp [results, Try.results14, go_sem]) rfl ⟨rfl, G.out⟩
  · have hm : ¬ (m : Int) = n := by
      intro e
      apply hc
      simp [chkM, hv]
      rw [L.out]; omega
    have E : chkM g m = 19 := by simp [chkM, hv]; rw [L.out]; omega
    rw [E]
    have V := Lib.hid hv
    clear h hc E hv
    go_enter Try.func14, Try.ntmps14
    go_wp2_with fail
    refine (Reverse_ok a n cap g _ H.out V.out).mono ?_
    rintro e w1 ⟨ra, rn, rc, rfl, _, _, _, _, hg⟩
    have G := Lib.hid hg
    clear hg
    go_wp2_with fail
    exact bodyPost_ret (v := .tuple #[.bool false, .int .i64 19]) (by simp [results, Try.results14, go_sem]) rfl ⟨rfl, G.out⟩
theorem Without_bad (a : Option Addr) (n cap : Nat) (g : Gr) (a1 : Option Addr) (m c1 : Nat) (w : World) (h : ListsR none w a n g) (hc : chkM g m ≠ 0) :
    Calls Try.prog 22 #[.slice a n cap, .slice a1 m c1] w (fun e w' => e = .returned (.tuple #[.slice none 0 0, .int .i64 (chkM g m)]) ∧ w' = w) := by
  have H := Lib.hid h
  have L := Lib.hid h.len.1
  cases hv : validB g
  · have E : chkM g m = 20 := by simp [chkM, hv]
    rw [E]
    have V := Lib.hid hv
    clear h hc E hv
    go_enter Try.func22, Try.ntmps22
    go_wp2_with fail
    refine (Valid_any a n cap g _ H.out).mono ?_
    rw [V.out]
    rintro e w1 ⟨rfl, rfl⟩
    go_wp2_with fail
    exact bodyPost_ret (v := .tuple #[.slice none 0 0, .int .i64 20]) (by simp [results, Try.results22, go_sem]) rfl ⟨rfl, rfl⟩
  · have hm : ¬ (m : Int) = n := by
      intro e
      apply hc
      simp [chkM, hv]
      rw [L.out]; omega
    have E : chkM g m = 19 := by simp [chkM, hv]; rw [L.out]; omega
    rw [E]
    have V := Lib.hid hv
    clear h hc E hv
    go_enter Try.func22, Try.ntmps22
    go_wp2_with fail
    refine (Valid_any a n cap g _ H.out).mono ?_
    rw [V.out]
    rintro e w1 ⟨rfl, rfl⟩
    go_wp2_with fail
    exact bodyPost_ret (v := .tuple #[.slice none 0 0, .int .i64 19]) (by simp [results, Try.results22, go_sem]) rfl ⟨rfl, rfl⟩
end Go.Proofs.Ytidilepbepkpiaa
