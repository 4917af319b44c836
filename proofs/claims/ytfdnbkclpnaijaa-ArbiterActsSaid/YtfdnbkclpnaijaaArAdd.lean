/- The contracts of Add. -/
import Derived.Test.YtfdnbkclpnaijaaStart
import Derived.Test.YtfdnbkclpnaijaaApp
namespace Go.Proofs.Ytfdnbkclpnaijaa
open Go.RowKit
set_option linter.unusedVariables false

theorem St_task : SliceT Try.prog 24 31 (.agg #[.int .i64 0, .int .i64 0, .int .i64 0, .int .i64 0, .int .i64 0]) 5 40 := .mk' Try.underlying24 Try.info_task rfl (by decide)
theorem Clone_any (a : Option Addr) (n cap : Nat) (ts : List Tk) (w : World) (h : RowIn w a n 5 (flat ts)) (hc : a = none → cap = 0) (hn : n ≤ 100000) :
    Calls Try.prog 21 #[.slice a n cap] w fun e w' => ∃ v, e = .returned v ∧ w'.ownsRow w.heap.size 31 5 v n (flat ts) ∧ w.grownBy w' none := by
  cases a with
  | none =>
    obtain rfl := hc rfl
    have hn0 : n = 0 := by
      rcases h.2.2 with h | ⟨b, off, h, _⟩
      · exact h
      · cases h
    subst hn0
    have hf : flat ts = [] := List.eq_nil_of_length_eq_zero (by simpa using h.1)
    rw [hf]
    refine (Clone_nil w).mono ?_
    rintro e w' ⟨rfl, rfl⟩
    exact ⟨_, rfl, World.ownsRow_nil _ _ _ _, grown_refl _ _⟩
  | some ad => exact Clone_some ad n cap ts w h hn

theorem grown_own {w w1 w2 : World} {r : Option Nat} (h : w.grownBy w1 none) (k : w1.grownBy w2 r) (hr : ∀ g, r = some g → w.heap.size ≤ g) : w.grownBy w2 none :=
  ⟨k.os.trans h.os, k.tape.trans h.tape, k.output.trans h.output, Nat.le_trans h.size k.size,
    fun i hi hne => (k.block i (Nat.lt_of_lt_of_le hi h.size) (by intro e; have := hr i e.symm; omega)).trans (h.block i hi hne)⟩
theorem own_base {w : World} {base base' e size n : Nat} {v : Value} {xs : List Value} (h : w.ownsRow base e size v n xs) (hb : base' ≤ base) : w.ownsRow base' e size v n xs :=
  ⟨h.1, h.2.imp id fun ⟨g, cap, cur, h1, h2, h3⟩ => ⟨g, cap, cur, h1, Nat.le_trans hb h2, h3⟩⟩
/-- The error of Add. -/
def addE (ts : List Tk) (limit : Int) : Int := if validB ts = false then 20 else if limit < 1 ∨ limit > 8 then 19 else if (countB ts : Int) ≥ limit ∨ ts.length = 32 then 23 else 0
/-- What Add returns. -/
def AddP (ts : List Tk) (limit pick drop : Int) (w : World) (e : Ending) (w' : World) : Prop :=
  w.grownBy w' none ∧ if addE ts limit = 0 then ∃ v, e = .returned (.tuple #[v, .int .i64 (ts.length : Nat), .int .i64 0]) ∧ w'.ownsRow w.heap.size 31 5 v (ts.length + 1) (flat (ts ++ [⟨pick, drop, 0, -1, 0⟩]))
    else e = .returned (.tuple #[.slice none 0 0, .int .i64 0, .int .i64 (addE ts limit)])
set_option maxHeartbeats 1600000 in
theorem AddP_any (a : Option Addr) (n cap : Nat) (ts : List Tk) (limit pick drop : Int) (w : World) (h : RowIn w a n 5 (flat ts)) (hn : ts.length = n) (hc : a = none → cap = 0) :
    Calls Try.prog 11 #[.slice a n cap, .int .i64 limit, .int .i64 pick, .int .i64 drop] w (AddP ts limit pick drop w) := by
  have K0 : Hid (RowIn w a n 5 (flat ts) ∧ w.grownBy w none) := Lib.hid ⟨h, grown_refl _ _⟩
  have L := Lib.hid hn
  have HC := Lib.hid hc
  clear h hc
  go_enter Try.func11, Try.ntmps11
  go_wp2_with fail
  refine (validP a n cap ts _ K0.out.1 L.out).mono ?_
  rintro e w1 ⟨rfl, hg⟩
  have K1 := keep hg K0
  clear hg K0
  cases hv : validB ts
  · have E : Hid (addE ts limit = 20) := Lib.hid (by simp [addE, hv])
    have GR := Lib.hid K1.out.2
    go_wp2_with fail
    exact bodyPost_ret (v := .tuple #[.slice none 0 0, .int .i64 0, .int .i64 20]) (by simp [results, Try.results11, go_sem]) rfl ⟨GR.out, by rw [E.out]; rfl⟩
  by_cases h1 : limit < 1
  · have E : Hid (addE ts limit = 19) := Lib.hid (by simp [addE, hv, h1])
    have GR := Lib.hid K1.out.2
    go_wp2_with fail
    exact bodyPost_ret (v := .tuple #[.slice none 0 0, .int .i64 0, .int .i64 19]) (by simp [results, Try.results11, go_sem]) rfl ⟨GR.out, by rw [E.out]; rfl⟩
  by_cases h2 : limit > 8
  · have E : Hid (addE ts limit = 19) := Lib.hid (by simp [addE, hv, h2])
    have GR := Lib.hid K1.out.2
    go_wp2_with fail
    exact bodyPost_ret (v := .tuple #[.slice none 0 0, .int .i64 0, .int .i64 19]) (by simp [results, Try.results11, go_sem]) rfl ⟨GR.out, by rw [E.out]; rfl⟩
  have t1 : decide (limit < 1) = false := by simpa using h1
  have t2 : decide (8 < limit) = false := by simpa using h2
  have HV := Lib.hid hv
  have h32 : n ≤ 32 := by
    have := hv
    simp only [validB, Bool.and_eq_true, decide_eq_true_eq] at this
    omega
  clear hv
  go_wp2_with fail
  refine (countP a n cap ts _ K1.out.1 L.out).mono ?_
  rintro e w2 ⟨rfl, hg⟩
  have K2 := keep hg K1
  clear hg K1
  by_cases h3 : (countB ts : Int) ≥ limit
  · have E : Hid (addE ts limit = 23) := Lib.hid (by unfold addE; rw [if_neg (by simp [HV.out]), if_neg (by omega), if_pos (.inl h3)])
    have GR := Lib.hid K2.out.2
    go_wp2_with fail
    exact bodyPost_ret (v := .tuple #[.slice none 0 0, .int .i64 0, .int .i64 23]) (by simp [results, Try.results11, go_sem]) rfl ⟨GR.out, by rw [E.out]; rfl⟩
  by_cases h4 : n = 32
  · have E : Hid (addE ts limit = 23) := Lib.hid (by unfold addE; rw [if_neg (by simp [HV.out]), if_neg (by omega), if_pos (.inr (by omega))])
    have GR := Lib.hid K2.out.2
    go_wp2_with fail
    exact bodyPost_ret (v := .tuple #[.slice none 0 0, .int .i64 0, .int .i64 23]) (by simp [results, Try.results11, go_sem]) rfl ⟨GR.out, by rw [E.out]; rfl⟩
  have E : Hid (addE ts limit = 0) := Lib.hid (by unfold addE; rw [if_neg (by simp [HV.out]), if_neg (by omega), if_neg (by omega)])
  have t3 : decide (limit ≤ (countB ts : Int)) = false := by simp; omega
  have t4 : ((n : Int) == 32) = false := by simp; omega
  go_wp2_with fail
  refine (Clone_any a n cap ts _ K2.out.1 HC.out (by omega)).mono ?_
  rintro e w3 ⟨v, rfl, hown, hg⟩
  have O3 := Lib.hid hown
  have K3 := keep hg K2
  have z3 := hg.size
  have z2 := K2.out.2.size
  clear hown hg K2
  go_wp2_with (at_builtin; refine wpList_append_in St_task rfl (.tmp 33) (.tmp 37) rfl rfl (O3.out.alloc (.cells #[.int .i64 pick, .int .i64 drop, .int .i64 0, .int .i64 (-1), .int .i64 0] 31)) rfl (news := flat [⟨pick, drop, 0, -1, 0⟩]) (rowIn_block (n := 1) (size := 5) (at_new _ _) rfl (by unfold maxLen; omega)) (fun h => by cases h) tasks_one ?c1 ?c2 ?c3 ?_)
  case c1 => unfold maxLen; omega
  case c2 => omega
  case c3 => first | omega | (simp; omega)
  intro v' w4 hown4 hg4 hloc
  clear hloc
  have G4 := Lib.hid (grown_own (grown_alloc (.cells #[.int .i64 pick, .int .i64 drop, .int .i64 0, .int .i64 (-1), .int .i64 0] 31) K3.out.2) hg4 (fun m hm => by have := (O3.out.lt m hm).1; omega))
  have O4 : Hid (w4.ownsRow w.heap.size 31 5 v' (ts.length + 1) (flat (ts ++ [⟨pick, drop, 0, -1, 0⟩]))) := Lib.hid (by
    rw [L.out]
    have : flat (ts ++ [⟨pick, drop, 0, -1, 0⟩]) = flat ts ++ flat [⟨pick, drop, 0, -1, 0⟩] := by simp [flat]
    rw [this]
    exact own_base hown4 z2)
  clear hown4 hg4 O3 K3
  go_wp2_with fail
  exact bodyPost_ret (v := .tuple #[v', .int .i64 n, .int .i64 0]) (by simp [results, Try.results11, go_sem]) rfl ⟨G4.out, by rw [if_pos E.out]; exact ⟨v', by rw [L.out], O4.out⟩⟩
end Go.Proofs.Ytfdnbkclpnaijaa
