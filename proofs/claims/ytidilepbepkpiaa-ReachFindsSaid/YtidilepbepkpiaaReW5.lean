/- The walk of ReachFinds. -/
import Derived.Test.YtidilepbepkpiaaReKn
import Derived.Test.YtidilepbepkpiaaReRef3
import Derived.Test.YtidilepbepkpiaaReRWo
namespace Go.Proofs.Ytidilepbepkpiaa
open Go.RowKit
set_option linter.unusedVariables false

theorem marks_same {x y : List Bool} {n : Nat} {A : Nat → Prop} (hx : x.length = n) (hy : y.length = n) (h1 : ∀ i : Nat, x[i]? = some true ↔ A i) (h2 : ∀ i : Nat, y[i]? = some true ↔ A i) : x = y := by
  apply List.ext_getElem?
  intro i
  by_cases hi : i < n
  · have e1 : x[i]? = some x[i] := List.getElem?_eq_getElem (by omega)
    have e2 : y[i]? = some y[i] := List.getElem?_eq_getElem (by omega)
    have a1 := h1 i
    have a2 := h2 i
    rw [e1] at a1 ⊢; rw [e2] at a2 ⊢
    cases hp : x[i] <;> cases hq : y[i] <;> simp_all
  · rw [List.getElem?_eq_none (by omega), List.getElem?_eq_none (by omega)]

/-- Two functions that return lists of lists agree: the same lists, the same error. -/
def Lsts (W : World) (v : Value) (g : Gr) : Prop := ∃ A n c, v = .slice A n c ∧ ListsR none W A n g
def Bls (W : World) (v : Value) (l : List Bool) : Prop := ∃ A n c, v = .slice A n c ∧ RowIn W A n 1 (bools l)
instance {W W' : World} {v : Value} {g : Gr} : Stay none W W' (Lsts W v g) (Lsts W' v g) := ⟨fun hg ⟨A, n, c, h, k⟩ => ⟨A, n, c, h, (keep hg (Lib.hid k)).out⟩⟩
instance {W W' : World} {v : Value} {l : List Bool} : Stay none W W' (Bls W v l) (Bls W' v l) := ⟨fun hg ⟨A, n, c, h, k⟩ => ⟨A, n, c, h, k.kept hg⟩⟩
theorem Same_lists {W : World} {u v : Value} {g : Gr} (hu : Lsts W u g) (hv : Lsts W v g) : Calls Try.prog 12 #[u, v] W fun e w' => e = .returned (.bool true) ∧ W.grownBy w' none := by
  obtain ⟨A, n, c, rfl, h⟩ := hu
  obtain ⟨B, m, d, rfl, k⟩ := hv
  have := SameLists_any A B n m c d g g W h k
  rwa [decide_eq_true rfl] at this
theorem Same_bools {W : World} {u v : Value} {l : List Bool} (hu : Bls W u l) (hv : Bls W v l) : Calls Try.prog 20 #[u, v] W fun e w' => e = .returned (.bool true) ∧ W.grownBy w' none := by
  obtain ⟨A, n, c, rfl, h⟩ := hu
  obtain ⟨B, m, d, rfl, k⟩ := hv
  have := SameBools_any A B n m c d l l W h k
  rwa [decide_eq_true rfl] at this

/-! ### One error and one value, whatever came in -/
def errR (g : Gr) : Int := if validB g = false then 20 else 0
def valR (g : Gr) : Gr := if validB g = false then [] else rev g
def PairL (x : Gr) (err : Int) (w : World) (e : Ending) (w' : World) : Prop := ∃ v, e = .returned (.tuple #[v, .int .i64 err]) ∧ Lsts w' v x ∧ w.grownBy w' none
def PairB (l : List Bool) (err : Int) (w : World) (e : Ending) (w' : World) : Prop := ∃ v, e = .returned (.tuple #[v, .int .i64 err]) ∧ Bls w' v l ∧ w.grownBy w' none
theorem gives_pair {w w' : World} {g : Gr} {err : Int} {e : Ending} (h : GivesL w g err e w') : PairL g err w e w' := by
  obtain ⟨a, n, c, rfl, _, _, _, hR, hg⟩ := h
  exact ⟨_, rfl, ⟨a, n, c, rfl, hR none (by simp)⟩, hg⟩
theorem Rev_all (a : Option Addr) (n cap : Nat) (g : Gr) (w : World) (h : ListsR none w a n g) : Calls Try.prog 11 #[.slice a n cap] w (PairL (valR g) (errR g) w) := by
  unfold valR errR
  cases hv : validB g
  · exact (Reverse_no a n cap g w h hv).mono fun e w' => gives_pair
  · exact (Reverse_ok a n cap g w h hv).mono fun e w' => gives_pair
theorem rRev_all (a : Option Addr) (n cap : Nat) (g : Gr) (w : World) (h : ListsR none w a n g) : Calls Try.prog 16 #[.slice a n cap] w (PairL (valR g) (errR g) w) := by
  unfold valR errR
  cases hv : validB g
  · exact (rReverse_no a n cap g w h hv).mono fun e w' => gives_pair
  · exact (rReverse_ok a n cap g w h hv).mono fun e w' => gives_pair
def valW (g : Gr) (s : List Bool) (m : Nat) : Gr := if chkM g m = 0 then without g s else []
theorem chkM_zero {g : Gr} {m : Nat} (h : chkM g m = 0) : validB g = true ∧ m = g.length := by
  unfold chkM at h
  split at h
  · cases h
  · split at h
    · cases h
    · rename_i h1 h2
      exact ⟨by simpa using h1, by omega⟩
theorem Wth_all (a : Option Addr) (n cap : Nat) (g : Gr) (a1 : Option Addr) (m c1 : Nat) (s : List Bool) (w : World) (h : ListsR none w a n g) (hs : RowIn w a1 m 1 (bools s)) : Calls Try.prog 22 #[.slice a n cap, .slice a1 m c1] w (PairL (valW g s m) (chkM g m) w) := by
  unfold valW
  by_cases hc : chkM g m = 0
  · obtain ⟨hv, hm⟩ := chkM_zero hc
    obtain rfl : m = n := by have := h.len.1; omega
    rw [if_pos hc, hc]
    exact (Without_ok a m cap g a1 c1 s w h hs hv).mono fun e w' => gives_pair
  · rw [if_neg hc]
    refine (Without_bad a n cap g a1 m c1 w h hc).mono ?_
    rintro e w' ⟨rfl, rfl⟩
    exact ⟨_, rfl, ⟨none, 0, 0, rfl, listsR_nil none _⟩, grown_refl _ _⟩
theorem rWth_all (a : Option Addr) (n cap : Nat) (g : Gr) (a1 : Option Addr) (m c1 : Nat) (s : List Bool) (w : World) (h : ListsR none w a n g) (hs : RowIn w a1 m 1 (bools s)) : Calls Try.prog 23 #[.slice a n cap, .slice a1 m c1] w (PairL (valW g s m) (chkM g m) w) := by
  unfold valW
  by_cases hc : chkM g m = 0
  · obtain ⟨hv, hm⟩ := chkM_zero hc
    obtain rfl : m = n := by have := h.len.1; omega
    rw [if_pos hc, hc]
    exact (rWithout_ok a m cap g a1 c1 s w h hs hv).mono fun e w' => gives_pair
  · rw [if_neg hc]
    refine (rWithout_bad a n cap g a1 m c1 w h hc).mono ?_
    rintro e w' ⟨rfl, rfl⟩
    exact ⟨_, rfl, ⟨none, 0, 0, rfl, listsR_nil none _⟩, grown_refl _ _⟩
open Classical in
noncomputable def mutV (g : Gr) (s : List Bool) (m : Nat) : Bool := if chkM g m = 0 then decide (Mut g s) else false
def PairM (b : Bool) (err : Int) (w : World) (e : Ending) (w' : World) : Prop := e = .returned (.tuple #[.bool b, .int .i64 err]) ∧ w.grownBy w' none
open Classical in
theorem Mut_all (a : Option Addr) (n cap : Nat) (g : Gr) (a1 : Option Addr) (m c1 : Nat) (s : List Bool) (w : World) (h : ListsR none w a n g) (hs : RowIn w a1 m 1 (bools s)) : Calls Try.prog 14 #[.slice a n cap, .slice a1 m c1] w (PairM (mutV g s m) (chkM g m) w) := by
  unfold mutV
  by_cases hc : chkM g m = 0
  · obtain ⟨hv, hm⟩ := chkM_zero hc
    obtain rfl : m = n := by have := h.len.1; omega
    rw [if_pos hc, hc]
    refine (Mutual_ok a m cap g a1 c1 s w h hs hv).mono ?_
    rintro e w' ⟨b, rfl, hb, hg⟩
    refine ⟨?_, hg⟩
    congr 5
    cases b
    · exact (decide_eq_false (fun k => by have := hb.2 k; cases this)).symm
    · exact (decide_eq_true (hb.1 rfl)).symm
  · rw [if_neg hc]
    exact Mutual_bad a n cap g a1 m c1 w h hc
open Classical in
theorem rMut_all (a : Option Addr) (n cap : Nat) (g : Gr) (a1 : Option Addr) (m c1 : Nat) (s : List Bool) (w : World) (h : ListsR none w a n g) (hs : RowIn w a1 m 1 (bools s)) : Calls Try.prog 21 #[.slice a n cap, .slice a1 m c1] w (PairM (mutV g s m) (chkM g m) w) := by
  unfold mutV
  by_cases hc : chkM g m = 0
  · obtain ⟨hv, hm⟩ := chkM_zero hc
    obtain rfl : m = n := by have := h.len.1; omega
    rw [if_pos hc, hc]
    refine (rMutual_ok a m cap g a1 c1 s w h hs hv).mono ?_
    rintro e w' ⟨b, rfl, hb, hg⟩
    refine ⟨?_, hg⟩
    congr 5
    cases b
    · exact (decide_eq_false (fun k => by have := hb.2 k; cases this)).symm
    · exact (decide_eq_true (hb.1 rfl)).symm
  · rw [if_neg hc]
    refine (rMutual_bad a n cap g a1 m c1 w h hc).mono ?_
    rintro e w' ⟨rfl, rfl⟩
    exact ⟨rfl, grown_refl _ _⟩
open Classical in
noncomputable def valF (g : Gr) (s : List Bool) (m : Nat) (v : Int) : List Bool := if chk g m v = 0 then (List.range g.length).map (fun x => decide (Reach g s v.toNat x)) else []
theorem chk_zero {g : Gr} {m : Nat} {v : Int} (h : chk g m v = 0) : validB g = true ∧ m = g.length ∧ 0 ≤ v ∧ v < g.length := by
  unfold chk at h
  split at h
  · cases h
  · split at h
    · cases h
    · rename_i h1 h2
      exact ⟨by simpa using h1, by omega, by omega, by omega⟩
open Classical in
theorem valF_eq {g : Gr} {s L : List Bool} {n : Nat} {v : Nat} (hl : L.length = n) (hg : g.length = n) (h : ∀ x : Nat, L[x]? = some true ↔ Reach g s v x) : L = (List.range g.length).map (fun x => decide (Reach g s ((v : Int).toNat) x)) := by
  refine marks_same (A := Reach g s v) hl (by simp [hg]) h (fun i => ?_)
  have hv : (v : Int).toNat = v := by omega
  rw [hv]
  by_cases hi : i < n
  · simp [hg, hi]
  · rw [List.getElem?_eq_none (by simp; omega)]
    refine ⟨fun h => (by cases h), fun hr => ?_⟩
    have := (h i).2 hr
    have := (List.getElem?_eq_some_iff.1 this).1
    omega
theorem From_all (a : Option Addr) (n cap : Nat) (g : Gr) (a1 : Option Addr) (m c1 : Nat) (s : List Bool) (v : Int) (w : World) (h : ListsR none w a n g) (hs : RowIn w a1 m 1 (bools s)) : Calls Try.prog 13 #[.slice a n cap, .slice a1 m c1, .int .i64 v] w (PairB (valF g s m v) (chk g m v) w) := by
  unfold valF
  by_cases hc : chk g m v = 0
  · obtain ⟨hv, hm, h0, h1⟩ := chk_zero hc
    have hl := h.len.1
    obtain rfl : m = n := by omega
    obtain ⟨k, rfl⟩ : ∃ k : Nat, v = k := ⟨v.toNat, by omega⟩
    rw [if_pos hc, hc]
    refine (From_ok a m cap g a1 c1 s k w h hs hv (by omega)).mono ?_
    rintro e w' ⟨A, c, X, rfl, _, _, _, lx, hx, rx, hg⟩
    rw [← valF_eq lx hl hx]
    exact ⟨_, rfl, ⟨A, m, c, rfl, (rx none (by simp)).1⟩, hg⟩
  · rw [if_neg hc]
    refine (From_bad a n cap g a1 m c1 v w h hc).mono ?_
    rintro e w' ⟨rfl, rfl⟩
    exact ⟨_, rfl, ⟨none, 0, 0, rfl, ⟨rfl, Nat.zero_le _, .inl rfl⟩⟩, grown_refl _ _⟩
theorem rFrom_all (a : Option Addr) (n cap : Nat) (g : Gr) (a1 : Option Addr) (m c1 : Nat) (s : List Bool) (v : Int) (w : World) (h : ListsR none w a n g) (hs : RowIn w a1 m 1 (bools s)) : Calls Try.prog 17 #[.slice a n cap, .slice a1 m c1, .int .i64 v] w (PairB (valF g s m v) (chk g m v) w) := by
  unfold valF
  by_cases hc : chk g m v = 0
  · obtain ⟨hv, hm, h0, h1⟩ := chk_zero hc
    have hl := h.len.1
    obtain rfl : m = n := by omega
    obtain ⟨k, rfl⟩ : ∃ k : Nat, v = k := ⟨v.toNat, by omega⟩
    rw [if_pos hc, hc]
    refine (rFrom_ok a m cap g a1 c1 s k w h hs hv (by omega)).mono ?_
    rintro e w' ⟨A, c, X, rfl, _, _, _, lx, hx, rx, hg⟩
    rw [← valF_eq lx hl hx]
    exact ⟨_, rfl, ⟨A, m, c, rfl, rx⟩, hg⟩
  · rw [if_neg hc]
    refine (rFrom_bad a n cap g a1 m c1 v w h hc).mono ?_
    rintro e w' ⟨rfl, rfl⟩
    exact ⟨_, rfl, ⟨none, 0, 0, rfl, ⟨rfl, Nat.zero_le _, .inl rfl⟩⟩, grown_refl _ _⟩
end Go.Proofs.Ytidilepbepkpiaa
