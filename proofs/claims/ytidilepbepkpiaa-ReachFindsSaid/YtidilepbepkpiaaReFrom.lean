/- The contract of From. -/
import Derived.Test.YtidilepbepkpiaaReFound
namespace Go.Proofs.Ytidilepbepkpiaa
open Go.RowKit
set_option linter.unusedVariables false

/-- What check returns. -/
def chk (g : Gr) (m : Nat) (v : Int) : Int := if validB g = false then 20 else if (m : Int) ≠ g.length ∨ v < 0 ∨ v ≥ g.length then 19 else 0
theorem check_any (a : Option Addr) (n cap : Nat) (g : Gr) (a1 : Option Addr) (m c1 : Nat) (v : Int) (w : World) (h : ListsR none w a n g) :
    Calls Try.prog 27 #[.slice a n cap, .slice a1 m c1, .int .i64 v] w (fun e w' => e = .returned (.int .i64 (chk g m v)) ∧ w' = w) := by
  have L := Lib.hid h.len.1
  have H := Lib.hid h
  clear h
  go_enter Try.func27, Try.ntmps27
  go_wp2_with fail
  refine (Valid_any a n cap g _ H.out).mono ?_
  rintro e w1 ⟨rfl, rfl⟩
  cases hv : validB g
  · go_wp2_with fail
    exact bodyPost_ret (v := .int .i64 20) (by simp [results, Try.results27, go_sem]) rfl ⟨by simp [chk, hv], rfl⟩
  · by_cases h1 : (m : Int) = n
    · by_cases h2 : v < 0
      · go_wp2_with fail
        exact bodyPost_ret (v := .int .i64 19) (by simp [results, Try.results27, go_sem]) rfl ⟨by simp [chk, hv, L.out, h2], rfl⟩
      · by_cases h3 : v ≥ n
        · go_wp2_with fail
          exact bodyPost_ret (v := .int .i64 19) (by simp [results, Try.results27, go_sem]) rfl ⟨by simp [chk, hv, L.out]; omega, rfl⟩
        · go_wp2_with fail
          exact bodyPost_ret (v := .int .i64 0) (by simp [results, Try.results27, go_sem]) rfl ⟨by simp [chk, hv, L.out]; omega, rfl⟩
    · go_wp2_with fail
      exact bodyPost_ret (v := .int .i64 19) (by simp [results, Try.results27, go_sem]) rfl ⟨by simp [chk, hv, L.out]; omega, rfl⟩

/-- What From returns beside the error. -/
def FromP (g : Gr) (s : List Bool) (n v : Nat) (w : World) (e : Ending) (w' : World) : Prop :=
  ∃ A c L, e = .returned (.tuple #[.slice A n c, .int .i64 0]) ∧ n ≤ c ∧ c ≤ maxLen ∧ (A = none → c = 0) ∧ L.length = n ∧ (∀ x : Nat, L[x]? = some true ↔ Reach g s v x) ∧ (∀ R : Option Nat, (∀ b, R = some b → b < w.heap.size) → RowR R w' A n 1 (bools L)) ∧ w.grownBy w' none
theorem bools_take (m : List Bool) (n : Nat) : bools (m.take n) = (bools m).take n := by simp [bools]
theorem own_rowR {w : World} {base e size n : Nat} {A : Option Addr} {c : Nat} {xs : List Value} {R : Option Nat} (h : w.ownsRow base e size (.slice A n c) n xs) (hR : ∀ b, R = some b → b < base) : RowR R w A n size xs := by
  obtain ⟨A', c', he, f1, f2, f3, f4⟩ := sliceIn_owns h
  obtain ⟨rfl, rfl⟩ : A = A' ∧ c = c' := by simpa using he
  refine ⟨f4, ?_⟩
  rintro x hx
  subst hx
  cases R with
  | none => simp
  | some b =>
    have hb := hR b rfl
    have := h.lt x.block (by
      rcases h.2 with ⟨h, _⟩ | ⟨g', cap, cur, h, _⟩
      · cases h
      · simp only [Value.slice.injEq, Option.some.injEq] at h
        rw [h.1]; rfl)
    simp; omega
theorem arr24 : Try.prog.arrayLen 50 = 24 := by kernel_rfl
theorem slice24 (b n : Nat) (hn : n ≤ 24) : ∀ W, (Instr.sliceAt 50 (.pointer (some ⟨b, 0, none⟩)) none (some (.int .i64 (n : Int))) none).run Try.prog W = .ok (.slice (some ⟨b, 0, none⟩) n 24) W := fun W => by
  rw [run_sliceAt_array_h W 50 ⟨b, 0, none⟩ (by simp [Program.arrayLen, Program.elem, Try.underlying50]) .i64 (n : Int) (by omega) (by rw [arr24]; omega)]
  go_simp
theorem From_ok (a : Option Addr) (n cap : Nat) (g : Gr) (a1 : Option Addr) (c1 : Nat) (s : List Bool) (v : Nat) (w : World) (h : ListsR none w a n g) (hs : RowIn w a1 n 1 (bools s)) (hv : validB g = true) (hvn : v < n) :
    Calls Try.prog 13 #[.slice a n cap, .slice a1 n c1, .int .i64 v] w (FromP g s n v w) := by
  have L := Lib.hid h.len.1
  have LS := Lib.hid hs.len1b
  have H := Lib.hid h
  have S0 := Lib.hid hs
  have V := Lib.hid hv
  have hn24 : n ≤ 24 := by have := (valid_iff.1 hv).1; have := L.out; omega
  have C0 : Hid (chk g n v = 0) := Lib.hid (by simp [chk, hv, L.out]; omega)
  clear h hs hv
  go_enter Try.func13, Try.ntmps13
  go_wp2_with fail
  refine (check_any a n cap g _ _ _ _ _ H.out).mono ?_
  rw [C0.out]
  rintro e w1 ⟨rfl, rfl⟩
  go_wp2_with fail
  refine (found_any a n cap g a1 c1 s v _ H.out S0.out V.out hvn).mono ?_
  rintro e w2 ⟨m, rfl, hm24, hm, hg⟩
  have M := Lib.hid hm
  have G := Lib.hid hg
  clear hm hg
  have hsl := slice24 w2.heap.size n hn24
  have RW : ∀ W : World, W.heap[w2.heap.size]? = some (.cells (bools m).toArray 50 (0, 0)) → RowIn W (some ⟨w2.heap.size, 0, none⟩) n 1 (bools (m.take n)) := fun W hW => by
    have h1 := rowIn_block (n := 24) (size := 1) hW (by simp [bools, hm24]) (by unfold maxLen; omega)
    have h2 := RowIn.part h1 0 n (by omega)
    simp only [List.drop_zero, Nat.mul_one, Nat.add_zero] at h2
    rw [bools_take]; exact h2
  go_wp2_with (first
    | (refine wpList_store_row rfl 50 (.tmp 9) (.tmp 20) rfl _ _ rfl rfl 50 _ (at_new _ _) (by rw [Try.info24]; simp [bools, hm24]) (by simp [bools, hm24]) (bools_all _) ?_)
    | (at_builtin; go_loud (refine wpList_append_in St_bool rfl (.const (.slice none 0 0)) (.tmp 23) rfl rfl (World.ownsRow_nil _ w1.heap.size _ _) rfl (RW _ (setRow_heap _ _ _ _ _ _ (at_new _ _))) (fun h => by cases h) (bools_one _) ?c1 ?c2 ?c3 ?_)))
  case c1 => unfold maxLen; omega
  case c2 => omega
  case c3 => have := G.out.size; simp; omega
  intro v' w3 hown hg3 hloc
  clear hloc hsl RW
  obtain ⟨A3, c3, rfl, k1, k2, k3, k4⟩ := sliceIn_owns hown
  have O3 := Lib.hid hown
  have G3 := Lib.hid (grown_own (grown_row (grown_alloc _ G.out) G.out.size _) hg3 (fun g hg => by cases hg))
  have HL : Hid (∀ x : Nat, (m.take n)[x]? = some true ↔ Reach g s v x) := Lib.hid (fun x => by
    rw [← M.out x, List.getElem?_take]
    split
    · exact Iff.rfl
    · refine ⟨fun h => (by cases h), fun h => ?_⟩
      have := reach_lt (by rw [LS.out, L.out]) ((M.out x).1 h)
      rw [L.out] at this; omega)
  clear hown hg3 k4 M G
  go_wp2_with fail
  exact bodyPost_ret (v := .tuple #[.slice A3 n c3, .int .i64 0]) (by simp [results, Try.results13, go_sem]) rfl ⟨A3, c3, m.take n, rfl, k1, k2, k3, by simp; omega, HL.out, fun R hR => own_rowR O3.out hR, G3.out⟩

/-- From on what check does not take. -/
theorem From_bad (a : Option Addr) (n cap : Nat) (g : Gr) (a1 : Option Addr) (m c1 : Nat) (v : Int) (w : World) (h : ListsR none w a n g) (hc : chk g m v ≠ 0) :
    Calls Try.prog 13 #[.slice a n cap, .slice a1 m c1, .int .i64 v] w (fun e w' => e = .returned (.tuple #[.slice none 0 0, .int .i64 (chk g m v)]) ∧ w' = w) := by
  have H := Lib.hid h
  obtain ⟨x, hx⟩ : ∃ x, x = chk g m v := ⟨_, rfl⟩
  rw [← hx] at hc ⊢
  have HX := Lib.hid hx
  clear h hx
  go_enter Try.func13, Try.ntmps13
  go_wp2_with fail
  refine (check_any a n cap g _ _ _ _ _ H.out).mono ?_
  rw [← HX.out]
  rintro e w1 ⟨rfl, rfl⟩
  go_wp2_with fail
  exact bodyPost_ret (v := .tuple #[.slice none 0 0, .int .i64 x]) (by simp [results, Try.results13, go_sem]) rfl ⟨rfl, rfl⟩
end Go.Proofs.Ytidilepbepkpiaa
