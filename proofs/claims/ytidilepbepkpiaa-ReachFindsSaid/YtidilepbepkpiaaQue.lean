/- A queue of numbers: a slice of the call's own, at whatever place of its block; taken from at its head, appended to. -/
import Derived.Test.YtidilepbepkpiaaGrm
import Derived.Deep.AppendSrc
namespace Go.Proofs.Ytidilepbepkpiaa
open Go.RowKit
set_option linter.unusedVariables false

def Que (w : World) (base : Nat) (v : Value) (n : Nat) (xs : List Int) : Prop :=
  ∃ (g off cap : Nat) (cur : Array Value), v = .slice (some ⟨g, off, none⟩) n cap ∧ base ≤ g ∧ w.heap[g]? = some (.cells cur 3 (0, 0)) ∧ n ≤ cap ∧ cap ≤ maxLen ∧ xs.length = n ∧ off + cap ≤ cur.size ∧
    ∀ (j : Nat) (z : Int), xs[j]? = some z → cur[off + j]? = some (.int .i64 z)
theorem Que.lit (w : World) (base : Nat) (x : Int) (hb : base ≤ w.heap.size) : Que (w.alloc (.cells #[.int .i64 x] 3)) base (.slice (some ⟨w.heap.size, 0, none⟩) 1 1) 1 [x] :=
  ⟨w.heap.size, 0, 1, _, rfl, hb, at_new w _, Nat.le_refl _, by unfold maxLen; omega, rfl, by simp, fun j z hz => by
    match j, hz with
    | 0, hz => obtain rfl : x = z := by simpa using hz
               rfl
    | j + 1, hz => simp at hz⟩
theorem Que.kept {w W : World} {base : Nat} {v : Value} {n : Nat} {xs : List Int} {r : Option Nat} (h : Que w base v n xs) (hg : w.grownBy W r) (hr : ∀ m, r = some m → m < base) : Que W base v n xs := by
  obtain ⟨g, off, cap, cur, h1, h2, h3, h4⟩ := h
  exact ⟨g, off, cap, cur, h1, h2, grown_at hg h3 (fun e => by have := hr g e.symm; omega), h4⟩
theorem Que.lt {w : World} {base : Nat} {v : Value} {n : Nat} {xs : List Int} (h : Que w base v n xs) : ∀ m, v.ownBlock = some m → base ≤ m ∧ m < w.heap.size := by
  obtain ⟨g, off, cap, cur, rfl, h2, h3, _⟩ := h
  intro m hm
  obtain rfl : g = m := by simpa [Value.ownBlock] using hm
  exact ⟨h2, lt_of_at h3⟩
/-- The head is taken away. -/
theorem Que.tail {w : World} {base g off n cap : Nat} {x : Int} {xs : List Int} (h : Que w base (.slice (some ⟨g, off, none⟩) (n + 1) cap) (n + 1) (x :: xs)) (hc : cap ≠ 1) : Que w base (.slice (some ⟨g, off + 1, none⟩) n (cap - 1)) n xs := by
  obtain ⟨g', off', cap', cur, he, h2, h3, h4, h5, h6, h7, h8⟩ := h
  simp only [Value.slice.injEq, Option.some.injEq, Addr.mk.injEq, and_true, true_and] at he
  obtain ⟨⟨rfl, rfl⟩, rfl⟩ := he
  exact ⟨g, off + 1, cap - 1, cur, rfl, h2, h3, by omega, by omega, by simpa using h6, by omega, fun j z hz => by
    have := h8 (j + 1) z (by simpa using hz)
    rwa [show off + 1 + j = off + (j + 1) by omega]⟩
theorem Que.tail1 {w : World} {base g off n : Nat} {x : Int} {xs : List Int} (h : Que w base (.slice (some ⟨g, off, none⟩) (n + 1) 1) (n + 1) (x :: xs)) : n = 0 ∧ xs = [] ∧ Que w base (.slice (some ⟨g, off, none⟩) 0 0) 0 [] := by
  obtain ⟨g', off', cap', cur, he, h2, h3, h4, h5, h6, h7, h8⟩ := h
  simp only [Value.slice.injEq, Option.some.injEq, Addr.mk.injEq, and_true, true_and] at he
  obtain ⟨⟨rfl, rfl⟩, rfl⟩ := he
  obtain rfl : n = 0 := by omega
  exact ⟨rfl, List.eq_nil_of_length_eq_zero (by simpa using h6), g, off, 0, cur, rfl, h2, h3, Nat.le_refl _, Nat.zero_le _, rfl, by omega, fun j z hz => by simp at hz⟩
theorem Que.head {w : World} {base g off n cap : Nat} {x : Int} {xs : List Int} (h : Que w base (.slice (some ⟨g, off, none⟩) n cap) n (x :: xs)) : w.cell? ⟨g, off, none⟩ = some (.int .i64 x) := by
  obtain ⟨g', off', cap', cur, he, h2, h3, h4, h5, h6, h7, h8⟩ := h
  simp only [Value.slice.injEq, Option.some.injEq, Addr.mk.injEq, and_true, true_and] at he
  obtain ⟨⟨rfl, rfl⟩, rfl⟩ := he
  rw [cell_at h3]
  exact h8 0 x rfl

theorem run_append_que {w : World} (ty : TypeId) {base : Nat} {v : Value} {n : Nat} {xs : List Int} (h : Que w base v n xs) {a : Addr} {z : Int} (hx : w.cell? (a.add 0) = some (.int .i64 z)) (hn : n < 1000) (hb : base ≤ w.heap.size) :
    ∃ v' w', (Builtin.append_ #[22, 22] ty #[v, .slice (some a) 1 1]).run Try.prog w = .ok v' w' ∧ Que w' base v' (n + 1) (xs ++ [z]) ∧ w.grownBy w' v.ownBlock := by
  obtain ⟨i, hi, hz, hs, hby⟩ := St_int.info
  obtain ⟨g, off, cap, cur, rfl, h2, h3, h4, h5, h6, h7, h8⟩ := h
  have hsrc : Src Try.prog i.size 22 (.slice (some a) 1 1) 1 [.int .i64 z] w := Src.ofSlice w St_int.und a 1 1 [.int .i64 z] (by rw [hs]; rfl) (fun j u hj => by
    match j, hj with
    | 0, hj => obtain rfl : Value.int .i64 z = u := by simpa using hj
               exact hx
    | j + 1, hj => simp at hj) (flat_one rfl)
  by_cases hroom : n + 1 ≤ cap
  · have hcell : (w.cell? ⟨g, off + n, none⟩).isSome = true := by
      rw [cell_at h3, Array.getElem?_eq_getElem (by omega)]; rfl
    have hr := run_append_room_src (P := Try.prog) w 22 22 ty 3 i St_int.und hi g off n cap _ 1 [.int .i64 z] hsrc hroom
      (fun j hj => by simp at hj; subst hj; rw [hs, Nat.mul_one, Nat.add_zero]; exact hcell) (fun j hj => free_at h3)
    rw [hs, Nat.mul_one] at hr
    refine ⟨_, _, hr, ⟨g, off, cap, cur.setIfInBounds (off + n) (.int .i64 z), rfl, h2, at_set (j := off + n) _ h3, hroom, h5, by simp [h6], by simpa using h7, fun j u hj => ?_⟩, grown_set (p := ⟨g, off + n, none⟩) _ (grown_refl w _) (.inr rfl)⟩
    by_cases hjn : j < n
    · rw [List.getElem?_append_left (by omega)] at hj
      rw [Array.getElem?_setIfInBounds_ne (by omega)]
      exact h8 j u hj
    · have hl := (List.getElem?_eq_some_iff.1 hj).1
      simp at hl
      obtain rfl : j = n := by omega
      rw [List.getElem?_append_right (by omega), h6, Nat.sub_self] at hj
      obtain rfl : z = u := by simpa using hj
      exact Array.getElem?_setIfInBounds_self_of_lt (by omega)
  · have hr := run_append_grow_src (P := Try.prog) w 22 22 ty 3 i (.int .i64 0) St_int.und hi hz (some ⟨g, off, none⟩) n cap (ints xs)
      (run_firstCells_some (P := Try.prog) w.drew i.size n ⟨g, off, none⟩ n cap (ints xs) (by rw [ints_len, hs]; omega) (fun j u hj => by
        rw [Addr.add_lit]
        have hlt := (List.getElem?_eq_some_iff.1 hj).1
        rw [ints_len] at hlt
        obtain ⟨q, hq⟩ : ∃ q, xs[j]? = some q := ⟨_, List.getElem?_eq_getElem hlt⟩
        have : u = .int .i64 q := by simp [ints, hq] at hj; exact hj.symm
        rw [this]
        exact (cell_at (w := w) h3).trans (h8 j q hq)))
      _ 1 [.int .i64 z] hsrc (by omega) (by omega) (growslice_fits (by omega) (by rw [hby]; omega))
    have hge := grownCap_ge w (n + 1) cap 3
    have hcm : grownCap w (n + 1) cap 3 ≤ maxLen := grownCap_le_maxLen w (n + 1) cap 3 (by unfold maxLen; omega)
    refine ⟨_, _, hr, ⟨w.heap.size, 0, _, _, rfl, hb, at_new w.drew _, hge, hcm, by simp [h6], ?_, fun j u hj => ?_⟩, grown_alloc _ (grown_drew (grown_refl w _))⟩
    · simp [size_zeroCells, ints_len, h6, Value.cells]; omega
    · have hl := (List.getElem?_eq_some_iff.1 hj).1
      rw [Nat.zero_add, Array.getElem?_append_left (by simp [ints_len]; simpa using hl)]
      simp only [List.getElem?_toArray]
      have : ints xs ++ [.int .i64 z] = ints (xs ++ [z]) := by simp [ints]
      rw [this]
      unfold ints
      rw [List.getElem?_map, hj]
      rfl
theorem wpList_append_que {w : World} {ops : Array Oper} {rest : List Oper} {o : Oper} {a : Act} {Q : Exit → Act → World → Prop} (hgd : o.guard = none) (s x : Operand)
    (ho : o.op = .call { callee := .builtin .append, args := #[s, x], argTypes := #[22, 22] })
    {base : Nat} {v : Value} {n : Nat} {xs : List Int} (hs : a.eval s = v) (hq : Que w base v n xs) {ad : Addr} {z : Int} (hx : a.eval x = .slice (some ad) 1 1) (hc : w.cell? (ad.add 0) = some (.int .i64 z)) (hn : n < 1000) (hb : base ≤ w.heap.size)
    (h : ∀ v' w', Que w' base v' (n + 1) (xs ++ [z]) → w.grownBy w' v.ownBlock → wpList Try.prog ops Q rest (a.put o.dst v') w') : wpList Try.prog ops Q (o :: rest) a w :=
  wpList_plain hgd fun _ hK => by
    obtain ⟨v', w', hrun, h2, h3⟩ := run_append_que o.type hq hc hn hb
    unfold Oper.wp execOp
    simp only [ho, resolve, invoke, builtin, Sem.run_bind, Sem.run_pure, Result.andThen_ok, List.map_toArray, List.map_cons, List.map_nil, hs, hx, hrun]
    exact hK _ _ (h v' w' h2 h3)
end Go.Proofs.Ytidilepbepkpiaa
