/- Asked: headers of queues of the law's own, each in a block of its own. -/
import Derived.Test.YtbpobekmbdngbaaLkMade
import Derived.Deep.AppendSrc
namespace Go.Proofs.Ytbpobekmbdngbaa
open Go.RowKit
set_option linter.unusedVariables false

def Que (w : World) (base : Nat) (v : Value) (n : Nat) (xs : List Int) : Prop :=
  ∃ (g off cap : Nat) (cur : Array Value), v = .slice (some ⟨g, off, none⟩) n cap ∧ base ≤ g ∧ w.heap[g]? = some (.cells cur 3 (0, 0)) ∧ n ≤ cap ∧ cap ≤ maxLen ∧ xs.length = n ∧ off + cap ≤ cur.size ∧
    ∀ (j : Nat) (z : Int), xs[j]? = some z → cur[off + j]? = some (.int .i64 z)
theorem Que.lit (w : World) (base : Nat) (x : Int) (hb : base ≤ w.heap.size) : Que (w.alloc (.cells #[.int .i64 x] 3)) base (.slice (some ⟨w.heap.size, 0, none⟩) 1 1) 1 [x] :=
  ⟨w.heap.size, 0, 1, _, rfl, hb, at_new w _, Nat.le_refl _, by unfold maxLen; omega, rfl, by simp, fun j z hz => by
    match j, hz with
    | 0, hz => obtain rfl : x = z := by simpa using hz
               rfl
    | j + 1, hz => simp at hz⟩
theorem Que.kept {w W : World} {base : Nat} {v : Value} {n : Nat} {xs : List Int} {r : Option Nat} (h : Que w base v n xs) (hg : w.grownBy W r) (hr : ∀ m, r = some m → m < base) : Que W base v n xs := by
  obtain ⟨g, off, cap, cur, h1, h2, h3, h4⟩ := h
  exact ⟨g, off, cap, cur, h1, h2, grown_at hg h3 (fun e => by have := hr g e.symm; omega), h4⟩
theorem Que.lt {w : World} {base : Nat} {v : Value} {n : Nat} {xs : List Int} (h : Que w base v n xs) : ∀ m, v.ownBlock = some m → base ≤ m ∧ m < w.heap.size := by
  obtain ⟨g, off, cap, cur, rfl, h2, h3, _⟩ := h
  intro m hm
  obtain rfl : g = m := by simpa [Value.ownBlock] using hm
  exact ⟨h2, lt_of_at h3⟩
/-- The head is taken away. -/
theorem Que.tail {w : World} {base g off n cap : Nat} {x : Int} {xs : List Int} (h : Que w base (.slice (some ⟨g, off, none⟩) (n + 1) cap) (n + 1) (x :: xs)) (hc : cap ≠ 1) : Que w base (.slice (some ⟨g, off + 1, none⟩) n (cap - 1)) n xs := by
  obtain ⟨g', off', cap', cur, he, h2, h3, h4, h5, h6, h7, h8⟩ := h
  simp only [Value.slice.injEq, Option.some.injEq, Addr.mk.injEq, and_true, true_and] at he
  obtain ⟨⟨rfl, rfl⟩, rfl⟩ := he
  exact ⟨g, off + 1, cap - 1, cur, rfl, h2, h3, by omega, by omega, by simpa using h6, by omega, fun j z hz => by
    have := h8 (j + 1) z (by simpa using hz)
    rwa [show off + 1 + j = off + (j + 1) by omega]⟩
theorem Que.tail1 {w : World} {base g off n : Nat} {x : Int} {xs : List Int} (h : Que w base (.slice (some ⟨g, off, none⟩) (n + 1) 1) (n + 1) (x :: xs)) : n = 0 ∧ xs = [] ∧ Que w base (.slice (some ⟨g, off, none⟩) 0 0) 0 [] := by
  obtain ⟨g', off', cap', cur, he, h2, h3, h4, h5, h6, h7, h8⟩ := h
  simp only [Value.slice.injEq, Option.some.injEq, Addr.mk.injEq, and_true, true_and] at he
  obtain ⟨⟨rfl, rfl⟩, rfl⟩ := he
  obtain rfl : n = 0 := by omega
  exact ⟨rfl, List.eq_nil_of_length_eq_zero (by simpa using h6), g, off, 0, cur, rfl, h2, h3, Nat.le_refl _, Nat.zero_le _, rfl, by omega, fun j z hz => by simp at hz⟩
theorem Que.head {w : World} {base g off n cap : Nat} {x : Int} {xs : List Int} (h : Que w base (.slice (some ⟨g, off, none⟩) n cap) n (x :: xs)) : w.cell? ⟨g, off, none⟩ = some (.int .i64 x) := by
  obtain ⟨g', off', cap', cur, he, h2, h3, h4, h5, h6, h7, h8⟩ := h
  simp only [Value.slice.injEq, Option.some.injEq, Addr.mk.injEq, and_true, true_and] at he
  obtain ⟨⟨rfl, rfl⟩, rfl⟩ := he
  rw [cell_at h3]
  exact h8 0 x rfl

theorem run_append_que {w : World} (ty : TypeId) {base : Nat} {v : Value} {n : Nat} {xs : List Int} (h : Que w base v n xs) {a : Addr} {z : Int} (hx : w.cell? (a.add 0) = some (.int .i64 z)) (hn : n < 1000) (hb : base ≤ w.heap.size) :
    ∃ v' w', (Builtin.append_ #[22, 22] ty #[v, .slice (some a) 1 1]).run Try.prog w = .ok v' w' ∧ Que w' base v' (n + 1) (xs ++ [z]) ∧ w.grownBy w' v.ownBlock ∧ (v'.ownBlock = v.ownBlock ∨ v'.ownBlock = some w.heap.size) := by
  obtain ⟨i, hi, hz, hs, hby⟩ := St_int.info
  obtain ⟨g, off, cap, cur, rfl, h2, h3, h4, h5, h6, h7, h8⟩ := h
  have hsrc : Src Try.prog i.size 22 (.slice (some a) 1 1) 1 [.int .i64 z] w := Src.ofSlice w St_int.und a 1 1 [.int .i64 z] (by rw [hs]; rfl) (fun j u hj => by
    match j, hj with
    | 0, hj => obtain rfl : Value.int .i64 z = u := by simpa using hj
               exact hx
    | j + 1, hj => simp at hj) (flat_one rfl)
  by_cases hroom : n + 1 ≤ cap
  · have hcell : (w.cell? ⟨g, off + n, none⟩).isSome = true := by
      rw [cell_at h3, Array.getElem?_eq_getElem (by omega)]; rfl
    have hr := run_append_room_src (P := Try.prog) w 22 22 ty 3 i St_int.und hi g off n cap _ 1 [.int .i64 z] hsrc hroom
      (fun j hj => by simp at hj; subst hj; rw [hs, Nat.mul_one, Nat.add_zero]; exact hcell) (fun j hj => free_at h3)
    rw [hs, Nat.mul_one] at hr
    refine ⟨_, _, hr, ⟨g, off, cap, cur.setIfInBounds (off + n) (.int .i64 z), rfl, h2, at_set (j := off + n) _ h3, hroom, h5, by simp [h6], by simpa using h7, fun j u hj => ?_⟩, grown_set (p := ⟨g, off + n, none⟩) _ (grown_refl w _) (.inr rfl), .inl rfl⟩
    by_cases hjn : j < n
    · rw [List.getElem?_append_left (by omega)] at hj
      rw [Array.getElem?_setIfInBounds_ne (by omega)]
      exact h8 j u hj
    · have hl := (List.getElem?_eq_some_iff.1 hj).1
      simp at hl
      obtain rfl : j = n := by omega
      rw [List.getElem?_append_right (by omega), h6, Nat.sub_self] at hj
      obtain rfl : z = u := by simpa using hj
      exact Array.getElem?_setIfInBounds_self_of_lt (by omega)
  · have hr := run_append_grow_src (P := Try.prog) w 22 22 ty 3 i (.int .i64 0) St_int.und hi hz (some ⟨g, off, none⟩) n cap (ints xs)
      (run_firstCells_some (P := Try.prog) w.drew i.size n ⟨g, off, none⟩ n cap (ints xs) (by rw [ints_len, hs]; omega) (fun j u hj => by
        rw [Addr.add_lit]
        have hlt := (List.getElem?_eq_some_iff.1 hj).1
        rw [ints_len] at hlt
        obtain ⟨q, hq⟩ : ∃ q, xs[j]? = some q := ⟨_, List.getElem?_eq_getElem hlt⟩
        have : u = .int .i64 q := by simp [ints, hq] at hj; exact hj.symm
        rw [this]
        exact (cell_at (w := w) h3).trans (h8 j q hq)))
      _ 1 [.int .i64 z] hsrc (by omega) (by omega) (growslice_fits (by omega) (by rw [hby]; omega))
    have hge := grownCap_ge w (n + 1) cap 3
    have hcm : grownCap w (n + 1) cap 3 ≤ maxLen := grownCap_le_maxLen w (n + 1) cap 3 (by unfold maxLen; omega)
    refine ⟨_, _, hr, ⟨w.heap.size, 0, _, _, rfl, hb, at_new w.drew _, hge, hcm, by simp [h6], ?_, fun j u hj => ?_⟩, grown_alloc _ (grown_drew (grown_refl w _)), .inr rfl⟩
    · simp [size_zeroCells, ints_len, h6, Value.cells]; omega
    · have hl := (List.getElem?_eq_some_iff.1 hj).1
      rw [Nat.zero_add, Array.getElem?_append_left (by simp [ints_len]; simpa using hl)]
      simp only [List.getElem?_toArray]
      have : ints xs ++ [.int .i64 z] = ints (xs ++ [z]) := by simp [ints]
      rw [this]
      unfold ints
      rw [List.getElem?_map, hj]
      rfl

/-- A queue that may be nil. -/
def QueN (w : World) (base : Nat) (v : Value) (xs : List Int) : Prop := (v = .slice none 0 0 ∧ xs = []) ∨ Que w base v xs.length xs
theorem QueN.nil (w : World) (base : Nat) : QueN w base (.slice none 0 0) [] := .inl ⟨rfl, rfl⟩
theorem QueN.kept {w W : World} {base : Nat} {v : Value} {xs : List Int} {r : Option Nat} (h : QueN w base v xs) (hg : w.grownBy W r) (hr : v.ownBlock = none ∨ v.ownBlock ≠ r) : QueN W base v xs := by
  rcases h with h | ⟨g, off, cap, cur, rfl, h2, h3, h4⟩
  · exact .inl h
  · refine .inr ⟨g, off, cap, cur, rfl, h2, grown_at hg h3 ?_, h4⟩
    rcases hr with hr | hr
    · simp [Value.ownBlock] at hr
    · simpa [Value.ownBlock] using hr
theorem QueN.lt {w : World} {base : Nat} {v : Value} {xs : List Int} (h : QueN w base v xs) : ∀ m, v.ownBlock = some m → base ≤ m ∧ m < w.heap.size := by
  rcases h with ⟨rfl, _⟩ | h
  · intro m hm; simp [Value.ownBlock] at hm
  · exact h.lt
theorem QueN.row {w : World} {base : Nat} {v : Value} {xs : List Int} (h : QueN w base v xs) : ∃ A c, v = .slice A xs.length c ∧ xs.length ≤ c ∧ c ≤ maxLen ∧ (A = none → c = 0) ∧ RowIn w A xs.length 1 (ints xs) := by
  rcases h with ⟨rfl, rfl⟩ | ⟨g, off, cap, cur, rfl, h2, h3, h4, h5, h6, h7, h8⟩
  · exact ⟨none, 0, rfl, Nat.le_refl _, Nat.zero_le _, fun _ => rfl, rowIn_nil _ _⟩
  · refine ⟨_, cap, rfl, h4, h5, (fun h => by cases h), by simp [ints], by omega, .inr ⟨g, off, rfl, fun i hi => ?_⟩⟩
    rw [ints_len] at hi
    rw [cell_at h3, h8 i xs[i] (List.getElem?_eq_getElem hi)]
    simp [ints, hi]
theorem QueN.of_owns {w : World} {base base' : Nat} {v : Value} {xs : List Int} (h : w.ownsRow base 3 1 v xs.length (ints xs)) (hb : base' ≤ base) : QueN w base' v xs := by
  rcases h.2 with ⟨rfl, h0⟩ | ⟨g, cap, cur, rfl, hb', hg, hn, hm, hcs, ht⟩
  · exact .inl ⟨rfl, List.eq_nil_of_length_eq_zero h0⟩
  · refine .inr ⟨g, 0, cap, cur, rfl, Nat.le_trans hb hb', hg, hn, hm, rfl, by omega, fun j z hz => ?_⟩
    have hlt := (List.getElem?_eq_some_iff.1 hz).1
    rw [Nat.zero_add, ← Array.getElem?_toList]
    have := congrArg (fun l => l[j]?) ht
    rw [List.getElem?_take_of_lt (by omega)] at this
    rw [this]
    simp [ints, hz]
theorem run_append_queN {w : World} (ty : TypeId) {base : Nat} {v : Value} {xs : List Int} (h : QueN w base v xs) {a : Addr} {z : Int} (hx : w.cell? (a.add 0) = some (.int .i64 z)) (hn : xs.length < 1000) (hb : base ≤ w.heap.size) :
    ∃ v' w', (Builtin.append_ #[22, 22] ty #[v, .slice (some a) 1 1]).run Try.prog w = .ok v' w' ∧ QueN w' base v' (xs ++ [z]) ∧ w.grownBy w' v.ownBlock ∧ (v'.ownBlock = v.ownBlock ∨ v'.ownBlock = some w.heap.size) := by
  rcases h with ⟨rfl, rfl⟩ | h
  · obtain ⟨i, hi, hz, hs, hby⟩ := St_int.info
    obtain ⟨v', w', hr, h2, h3, _, h5⟩ := run_append_own_at (P := Try.prog) w base 22 ty 3 i (.int .i64 0) 1 8 St_int.und hi hz hs hby rfl (by decide) (.slice none 0 0) 0 [] (World.ownsRow_nil w base 3 1) a 1 1 [.int .i64 z] rfl
      (fun j u hj => by
        match j, hj with
        | 0, hj => obtain rfl : Value.int .i64 z = u := by simpa using hj
                   exact hx
        | j + 1, hj => simp at hj) (flat_one rfl) (by unfold maxLen; omega) (by omega) hb
    exact ⟨v', w', hr, QueN.of_owns (by simpa [ints] using h2) (Nat.le_refl _), h3, h5⟩
  · obtain ⟨v', w', hr, h2, h3, h4⟩ := run_append_que ty h hx hn hb
    exact ⟨v', w', hr, .inr (by rw [List.length_append]; exact h2), h3, h4⟩
theorem step_append_queN {w : World} {ops : Array Oper} {o : Oper} {a : Act} {K : Act → World → Prop} {Q : Exit → Act → World → Prop} {E : Prop} (hgd : o.guard = none) (s x : Operand)
    (ho : o.op = .call { callee := .builtin .append, args := #[s, x], argTypes := #[22, 22] })
    {base : Nat} {v : Value} {xs : List Int} (hs : a.eval s = v) (hq : QueN w base v xs) {ad : Addr} {z : Int} (hx : a.eval x = .slice (some ad) 1 1) (hc : w.cell? (ad.add 0) = some (.int .i64 z)) (hn : xs.length < 1000) (hb : base ≤ w.heap.size)
    (h : ∀ v' w', QueN w' base v' (xs ++ [z]) → w.grownBy w' v.ownBlock → (v'.ownBlock = v.ownBlock ∨ v'.ownBlock = some w.heap.size) → K (a.put o.dst v') w') :
    if Region.wanted o (yielded ops a.tmps) = true then Oper.wp Try.prog o a w K Q else E := by
  have hw : Region.wanted o (yielded ops a.tmps) = true := by simp [Region.wanted, hgd]
  rw [if_pos hw]
  obtain ⟨v', w', hrun, h2, h3, h4⟩ := run_append_queN o.type hq hc hn hb
  unfold Oper.wp execOp
  simp only [ho, resolve, invoke, builtin, Sem.run_bind, Sem.run_pure, Result.andThen_ok, List.map_toArray, List.map_cons, List.map_nil, hs, hx, hrun]
  exact h v' w' h2 h3 h4

def AskM (w : World) (base gq : Nat) (q : List (List Int)) : Prop :=
  ∃ cs : Array Value, w.heap[gq]? = some (.cells cs 22 (0, 0)) ∧ cs.size = q.length ∧ gq < base ∧
    ∀ (i : Nat) (xs : List Int), q[i]? = some xs → ∃ v : Value, cs[i]? = some v ∧ QueN w base v xs ∧ ∀ (j : Nat) (u : Value), j ≠ i → cs[j]? = some u → v.ownBlock = none ∨ u.ownBlock ≠ v.ownBlock
section
variable {w W : World} {base gq : Nat} {q : List (List Int)}
theorem AskM.lt (h : AskM w base gq q) : gq < w.heap.size := by
  obtain ⟨cs, h1, _⟩ := h
  exact lt_of_at h1
theorem AskM.at (h : AskM w base gq q) {i : Nat} {xs : List Int} (hi : q[i]? = some xs) : ∃ v, w.cell? ⟨gq, i, none⟩ = some v ∧ w.frozen? ⟨gq, i, none⟩ = false ∧ QueN w base v xs := by
  obtain ⟨cs, h1, h2, h3, h4⟩ := h
  obtain ⟨v, g1, g2, _⟩ := h4 i xs hi
  exact ⟨v, by rw [cell_at h1, g1], free_at h1, g2⟩
theorem AskM.kept {r : Option Nat} (h : AskM w base gq q) (hg : w.grownBy W r) (hr : ∀ b, r = some b → b < base ∧ b ≠ gq) : AskM W base gq q := by
  obtain ⟨cs, h1, h2, h3, h4⟩ := h
  refine ⟨cs, grown_at hg h1 (fun e => (hr gq e.symm).2 rfl), h2, h3, fun i xs hi => ?_⟩
  obtain ⟨v, g1, g2, g3⟩ := h4 i xs hi
  refine ⟨v, g1, g2.kept hg ?_, g3⟩
  cases hv : v.ownBlock with
  | none => exact .inl rfl
  | some b =>
    refine .inr fun e => ?_
    have := (hr b e.symm).1
    have := (g2.lt b hv).1
    omega
instance : Stay none w W (AskM w base gq q) (AskM W base gq q) := ⟨fun hg h => h.kept hg (by simp)⟩
/-- A queue is replaced: by one appended to in its own block, by a part of it, or by one in a new block. -/
theorem AskM.put {w1 : World} {i : Nat} {xs ys : List Int} {v v' : Value} {r : Option Nat} (h : AskM w base gq q) (hi : q[i]? = some xs) (hv : w.cell? ⟨gq, i, none⟩ = some v)
    (hg : w.grownBy w1 r) (hr : r = none ∨ r = v.ownBlock) (ho : QueN w1 base v' ys) (hw : v'.ownBlock = v.ownBlock ∨ ∀ k, v'.ownBlock = some k → w.heap.size ≤ k) :
    AskM (w1.setCell ⟨gq, i, none⟩ v') base gq (q.set i ys) := by
  have hgl := h.lt
  obtain ⟨cs, h1, h2, h3, h4⟩ := h
  obtain ⟨v0, g1, g2, g4⟩ := h4 i xs hi
  obtain rfl : v0 = v := by rw [cell_at h1, g1] at hv; exact Option.some.inj hv
  have hvq : ∀ {u : Value} {zs : List Int}, QueN w base u zs → u.ownBlock ≠ some gq := fun hu e => by have := (hu.lt gq e).1; omega
  have hne : some gq ≠ r := by
    rcases hr with rfl | rfl
    · simp
    · exact fun e => hvq g2 e.symm
  have h1' := grown_at hg h1 hne
  have hil : i < q.length := (List.getElem?_eq_some_iff.1 hi).1
  have hvg : v'.ownBlock ≠ some gq := by
    rcases hw with hw | hw
    · rw [hw]; exact hvq g2
    · intro e; have := hw gq e; omega
  have stay : ∀ {u : Value} {zs : List Int}, QueN w1 base u zs → u.ownBlock ≠ some gq → QueN (w1.setCell ⟨gq, i, none⟩ v') base u zs := fun hu hug =>
    hu.kept (r := some gq) (grown_set v' (grown_refl w1 _) (.inr rfl)) (.inr hug)
  refine ⟨cs.setIfInBounds i v', at_set v' h1', by simpa using h2, h3, fun j zs hj => ?_⟩
  by_cases hji : i = j
  · subst hji
    obtain rfl : zs = ys := by
      rw [List.getElem?_set_self (by omega)] at hj
      exact (Option.some.inj hj).symm
    refine ⟨v', Array.getElem?_setIfInBounds_self_of_lt (by omega), stay ho hvg, fun k u hk hu => ?_⟩
    rw [Array.getElem?_setIfInBounds_ne (Ne.symm hk)] at hu
    rcases hw with hw | hw
    · rw [hw]; exact g4 k u hk hu
    · cases hb : v'.ownBlock with
      | none => exact .inl rfl
      | some m =>
        right
        intro e
        have hm' := hw m hb
        have hkl : k < q.length := by have := (Array.getElem?_eq_some_iff.1 hu).1; omega
        obtain ⟨u', e1, e2, _⟩ := h4 k q[k] (List.getElem?_eq_getElem hkl)
        obtain rfl : u' = u := by rw [hu] at e1; exact (Option.some.inj e1).symm
        have := (e2.lt m e).2
        omega
  · rw [List.getElem?_set_ne hji] at hj
    obtain ⟨u, e1, e2, e4⟩ := h4 j zs hj
    have hk1 : QueN w1 base u zs := by
      refine e2.kept hg ?_
      rcases hr with rfl | rfl
      · exact Classical.em _
      · rcases e4 i _ hji g1 with e | e
        · exact .inl e
        · exact .inr (Ne.symm e)
    refine ⟨u, by rw [Array.getElem?_setIfInBounds_ne hji]; exact e1, stay hk1 (hvq e2), fun k x hk hx => ?_⟩
    by_cases hki : i = k
    · subst hki
      obtain rfl : x = v' := by
        rw [Array.getElem?_setIfInBounds_self_of_lt (by omega)] at hx
        exact (Option.some.inj hx).symm
      rcases hw with hw | hw
      · rw [hw]; exact e4 i _ hk g1
      · cases hb : u.ownBlock with
        | none => exact .inl rfl
        | some m =>
          right
          intro e
          have h6 := hw m e
          have h7 := (e2.lt m hb).2
          omega
    · rw [Array.getElem?_setIfInBounds_ne hki] at hx
      exact e4 k x hk hx
theorem AskM.lists (h : AskM w base gq q) (hm : q.length ≤ maxLen) : ListsR none w (some ⟨gq, 0, none⟩) q.length q := by
  obtain ⟨cs, h1, h2, h3, h4⟩ := h
  refine ⟨cs.toList, rowR_none (rowIn_block (n := q.length) (size := 1) h1 (by omega) hm), by simpa using h2, fun i xs hi => ?_⟩
  obtain ⟨v, g1, g2, _⟩ := h4 i xs hi
  obtain ⟨A, c, rfl, k1, k2, k3, k4⟩ := g2.row
  exact ⟨A, c, by simpa using g1, k1, k2, k3, rowR_none k4⟩
theorem askM_nils {n : Nat} (h : w.heap[gq]? = some (.cells (List.replicate n (Value.slice none 0 0)).toArray 22 (0, 0))) (hb : gq < base) : AskM w base gq (List.replicate n []) := by
  refine ⟨_, h, by simp, hb, fun i xs hi => ?_⟩
  rw [List.getElem?_replicate] at hi
  split at hi
  · obtain rfl := Option.some.inj hi
    have hin : i < n := by assumption
    exact ⟨.slice none 0 0, by simp [hin], .nil _ _, fun j u _ _ => .inl rfl⟩
  · cases hi
end
end Go.Proofs.Ytbpobekmbdngbaa
