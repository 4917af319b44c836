/- Appending a row that can be read (nil or not) to a slice of the call's own. -/
import Derived.Test.YtbpobekmbdngbaaData
import Derived.Deep.AppendLies
import Derived.Deep.RegionLaw
namespace Go.Proofs.Ytbpobekmbdngbaa
open Go.RowKit
set_option linter.unusedVariables false

/-- t is the type of slices of e, whose zero is z, of size cells and bytes bytes. -/
structure SliceT (P : Program) (t e : TypeId) (z : Value) (size bytes : Nat) : Prop where
  und : P.underlying t = some (.slice e)
  info : ∃ i, P.info? e = some i ∧ i.zero = some z ∧ i.size = size ∧ i.bytes = bytes
  zs : z.cells.size = size
  pos : 0 < size
theorem SliceT.mk' {P : Program} {t e : TypeId} {z : Value} {size bytes : Nat} (h1 : P.underlying t = some (.slice e)) (h2 : (P.info? e).map (fun i => (i.zero, i.size, i.bytes)) = some (some z, size, bytes)) (h3 : z.cells.size = size) (h4 : 0 < size) : SliceT P t e z size bytes :=
  ⟨h1, by obtain ⟨i, a, b, c, d⟩ := info_parts h2; exact ⟨i, a, b, c, d⟩, h3, h4⟩

section
variable {P : Program} {t e : TypeId} {z : Value} {size bytes : Nat}
theorem run_append_in (hT : SliceT P t e z size bytes) {w : World} (ty : TypeId) {base : Nat} {v : Value} {n : Nat} {xs : List Value} (hown : w.ownsRow base e size v n xs)
    {A : Option Addr} {m c : Nat} {news : List Value} (hr : RowIn w A m size news) (hc : A = none → c = 0) (h1 : ∀ u ∈ news, u.oneCell' = true) (h63 : n + m ≤ maxLen) (hbytes : (n + m) * bytes ≤ 140737488355328) (hbase : base ≤ w.heap.size) :
    ∃ v' w', (Builtin.append_ #[t, t] ty #[v, .slice A m c]).run P w = .ok v' w' ∧ w'.ownsRow base e size v' (n + m) (xs ++ news) ∧ w.grownBy w' v.ownBlock ∧ (v'.ownBlock = v.ownBlock ∨ v'.ownBlock = some w.heap.size) := by
  obtain ⟨i, hi, hz, hs, hb⟩ := hT.info
  cases A with
  | none =>
    obtain rfl := hc rfl
    have hm : m = 0 := by
      rcases hr.2.2 with h | ⟨b, off, h, _⟩
      · exact h
      · cases h
    subst hm
    have hn : news = [] := List.eq_nil_of_length_eq_zero (by simpa using hr.1)
    subst hn
    exact ⟨v, w, run_append_owned_none (w := w) base t ty e i size hT.und hi v n xs hown, by simpa using hown, World.grownBy.refl _ _, .inl rfl⟩
  | some ad =>
    obtain ⟨v', w', h1', h2, h3, _, h5⟩ := run_append_own_at (P := P) w base t ty e i z size bytes hT.und hi hz hs hb hT.zs hT.pos v n xs hown ad m c news hr.1 (by
      intro j u hj
      have hlt := (List.getElem?_eq_some_iff.1 hj).1
      rcases hr.2.2 with h | ⟨b, off, h, hcell⟩
      · subst h
        have := hr.1
        omega
      · obtain rfl := Option.some.inj h
        have hadd : (⟨b, off, none⟩ : Addr).add j = ⟨b, off + j, none⟩ := by unfold Addr.add; split <;> simp_all
        rw [hadd, hcell j hlt, hj]) h1 h63 hbytes hbase
    exact ⟨v', w', h1', h2, h3, h5⟩

theorem wp_append_in (hT : SliceT P t e z size bytes) {w : World} {o : Oper} {a : Act} {K : Act → World → Prop} {Q : Exit → Act → World → Prop} (s x : Operand)
    (ho : o.op = .call { callee := .builtin .append, args := #[s, x], argTypes := #[t, t] })
    {base : Nat} {v : Value} {n : Nat} {xs : List Value} (hs : a.eval s = v) (hown : w.ownsRow base e size v n xs)
    {A : Option Addr} {m c : Nat} {news : List Value} (hx : a.eval x = .slice A m c) (hr : RowIn w A m size news) (hc : A = none → c = 0) (h1 : ∀ u ∈ news, u.oneCell' = true) (h63 : n + m ≤ maxLen) (hbytes : (n + m) * bytes ≤ 140737488355328) (hbase : base ≤ w.heap.size)
    (h : ∀ v' w', w'.ownsRow base e size v' (n + m) (xs ++ news) → w.grownBy w' v.ownBlock → (v'.ownBlock = v.ownBlock ∨ v'.ownBlock = some w.heap.size) → K (a.put o.dst v') w') : o.wp P a w K Q := by
  obtain ⟨v', w', hrun, h2, h3, h4⟩ := run_append_in hT o.type hown hr hc h1 h63 hbytes hbase
  unfold Oper.wp execOp
  simp only [ho, resolve, invoke, builtin, Sem.run_bind, Sem.run_pure, Result.andThen_ok, List.map_toArray, List.map_cons, List.map_nil, hs, hx, hrun]
  exact h v' w' h2 h3 h4

theorem wpList_append_in (hT : SliceT P t e z size bytes) {w : World} {ops : Array Oper} {rest : List Oper} {o : Oper} {a : Act} {Q : Exit → Act → World → Prop} (hgd : o.guard = none) (s x : Operand)
    (ho : o.op = .call { callee := .builtin .append, args := #[s, x], argTypes := #[t, t] })
    {base : Nat} {v : Value} {n : Nat} {xs : List Value} (hs : a.eval s = v) (hown : w.ownsRow base e size v n xs)
    {A : Option Addr} {m c : Nat} {news : List Value} (hx : a.eval x = .slice A m c) (hr : RowIn w A m size news) (hc : A = none → c = 0) (h1 : ∀ u ∈ news, u.oneCell' = true) (h63 : n + m ≤ maxLen) (hbytes : (n + m) * bytes ≤ 140737488355328) (hbase : base ≤ w.heap.size)
    (h : ∀ v' w', w'.ownsRow base e size v' (n + m) (xs ++ news) → w.grownBy w' v.ownBlock → (v'.ownBlock = v.ownBlock ∨ v'.ownBlock = some w.heap.size) → wpList P ops Q rest (a.put o.dst v') w') : wpList P ops Q (o :: rest) a w :=
  wpList_plain hgd fun _ hK => wp_append_in hT s x ho hs hown hx hr hc h1 h63 hbytes hbase fun v' w' h2 h3 h4 => hK _ _ (h v' w' h2 h3 h4)

theorem step_append_in (hT : SliceT P t e z size bytes) {w : World} {ops : Array Oper} {o : Oper} {a : Act} {K : Act → World → Prop} {Q : Exit → Act → World → Prop} {E : Prop} (hgd : o.guard = none) (s x : Operand)
    (ho : o.op = .call { callee := .builtin .append, args := #[s, x], argTypes := #[t, t] })
    {base : Nat} {v : Value} {n : Nat} {xs : List Value} (hs : a.eval s = v) (hown : w.ownsRow base e size v n xs)
    {A : Option Addr} {m c : Nat} {news : List Value} (hx : a.eval x = .slice A m c) (hr : RowIn w A m size news) (hc : A = none → c = 0) (h1 : ∀ u ∈ news, u.oneCell' = true) (h63 : n + m ≤ maxLen) (hbytes : (n + m) * bytes ≤ 140737488355328) (hbase : base ≤ w.heap.size)
    (h : ∀ v' w', w'.ownsRow base e size v' (n + m) (xs ++ news) → w.grownBy w' v.ownBlock → (v'.ownBlock = v.ownBlock ∨ v'.ownBlock = some w.heap.size) → K (a.put o.dst v') w') :
    if Region.wanted o (yielded ops a.tmps) = true then Oper.wp P o a w K Q else E := by
  have hw : Region.wanted o (yielded ops a.tmps) = true := by simp [Region.wanted, hgd]
  rw [if_pos hw]
  exact wp_append_in hT s x ho hs hown hx hr hc h1 h63 hbytes hbase h
end

/-- A slice that can be read, however it came. -/
def SliceIn (w : World) (v : Value) (size : Nat) (xs : List Value) (n : Nat) : Prop := ∃ A c, v = .slice A n c ∧ n ≤ c ∧ c ≤ maxLen ∧ (A = none → c = 0) ∧ RowIn w A n size xs
theorem sliceIn_owns {w : World} {base e size n : Nat} {v : Value} {xs : List Value} (h : w.ownsRow base e size v n xs) : SliceIn w v size xs n := by
  rcases h.2 with ⟨rfl, rfl⟩ | ⟨g, cap, cur, rfl, _, hg, hnc, hm, hcs, ht⟩
  · exact ⟨none, 0, rfl, Nat.le_refl _, Nat.zero_le _, fun _ => rfl, h.1, Nat.zero_le _, .inl rfl⟩
  · obtain ⟨a, c, he, h1, h2, h3⟩ := rowIn_owns h
    exact ⟨a, c, he, h1, h2, (fun ha => by subst ha; cases he), h3⟩
theorem flat_one {cs : List Value} (h : cs.all Value.oneCell' = true) : ∀ u ∈ cs, u.oneCell' = true := fun u hu => List.all_eq_true.1 h u hu
theorem ints_one (zs : List Int) : ∀ u ∈ ints zs, u.oneCell' = true := by
  intro u hu
  obtain ⟨z, _, rfl⟩ := List.mem_map.1 hu
  rfl
theorem bools_one (zs : List Bool) : ∀ u ∈ bools zs, u.oneCell' = true := by
  intro u hu
  obtain ⟨z, _, rfl⟩ := List.mem_map.1 hu
  rfl
theorem flatC_one {α : Type} {c : α → List Value} (h : ∀ x, ∀ u ∈ c x, u.oneCell' = true) (l : List α) : ∀ u ∈ l.flatMap c, u.oneCell' = true := by
  intro u hu
  obtain ⟨x, _, hx⟩ := List.mem_flatMap.1 hu
  exact h x u hx
/-- A part of a row of structs. -/
theorem part_flat {α : Type} (c : α → List Value) (s : Nat) (hs : ∀ x, (c x).length = s) (l : List α) (lo m : Nat) : ((l.flatMap c).drop (lo * s)).take (m * s) = ((l.drop lo).take m).flatMap c := by
  have hd : ∀ (lo : Nat) (l : List α), (l.flatMap c).drop (lo * s) = (l.drop lo).flatMap c := by
    intro lo
    induction lo with
    | zero => intro l; simp
    | succ lo ih =>
      intro l
      cases l with
      | nil => simp
      | cons x l =>
        rw [List.flatMap_cons, Nat.succ_mul, Nat.add_comm, List.drop_append, List.drop_of_length_le (by rw [hs]; omega), List.nil_append, hs, Nat.add_sub_cancel_left, ih]
        rfl
  have ht : ∀ (m : Nat) (l : List α), (l.flatMap c).take (m * s) = (l.take m).flatMap c := by
    intro m
    induction m with
    | zero => intro l; simp
    | succ m ih =>
      intro l
      cases l with
      | nil => simp
      | cons x l =>
        rw [List.flatMap_cons, Nat.succ_mul, Nat.add_comm, List.take_append, List.take_of_length_le (by rw [hs]; omega), hs, Nat.add_sub_cancel_left, ih]
        rfl
  rw [hd, ht]
end Go.Proofs.Ytbpobekmbdngbaa
