/- The walk of ArbiterBlocks. -/
import Derived.Test.YtfdnbkclpnaijaaMade
import Derived.Test.YtfdnbkclpnaijaaArKnown
import Derived.Test.YtfdnbkclpnaijaaOwnR
namespace Go.Proofs.Ytfdnbkclpnaijaa
open Go.RowKit
set_option linter.unusedVariables false

theorem Try.info_bool : (Try.prog.info? 4).map (fun i => (i.zero, i.size, i.bytes)) = some (some (.bool false), 1, 1) := by kernel_rfl

/-- false, then true up to i, then false. -/
def flags (m i : Nat) : List Bool := (List.range m).map fun j => decide (1 ≤ j ∧ j < i)
theorem flags_set {m i : Nat} (hi : 1 ≤ i) : ((flags m i).map Value.bool).set i (.bool true) = (flags m (i + 1)).map Value.bool := by
  apply List.ext_getElem?
  intro j
  simp only [flags, List.map_map, List.getElem?_set, List.length_map, List.length_range, List.getElem?_map]
  by_cases hj : i = j
  · subst hj
    by_cases hm : i < m
    · simp [hm, hi]
    · simp [hm]
  · rw [if_neg hj]
    by_cases hm : j < m
    · simp [hm]
      rw [decide_eq_decide.2 (show j < i ↔ j < i + 1 by omega)]
    · simp [hm]
theorem flags_zero {m : Nat} : (flags m 1).map Value.bool = List.replicate m (.bool false) := by
  apply List.ext_getElem?
  intro j
  simp only [flags, List.map_map, List.getElem?_map, List.getElem?_replicate]
  by_cases hm : j < m
  · simp [hm]; omega
  · simp [hm]
theorem flags_full {n : Nat} : flags (n + 1) (n + 1) = false :: List.replicate n true := by
  apply List.ext_getElem?
  intro j
  simp only [flags, List.getElem?_map]
  cases j with
  | zero => simp
  | succ j =>
    simp only [List.getElem?_cons_succ, List.getElem?_replicate]
    by_cases hm : j < n
    · simp [hm]
    · simp [hm]

theorem wpList_append_rows {P : Program} {w : World} {ops : Array Oper} {rest : List Oper} {o : Oper} {a : Act} {Q : Exit → Act → World → Prop} (hgd : o.guard = none) (s x : Operand) (t : TypeId)
    (ho : o.op = .call { callee := .builtin .append, args := #[s, x], argTypes := #[t, t] })
    (base : Nat) (e : TypeId) (i : TypeInfo) (z : Value) (size bytes : Nat) (ht : P.underlying t = some (.slice e)) (hi : P.info? e = some i) (hz : i.zero = some z)
    (hsize : i.size = size) (hby : i.bytes = bytes) (hzs : z.cells.size = size) (hsz : 0 < size)
    (v : Value) (n : Nat) (xs : List Value) (hs : a.eval s = v) (hown : w.ownsRow base e size v n xs)
    (base2 : Nat) (v2 : Value) (n2 : Nat) (xs2 : List Value) (hx : a.eval x = v2) (hown2 : w.ownsRow base2 e size v2 n2 xs2) (h1 : ∀ u ∈ xs2, u.oneCell' = true)
    (h63 : n + n2 ≤ maxLen) (hbytes : (n + n2) * bytes ≤ 140737488355328) (hbase : base ≤ w.heap.size)
    (h : ∀ v' w', w'.ownsRow base e size v' (n + n2) (xs ++ xs2) → w.grownBy w' v.ownBlock → wpList P ops Q rest (a.put o.dst v') w') : wpList P ops Q (o :: rest) a w := by
  rcases hown2.2 with ⟨hv, hn⟩ | ⟨g, cap, cur, hv, hb, hg, h2, h3, h4, h5⟩
  · have hl := hown2.1
    subst hn
    have : xs2 = [] := List.eq_nil_of_length_eq_zero (by simpa using hl)
    subst this
    refine wpList_append_own_none hgd s x t ho base e i size ht hi v n xs hs hown (hx.trans hv) ?_
    exact h _ _ (by simpa using hown) (World.grownBy.refl _ _)
  · subst hv
    refine wpList_append_own w hgd s x t ho base e i z size bytes ht hi hz hsize hby hzs hsz v n xs hs hown ⟨g, 0, none⟩ n2 cap xs2 hx hown2.1 ?_ h1 h63 hbytes hbase (fun v' w' a1 a2 _ => h v' w' a1 a2)
    exact hown2.cells rfl
theorem made_bools (n : Nat) : (madeCells #[Value.bool false] n).toList = (flags n 1).map Value.bool := by
  rw [flags_zero]
  apply List.ext_getElem?
  intro j
  simp only [madeCells, List.getElem?_replicate]
  by_cases h : j < n
  · simp only [h, if_pos]; simp [h, Nat.mod_one]
  · simp [h]
theorem blocks_none {ts : List Tk} {n : Nat} {m : Int} : nextI (⟨0, 0, 0, -1, m⟩ :: ts) (false :: List.replicate n true) m 0 = -1 := by
  simp [nextI]
theorem blocks_first {ts : List Tk} {cs : List Bool} {t : Tk} {m : Int} (h : t.state = 0) : nextI (t :: ts) (true :: cs) m 0 = 0 := by
  simp [nextI, h]

set_option maxHeartbeats 3200000 in
theorem ArbiterBlocks_walk (a0 : Option Addr) (len0 cap0 : Nat) (z0 : List Int) (a1 : Int) (w : World)
    (w0 : IsRow .i64 w a0 len0 cap0 z0) (w1 : (Lit.int .i64 a1).wf = true) :
    Calls Try.prog 3 #[.slice a0 len0 cap0, .int .i64 a1] w fun e w' => e = .returned (.bool true) ∧ Below w.heap.size w w' := by
  have r0 := Lib.hid w0
  obtain ⟨ba, bb⟩ := wf_i64 w1
  obtain ⟨i0, hi, hz0, hz1, hz2⟩ := info_parts Try.info_task
  have hi' := Lib.hid hi
  have hz0' := Lib.hid hz0
  have hz1' := Lib.hid hz1
  have hz2' := Lib.hid hz2
  obtain ⟨m, hm, hm5⟩ : ∃ m : Int, m = cut a1 5 ∧ 0 ≤ m ∧ m < 5 := ⟨_, rfl, cut_in a1 5 (by omega)⟩
  have Hm := Lib.hid hm
  obtain ⟨m0, m5⟩ := hm5
  clear w0 w1 hi hz0 hz1 hz2 hm
  go_enter Try.func3, Try.ntmps3
  go_wp2_with fail
  refine (known_any _).mono ?_
  rintro e w1 ⟨rfl, hg1⟩
  go_wp2_with fail
  refine (made_any w1.heap.size 28 a0 len0 cap0 _ 0 _ (tape_new r0.out hg1 _) (by omega)).mono ?_
  rintro e w2 ⟨v, n, ts, k', rfl, hown, hts, hn7, hok, -, -, hg2⟩
  have hG2 := Lib.hid (grown_new (grown_alloc _ hg1) hg2 hg1.size)
  have hown' := Lib.hid hown
  have hts' := Lib.hid hts
  have hok' := Lib.hid hok
  have hb1 := hg1.size
  clear hg1 hg2 r0 hown hts hok
  go_wp2_with fail
  refine (Cut_any _ _ _ ba bb (by omega) (by omega)).mono ?_
  rintro e w' ⟨rfl, rfl⟩
  rw [← Hm.out]
  have hblk := Lib.hid (ownR_block (n := 1) (size := 5) (at_new w' (.cells #[.int .i64 0, .int .i64 0, .int .i64 0, .int .i64 (-1), .int .i64 m] 31)) rfl (by unfold maxLen; omega))
  obtain ⟨a5, cap5, rfl, hnc, hcm, hrow5⟩ := rowIn_owns hown'.out
  have hs2 := hG2.out.size
  have hv1 : validB (⟨0, 0, 0, -1, m⟩ :: ts) = true := by
    have h1 := hts'.out
    have h2 := hok'.out
    simp only [validB, List.length_cons, List.all_cons, Bool.and_eq_true, decide_eq_true_eq, List.all_eq_true]
    exact ⟨by omega, by simp [Tk.okB]; omega, fun t ht => okM_ok (h2 t ht)⟩
  have hv1' := Lib.hid hv1
  clear hrow5 hv1
  go_wp2_with (at_builtin; refine wpList_append_rows rfl _ _ 24 rfl w.heap.size 31 i0 _ 5 40 Try.underlying24 hi'.out hz0'.out hz1'.out hz2'.out rfl (by decide) _ 1 _ rfl (hblk.out.owns (by omega)) _ _ n _ rfl (hown'.out.alloc _) flat_one (by unfold maxLen; omega) (by omega) (by simp; omega) ?_)
  intro q W3 hq hg3
  obtain ⟨g, capq, rfl, hgb, hQ⟩ := ownR_of_owns hq (by omega)
  have hG3 := Lib.hid (grown_new (grown_alloc _ hG2.out) hg3 (by simp; omega))
  have hQ' := Lib.hid hQ
  have hs3 := hG3.out.size
  have hgl := hQ.lt
  obtain ⟨ib, hi, hz0, hz1, hz2⟩ := info_parts Try.info_bool
  have hib := Lib.hid hi
  have hib0 := Lib.hid hz0
  have hib1 := Lib.hid hz1
  have hib2 := Lib.hid hz2
  clear hq hg3 hQ hown' hblk hG2 hi hz0 hz1 hz2 hi' hz0' hz1' hz2'
  go_wp2_with (at_make; refine wpList_make_full _ rfl _ _ 32 rfl w.heap.size 4 ib _ 1 Try.underlying32 hib.out hib0.out hib1.out .i64 .i64 _ _ (1 + n) rfl rfl (by omega) (by omega) (by rw [hib2.out]; omega) (by unfold maxLen; omega) (by omega) ?_)
  intro W4 hC hg4
  rw [made_bools] at hC
  obtain ⟨gc, capc, hce, hgc, hC⟩ := ownR_of_owns hC (by omega)
  simp only [Value.slice.injEq, Option.some.injEq, Addr.mk.injEq] at hce
  obtain ⟨⟨rfl, -, -⟩, -, rfl⟩ := hce
  have hG4 := Lib.hid (grown_trans hG3.out hg4)
  have hQ4 := Lib.hid (hQ'.out.kept hg4 (by simp))
  have hC4 := Lib.hid hC
  have hs4 := hg4.size
  clear hG3 hg4 hQ' hC hib hib0 hib1 hib2
  go_wp2
  go_loopw [8] (fun i wr => ∃ k : Nat, i = .int .i64 k ∧ 1 ≤ k ∧ k ≤ 1 + n ∧ OwnR wr W3.heap.size (1 + n) (1 + n) 4 1 ((flags (1 + n) k).map Value.bool) ∧ OwnR wr g capq (1 + n) 31 5 (flat (⟨0, 0, 0, -1, m⟩ :: ts)) ∧ w.grownBy wr none) (fun i _ => 1 + n - (intOf i).toNat)
  case atStart => exact ⟨1, rfl, by omega, by omega, hC4.out, hQ4.out, hG4.out⟩
  case round =>
    obtain ⟨k, rfl, hk1, hk2, hCr, hQr, hGr⟩ := hrel
    have hCr' := Lib.hid hCr
    have hQr' := Lib.hid hQr
    have hGr' := Lib.hid hGr
    have hsr := hGr.size
    have hcl := hCr.lt
    clear hC4 hQ4 hG4 hCr hQr hGr
    by_cases hk : k = 1 + n
    · subst hk
      rw [Nat.add_comm 1 n, flags_full] at hCr'
      have hCr2 := hCr'.out
      go_wp2_with fail
      refine (ChooseP_ok (some ⟨g, 0, none⟩) (1 + n) capq (⟨0, 0, 0, -1, m⟩ :: ts) (some ⟨W3.heap.size, 0, none⟩) (1 + n) (false :: List.replicate n true) m wr hQr'.out.row (by simp [hts'.out]; omega) hv1'.out (by rw [Nat.add_comm 1 n]; exact hCr2.row) (by omega) (by omega)).mono ?_
      rintro e w5 ⟨rfl, hg5⟩
      rw [blocks_none]
      have hC5 := hCr2.kept hg5 (by simp)
      have hQ5 := Lib.hid (hQr'.out.kept hg5 (by simp))
      have hG5 := Lib.hid (grown_trans hGr'.out hg5)
      have q1 := hC5.cell (i := 0) (v := .bool false) (by simp)
      have q2 := hC5.free 0
      have hs5 := hg5.size
      have hC6 := Lib.hid (hC5.set (i := 0) (.bool true))
      have hQ6 := Lib.hid (hQ5.out.kept (grown_set (p := ⟨W3.heap.size, 0, none⟩) (.bool true) (grown_refl w5 (some W3.heap.size)) (.inr rfl)) (by simp; omega))
      have hG6 := Lib.hid (grown_set (p := ⟨W3.heap.size, 0, none⟩) (.bool true) hG5.out (.inl (by simp; omega)))
      clear hCr' hQr' hGr' hCr2 hC5 hQ5 hG5 hg5
      go_wp2_with fail
      refine (ChooseP_ok (some ⟨g, 0, none⟩) (1 + n) capq (⟨0, 0, 0, -1, m⟩ :: ts) (some ⟨W3.heap.size, 0, none⟩) (1 + n) (true :: List.replicate n true) m _ hQ6.out.row (by simp [hts'.out]; omega) hv1'.out (by rw [Nat.add_comm 1 n]; exact hC6.out.row) (by omega) (by omega)).mono ?_
      rintro e w6 ⟨rfl, hg6⟩
      rw [blocks_first rfl]
      have hG7 := Lib.hid (grown_trans hG6.out hg6)
      clear hC6 hQ6 hG6 hg6
      go_wp2
      go_ret
      exact ⟨rfl, grown_below hG7.out⟩
    · have h1 : k < 1 + n := by omega
      have q1 := hCr'.out.cell (i := k) (v := .bool false) (by simp [flags, h1])
      have q2 := hCr'.out.free k
      go_wp2
      go_roundw
      case rel =>
        refine ⟨k + 1, by go_num, by omega, by omega, ?_, hQr'.out.kept (grown_set (p := ⟨W3.heap.size, k, none⟩) (.bool true) (grown_refl wr (some W3.heap.size)) (.inr rfl)) (by simp; omega), grown_set (p := ⟨W3.heap.size, k, none⟩) (.bool true) hGr'.out (.inl (by simp; omega))⟩
        rw [← flags_set hk1]
        exact hCr'.out.set _
      case measure => simp [intOf]; omega
end Go.Proofs.Ytfdnbkclpnaijaa
