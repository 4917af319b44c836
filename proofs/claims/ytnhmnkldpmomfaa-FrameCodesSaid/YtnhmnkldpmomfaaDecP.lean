/- The contract of frame.Decode. -/
import Derived.Test.YtnhmnkldpmomfaaFrLaw
import Derived.Test.YtnhmnkldpmomfaaScope
namespace Go.Proofs.Ytnhmnkldpmomfaa
open Go.RowKit
set_option linter.unusedVariables false

/-- A byte put behind a number. -/
theorem or_byte {a y : Int} (h0 : 0 ≤ a) (h1 : a * 256 ≤ 18446744073709551615) (h2 : 0 ≤ y) (h3 : y ≤ 255) : bits BinOp.or IntKind.u64 (a * 256) y = a * 256 + y :=
  bits_join .u64 64 (by decide) (fun n g0 g1 => by rw [IntKind.wrap_u64]; omega) 8 (a * 256) y (by omega) (by omega) (by omega) h2 (by omega) (by omega)

/-- The number of the bytes 2 to k - 1. -/
def sq (xs : List Int) : Nat → Int
  | 0 => 0
  | k + 1 => if k < 2 then 0 else sq xs k * 256 + xs.getD k 0
theorem sq_two (xs : List Int) : sq xs 2 = 0 := by unfold sq; simp
theorem sq_succ (xs : List Int) {k : Nat} (h : 2 ≤ k) : sq xs (k + 1) = sq xs k * 256 + xs.getD k 0 := by
  rw [sq, if_neg (by omega)]
theorem sq_bd {xs : List Int} (hx : ∀ i, 0 ≤ xs.getD i 0 ∧ xs.getD i 0 ≤ 255) {k : Nat} (h2 : 2 ≤ k) (h9 : k ≤ 9) : 0 ≤ sq xs k ∧ sq xs k ≤ 72057594037927935 := by
  have e2 := sq_two xs
  have e3 := sq_succ xs (k := 2) (by omega)
  have e4 := sq_succ xs (k := 3) (by omega)
  have e5 := sq_succ xs (k := 4) (by omega)
  have e6 := sq_succ xs (k := 5) (by omega)
  have e7 := sq_succ xs (k := 6) (by omega)
  have e8 := sq_succ xs (k := 7) (by omega)
  have e9 := sq_succ xs (k := 8) (by omega)
  have h2' := hx 2
  have h3' := hx 3
  have h4' := hx 4
  have h5' := hx 5
  have h6' := hx 6
  have h7' := hx 7
  have h8' := hx 8
  simp only [Nat.reduceAdd] at e3 e4 e5 e6 e7 e8 e9
  have hk : k = 2 ∨ k = 3 ∨ k = 4 ∨ k = 5 ∨ k = 6 ∨ k = 7 ∨ k = 8 ∨ k = 9 := by omega
  rcases hk with rfl | rfl | rfl | rfl | rfl | rfl | rfl | rfl <;> omega
theorem sq_or {xs : List Int} (hx : ∀ i, 0 ≤ xs.getD i 0 ∧ xs.getD i 0 ≤ 255) {k : Nat} (h2 : 2 ≤ k) (h9 : k ≤ 9) : bits BinOp.or IntKind.u64 (sq xs k * 256) (xs.getD k 0) = sq xs (k + 1) := by
  have := sq_bd hx h2 h9
  rw [or_byte this.1 (by omega) (hx k).1 (hx k).2, sq_succ xs h2]

/-- The frame that twelve bytes tell. -/
def frOf (xs : List Int) : Fr := ⟨xs.getD 0 0, xs.getD 1 0, sq xs 10, xs.getD 10 0, xs.getD 11 0⟩

/-- What holds at the jumps of Decode. -/
def decJ (b off cap B1 B2 : Nat) (xs : List Int) (w : World) (n l : Nat) (a : Act) (w' : World) : Prop :=
  w.grownBy w' none ∧ w'.heap[B1]? = some (.cells #[.int .i64 0, .int .i64 0, .int .u64 0, .int .i64 0, .int .i64 0] 26 (0, 0)) ∧
  ((l = 0 ∧ ∃ k : Nat, 3 ≤ k ∧ k ≤ 9 ∧ n + k = 20 ∧ w'.heap[B2]? = some (.cells #[.int .i64 (xs.getD 0 0), .int .i64 (xs.getD 1 0), .int .u64 (sq xs k), .int .i64 (xs.getD 10 0), .int .i64 (xs.getD 11 0)] 26 (0, 0)) ∧
    ∃ v1 v6 v7 v8 v9 v10 v11 v12 v13 v14 v15 v16 v17 v18 v19 v20 v21 v22 v23 v24 v25 v26 v27 v28 v29 v30 v31 v32 v33 v34 v35 v36 v37 v38 v39 v40 v41 v42 v43 v44 v45 v46 v47 v48 v49 v50 v51 v52 v53 v54 : Value, a = { tmps := #[.slice (some ⟨b, off, none⟩) 12 cap, v1, .pointer (some ⟨B1, 0, none⟩), .int .i64 0, .pointer (some ⟨B2, 0, none⟩), .int .i64 k, v6, v7, v8, v9, v10, v11, v12, v13, v14, v15, v16, v17, v18, v19, v20, v21, v22, v23, v24, v25, v26, v27, v28, v29, v30, v31, v32, v33, v34, v35, v36, v37, v38, v39, v40, v41, v42, v43, v44, v45, v46, v47, v48, v49, v50, v51, v52, v53, v54], defers := [] }) ∨
  (l = 1 ∧ w'.heap[B2]? = some (.cells #[.int .i64 (xs.getD 0 0), .int .i64 (xs.getD 1 0), .int .u64 (sq xs 10), .int .i64 (xs.getD 10 0), .int .i64 (xs.getD 11 0)] 26 (0, 0)) ∧
    ∃ v0 v1 v5 v6 v7 v8 v9 v10 v11 v12 v13 v14 v15 v16 v17 v18 v19 v20 v21 v22 v23 v24 v25 v26 v27 v28 v29 v30 v31 v32 v33 v34 v35 v36 v37 v38 v39 v40 v41 v42 v43 v44 v45 v46 v47 v48 v49 v50 v51 v52 v53 v54 : Value, a = { tmps := #[v0, v1, .pointer (some ⟨B1, 0, none⟩), .int .i64 0, .pointer (some ⟨B2, 0, none⟩), v5, v6, v7, v8, v9, v10, v11, v12, v13, v14, v15, v16, v17, v18, v19, v20, v21, v22, v23, v24, v25, v26, v27, v28, v29, v30, v31, v32, v33, v34, v35, v36, v37, v38, v39, v40, v41, v42, v43, v44, v45, v46, v47, v48, v49, v50, v51, v52, v53, v54], defers := [] }))

set_option maxHeartbeats 400000 in
theorem DecodeP_short (a : Option Addr) (len cap : Nat) (h : len ≠ 12) (w : World) (hb : len ≤ 9223372036854775807) :
    Calls Try.prog 12 #[.slice a len cap] w fun e w' => e = .returned (.tuple #[(Fr.mk 0 0 0 0 0).val, .int .i64 21]) ∧ w.grownBy w' none := by
  have hd : ((len : Int) == 12) = false := by simp; omega
  have hd' : ((len : Int) != 12) = true := by simp [bne]; omega
  unfold Fr.val
  go_enter Try.func12, Try.ntmps12
  go_wp2
  refine wp_scope_straight ?_
  go_wp2
  rw [Exit.noGoto_ret]
  refine bodyPost_ret (v := .tuple #[.agg #[.int .i64 0, .int .i64 0, .int .u64 0, .int .i64 0, .int .i64 0], .int .i64 21]) (by simp only [results, Try.results12]; go_simp) rfl ⟨rfl, grown_alloc _ (grown_refl w _)⟩

set_option maxHeartbeats 400000 in
theorem DecodeP_kind (b off cap : Nat) (x0 : Int) (w : World) (c0 : w.cell? ⟨b, off, none⟩ = some (.int .u8 x0)) (l0 : 0 ≤ x0) (u0 : x0 ≤ 255) (hk : knownB x0 = false) :
    Calls Try.prog 12 #[.slice (some ⟨b, off, none⟩) 12 cap] w fun e w' => e = .returned (.tuple #[(Fr.mk 0 0 0 0 0).val, .int .i64 22]) ∧ w.grownBy w' none := by
  unfold Fr.val
  have hlt := lt_of_cell c0
  simp only at hlt
  go_enter Try.func12, Try.ntmps12
  go_wp2
  refine wp_scope_straight ?_
  go_wp2_with (go_at_call 17; refine (knownP _ _).mono ?_; rintro e w' ⟨rfl, rfl⟩)
  rw [Exit.noGoto_ret]
  refine bodyPost_ret (v := .tuple #[.agg #[.int .i64 0, .int .i64 0, .int .u64 0, .int .i64 0, .int .i64 0], .int .i64 22]) (by simp only [results, Try.results12]; go_simp) rfl ⟨rfl, grown_alloc _ (grown_refl w _)⟩

set_option maxHeartbeats 1600000 in
theorem DecodeP_12 (b off cap : Nat) (xs : List Int) (w : World)
    (hc : ∀ i, i < 12 → w.cell? ⟨b, off + i, none⟩ = some (.int .u8 (xs.getD i 0))) (hx : ∀ i, 0 ≤ xs.getD i 0 ∧ xs.getD i 0 ≤ 255)
    (hk : knownB (xs.getD 0 0) = true) (vb : Bool) (hv : (frOf xs).okB = vb) :
    Calls Try.prog 12 #[.slice (some ⟨b, off, none⟩) 12 cap] w fun e w' => e = .returned (.tuple #[if vb then (frOf xs).val else (Fr.mk 0 0 0 0 0).val, .int .i64 (if vb then 0 else 19)]) ∧ w.grownBy w' none := by
  have hvc : ∀ w : World, Calls Try.prog 14 #[(frOf xs).val] w fun e w' => e = .returned (.bool vb) ∧ w.grownBy w' none := fun w => by
    have h9 := sq_bd hx (k := 9) (by omega) (by omega)
    have e10 := sq_succ xs (k := 9) (by omega)
    have hx9 := hx 9
    simp only [Nat.reduceAdd] at e10
    have := ValidP (frOf xs) ⟨by show 0 ≤ sq xs 10; omega, by show sq xs 10 ≤ _; omega⟩ w
    rw [hv] at this; exact this
  have c0 := hc 0 (by omega)
  have c1 := hc 1 (by omega)
  have c2 := hc 2 (by omega)
  have c10 := hc 10 (by omega)
  have c11 := hc 11 (by omega)
  have hlt := lt_of_cell c0
  simp only at hlt
  simp only [Nat.add_zero] at c0
  have hcH := Lib.hid hc
  have hxH := Lib.hid hx
  have H3 : Hid (sq xs 3 = xs.getD 2 0) := by
    have := sq_succ xs (k := 2) (by omega)
    rw [sq_two] at this
    exact this.trans (by omega)
  obtain ⟨l0, u0⟩ := hx 0
  obtain ⟨l1, u1⟩ := hx 1
  obtain ⟨l2, u2⟩ := hx 2
  obtain ⟨l10, u10⟩ := hx 10
  obtain ⟨l11, u11⟩ := hx 11
  clear hc hx hv
  have hPost := Lib.hid (show ∀ (e : Ending) (w' : World), (e = .returned (.tuple #[if vb then (frOf xs).val else (Fr.mk 0 0 0 0 0).val, .int .i64 (if vb then 0 else 19)]) ∧ w.grownBy w' none) → (e = .returned (.tuple #[if vb then (frOf xs).val else (Fr.mk 0 0 0 0 0).val, .int .i64 (if vb then 0 else 19)]) ∧ w.grownBy w' none) from fun _ _ h => h)
  have e2 : bits BinOp.or IntKind.u64 0 (xs.getD 2 0) = xs.getD 2 0 := by simpa using or_byte (a := 0) (y := xs.getD 2 0) (by omega) (by omega) l2 u2
  generalize hx0 : xs.getD 0 0 = x0 at *
  generalize hx1 : xs.getD 1 0 = x1 at *
  generalize hx2 : xs.getD 2 0 = x2 at *
  generalize hx10 : xs.getD 10 0 = x10 at *
  generalize hx11 : xs.getD 11 0 = x11 at *
  have X0 := Lib.hid hx0
  have X1 := Lib.hid hx1
  have X10 := Lib.hid hx10
  have X11 := Lib.hid hx11
  have hvcH := Lib.hid hvc
  clear hx0 hx1 hx2 hx10 hx11 hvc
  go_enter Try.func12, Try.ntmps12
  go_wp2
  refine wp_scope_many (decJ b off cap w.heap.size (w.heap.size + 1) xs w) ?_ ?_
  · go_wp2_with (go_at_call 17; refine (knownP _ _).mono ?_; rintro e w' ⟨rfl, rfl⟩)
    go_region
    go_wp2
    go_step3
    go_wp2
    go_region
    go_wp2
    go_step3
    (try simp only [Exit.then])
    refine jumpsTo_goto ⟨17, grown_drew (grown_drew (grown_alloc _ (grown_alloc _ (grown_refl w _)))), at_alloc _ (at_new w _), .inl ⟨rfl, 3, by omega, by omega, by omega, ?_, ⟨_, _, _, _, _, _, _, _, _, _, _, _, _, _, _, _, _, _, _, _, _, _, _, _, _, _, _, _, _, _, _, _, _, _, _, _, _, _, _, _, _, _, _, _, _, _, _, _, _, _, rfl⟩⟩⟩
    rw [X0.out, X1.out, X10.out, X11.out, H3.out]
    have hN := at_new (w.alloc (.cells #[.int .i64 0, .int .i64 0, .int .u64 0, .int .i64 0, .int .i64 0] 26)) (.cells #[.int .i64 x0, .int .i64 x1, .int .u64 x2, .int .i64 x10, .int .i64 x11] 26)
    simp only [World.size_alloc] at hN
    exact hN
  · rintro n l a w' ⟨hg, hB1, ⟨rfl, k, hk3, hk9, hn, hB2, v1, v6, v7, v8, v9, v10, v11, v12, v13, v14, v15, v16, v17, v18, v19, v20, v21, v22, v23, v24, v25, v26, v27, v28, v29, v30, v31, v32, v33, v34, v35, v36, v37, v38, v39, v40, v41, v42, v43, v44, v45, v46, v47, v48, v49, v50, v51, v52, v53, v54, rfl⟩ | ⟨rfl, hB2, v0, v1, v5, v6, v7, v8, v9, v10, v11, v12, v13, v14, v15, v16, v17, v18, v19, v20, v21, v22, v23, v24, v25, v26, v27, v28, v29, v30, v31, v32, v33, v34, v35, v36, v37, v38, v39, v40, v41, v42, v43, v44, v45, v46, v47, v48, v49, v50, v51, v52, v53, v54, rfl⟩⟩
    · refine ⟨_, rfl, ?_⟩
      have hck := (grown_cell hg (lt_of_cell (hcH.out k (by omega))) (by simp)).trans (hcH.out k (by omega))
      have E := sq_or hxH.out (k := k) (by omega) hk9
      obtain ⟨ls, us⟩ := sq_bd hxH.out (k := k) (by omega) hk9
      obtain ⟨lx, ux⟩ := hxH.out k
      have r1 := (rules_at hB1).1
      have r1f := (rules_at hB1).2
      have r2 := (rules_at hB2).1
      have r2f := (rules_at hB2).2
      have hB1' := Lib.hid hB1
      have hB2' := Lib.hid hB2
      have hg' := Lib.hid hg
      have hlt' : b < w'.heap.size := by have := hg.size; omega
      clear hB1 hB2 hg c0 c1 c2 c10 c11 e2 l0 u0 l1 u1 l2 u2 l10 u10 l11 u11
      generalize xs.getD k 0 = x at hck E lx ux
      generalize hs : sq xs k = s at r2 hB2' E ls us
      generalize hs' : sq xs (k + 1) = s' at E
      have HS := Lib.hid hs'
      clear hs hs'
      by_cases h9 : k = 9
      · subst h9
        go_wp2
        go_region
        go_wp2
        go_step3
        (try simp only [Exit.then])
        refine jumpsTo_goto ⟨0, by omega, grown_drew (grown_set _ hg'.out (.inl (by simp))), at_set_other _ hB1'.out (by simp), .inr ⟨rfl, ?_, ⟨_, _, _, _, _, _, _, _, _, _, _, _, _, _, _, _, _, _, _, _, _, _, _, _, _, _, _, _, _, _, _, _, _, _, _, _, _, _, _, _, _, _, _, _, _, _, _, _, _, _, _, _, rfl⟩⟩⟩
        rw [HS.out]
        refine (at_set (j := 2) _ hB2'.out).trans ?_
        simp
      · have h8 : k ≤ 8 := by omega
        have kb : ((k : Int) == 9) = false := by simp; omega
        clear h9 hk9
        go_wp2
        go_region
        go_wp2
        go_step3
        (try simp only [Exit.then])
        refine jumpsTo_goto ⟨n - 1, by omega, grown_drew (grown_set _ hg'.out (.inl (by simp))), at_set_other _ hB1'.out (by simp), .inl ⟨rfl, k + 1, by omega, by omega, by omega, ?_, ⟨_, _, _, _, _, _, _, _, _, _, _, _, _, _, _, _, _, _, _, _, _, _, _, _, _, _, _, _, _, _, _, _, _, _, _, _, _, _, _, _, _, _, _, _, _, _, _, _, _, _, rfl⟩⟩⟩
        rw [HS.out]
        refine (at_set (j := 2) _ hB2'.out).trans ?_
        simp
    · refine ⟨_, rfl, ?_⟩
      have hvc2 := hvcH.out
      have hval : Hid ((frOf xs).val = .agg #[.int .i64 x0, .int .i64 x1, .int .u64 (sq xs 10), .int .i64 x10, .int .i64 x11]) := by
        show Fr.val (frOf xs) = _
        simp only [Fr.val, frOf, X0.out, X1.out, X10.out, X11.out]
      rw [hval.out] at hvc2
      rw [X0.out, X1.out, X10.out, X11.out] at hB2
      generalize sq xs 10 = S at hB2 hvc2 hval
      have hvc2' := Lib.hid hvc2
      have r1 := (rules_at hB1).1
      have r1f := (rules_at hB1).2
      have r2 := (rules_at hB2).1
      have hlt1 := lt_of_at hB1
      have hlt2 := lt_of_at hB2
      have hB1' := Lib.hid hB1
      have hB2' := Lib.hid hB2
      have hg' := Lib.hid hg
      clear hB1 hB2 hg c0 c1 c2 c10 c11 e2 l0 u0 l1 u1 l2 u2 l10 u10 l11 u11 hvc2 hvcH
      go_wp2_with fail
      refine (hvc2'.out _).mono ?_
      rintro e w1 ⟨rfl, hg1⟩
      have q1 := (rules_at (grown_at hg1 hB1'.out (by simp))).1
      have q1f := (rules_at (grown_at hg1 hB1'.out (by simp))).2
      have q2 := (rules_at (grown_at hg1 hB2'.out (by simp))).1
      have hG := Lib.hid (grown_trans hg'.out hg1)
      clear r1 r1f r2 hvc2' hg1
      cases vb
      · go_wp2
        refine jumpsTo_ret ?_
        refine bodyPost_ret (v := .tuple #[.agg #[.int .i64 0, .int .i64 0, .int .u64 0, .int .i64 0, .int .i64 0], .int .i64 19]) (by simp only [results, Try.results12]; go_simp) rfl ⟨rfl, ?_⟩
        repeat (refine grown_set _ ?_ (by simp))
        exact hG.out
      · go_wp2
        refine jumpsTo_ret ?_
        refine bodyPost_ret (v := .tuple #[.agg #[.int .i64 x0, .int .i64 x1, .int .u64 S, .int .i64 x10, .int .i64 x11], .int .i64 0]) (by simp only [results, Try.results12]; go_simp) rfl ⟨by rw [if_pos rfl, if_pos rfl, hval.out], ?_⟩
        repeat (refine grown_set _ ?_ (by simp))
        exact hG.out
end Go.Proofs.Ytnhmnkldpmomfaa
