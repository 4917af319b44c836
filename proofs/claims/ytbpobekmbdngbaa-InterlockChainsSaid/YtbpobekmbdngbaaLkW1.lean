/- The walk of InterlockChains. -/
import Derived.Test.YtbpobekmbdngbaaLkMade
namespace Go.Proofs.Ytbpobekmbdngbaa
open Go.RowKit
set_option linter.unusedVariables false

/-! ### The plain law of chains -/
def atI (r : Int) (out : List Int) (i : Nat) : Int := if i = 0 then r else out.getD (i - 1) 0
theorem atI_succ {r y : Int} {out : List Int} {i : Nat} (h : out[i]? = some y) : atI r out (i + 1) = y := by
  unfold atI
  rw [if_neg (by omega), Nat.add_sub_cancel, List.getD_eq_getElem?_getD, h]; rfl
theorem atI_append {r : Int} {out : List Int} {y : Int} {i : Nat} (h : i ≤ out.length) : atI r (out ++ [y]) i = atI r out i := by
  unfold atI
  by_cases h0 : i = 0
  · rw [if_pos h0, if_pos h0]
  · rw [if_neg h0, if_neg h0, List.getD_eq_getElem?_getD, List.getD_eq_getElem?_getD, List.getElem?_append_left (by omega)]
def Stop (l : Lk) (robot r : Int) (out : List Int) : Prop := waitsL l r < 0 ∨ oAt l (waitsL l r).toNat = -1 ∨ oAt l (waitsL l r).toNat = robot ∨ oAt l (waitsL l r).toNat ∈ out
structure ChLink (l : Lk) (robot r : Int) (out : List Int) : Prop where
  cur : r = atI robot out out.length
  nodup : out.Nodup
  rob : ∀ x ∈ out, 0 ≤ x ∧ x < 8
  link : ∀ (i : Nat) (y : Int), out[i]? = some y → ∃ k : Nat, waitsL l (atI robot out i) = k ∧ l.own[k]? = some y ∧ y ≠ robot ∧ y ∉ out.take i
theorem chain_go {l : Lk} {robot : Int} (hv : VL l) (m : Nat) (r : Int) (out : List Int) (h : ChLink l robot r out) (hm : 9 - out.length = m) : ∃ r', ChLink l robot r' (chainGo l robot m r out) ∧ Stop l robot r' (chainGo l robot m r out) := by
  induction m generalizing r out with
  | zero =>
    have := pig 8 out h.nodup h.rob
    omega
  | succ m ih =>
    rw [chainGo]
    by_cases h1 : waitsL l r < 0
    · rw [if_pos h1]; exact ⟨r, h, .inl h1⟩
    · rw [if_neg h1]
      by_cases h2 : oAt l (waitsL l r).toNat = -1 ∨ oAt l (waitsL l r).toNat = robot ∨ oAt l (waitsL l r).toNat ∈ out
      · rw [if_pos h2]; exact ⟨r, h, .inr h2⟩
      · rw [if_neg h2]
        obtain ⟨k, hk⟩ : ∃ k : Nat, waitsL l r = k := ⟨(waitsL l r).toNat, by omega⟩
        rw [hk, Int.toNat_natCast] at h2 ⊢
        have hkl : k < l.own.length := by
          rcases waits_spec l r with ⟨hw, _⟩ | ⟨j, x, hw, hx, _⟩
          · omega
          · have := (List.getElem?_eq_some_iff.1 hx).1
            have := hv.len
            omega
        obtain ⟨o, ho⟩ : ∃ o, l.own[k]? = some o := ⟨_, List.getElem?_eq_getElem hkl⟩
        rw [oAt_of ho] at h2 ⊢
        have hob := hv.own o (List.mem_of_getElem? ho)
        have a1 : o ≠ -1 := fun e => h2 (.inl e)
        have a2 : o ≠ robot := fun e => h2 (.inr (.inl e))
        have a3 : o ∉ out := fun e => h2 (.inr (.inr e))
        refine ih o (out ++ [o]) ⟨?_, ?_, fun x hx => ?_, fun i y hi => ?_⟩ (by simp; omega)
        · rw [List.length_append]
          exact (atI_succ (by rw [List.getElem?_append_right (Nat.le_refl _), Nat.sub_self]; rfl)).symm
        · rw [List.nodup_append]
          exact ⟨h.nodup, by simp, fun a ha b hb e => a3 (by simp at hb; rw [← hb, ← e]; exact ha)⟩
        · rcases List.mem_append.1 hx with hx | hx
          · exact h.rob x hx
          · simp at hx; subst hx; omega
        · by_cases hil : i < out.length
          · rw [List.getElem?_append_left hil] at hi
            rw [atI_append (by omega), List.take_append_of_le_length (by omega)]
            exact h.link i y hi
          · have hlt := (List.getElem?_eq_some_iff.1 hi).1
            simp at hlt
            obtain rfl : i = out.length := by omega
            rw [List.getElem?_append_right (Nat.le_refl _), Nat.sub_self] at hi
            obtain rfl : o = y := by simpa using hi
            refine ⟨k, ?_, ho, a2, ?_⟩
            · rw [atI_append (Nat.le_refl _), ← h.cur, hk]
            · rw [List.take_append_of_le_length (Nat.le_refl _), List.take_length]; exact a3
theorem chain_ok {l : Lk} {robot : Int} (hv : VL l) : ∃ r', ChLink l robot r' (chainL l robot) ∧ Stop l robot r' (chainL l robot) :=
  chain_go hv 9 robot [] ⟨rfl, List.nodup_nil, by simp, by simp⟩ rfl
theorem errR_good {l : Lk} {r : Int} (hv : VL l) (h : 0 ≤ r ∧ r < 8) : errR l r = 0 := errR_ok (valid_iff.2 hv) (by omega)
theorem ChLink.at {l : Lk} {robot r : Int} {out : List Int} (h : ChLink l robot r out) (h0 : 0 ≤ robot ∧ robot < 8) {i : Nat} (hi : i ≤ out.length) : 0 ≤ atI robot out i ∧ atI robot out i < 8 := by
  cases i with
  | zero => exact h0
  | succ i =>
    obtain ⟨y, hy⟩ : ∃ y, out[i]? = some y := ⟨_, List.getElem?_eq_getElem (by omega)⟩
    rw [atI_succ hy]
    exact h.rob y (List.mem_of_getElem? hy)

set_option maxRecDepth 100000 in
set_option maxHeartbeats 12800000 in
theorem InterlockChains_walk (a0 : Option Addr) (len0 cap0 : Nat) (z0 : List Int) (a1 : Int) (w : World) (w0 : IsRow .i64 w a0 len0 cap0 z0) (hw1 : (Lit.int .i64 a1).wf = true) :
    Calls Try.prog 3 #[.slice a0 len0 cap0, .int .i64 a1] w fun e w' => e = .returned (.bool true) ∧ Below w.heap.size w w' := by
  have r0 := Lib.hid w0
  obtain ⟨wf1, wf2⟩ := wf_i64 hw1
  obtain ⟨cb1, cb2⟩ := cut_in a1 8 (by omega)
  clear w0 hw1
  go_enter Try.func3, Try.ntmps3
  go_wp2_with fail
  refine (known_any _).mono ?_
  rintro e w1 ⟨rfl, hg1⟩
  go_wp2_with fail
  refine (made_any w1.heap.size 30 a0 len0 cap0 _ 0 _ (tape_new r0.out hg1 _) (by omega)).mono ?_
  rintro e w2 ⟨v, l, kt, rfl, hL, hv, hT, hkt, hg2⟩
  obtain ⟨b1, n1, c1, b2, n2, c2, rfl, hR⟩ := hL.plain
  have G2 := Lib.hid (grown_new (grown_trans hg1 (grown_alloc _ (grown_refl w1 none))) hg2 hg1.size)
  have V := Lib.hid hv
  obtain ⟨l1, l2, m1, m2⟩ := hR.len
  have h12 : n2 = n1 := by have := hv.len; omega
  subst h12
  have L1 := Lib.hid l1
  have L2 := Lib.hid l2
  have K3 := Lib.hid (LkR.kept hR (grown_alloc (.cells #[.slice b1 n2 c1, .slice b2 n2 c2] 26) (grown_refl w2 none)))
  have B3 := Lib.hid (at_new w2 (.cells #[.slice b1 n2 c1, .slice b2 n2 c2] 26))
  have G3 := Lib.hid (grown_alloc (.cells #[.slice b1 n2 c1, .slice b2 n2 c2] 26) G2.out)
  obtain ⟨b5, hb5⟩ : ∃ b, w2.heap.size = b := ⟨_, rfl⟩
  obtain ⟨X, hX⟩ : ∃ X, X = w2.alloc (.cells #[.slice b1 n2 c1, .slice b2 n2 c2] 26) := ⟨_, rfl⟩
  clear hg1 hL hT hg2 hR G2 hv l1 l2
  go_upto_region 4 with fail
  rw [← hX] at K3 B3 G3 ⊢
  rw [hb5] at B3
  try rw [hb5]
  clear hX hb5
  have p1 := (rules_at B3.out).1
  have p3 := lt_of_at B3.out
  go_wp2_with (go_at_call 8; refine (Cut_any a1 8 _ wf1 wf2 (by omega) (by omega)).mono ?_; rintro e w' ⟨rfl, hw'⟩; rw [hw'])
  clear hw'
  obtain ⟨r, hr⟩ : ∃ r, cut a1 8 = r := ⟨_, rfl⟩
  rw [hr] at cb1 cb2 ⊢
  clear hr
  refine (Chain_any _ l r _ ⟨_, _, _, _, _, _, rfl, K3.out⟩).mono ?_
  have ER := Lib.hid (errR_good V.out ⟨cb1, cb2⟩)
  rw [ER.out, show chainV l r = chainL l r from by unfold chainV; rw [if_pos ER.out]]
  rintro e w4 ⟨v, rfl, hO, hg⟩
  obtain ⟨r', hC, hS⟩ := chain_ok (l := l) (robot := r) V.out
  obtain ⟨out, hout⟩ : ∃ out, chainL l r = out := ⟨_, rfl⟩
  rw [hout] at hO hC hS
  clear hout
  have C := Lib.hid hC
  have S := Lib.hid hS
  have hol := pig 8 out hC.nodup hC.rob
  obtain ⟨A, cc, rfl, e1, e2, e3, hRW⟩ := sliceIn_owns hO
  unfold maxLen at e2
  have F0 : Hid (LkR none w4 b1 n2 c1 b2 n2 c2 l ∧ w4.heap[b5]? = some (.cells #[.slice b1 n2 c1, .slice b2 n2 c2] 26 (0, 0)) ∧ w.grownBy w4 none ∧ RowIn w4 A out.length 1 (ints out)) := Lib.hid ⟨(keep hg K3).out, grown_at hg B3.out (by simp), grown_trans G3.out hg, hRW⟩
  obtain ⟨n, hn⟩ : ∃ n, out.length = n := ⟨_, rfl⟩
  have LN := Lib.hid hn
  rw [hn] at hol F0 e1
  try rw [hn]
  clear hO hC hS hg hRW K3 B3 G3 p1 p3 hn
  go_wp2_with fail
  go_loopw [9, 10, 11, 12] (fun at_ i _ _ wr => ∃ k : Nat, k ≤ n ∧ i = .int .i64 k ∧ at_ = .int .i64 (atI r out k) ∧ (LkR none wr b1 n2 c1 b2 n2 c2 l ∧ wr.heap[b5]? = some (.cells #[.slice b1 n2 c1, .slice b2 n2 c2] 26 (0, 0)) ∧ w.grownBy wr none ∧ RowIn wr A n 1 (ints out))) (fun _ i _ _ _ => n + 1 - (intOf i).toNat)
  case atStart => exact ⟨0, by omega, rfl, rfl, F0.out⟩
  case round =>
    obtain ⟨k, hk, rfl, rfl, hF⟩ := hrel
    have F := Lib.hid hF
    have p1 := (rules_at hF.2.1).1
    have p3 := lt_of_at hF.2.1
    have hk' : (k : Int) ≤ n := by omega
    have hA := C.out.at ⟨cb1, cb2⟩ (i := k) (by rw [LN.out]; exact hk)
    have ER2 := Lib.hid (errR_good V.out hA)
    clear hF F0
    go_wp2_with fail
    refine (Waits_any _ l (atI r out k) _ ⟨_, _, _, _, _, _, rfl, F.out.1⟩).mono ?_
    rw [ER2.out, show waitsV l (atI r out k) = waitsL l (atI r out k) from by unfold waitsV; rw [if_pos ER2.out]]
    rintro e w5 ⟨rfl, hg⟩
    have F2 := keep hg F
    clear hg F p1 p3
    have p1 := (rules_at F2.out.2.1).1
    have p3 := lt_of_at F2.out.2.1
    have hwl : waitsL l (atI r out k) < n2 := by
      rcases waits_spec l (atI r out k) with ⟨hw, _⟩ | ⟨j, x, hw, hx, _⟩
      · omega
      · have := (List.getElem?_eq_some_iff.1 hx).1
        rw [L2.out] at this
        omega
    by_cases hkn : k < n
    · obtain ⟨y, hy⟩ : ∃ y, out[k]? = some y := ⟨_, List.getElem?_eq_getElem (by rw [LN.out]; exact hkn)⟩
      obtain ⟨c, hw, ho, hyr, hyt⟩ := C.out.link k y hy
      obtain ⟨x1, o1, rfl, zx1, d1⟩ := F2.out.1.1.1.1.int ho
      obtain ⟨x2, o2, rfl, zx2, d2⟩ := F2.out.2.2.2.int hy
      have SU := Lib.hid (atI_succ (r := r) hy)
      have RP : Hid (RowIn w5 (some ⟨x2, o2, none⟩) k 1 (ints (out.take k))) := Lib.hid (by
        have := F2.out.2.2.2.part 0 k (by omega)
        rw [Nat.zero_mul, Nat.add_zero, Nat.mul_one, List.drop_zero] at this
        simpa [ints, List.map_take] using this)
      have HT := Lib.hid hyt
      rw [hw] at hwl ⊢
      have hk1 : (k : Int) < n := by omega
      have hc2 : ¬ ((n2 : Int) ≤ c) := by omega
      have hkc : (k : Int) ≤ cc := by omega
      have t1 : (y == r) = false := beq_eq_false_iff_ne.2 hyr
      have t2 : ((k : Int) == n) = false := beq_eq_false_iff_ne.2 (by omega)
      have hcl : (c : Int) < n2 := hwl
      have hc0 : decide ((c : Int) < 0) = false := by simp
      clear hw ho hy hyr hyt
      go_upto_region 17 with fail
      have y0 := after_at F2.out.2.1
      have y1 : ∀ x : After w5, x.w.cell? ⟨x1, o1 + c, none⟩ = some (.int .i64 y) := fun x => (grown_cell x.grown zx1 (by simp)).trans d1
      have y2 : ∀ x : After w5, x.w.cell? ⟨x2, o2 + k, none⟩ = some (.int .i64 y) := fun x => (grown_cell x.grown zx2 (by simp)).trans d2
      have HA : Hid (∀ x : After w5, Calls Try.prog 11 #[.slice (some ⟨x2, o2, none⟩) k cc, .int .i64 y] x.w fun e w' => e = .returned (.bool false) ∧ w' = x.w) := Lib.hid (fun x => by
        have := Has_any (some ⟨x2, o2, none⟩) k cc (out.take k) y x.w (RowIn.kept RP.out x.grown)
        rw [decide_eq_false HT.out] at this
        exact this)
      clear p1 d1 d2
      refine wp_region_after (by kernel_rfl) (by kernel_rfl) (grown_refl _ _) ?_
      repeat (go_big_quiet_step ((go_at_call 11; exact after_same (HA.out _))))
      refine wpQuiet_nil ?_
      rintro _ ⟨x, rfl⟩
      have F3 := keep x.grown F2
      have d2 := y2 x
      clear y0 y1 y2 HA F2
      go_wp2_with fail
      go_roundw
      case rel => exact ⟨k + 1, by omega, by go_num, by rw [SU.out], F3.out⟩
      case measure => simp [intOf]; omega
    · obtain rfl : k = n := by omega
      have hr' : r' = atI r out k := by rw [C.out.cur, LN.out]
      have S' := S.out
      unfold Stop at S'
      rw [hr'] at S'
      have t2 : ((k : Int) == k) = true := beq_iff_eq.2 rfl
      rcases waits_spec l (atI r out k) with ⟨hw, -⟩ | ⟨j, x, hw, hx, -⟩
      · rw [hw]
        clear hw S' hwl hr'
        go_wp2_with fail
        go_ret
        exact ⟨rfl, grown_below F2.out.2.2.1⟩
      · have hjl : j < n2 := by have := (List.getElem?_eq_some_iff.1 hx).1; rw [L2.out] at this; exact this
        obtain ⟨o, ho⟩ : ∃ o, l.own[j]? = some o := ⟨_, List.getElem?_eq_getElem (by rw [L1.out]; exact hjl)⟩
        obtain ⟨x1, o1, rfl, zx1, d1⟩ := F2.out.1.1.1.1.int ho
        rw [hw, Int.toNat_natCast, oAt_of ho] at S'
        have hob := V.out.own o (List.mem_of_getElem? ho)
        have ST : Hid (o < 0 ∨ o = r ∨ o ∈ out) := Lib.hid (by
          rcases S' with h | h | h | h
          · omega
          · exact .inl (by omega)
          · exact .inr (.inl h)
          · exact .inr (.inr h))
        have hj0 : (j : Int) < n2 := by omega
        have hj1 : decide ((j : Int) < 0) = false := by simp
        have hj2 : ¬ ((n2 : Int) ≤ j) := by omega
        rw [hw]
        clear hw hx ho S' hwl hr'
        by_cases h1 : o < 0
        · have t1 : decide (o < 0) = true := by simpa using h1
          clear h1
          go_wp2_with fail
          go_ret
          exact ⟨rfl, grown_below F2.out.2.2.1⟩
        have t1 : decide (o < 0) = false := by simpa using h1
        by_cases h2 : o = r
        · have t3 : (o == r) = true := beq_iff_eq.2 h2
          clear h1 h2
          go_wp2_with fail
          go_ret
          exact ⟨rfl, grown_below F2.out.2.2.1⟩
        have t3 : (o == r) = false := beq_eq_false_iff_ne.2 h2
        have hm : o ∈ out := (ST.out.resolve_left h1).resolve_left h2
        have HM := Lib.hid hm
        clear h1 h2 hm
        go_wp2_with fail
        refine (Has_any A k cc out o _ F2.out.2.2.2).mono ?_
        rintro e w6 ⟨rfl, rfl⟩
        rw [decide_eq_true HM.out]
        go_wp2_with fail
        go_ret
        exact ⟨rfl, grown_below F2.out.2.2.1⟩
end Go.Proofs.Ytbpobekmbdngbaa
