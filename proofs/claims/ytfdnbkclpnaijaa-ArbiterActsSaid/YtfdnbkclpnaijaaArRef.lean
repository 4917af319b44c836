/- The contracts of the reference: Add and Same. -/
import Derived.Test.YtfdnbkclpnaijaaArAdd
namespace Go.Proofs.Ytfdnbkclpnaijaa
open Go.RowKit
set_option linter.unusedVariables false

abbrev tkV (t : Tk) : Value := .agg #[.int .i64 t.pick, .int .i64 t.drop, .int .i64 t.state, .int .i64 t.robot, .int .i64 t.over]
theorem tk_neq_self (t : Tk) (W : World) : (binOp .neq 31 (tkV t) (tkV t)).run Try.prog W = .ok (.bool false) W := by
  simp [binOp, Op.equal, Op.maxDepth, go_sem]
theorem tk_neq (t u : Tk) (h : t ≠ u) (W : World) : (binOp .neq 31 (tkV t) (tkV u)).run Try.prog W = .ok (.bool true) W := by
  obtain ⟨a, b, c, d, e⟩ := t
  obtain ⟨a', b', c', d', e'⟩ := u
  by_cases h1 : a = a'
  · by_cases h2 : b = b'
    · by_cases h3 : c = c'
      · by_cases h4 : d = d'
        · by_cases h5 : e = e'
          · exact absurd (by rw [h1, h2, h3, h4, h5]) h
          · simp [binOp, Op.equal, Op.maxDepth, go_sem, h1, h2, h3, h4, h5]
        · simp [binOp, Op.equal, Op.maxDepth, go_sem, h1, h2, h3, h4]
      · simp [binOp, Op.equal, Op.maxDepth, go_sem, h1, h2, h3]
    · simp [binOp, Op.equal, Op.maxDepth, go_sem, h1, h2]
  · simp [binOp, Op.equal, Op.maxDepth, go_sem, h1]
theorem tk_ne_of_at {α : Type} {x y : List α} {k : Nat} {u v : α} (hx : x[k]? = some u) (hy : y[k]? = some v) (h : u ≠ v) : x ≠ y := by
  rintro rfl
  rw [hx] at hy
  exact h (Option.some.inj hy)

set_option maxHeartbeats 1600000 in
theorem rAdd_any (a : Option Addr) (n cap : Nat) (ts : List Tk) (limit pick drop : Int) (w : World) (h : RowIn w a n 5 (flat ts)) (hn : ts.length = n) (hc : a = none → cap = 0) :
    Calls Try.prog 15 #[.slice a n cap, .int .i64 limit, .int .i64 pick, .int .i64 drop] w (AddP ts limit pick drop w) := by
  have K0 : Hid (RowIn w a n 5 (flat ts) ∧ w.grownBy w none) := Lib.hid ⟨h, grown_refl _ _⟩
  have L := Lib.hid hn
  have HC := Lib.hid hc
  clear h hc
  go_enter Try.func15, Try.ntmps15
  go_wp2_with fail
  refine (validR a n cap ts _ K0.out.1 L.out).mono ?_
  rintro e w1 ⟨rfl, hg⟩
  have K1 := keep hg K0
  clear hg K0
  cases hv : validB ts
  · have E : Hid (addE ts limit = 20) := Lib.hid (by simp [addE, hv])
    have GR := Lib.hid K1.out.2
    go_wp2_with fail
    exact bodyPost_ret (v := .tuple #[.slice none 0 0, .int .i64 0, .int .i64 20]) (by simp [results, Try.results15, go_sem]) rfl ⟨GR.out, by rw [E.out]; rfl⟩
  by_cases h1 : limit < 1
  · have E : Hid (addE ts limit = 19) := Lib.hid (by simp [addE, hv, h1])
    have GR := Lib.hid K1.out.2
    go_wp2_with fail
    exact bodyPost_ret (v := .tuple #[.slice none 0 0, .int .i64 0, .int .i64 19]) (by simp [results, Try.results15, go_sem]) rfl ⟨GR.out, by rw [E.out]; rfl⟩
  by_cases h2 : limit > 8
  · have E : Hid (addE ts limit = 19) := Lib.hid (by simp [addE, hv, h2])
    have GR := Lib.hid K1.out.2
    go_wp2_with fail
    exact bodyPost_ret (v := .tuple #[.slice none 0 0, .int .i64 0, .int .i64 19]) (by simp [results, Try.results15, go_sem]) rfl ⟨GR.out, by rw [E.out]; rfl⟩
  have t1 : decide (limit < 1) = false := by simpa using h1
  have t2 : decide (8 < limit) = false := by simpa using h2
  have HV := Lib.hid hv
  have h32 : n ≤ 32 := by
    have := hv
    simp only [validB, Bool.and_eq_true, decide_eq_true_eq] at this
    omega
  clear hv
  go_wp2_with fail
  refine (countR a n cap ts _ K1.out.1 L.out).mono ?_
  rintro e w2 ⟨rfl, hg⟩
  have K2 := keep hg K1
  clear hg K1
  by_cases h3 : (countB ts : Int) ≥ limit
  · have E : Hid (addE ts limit = 23) := Lib.hid (by unfold addE; rw [if_neg (by simp [HV.out]), if_neg (by omega), if_pos (.inl h3)])
    have GR := Lib.hid K2.out.2
    go_wp2_with fail
    exact bodyPost_ret (v := .tuple #[.slice none 0 0, .int .i64 0, .int .i64 23]) (by simp [results, Try.results15, go_sem]) rfl ⟨GR.out, by rw [E.out]; rfl⟩
  by_cases h4 : n = 32
  · have E : Hid (addE ts limit = 23) := Lib.hid (by unfold addE; rw [if_neg (by simp [HV.out]), if_neg (by omega), if_pos (.inr (by omega))])
    have GR := Lib.hid K2.out.2
    go_wp2_with fail
    exact bodyPost_ret (v := .tuple #[.slice none 0 0, .int .i64 0, .int .i64 23]) (by simp [results, Try.results15, go_sem]) rfl ⟨GR.out, by rw [E.out]; rfl⟩
  have E : Hid (addE ts limit = 0) := Lib.hid (by unfold addE; rw [if_neg (by simp [HV.out]), if_neg (by omega), if_neg (by omega)])
  have t3 : decide (limit ≤ (countB ts : Int)) = false := by simp; omega
  have t4 : ((n : Int) == 32) = false := by simp; omega
  go_wp2_with (at_builtin; refine wpList_append_in St_task rfl (.const (.slice none 0 0)) (.tmp 29) rfl rfl (World.ownsRow_nil w2 w2.heap.size 31 5) rfl (news := flat ts) K2.out.1 HC.out tasks_one ?d1 ?d2 ?d3 ?_)
  case d1 => unfold maxLen; omega
  case d2 => omega
  case d3 => exact Nat.le_refl _
  intro v w3 hown hg hloc
  clear hloc
  have O3 : Hid (w3.ownsRow w2.heap.size 31 5 v n (flat ts)) := Lib.hid (by simpa using hown)
  have hg' : w2.grownBy w3 none := grown_own (grown_refl w2 none) hg (fun g hg => by cases hg)
  have K3 := keep hg' K2
  have z3 := hg'.size
  have z2 := K2.out.2.size
  clear hown hg hg' K2
  go_wp2_with (at_builtin; refine wpList_append_in St_task rfl (.tmp 30) (.tmp 34) rfl rfl (O3.out.alloc (.cells #[.int .i64 pick, .int .i64 drop, .int .i64 0, .int .i64 (-1), .int .i64 0] 31)) rfl (news := flat [⟨pick, drop, 0, -1, 0⟩]) (rowIn_block (n := 1) (size := 5) (at_new _ _) rfl (by unfold maxLen; omega)) (fun h => by cases h) tasks_one ?c1 ?c2 ?c3 ?_)
  case c1 => unfold maxLen; omega
  case c2 => omega
  case c3 => first | omega | (simp; omega)
  intro v' w4 hown4 hg4 hloc
  clear hloc
  have G4 := Lib.hid (grown_own (grown_alloc (.cells #[.int .i64 pick, .int .i64 drop, .int .i64 0, .int .i64 (-1), .int .i64 0] 31) K3.out.2) hg4 (fun m hm => by have := (O3.out.lt m hm).1; omega))
  have O4 : Hid (w4.ownsRow w.heap.size 31 5 v' (ts.length + 1) (flat (ts ++ [⟨pick, drop, 0, -1, 0⟩]))) := Lib.hid (by
    rw [L.out]
    have : flat (ts ++ [⟨pick, drop, 0, -1, 0⟩]) = flat ts ++ flat [⟨pick, drop, 0, -1, 0⟩] := by simp [flat]
    rw [this]
    exact own_base hown4 z2)
  clear hown4 hg4 O3 K3
  go_wp2_with fail
  exact bodyPost_ret (v := .tuple #[v', .int .i64 n, .int .i64 0]) (by simp [results, Try.results15, go_sem]) rfl ⟨G4.out, by rw [if_pos E.out]; exact ⟨v', by rw [L.out], O4.out⟩⟩

theorem tk_len {w : World} {a : Option Addr} {n : Nat} {ts : List Tk} (h : RowIn w a n 5 (flat ts)) : ts.length = n := by
  have := h.1
  rw [flat_length] at this
  omega
open Classical in
set_option maxHeartbeats 800000 in
theorem Same23_any (a b : Option Addr) (n m c d : Nat) (zs ys : List Tk) (w : World) (hz : RowIn w a n 5 (flat zs)) (hy : RowIn w b m 5 (flat ys)) :
    Calls Try.prog 16 #[.slice a n c, .slice b m d] w fun e w' => e = .returned (.bool (decide (zs = ys))) ∧ w.grownBy w' none := by
  have lz := tk_len hz
  have ly := tk_len hy
  have hm := hz.2.1
  have hm2 := hy.2.1
  unfold maxLen at hm hm2
  by_cases hnm : n = m
  · subst hnm
    have F0 : Hid (RowIn w a n 5 (flat zs) ∧ RowIn w b n 5 (flat ys) ∧ w.grownBy w none) := ⟨hz, hy, grown_refl w none⟩
    have LZ := Lib.hid lz
    have LY := Lib.hid ly
    clear hz hy lz ly
    go_enter Try.func16, Try.ntmps16
    go_wp2_with fail
    go_loopw [5] (fun i wr => ∃ k : Nat, k ≤ n ∧ i = .int .i64 k ∧ zs.take k = ys.take k ∧ (RowIn wr a n 5 (flat zs) ∧ RowIn wr b n 5 (flat ys) ∧ w.grownBy wr none)) (fun i _ => n - (intOf i).toNat)
    case atStart => exact ⟨0, by omega, rfl, rfl, F0.out⟩
    case round =>
      obtain ⟨k, hk, rfl, he, hF⟩ := hrel
      have E := Lib.hid he
      have F := Lib.hid hF
      clear he hF F0
      by_cases hkn : k < n
      · obtain ⟨u, hu⟩ : ∃ u, zs[k]? = some u := ⟨_, List.getElem?_eq_getElem (by rw [LZ.out]; exact hkn)⟩
        obtain ⟨v, hv⟩ : ∃ v, ys[k]? = some v := ⟨_, List.getElem?_eq_getElem (by rw [LY.out]; exact hkn)⟩
        obtain ⟨b1, o1, rfl, c0, c1, c2, c3, c4⟩ := task_at F.out.1 hu
        obtain ⟨b2, o2, rfl, d0, d1, d2, d3, d4⟩ := task_at F.out.2.1 hv
        have U := Lib.hid hu
        have V := Lib.hid hv
        have hk' : (k : Int) < n := by omega
        clear hu hv
        by_cases huv : u = v
        · subst huv
          have t2 := fun W => tk_neq_self u W
          go_wp2_with fail
          go_quiet (fail)
          clear c0 c1 c2 c3 c4 d0 d1 d2 d3 d4
          go_wp2_with fail
          go_roundw
          case rel => exact ⟨k + 1, by omega, by go_num, (take_eq_succ U.out V.out E.out).2 rfl, (keep (grown_draw _ (grown_refl wr none)) F).out⟩
          case measure => simp [intOf]; omega
        · have HE := Lib.hid huv
          have t2 := fun W => tk_neq u v huv W
          clear huv
          go_wp2_with fail
          go_quiet (fail)
          clear c0 c1 c2 c3 c4 d0 d1 d2 d3 d4
          go_wp2_with fail
          go_ret
          exact ⟨ret_bool (decide_eq_false (tk_ne_of_at U.out V.out HE.out)).symm, grown_draw _ F.out.2.2⟩
      · obtain rfl : k = n := by omega
        go_wp2_with fail
        go_ret
        refine ⟨ret_bool (decide_eq_true ?_).symm, F.out.2.2⟩
        have := E.out
        rwa [List.take_of_length_le (by rw [LZ.out]; exact Nat.le_refl _), List.take_of_length_le (by rw [LY.out]; exact Nat.le_refl _)] at this
  · have H : Hid (zs ≠ ys) := Lib.hid (by rintro rfl; omega)
    have h1 : ¬ (n : Int) = m := by omega
    have h2 : ((n : Int) == m) = false := by simpa using h1
    have h3 : ((n : Int) != m) = true := by simpa using h1
    clear hz hy lz ly
    go_enter Try.func16, Try.ntmps16
    go_wp2_with fail
    go_ret
    exact ⟨ret_bool (decide_eq_false H.out).symm, grown_refl w _⟩

end Go.Proofs.Ytfdnbkclpnaijaa
