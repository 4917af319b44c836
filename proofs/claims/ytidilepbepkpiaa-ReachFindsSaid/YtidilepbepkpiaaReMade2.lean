/- Shut and Graph. -/
import Derived.Test.YtidilepbepkpiaaReMade
namespace Go.Proofs.Ytidilepbepkpiaa
open Go.RowKit
set_option linter.unusedVariables false

theorem Try.info_bool : (Try.prog.info? 4).map (fun i => (i.zero, i.size, i.bytes)) = some (some (.bool false), 1, 1) := by kernel_rfl
theorem St_bool : SliceT Try.prog 29 4 (.bool false) 1 1 := .mk' Try.underlying29 Try.info_bool rfl (by decide)

theorem ownR_of_slice {w : World} {base e size n c g : Nat} {xs : List Value} (h : w.ownsRow base e size (.slice (some ⟨g, 0, none⟩) n c) n xs) : OwnR w g c n e size xs ∧ base ≤ g := by
  rcases h.2 with ⟨h1, _⟩ | ⟨g', cap, cur, hv, hb, hg, h1, h2, h3, h4⟩
  · cases h1
  · simp only [Value.slice.injEq, Option.some.injEq, Addr.mk.injEq, and_true, true_and] at hv
    obtain ⟨rfl, rfl⟩ := hv
    exact ⟨⟨cur, hg, h1, h2, h3, h4⟩, hb⟩
theorem made_falses (n : Nat) : (madeCells #[Value.bool false] n).toList = bools (List.replicate n false) := by
  unfold bools
  rw [List.map_replicate]
  apply List.ext_getElem?
  intro j
  simp only [madeCells, List.getElem?_replicate]
  by_cases h : j < n
  · simp only [h, if_pos]; simp [h, Nat.mod_one]
  · simp [h]
theorem bools_set (s : List Bool) (i : Nat) (b : Bool) : (bools s).set i (.bool b) = bools (s.set i b) := by
  unfold bools; rw [List.map_set]

def ShutP (B T : Nat) (ad : Option Addr) (len cap : Nat) (zs : List Int) (k n : Nat) (w : World) (e : Ending) (w' : World) : Prop := ∃ (g : Nat) (s : List Bool) (k' : Nat), e = .returned (.slice (some ⟨g, 0, none⟩) n n) ∧ s.length = n ∧ OwnR w' g n n 4 1 (bools s) ∧ w.heap.size ≤ g ∧
      TapeAt w' B T ad len cap zs k' ∧ k' ≤ k + 3 ∧ w.grownBy w' (some B)

set_option maxHeartbeats 1600000 in
theorem Shut_any (B T : Nat) (ad : Option Addr) (len cap : Nat) (zs : List Int) (k n : Nat) (w : World) (ht : TapeAt w B T ad len cap zs k) (hk : k < 10000) (hn : n ≤ 100) :
    Calls Try.prog 10 #[.pointer (some ⟨B, 0, none⟩), .int .i64 n] w (ShutP B T ad len cap zs k n w) := by
  obtain ⟨ib, hi, hz0, hz1, hz2⟩ := info_parts Try.info_bool
  have hib := Lib.hid hi
  have hib0 := Lib.hid hz0
  have hib1 := Lib.hid hz1
  have hib2 := Lib.hid hz2
  have HT := Lib.hid ht
  have zB := ht.lt
  clear ht hi hz0 hz1 hz2
  go_enter Try.func10, Try.ntmps10
  go_wp2_with (at_make; refine wpList_make_full _ rfl _ _ 29 rfl w.heap.size 4 ib _ 1 Try.underlying29 hib.out hib0.out hib1.out .i64 .i64 _ _ n rfl rfl (by omega) (by omega) (by rw [hib2.out]; omega) (by unfold maxLen; omega) (by omega) ?_)
  intro W2 hC hg2
  rw [made_falses] at hC
  obtain ⟨hO, _⟩ := ownR_of_slice hC
  have O2 := Lib.hid hO
  have T2 := Lib.hid (HT.out.other hg2)
  have G2 := Lib.hid (grown_weak (r := some B) hg2)
  clear hC hg2 hib hib0 hib1 hib2 hO HT
  go_wp2_with fail
  refine (Next_in _ _ _ _ _ _ _ 3 _ T2.out (by omega) (by omega) (by omega)).mono ?_
  rintro e w3 ⟨x, rfl, x0, x1, hT3, hg3⟩
  have K3 : Hid (OwnR w3 w.heap.size n n 4 1 (bools (List.replicate n false)) ∧ TapeAt w3 B T ad len cap zs (k + 1) ∧ w.grownBy w3 (some B)) := ⟨O2.out.kept hg3 (by simp; omega), hT3, grown_trans G2.out hg3⟩
  clear O2 T2 G2 hT3 hg3
  obtain ⟨m, rfl⟩ : ∃ m : Nat, x = m := ⟨x.toNat, by omega⟩
  have hm3 : m < 3 := by omega
  go_wp2_with fail
  go_loopw [6] (fun i wr => ∃ (j : Nat) (s : List Bool), j ≤ m ∧ i = .int .i64 j ∧ s.length = n ∧ OwnR wr w.heap.size n n 4 1 (bools s) ∧ TapeAt wr B T ad len cap zs (k + 1 + (m - j)) ∧ w.grownBy wr (some B)) (fun i _ => (intOf i).toNat)
  case atStart => exact ⟨m, List.replicate n false, Nat.le_refl _, rfl, by simp, K3.out.1, by rw [Nat.sub_self]; exact K3.out.2.1, K3.out.2.2⟩
  case round =>
    obtain ⟨j, s, hj, rfl, hs, hO, hT, hG⟩ := hrel
    have O := Lib.hid hO
    have T1 := Lib.hid hT
    have G := Lib.hid hG
    have S := Lib.hid hs
    have zG := hG.size
    clear hO hT hG hs K3
    by_cases hj0 : 0 < j
    · have hj0' : (0 : Int) < (j : Int) := by omega
      by_cases hn0 : 0 < n
      · have hn0' : (0 : Int) < (n : Int) := by omega
        go_wp2_with fail
        refine (Next_in _ _ _ _ _ _ _ n _ T1.out (by omega) (by omega) (by omega)).mono ?_
        rintro e w5 ⟨y, rfl, y0, y1, hT5, hg5⟩
        obtain ⟨q, rfl⟩ : ∃ q : Nat, y = q := ⟨y.toNat, by omega⟩
        have hO5 := O.out.kept hg5 (by simp; omega)
        have O5 := Lib.hid (hO5.set (i := q) (.bool true))
        have T5 := Lib.hid (hT5.set (p := ⟨w.heap.size, q, none⟩) (by simp; omega) (.bool true))
        have G5 := Lib.hid (grown_set (p := ⟨w.heap.size, q, none⟩) (.bool true) (grown_trans G.out hg5) (.inl (by simp)))
        obtain ⟨bq, hbq⟩ : ∃ b, s[q]? = some b := ⟨_, List.getElem?_eq_getElem (by rw [S.out]; omega)⟩
        have q1 := hO5.cell (i := q) (v := .bool bq) (by simp [bools, hbq])
        have q2 := hO5.free q
        have z5 := hO5.lt
        clear hO5 hT5 hg5 O T1 G hbq
        rw [bools_set] at O5
        go_wp2_with fail
        go_roundw
        case rel => exact ⟨j - 1, s.set q true, by omega, by rw [show ((j : Int) - 1) = ((j - 1 : Nat) : Int) by omega], by simp [S.out], O5.out, by rw [show k + 1 + (m - (j - 1)) = k + 1 + (m - j) + 1 by omega]; exact T5.out, G5.out⟩
        case measure => simp [intOf]; omega
      · have hn0' : ¬ (0 : Int) < (n : Int) := by omega
        go_wp2_with fail
        go_ret
        exact ⟨_, s, _, rfl, S.out, O.out, Nat.le_refl _, T1.out, by omega, G.out⟩
    · have hj0' : ¬ (0 : Int) < (j : Int) := by omega
      go_wp2_with fail
      go_ret
      exact ⟨_, s, _, rfl, S.out, O.out, Nat.le_refl _, T1.out, by omega, G.out⟩

theorem own_weak {w : World} {base base' e size n : Nat} {v : Value} {xs : List Value} (h : w.ownsRow base e size v n xs) (hb : base' ≤ base) : w.ownsRow base' e size v n xs := by
  obtain ⟨h1, h2⟩ := h
  refine ⟨h1, ?_⟩
  rcases h2 with h2 | ⟨g, cap, cur, hv, hg, h3⟩
  · exact .inl h2
  · exact .inr ⟨g, cap, cur, hv, Nat.le_trans hb hg, h3⟩

theorem OwnL.len {w : World} {base g n : Nat} {xss : List (List Int)} (h : OwnL w base g n xss) : xss.length = n := by
  obtain ⟨_, _, _, h3, _⟩ := h
  exact h3

/-! ### Graphs -/
theorem valid_set {g : Gr} {v : Nat} {l : List Int} (h : validB g = true) (hv : v < g.length) (hl : okB g.length v (-1) l = true) : validB (g.set v l) = true := by
  rw [valid_iff] at h ⊢
  rw [List.length_set]
  refine ⟨h.1, fun u hu => ?_⟩
  unfold adj
  rw [List.length_set] at *
  rw [List.getD_eq_getElem?_getD]
  by_cases e : v = u
  · subst e; rw [List.getElem?_set_self hv]; exact hl
  · rw [List.getElem?_set_ne e, ← List.getD_eq_getElem?_getD]; exact h.2 u hu
theorem valid_nils (n : Nat) (h : n ≤ 24) : validB (List.replicate n []) = true := by
  rw [valid_iff]
  refine ⟨by simpa using h, fun v hv => ?_⟩
  have : adj (List.replicate n []) v = [] := by
    unfold adj
    rw [List.getD_eq_getElem?_getD, List.getElem?_replicate]
    split <;> rfl
  rw [this]; rfl
theorem row_len {g : Gr} (h : validB g = true) {v : Nat} {l : List Int} (hv : g[v]? = some l) : l.length ≤ 24 := by
  have h1 := (valid_iff.1 h).1
  have hlt := (List.getElem?_eq_some_iff.1 hv).1
  have h2 := (valid_iff.1 h).2 v hlt
  rw [adj_at hv] at h2
  have := okB_len h2 (by omega)
  omega

def GraphP (B T : Nat) (ad : Option Addr) (len cap : Nat) (zs : List Int) (k most : Nat) (w : World) (e : Ending) (w' : World) : Prop := ∃ (b n : Nat) (g : Gr) (k' : Nat), e = .returned (.slice (some ⟨b, 0, none⟩) n n) ∧ n ≤ most ∧ validB g = true ∧
      OwnL w' w.heap.size b n g ∧ TapeAt w' B T ad len cap zs k' ∧ k' ≤ k + 200 ∧ w.grownBy w' (some B)

set_option maxHeartbeats 3200000 in
theorem Graph_any (B T : Nat) (ad : Option Addr) (len cap : Nat) (zs : List Int) (k most : Nat) (w : World) (ht : TapeAt w B T ad len cap zs k) (hk : k < 10000) (hn : most ≤ 24) :
    Calls Try.prog 9 #[.pointer (some ⟨B, 0, none⟩), .int .i64 most] w (GraphP B T ad len cap zs k most w) := by
  obtain ⟨ib, hi, hz0, hz1, hz2⟩ := info_parts Try.info_ints
  have hib := Lib.hid hi
  have hib0 := Lib.hid hz0
  have hib1 := Lib.hid hz1
  have hib2 := Lib.hid hz2
  have HT := Lib.hid ht
  have zB := ht.lt
  clear ht hi hz0 hz1 hz2
  go_enter Try.func9, Try.ntmps9
  go_wp2_with fail
  refine (Next_in _ _ _ _ _ _ _ _ _ HT.out (by omega) (by omega) (by omega)).mono ?_
  rintro e w1 ⟨x, rfl, x0, x1, hT1, hg1⟩
  obtain ⟨n, rfl⟩ : ∃ n : Nat, x = n := ⟨x.toNat, by omega⟩
  have hnm : n ≤ most := by omega
  have T1 := Lib.hid hT1
  have G1 := Lib.hid hg1
  have z1 := hg1.size
  clear hT1 hg1 HT
  go_wp2_with (at_make; refine wpList_make_full _ rfl _ _ 27 rfl w.heap.size 22 ib _ 1 Try.underlying27 hib.out hib0.out hib1.out .i64 .i64 _ _ n rfl rfl (by omega) (by omega) (by rw [hib2.out]; omega) (by unfold maxLen; omega) (by omega) ?_)
  intro W2 hC hg2
  rw [made_nils] at hC
  have O2 := Lib.hid (ownL_made hC rfl (by unfold maxLen; omega))
  have T2 := Lib.hid (T1.out.other hg2)
  have G2 := Lib.hid (grown_trans G1.out (grown_weak (r := some B) hg2))
  clear hC hg2 hib hib0 hib1 hib2 T1 G1
  go_wp2_with fail
  refine (Next_in _ _ _ _ _ _ _ _ _ T2.out (by omega) (by omega) (by omega)).mono ?_
  rintro e w3 ⟨y, rfl, y0, y1, hT3, hg3⟩
  obtain ⟨m, rfl⟩ : ∃ m : Nat, y = m := ⟨y.toNat, by omega⟩
  have hm3 : m ≤ 3 * n := by omega
  have K3 : Hid (OwnL w3 w.heap.size w1.heap.size n (List.replicate n []) ∧ TapeAt w3 B T ad len cap zs (k + 2) ∧ w.grownBy w3 (some B)) := ⟨O2.out.kept hg3 (fun b hb => by have := Option.some.inj hb; omega), hT3, grown_trans G2.out hg3⟩
  have V0 := Lib.hid (valid_nils n (by omega))
  clear O2 T2 G2 hT3 hg3
  go_wp2_with fail
  go_loopw [7] (fun i wr => ∃ (j : Nat) (g : Gr), j ≤ m ∧ i = .int .i64 j ∧ validB g = true ∧ OwnL wr w.heap.size w1.heap.size n g ∧ TapeAt wr B T ad len cap zs (k + 2 + 2 * (m - j)) ∧ w.grownBy wr (some B)) (fun i _ => (intOf i).toNat)
  case atStart => exact ⟨m, _, Nat.le_refl _, rfl, V0.out, K3.out.1, by rw [Nat.sub_self]; exact K3.out.2.1, K3.out.2.2⟩
  case round =>
    obtain ⟨j, g, hj, rfl, hv, hO, hT, hG⟩ := hrel
    have O := Lib.hid hO
    have T1 := Lib.hid hT
    have G := Lib.hid hG
    have V := Lib.hid hv
    have zG := hG.size
    have GL := Lib.hid hO.len
    clear hO hT hG hv K3 V0
    by_cases hj0 : 0 < j
    · have hj0' : (0 : Int) < (j : Int) := by omega
      go_wp2_with fail
      refine (Next_in _ _ _ _ _ _ _ n _ T1.out (by omega) (by omega) (by omega)).mono ?_
      rintro e w5 ⟨u, rfl, u0, u1, hT5, hg5⟩
      have T5 := Lib.hid hT5
      have G5 := Lib.hid hg5
      clear hT5 hg5 T1
      go_wp2_with fail
      refine (Next_in _ _ _ _ _ _ _ n _ T5.out (by omega) (by omega) (by omega)).mono ?_
      rintro e w6 ⟨v, rfl, v0, v1, hT6, hg6⟩
      obtain ⟨p, rfl⟩ : ∃ p : Nat, u = p := ⟨u.toNat, by omega⟩
      obtain ⟨q, rfl⟩ : ∃ q : Nat, v = q := ⟨v.toNat, by omega⟩
      have hg := grown_trans G5.out hg6
      have T6 := Lib.hid hT6
      have G6 := Lib.hid (grown_trans G.out hg)
      have O6 := Lib.hid (O.out.kept hg (fun b hb => by have := Option.some.inj hb; omega))
      have z6 := G6.out.size
      clear hT6 hg6 hg T5 G5 G O
      by_cases hpq : p = q
      · have t1 : ((p : Int) != (q : Int)) = false := by simp [hpq]
        clear hpq
        go_wp2_with fail
        go_roundw
        case rel => exact ⟨j - 1, g, by omega, by rw [show ((j : Int) - 1) = ((j - 1 : Nat) : Int) by omega], V.out, O6.out, by rw [show k + 2 + 2 * (m - (j - 1)) = k + 2 + 2 * (m - j) + 1 + 1 by omega]; exact T6.out, G6.out⟩
        case measure => simp [intOf]; omega
      · have t1 : ((p : Int) != (q : Int)) = true := by simp; omega
        obtain ⟨l, hl⟩ : ∃ l, g[p]? = some l := ⟨_, List.getElem?_eq_getElem (by rw [GL.out]; omega)⟩
        obtain ⟨vv, q1, q2, hown, hvg⟩ := O6.out.at hl
        obtain ⟨A, c, rfl, _, _, _, hrow⟩ := sliceIn_owns hown
        have RW := Lib.hid hrow
        have LL := Lib.hid (row_len V.out hl)
        have HL := Lib.hid hl
        have Q1 := Lib.hid q1
        have zl := O6.out.lt
        clear hrow hown hl q2 hvg
        go_wp2_with fail
        refine (Has_any A l.length c l q _ RW.out).mono ?_
        rintro e w' ⟨rfl, rfl⟩
        by_cases hq : (q : Int) ∈ l
        · rw [decide_eq_true hq]
          clear hpq hq q1
          go_wp2_with fail
          go_roundw
          case rel => exact ⟨j - 1, g, by omega, by rw [show ((j : Int) - 1) = ((j - 1 : Nat) : Int) by omega], V.out, O6.out, by rw [show k + 2 + 2 * (m - (j - 1)) = k + 2 + 2 * (m - j) + 1 + 1 by omega]; exact T6.out, G6.out⟩
          case measure => simp [intOf]; omega
        · rw [decide_eq_false hq]
          have HQ := Lib.hid hq
          have HPQ := Lib.hid hpq
          clear hpq hq
          go_wp2_with fail
          refine (Insert_any A l.length c l q _ RW.out (by have := LL.out; omega)).mono ?_
          rintro e w7 ⟨v7, rfl, hown7, hg7⟩
          have O7 := Lib.hid (O6.out.put (i := p) (ys := ins q l) HL.out Q1.out hg7 (.inl rfl) (own_weak hown7 z6) (.inr (fun m hm => (hown7.lt m hm).1)))
          obtain ⟨A7, c7, rfl, _, _, _, _⟩ := sliceIn_owns hown7
          obtain ⟨vv7, q3, q4, hx7, _⟩ := (O6.out.kept hg7 (by simp)).at HL.out
          have z7 := (O6.out.kept hg7 (by simp)).lt
          have V7 := Lib.hid (valid_set V.out (v := p) (l := ins q l) (by rw [GL.out]; omega) (by
            have h1 := (valid_iff.1 V.out).2 p (by rw [GL.out]; omega)
            rw [adj_at HL.out] at h1
            exact ins_ok h1 (by omega) (by rw [GL.out]; omega) (by have := HPQ.out; omega) HQ.out))
          have T7 := Lib.hid ((T6.out.other hg7).set (p := ⟨w1.heap.size, p, none⟩) (by simp; omega) (.slice A7 (ins q l).length c7))
          have G7 := Lib.hid (grown_set (p := ⟨w1.heap.size, p, none⟩) (.slice A7 (ins q l).length c7) (grown_trans G6.out (grown_weak (r := some B) hg7)) (.inl (by simp; omega)))
          clear hown7 hg7 hx7 O6 T6 G6 RW HQ HPQ Q1 q1
          go_wp2_with fail
          go_roundw
          case rel => exact ⟨j - 1, _, by omega, by rw [show ((j : Int) - 1) = ((j - 1 : Nat) : Int) by omega], V7.out, O7.out, by rw [show k + 2 + 2 * (m - (j - 1)) = k + 2 + 2 * (m - j) + 1 + 1 by omega]; exact T7.out, G7.out⟩
          case measure => simp [intOf]; omega
    · have hj0' : ¬ (0 : Int) < (j : Int) := by omega
      go_wp2_with fail
      go_ret
      exact ⟨_, _, g, _, rfl, hnm, V.out, O.out, T1.out, by omega, G.out⟩
end Go.Proofs.Ytidilepbepkpiaa
