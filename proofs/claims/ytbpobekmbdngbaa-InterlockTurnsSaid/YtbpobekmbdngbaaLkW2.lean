/- The walk of InterlockTurns. -/
import Derived.Test.YtbpobekmbdngbaaLkTt
namespace Go.Proofs.Ytbpobekmbdngbaa
open Go.RowKit
set_option linter.unusedVariables false

theorem len3 {α : Type} {l : List α} (h : l.length = 3) : ∃ a b c, l = [a, b, c] := by
  match l, h with
  | [a, b, c], _ => exact ⟨a, b, c, rfl⟩

theorem LkV.inj {R : Option Nat} {w : World} {a1 a2 : Option Addr} {n1 c1 n2 c2 : Nat} {l : Lk} (h : LkV R w (lkV a1 n1 c1 a2 n2 c2) l) : LkR R w a1 n1 c1 a2 n2 c2 l := by
  obtain ⟨b1, m1, d1, b2, m2, d2, he, hR⟩ := h
  simp only [Value.agg.injEq, Array.mk.injEq, List.cons.injEq, Value.slice.injEq, and_true] at he
  obtain ⟨⟨rfl, rfl, rfl⟩, rfl, rfl, rfl⟩ := he
  exact hR
theorem askV_of {l : Lk} {r : Int} {c : Nat} {x : List Int} (h : askE l r c = 0) (hx : l.q[c]? = some x) : askV l r c = ⟨l.own, l.q.set c (x ++ [r])⟩ := by
  unfold askV; rw [if_pos h]; unfold askL; rw [Int.toNat_natCast, qAt_of hx]
theorem relV_of {l : Lk} {c : Nat} (h : relE l c = 0) : relV l c = ⟨l.own.set c (-1), l.q⟩ := by
  unfold relV; rw [if_pos h]; unfold relL; rw [Int.toNat_natCast]
theorem tail_queN {w : World} {base g off cap : Nat} {x : Int} {xs : List Int} {v : Value} (h : QueN w base v (x :: xs)) (hv : v = .slice (some ⟨g, off, none⟩) (xs.length + 1) cap) :
    (cap ≠ 1 → QueN w base (.slice (some ⟨g, off + 1, none⟩) xs.length (cap - 1)) xs) ∧ (cap = 1 → xs = [] ∧ QueN w base (.slice (some ⟨g, off, none⟩) 0 0) []) := by
  subst hv
  rcases h with ⟨h, _⟩ | h
  · cases h
  · refine ⟨fun hc => .inr (Que.tail h hc), fun hc => ?_⟩
    subst hc
    obtain ⟨h1, h2, h3⟩ := Que.tail1 h
    exact ⟨h2, .inr h3⟩

set_option maxRecDepth 100000 in
set_option maxHeartbeats 25600000 in
theorem InterlockTurns_walk (a0 : Option Addr) (len0 cap0 : Nat) (z0 : List Int) (w : World) (w0 : IsRow .i64 w a0 len0 cap0 z0) :
    Calls Try.prog 4 #[.slice a0 len0 cap0] w fun e w' => e = .returned (.bool true) ∧ Below w.heap.size w w' := by
  obtain ⟨ii, hi, hz0, hz1, hz2⟩ := info_parts Try.info_ints
  have hib := Lib.hid hi
  have hib0 := Lib.hid hz0
  have hib1 := Lib.hid hz1
  have hib2 : Hid (ii.bytes * 3 ≤ 281474976710656) := Lib.hid (by rw [hz2]; omega)
  clear hi hz0 hz1 hz2
  have r0 := Lib.hid w0
  clear w0
  go_enter Try.func4, Try.ntmps4
  go_wp2_with fail
  refine (known_any _).mono ?_
  rintro e w1 ⟨rfl, hg1⟩
  have T1 := Lib.hid (tape_new r0.out hg1 30)
  have G1 := Lib.hid (grown_alloc (.cells #[.slice a0 len0 cap0, .int .i64 0] 30) hg1)
  have hwB := hg1.size
  clear r0 hg1
  go_upto_region 4 with fail
  obtain ⟨B, hB⟩ : ∃ B, w1.heap.size = B := ⟨_, rfl⟩
  obtain ⟨X0, hX⟩ : ∃ X, X = w1.alloc (.cells #[.slice a0 len0 cap0, .int .i64 0] 30) := ⟨_, rfl⟩
  rw [← hX] at T1 G1 ⊢
  rw [hB] at T1 hwB
  try rw [hB]
  clear hX hB
  have zB := T1.out.lt
  go_wp2_with fail
  refine (New_any 3 _).mono ?_
  rw [show newE 3 = 0 from rfl]
  have NV := Lib.hid (new_valid (c := 3) rfl)
  rintro e w2 ⟨v, rfl, hL, hg⟩
  obtain ⟨a1, n1, c1, a2, n2, c2, rfl, -⟩ := hL none (by simp)
  have ga := grown_alloc (.cells #[.slice a1 n1 c1, .slice a2 n2 c2] 26) (grown_refl w2 none)
  have A1 := Lib.hid (LkA.kept (show LkA X0.heap.size w2 (lkV a1 n1 c1 a2 n2 c2) (newV 3) from hL) ga (by simp))
  have T2 := Lib.hid ((T1.out.other hg).other ga)
  have G2 := Lib.hid (grown_trans G1.out (grown_trans hg ga))
  have BX := Lib.hid (at_new w2 (.cells #[.slice a1 n1 c1, .slice a2 n2 c2] 26))
  have z4 := hg.size
  clear hL hg ga T1 G1
  go_upto_region 7 with fail
  obtain ⟨b4, hb4⟩ : ∃ b, w2.heap.size = b := ⟨_, rfl⟩
  obtain ⟨X1, hX⟩ : ∃ X, X = w2.alloc (.cells #[.slice a1 n1 c1, .slice a2 n2 c2] 26) := ⟨_, rfl⟩
  rw [← hX] at A1 T2 G2 BX ⊢
  rw [hb4] at BX z4
  try rw [hb4]
  have z40 : b4 < X1.heap.size := lt_of_at BX.out
  clear hX hb4
  go_wp2_with (at_make; refine wpList_make_full _ rfl _ _ 24 rfl X1.heap.size 22 ii _ 1 Try.underlying24 hib.out hib0.out hib1.out .i64 .i64 _ _ 3 rfl rfl rfl rfl hib2.out (by unfold maxLen; omega) (by omega) ?_)
  intro X2 hC hg2
  rw [made_nils] at hC
  obtain ⟨hO, _⟩ := ownR_of_slice hC
  have hF := ownR_full hO
  have zgq := hO.lt
  have gb := grown_alloc (.cells #[.int .i64 (-1), .int .i64 (-1), .int .i64 (-1)] 3) (grown_refl X2 none)
  have gab := grown_trans hg2 gb
  have I0 : Hid (TtI w (X2.alloc (.cells #[.int .i64 (-1), .int .i64 (-1), .int .i64 (-1)] 3)) B 30 a0 len0 cap0 (z0.take len0) b4 X1.heap.size X2.heap.size (X2.heap.size + 1) B (.slice a1 n1 c1) (.slice a2 n2 c2) (newV 3) (newV 3) 0) :=
    Lib.hid ⟨X0.heap.size, A1.out.kept gab (by simp), zB, grown_at gab BX.out (by simp), askM_nils (n := 3) (grown_at gb hF (by simp)) (by omega), ownR_block (n := 3) (size := 1) (at_new X2 _) rfl (by unfold maxLen; omega), T2.out.other gab, grown_trans G2.out gab, NV.out, rfl⟩
  have zz0 : X1.heap.size < X2.heap.size := zgq
  clear hC hg2 hO hF gb gab A1 T2 G2 BX NV hib hib0 hib1 hib2
  go_upto_region 9 with fail
  obtain ⟨gq, hgq⟩ : ∃ b, X1.heap.size = b := ⟨_, rfl⟩
  obtain ⟨go, hgo⟩ : ∃ b, X2.heap.size = b := ⟨_, rfl⟩
  obtain ⟨X3, hX⟩ : ∃ X, X = X2.alloc (.cells #[.int .i64 (-1), .int .i64 (-1), .int .i64 (-1)] 3) := ⟨_, rfl⟩
  rw [← hX] at I0 ⊢
  rw [hgq, hgo] at I0
  rw [hgq] at zz0 z40
  try rw [hgq]
  try rw [hgo]
  have OO : TtO w B b4 gq go (go + 1) := ⟨hwB, by omega, by omega, by omega, by omega⟩
  obtain ⟨oo1, oo2, oo3, oo4, oo5⟩ := id OO
  clear hX hgq hgo zgq
  go_wp2_with fail
  go_loopw [8, 9, 10, 11, 12, 13, 14, 15, 16, 17, 18, 19, 20, 21, 22, 23, 24, 25, 26] (fun i _ _ _ _ _ _ _ _ _ _ _ _ _ _ _ _ _ _ wr => ∃ (k kt : Nat) (x1 x2 : Value) (l : Lk), k ≤ 40 ∧ i = .int .i64 k ∧ kt ≤ 6 * k ∧ TtI w wr B 30 a0 len0 cap0 (z0.take len0) b4 gq go (go + 1) B x1 x2 l l kt ∧ ∃ e1 e2 e3 e4 e5 e6, x1 = .slice e1 e2 e3 ∧ x2 = .slice e4 e5 e6) (fun i _ _ _ _ _ _ _ _ _ _ _ _ _ _ _ _ _ _ _ => 40 - (intOf i).toNat)
  case atStart => exact ⟨0, 0, _, _, _, by omega, rfl, by omega, I0.out, _, _, _, _, _, _, rfl, rfl⟩
  case round =>
    obtain ⟨k, kt, _, _, l, hk, rfl, hkt, hI, e1, e2, e3, e4, e5, e6, rfl, rfl⟩ := hrel
    have I := Lib.hid hI
    clear hI I0
    by_cases hk40 : k < 40
    rotate_left
    · obtain rfl : k = 40 := by omega
      have hv := I.out.choose_spec.2.2.2.2.2.2.2.1
      have hq3 := I.out.choose_spec.2.2.2.2.2.2.2.2
      have hR := I.out.choose_spec.1.lk.inj
      have hl2 : ListsR none wr (some ⟨gq, 0, none⟩) 3 l.q := by
        have := I.out.choose_spec.2.2.2.1.lists (by unfold maxLen; omega)
        rwa [hq3] at this
      have F : Hid (LkR none wr e1 e2 e3 e4 e5 e6 l ∧ ListsR none wr (some ⟨gq, 0, none⟩) 3 l.q ∧ wr.heap[b4]? = some (.cells #[.slice e1 e2 e3, .slice e4 e5 e6] 26 (0, 0)) ∧ w.grownBy wr none) := Lib.hid ⟨hR, hl2, I.out.choose_spec.2.2.1, I.out.choose_spec.2.2.2.2.2.2.1⟩
      have RO := Lib.hid I.out.choose_spec.2.2.2.2.1.row
      have p1 := (rules_at F.out.2.2.1).1
      have p3 := lt_of_at F.out.2.2.1
      clear hv hq3 hR hl2 I
      go_wp2_with fail
      refine (SameInts_any _ _ _ _ _ _ _ _ _ F.out.1.1.1.1 RO.out).mono ?_
      rintro e y1 ⟨rfl, hg⟩
      rw [decide_eq_true rfl]
      have F2 := keep hg F
      clear hg F RO p1 p3
      have p1 := (rules_at F2.out.2.2.1).1
      have p3 := lt_of_at F2.out.2.2.1
      go_wp2_with fail
      refine (SameLists_any _ _ _ _ _ _ _ _ _ F2.out.1.1.2 F2.out.2.1).mono ?_
      rintro e y2 ⟨rfl, hg⟩
      rw [decide_eq_true rfl]
      have G := Lib.hid (grown_trans F2.out.2.2.2 hg)
      clear hg F2
      go_wp2_with fail
      go_ret
      exact ⟨rfl, grown_below G.out⟩
    have hk1 : (k : Int) < 40 := by omega
    go_wp2_with fail
    refine (Next_in _ _ _ _ _ _ _ 5 _ I.out.choose_spec.2.2.2.2.2.1 (by omega) (by omega) (by omega)).mono ?_
    rintro e y1 ⟨r, rfl, hr0, hr1, hT, hg⟩
    have I1 := Lib.hid (I.out.next OO (Nat.le_refl _) hT hg)
    clear I hT hg
    go_wp2_with fail
    refine (Next_in _ _ _ _ _ _ _ 3 _ I1.out.choose_spec.2.2.2.2.2.1 (by omega) (by omega) (by omega)).mono ?_
    rintro e y2 ⟨c0, rfl, hc0, hc1, hT, hg⟩
    have I2 := Lib.hid (I1.out.next OO (Nat.le_refl _) hT hg)
    clear I1 hT hg
    obtain ⟨c, rfl⟩ : ∃ c : Nat, c0 = c := ⟨c0.toNat, by omega⟩
    have hc3 : c < 3 := by omega
    go_wp2_with fail
    refine (Next_in _ _ _ _ _ _ _ 4 _ I2.out.choose_spec.2.2.2.2.2.1 (by omega) (by omega) (by omega)).mono ?_
    rintro e X ⟨s, rfl, hs0, hs1, hT, hg⟩
    have J := Lib.hid (I2.out.next OO (Nat.le_refl _) hT hg)
    clear I2 hT hg
    have hv := J.out.choose_spec.2.2.2.2.2.2.2.1
    have hq3 := J.out.choose_spec.2.2.2.2.2.2.2.2
    have ho3 : l.own.length = 3 := by rw [hv.len]; exact hq3
    have V := Lib.hid hv
    have Q3 := Lib.hid hq3
    have O3 := Lib.hid ho3
    obtain ⟨x, hx⟩ : ∃ x, l.q[c]? = some x := ⟨_, List.getElem?_eq_getElem (by omega)⟩
    obtain ⟨o, ho⟩ : ∃ o, l.own[c]? = some o := ⟨_, List.getElem?_eq_getElem (by omega)⟩
    have HX := Lib.hid hx
    have HO := Lib.hid ho
    have hx8 := hv.row hx
    have hs : s = 0 ∨ s = 1 ∨ s = 2 ∨ s = 3 := by omega
    have p1 := (rules_at J.out.choose_spec.2.2.1).1
    have p2 := (rules_at J.out.choose_spec.2.2.1).2
    have p3 := lt_of_at J.out.choose_spec.2.2.1
    clear hv hq3 ho3 hx ho
    rcases hs with rfl | rfl | rfl | rfl
    · as_aux_lemma =>
        go_wp2_with fail
        refine (Ask_any _ l r c _ J.out.choose_spec.1.lk).mono ?_
        rintro e Y ⟨v, rfl, hL, hg⟩
        obtain ⟨f1, f2, f3, f4, f5, f6, rfl, -⟩ := hL none (by simp)
        have ga := grown_alloc (.cells #[.slice f1 f2 f3, .slice f4 f5 f6] 26) (grown_refl Y none)
        have LA := Lib.hid (LkA.kept (show LkA X.heap.size Y (lkV f1 f2 f3 f4 f5 f6) (askV l r c) from hL) ga (by simp))
        have NB := Lib.hid (at_new Y (.cells #[.slice f1 f2 f3, .slice f4 f5 f6] 26))
        have HXZ := Lib.hid (grown_trans hg ga)
        have JZ := Lib.hid (J.out.grow HXZ.out)
        have zY := hg.size
        have zgo := J.out.lt
        obtain ⟨b11, hb11⟩ : ∃ b, Y.heap.size = b := ⟨_, rfl⟩
        obtain ⟨Z, hZ⟩ : ∃ Z, Z = Y.alloc (.cells #[.slice f1 f2 f3, .slice f4 f5 f6] 26) := ⟨_, rfl⟩
        rw [← hZ] at LA NB HXZ JZ
        rw [hb11] at NB zY
        clear hL hg ga
        clear p1 p2 p3
        go_upto_region 33 with fail
        rw [← hZ]
        try rw [hb11]
        clear hZ hb11
        by_cases hE : askE l r c = 0
        rotate_left
        · have t1 : (askE l r c == 0) = false := beq_eq_false_iff_ne.2 hE
          clear hE
          go_wp2_with fail
          go_roundw
          case rel => exact ⟨k + 1, _, _, _, _, by omega, by go_num, by omega, JZ.out, _, _, _, _, _, _, rfl, rfl⟩
          case measure => simp [intOf]; omega
        have EV := askV_of hE HX.out
        have PV := ask_valid hE
        have LA2 := LA.out
        rw [EV] at PV LA2
        have AV := Lib.hid PV
        have LA3 := Lib.hid LA2
        rw [hE]
        clear hE EV PV LA LA2
        obtain ⟨vx, hv1, hv2, hv3⟩ := J.out.choose_spec.2.2.2.1.at HX.out
        have HVX := Lib.hid hv1
        have QB := Lib.hid hv3.lt
        have QV := Lib.hid (hv3.kept HXZ.out (Classical.em _))
        obtain ⟨A, cx, rfl, k1, k2, k3, -⟩ := hv3.row
        unfold maxLen at k2
        have hzg := lt_of_cell hv1
        have h1 := (grown_cell HXZ.out hzg (by simp)).trans hv1
        have HV := Lib.hid h1
        have h2 := lt_of_cell h1
        have CB : Hid (Z.cell? ⟨b11, 0, none⟩ = some (.slice f1 f2 f3) ∧ Z.cell? ⟨b11, 1, none⟩ = some (.slice f4 f5 f6)) := Lib.hid ⟨by rw [cell_at NB.out]; rfl, by rw [cell_at NB.out]; rfl⟩
        have z11 := lt_of_at NB.out
        have hne1 : ¬ b4 = gq := by omega
        have hne2 : ¬ gq = b4 := by omega
        have hne3 : ¬ gq = b11 := by simp at hzg; omega
        have hne4 : ¬ b11 = gq := by simp at hzg; omega
        have hne5 : ¬ b4 = b11 := by simp at hzg; omega
        have hZs := HXZ.out.size
        clear hv1 hv2 hv3 hzg NB
        go_upto_region 34 with fail
        refine wp_region_held_drew (S := fun w' => w'.cell? ⟨b11, 0, none⟩ = some (.slice f1 f2 f3) ∧ w'.cell? ⟨b11, 1, none⟩ = some (.slice f4 f5 f6)) (by kernel_rfl) (by (try dsimp only); first | exact CB.out | exact ⟨alloc_keep CB.out.1, alloc_keep CB.out.2⟩ | exact CB3.out | exact ⟨set_keep (set_keep CB3.out.1 (by simp; omega)) (by simp; omega), set_keep (set_keep CB3.out.2 (by simp; omega)) (by simp; omega)⟩ | exact ⟨set_keep (set_keep (set_keep CB3.out.1 (by simp; omega)) (by simp; omega)) (by simp; omega), set_keep (set_keep (set_keep CB3.out.2 (by simp; omega)) (by simp; omega)) (by simp; omega)⟩) (fun hHeld => ?_)
        refine wpAnyH_take (i := 0) (oi := { dst := some 165, op := .move (.tmp 6), type := _, pos := _, after := _, guard := none }) (v := ?_) rfl (by kernel_rfl) (by kernel_rfl) (by kernel_rfl) (fun _ _ _ h => h) (Or.inl ⟨by rfl, ?_⟩) (by assumption) ?_
        rotate_left
        · (intro w hSw; (try dsimp only at hSw); go_simp; (try with_reducible rfl))
        try simp only [Act.put, List.setIfInBounds_toArray, List.set_cons_zero, List.set_cons_succ]
        refine wpAnyH_take (i := 1) (oi := { dst := some 166, op := .move (.tmp 10), type := _, pos := _, after := _, guard := none }) (v := ?_) rfl (by kernel_rfl) (by kernel_rfl) (by kernel_rfl) (fun _ _ _ h => h) (Or.inl ⟨by rfl, ?_⟩) (by assumption) ?_
        rotate_left
        · (intro w hSw; (try dsimp only at hSw); go_simp; (try with_reducible rfl))
        try simp only [Act.put, List.setIfInBounds_toArray, List.set_cons_zero, List.set_cons_succ]
        refine wpAnyH_take (i := 2) (oi := { dst := some 167, op := .load 26 (.tmp 11), type := _, pos := _, after := _, guard := none }) (v := ?_) rfl (by kernel_rfl) (by kernel_rfl) (by kernel_rfl) (fun _ _ _ h => h) (Or.inl ⟨by rfl, ?_⟩) (by assumption) ?_
        rotate_left
        · (intro w hSw; (try dsimp only at hSw); go_simp; (try with_reducible rfl))
        try simp only [Act.put, List.setIfInBounds_toArray, List.set_cons_zero, List.set_cons_succ]
        refine wpAnyH_take (i := 3) (oi := { dst := some 168, op := .move (.tmp 6), type := _, pos := _, after := _, guard := none }) (v := ?_) rfl (by kernel_rfl) (by kernel_rfl) (by kernel_rfl) (fun _ _ _ h => h) (Or.inl ⟨by rfl, ?_⟩) (by assumption) ?_
        rotate_left
        · (intro w hSw; (try dsimp only at hSw); go_simp; (try with_reducible rfl))
        try simp only [Act.put, List.setIfInBounds_toArray, List.set_cons_zero, List.set_cons_succ]
        refine wpAnyH_take (i := 4) (oi := { dst := some 169, op := .move (.tmp 10), type := _, pos := _, after := _, guard := none }) (v := ?_) rfl (by kernel_rfl) (by kernel_rfl) (by kernel_rfl) (fun _ _ _ h => h) (Or.inl ⟨by rfl, ?_⟩) (by assumption) ?_
        rotate_left
        · (intro w hSw; (try dsimp only at hSw); go_simp; (try with_reducible rfl))
        try simp only [Act.put, List.setIfInBounds_toArray, List.set_cons_zero, List.set_cons_succ]
        refine wpAnyH_take (i := 5) (oi := { dst := some 170, op := .indexAddr 24 (.tmp 168) (.tmp 169), type := _, pos := _, after := _, guard := none }) (v := ?_) rfl (by kernel_rfl) (by kernel_rfl) (by kernel_rfl) (fun _ _ _ h => h) (Or.inl ⟨by rfl, ?_⟩) (by assumption) ?_
        rotate_left
        · (intro w hSw; (try dsimp only at hSw); go_simp; (try with_reducible rfl))
        try simp only [Act.put, List.setIfInBounds_toArray, List.set_cons_zero, List.set_cons_succ]
        refine wpAnyH_take (i := 7) (oi := { dst := some 172, op := .move (.tmp 9), type := _, pos := _, after := _, guard := none }) (v := ?_) rfl (by kernel_rfl) (by kernel_rfl) (by kernel_rfl) (fun _ _ _ h => h) (Or.inl ⟨by rfl, ?_⟩) (by assumption) ?_
        rotate_left
        · (intro w hSw; (try dsimp only at hSw); go_simp; (try with_reducible rfl))
        try simp only [Act.put, List.setIfInBounds_toArray, List.set_cons_zero, List.set_cons_succ]
        refine wpAnyH_ready (rs := [6, 8]) (by kernel_rfl) (by simp) ?_
        refine AllReadyH.cons (o := _) rfl (fun K hK => ?_) (AllReadyH.cons (o := _) rfl (fun K hK => ?_) AllReadyH.nil)
        · skip
          go_simp
          refine hK.out _ _ ?_ (fun hHeld2 => ?_)
          · ((try dsimp only); first | exact CB.out | exact ⟨alloc_keep CB.out.1, alloc_keep CB.out.2⟩ | exact CB3.out | exact ⟨set_keep (set_keep CB3.out.1 (by simp; omega)) (by simp; omega), set_keep (set_keep CB3.out.2 (by simp; omega)) (by simp; omega)⟩ | exact ⟨set_keep (set_keep (set_keep CB3.out.1 (by simp; omega)) (by simp; omega)) (by simp; omega), set_keep (set_keep (set_keep CB3.out.2 (by simp; omega)) (by simp; omega)) (by simp; omega)⟩)
          clear hK K
          try simp only [Act.put, List.setIfInBounds_toArray, List.set_cons_zero, List.set_cons_succ]
          refine wpAnyH_ready (rs := [8]) (by kernel_rfl) (by simp) ?_
          refine AllReadyH.cons (o := _) rfl (fun K hK => ?_) AllReadyH.nil
          go_simp
          refine hK.out _ _ ?_ (fun hHeld2 => ?_)
          · ((try dsimp only); first | exact CB.out | exact ⟨alloc_keep CB.out.1, alloc_keep CB.out.2⟩ | exact CB3.out | exact ⟨set_keep (set_keep CB3.out.1 (by simp; omega)) (by simp; omega), set_keep (set_keep CB3.out.2 (by simp; omega)) (by simp; omega)⟩ | exact ⟨set_keep (set_keep (set_keep CB3.out.1 (by simp; omega)) (by simp; omega)) (by simp; omega), set_keep (set_keep (set_keep CB3.out.2 (by simp; omega)) (by simp; omega)) (by simp; omega)⟩)
          clear hK K
          try simp only [Act.put, List.setIfInBounds_toArray, List.set_cons_zero, List.set_cons_succ]
          refine wpAnyH_ready (rs := [9]) (by kernel_rfl) (by simp) ?_
          refine AllReadyH.cons (o := _) rfl (fun K hK => ?_) AllReadyH.nil
          refine step_append_queN rfl (.tmp 171) (.tmp 173) rfl (by rfl) (xs := x) (QueN.kept QV.out (r := none) (by repeat (first | assumption | exact grown_refl _ _ | refine grown_drew ?_ | refine grown_alloc _ ?_)) (Classical.em _)) (by rfl) (by first | exact (cell_at (at_new Z _)) | exact (cell_at (at_new Z.drew _))) (by omega) (by first | omega | (simp; omega)) ?_; intro v4 x3 hq4 hg4 hl4; obtain ⟨A4, c4, hv4, -⟩ := hq4.row; rw [List.length_append, List.length_singleton] at hv4; subst hv4; have Q4 := Lib.hid hq4; have G4 := Lib.hid hg4; have L4 := Lib.hid hl4; have CB3 : Hid (x3.cell? ⟨b11, 0, none⟩ = some (.slice f1 f2 f3) ∧ x3.cell? ⟨b11, 1, none⟩ = some (.slice f4 f5 f6)) := Lib.hid ⟨(grown_cell hg4 (lt_of_cell (alloc_keep CB.out.1)) (fun e => by have := QB.out _ e.symm; simp at this; omega)).trans (alloc_keep CB.out.1), (grown_cell hg4 (lt_of_cell (alloc_keep CB.out.2)) (fun e => by have := QB.out _ e.symm; simp at this; omega)).trans (alloc_keep CB.out.2)⟩; have hb4x := grown_at hg4 (at_alloc (.cells #[.int .i64 r] 3) JZ.out.choose_spec.2.2.1) (fun e => by have := QB.out _ e.symm; omega); have r1 := (rules_at hb4x).1; have r2 := (rules_at hb4x).2; have r3 := lt_of_at hb4x; obtain ⟨csq, hcsq, -⟩ := JZ.out.choose_spec.2.2.2.1; have hgqx := grown_at hg4 (at_alloc (.cells #[.int .i64 r] 3) hcsq) (fun e => by have := QB.out _ e.symm; omega); have s1 : x3.cell? ⟨gq, c, none⟩ = some (.slice A x.length cx) := (grown_cell hg4 (lt_of_cell (alloc_keep HV.out)) (fun e => by have := QB.out _ e.symm; simp at this; omega)).trans (alloc_keep HV.out); have s2 := free_at (j := c) hgqx; have s3 := lt_of_at hgqx; clear hq4 hg4 hl4 hb4x hcsq hgqx
          refine hK.out _ _ ?_ (fun hHeld2 => ?_)
          · ((try dsimp only); first | exact CB.out | exact ⟨alloc_keep CB.out.1, alloc_keep CB.out.2⟩ | exact CB3.out | exact ⟨set_keep (set_keep CB3.out.1 (by simp; omega)) (by simp; omega), set_keep (set_keep CB3.out.2 (by simp; omega)) (by simp; omega)⟩ | exact ⟨set_keep (set_keep (set_keep CB3.out.1 (by simp; omega)) (by simp; omega)) (by simp; omega), set_keep (set_keep (set_keep CB3.out.2 (by simp; omega)) (by simp; omega)) (by simp; omega)⟩)
          clear hK K
          try simp only [Act.put, List.setIfInBounds_toArray, List.set_cons_zero, List.set_cons_succ]
          refine wpAnyH_ready (rs := [10]) (by kernel_rfl) (by simp) ?_
          refine AllReadyH.cons (o := _) rfl (fun K hK => ?_) AllReadyH.nil
          go_simp
          refine hK.out _ _ ?_ (fun hHeld2 => ?_)
          · ((try dsimp only); first | exact CB.out | exact ⟨alloc_keep CB.out.1, alloc_keep CB.out.2⟩ | exact CB3.out | exact ⟨set_keep (set_keep CB3.out.1 (by simp; omega)) (by simp; omega), set_keep (set_keep CB3.out.2 (by simp; omega)) (by simp; omega)⟩ | exact ⟨set_keep (set_keep (set_keep CB3.out.1 (by simp; omega)) (by simp; omega)) (by simp; omega), set_keep (set_keep (set_keep CB3.out.2 (by simp; omega)) (by simp; omega)) (by simp; omega)⟩)
          clear hK K
          try simp only [Act.put, List.setIfInBounds_toArray, List.set_cons_zero, List.set_cons_succ]
          refine wpAnyH_take (i := 11) (oi := { dst := some 175, op := .indexAddr 24 (.tmp 165) (.tmp 166), type := _, pos := _, after := _, guard := none }) (v := ?_) rfl (by kernel_rfl) (by kernel_rfl) (by kernel_rfl) (fun _ _ _ h => h) (Or.inl ⟨by rfl, ?_⟩) (by assumption) ?_
          rotate_left
          · (intro w hSw; (try dsimp only at hSw); go_simp; (try with_reducible rfl))
          try simp only [Act.put, List.setIfInBounds_toArray, List.set_cons_zero, List.set_cons_succ]
          refine wpAnyH_ready (rs := [12]) (by kernel_rfl) (by simp) ?_
          refine AllReadyH.cons (o := _) rfl (fun K hK => ?_) AllReadyH.nil
          go_simp
          refine hK.out _ _ ?_ (fun hHeld2 => ?_)
          · ((try dsimp only); first | exact CB.out | exact ⟨alloc_keep CB.out.1, alloc_keep CB.out.2⟩ | exact CB3.out | exact ⟨set_keep (set_keep CB3.out.1 (by simp; omega)) (by simp; omega), set_keep (set_keep CB3.out.2 (by simp; omega)) (by simp; omega)⟩ | exact ⟨set_keep (set_keep (set_keep CB3.out.1 (by simp; omega)) (by simp; omega)) (by simp; omega), set_keep (set_keep (set_keep CB3.out.2 (by simp; omega)) (by simp; omega)) (by simp; omega)⟩)
          clear hK K
          try simp only [Act.put, List.setIfInBounds_toArray, List.set_cons_zero, List.set_cons_succ]
          refine wpAnyH_done (by kernel_rfl) ?_ _
          have IF := Lib.hid (J.out.ask OO LA3.out HXZ.out (by repeat (first | assumption | exact grown_refl _ _ | refine grown_drew ?_ | refine grown_alloc _ ?_)) HX.out HVX.out G4.out Q4.out L4.out AV.out)
          clear hHeld hHeld2
          go_wp2_with fail
          go_roundw
          case rel => exact ⟨k + 1, _, _, _, _, by omega, by go_num, by omega, IF.out.weak (by omega), _, _, _, _, _, _, rfl, rfl⟩
          case measure => simp [intOf]; omega
        · skip
          go_simp
          refine hK.out _ _ ?_ (fun hHeld2 => ?_)
          · ((try dsimp only); first | exact CB.out | exact ⟨alloc_keep CB.out.1, alloc_keep CB.out.2⟩ | exact CB3.out | exact ⟨set_keep (set_keep CB3.out.1 (by simp; omega)) (by simp; omega), set_keep (set_keep CB3.out.2 (by simp; omega)) (by simp; omega)⟩ | exact ⟨set_keep (set_keep (set_keep CB3.out.1 (by simp; omega)) (by simp; omega)) (by simp; omega), set_keep (set_keep (set_keep CB3.out.2 (by simp; omega)) (by simp; omega)) (by simp; omega)⟩)
          clear hK K
          try simp only [Act.put, List.setIfInBounds_toArray, List.set_cons_zero, List.set_cons_succ]
          refine wpAnyH_ready (rs := [6]) (by kernel_rfl) (by simp) ?_
          refine AllReadyH.cons (o := _) rfl (fun K hK => ?_) AllReadyH.nil
          go_simp
          refine hK.out _ _ ?_ (fun hHeld2 => ?_)
          · ((try dsimp only); first | exact CB.out | exact ⟨alloc_keep CB.out.1, alloc_keep CB.out.2⟩ | exact CB3.out | exact ⟨set_keep (set_keep CB3.out.1 (by simp; omega)) (by simp; omega), set_keep (set_keep CB3.out.2 (by simp; omega)) (by simp; omega)⟩ | exact ⟨set_keep (set_keep (set_keep CB3.out.1 (by simp; omega)) (by simp; omega)) (by simp; omega), set_keep (set_keep (set_keep CB3.out.2 (by simp; omega)) (by simp; omega)) (by simp; omega)⟩)
          clear hK K
          try simp only [Act.put, List.setIfInBounds_toArray, List.set_cons_zero, List.set_cons_succ]
          refine wpAnyH_ready (rs := [9]) (by kernel_rfl) (by simp) ?_
          refine AllReadyH.cons (o := _) rfl (fun K hK => ?_) AllReadyH.nil
          refine step_append_queN rfl (.tmp 171) (.tmp 173) rfl (by rfl) (xs := x) (QueN.kept QV.out (r := none) (by repeat (first | assumption | exact grown_refl _ _ | refine grown_drew ?_ | refine grown_alloc _ ?_)) (Classical.em _)) (by rfl) (by first | exact (cell_at (at_new Z _)) | exact (cell_at (at_new Z.drew _))) (by omega) (by first | omega | (simp; omega)) ?_; intro v4 x3 hq4 hg4 hl4; obtain ⟨A4, c4, hv4, -⟩ := hq4.row; rw [List.length_append, List.length_singleton] at hv4; subst hv4; have Q4 := Lib.hid hq4; have G4 := Lib.hid hg4; have L4 := Lib.hid hl4; have CB3 : Hid (x3.cell? ⟨b11, 0, none⟩ = some (.slice f1 f2 f3) ∧ x3.cell? ⟨b11, 1, none⟩ = some (.slice f4 f5 f6)) := Lib.hid ⟨(grown_cell hg4 (lt_of_cell (alloc_keep CB.out.1)) (fun e => by have := QB.out _ e.symm; simp at this; omega)).trans (alloc_keep CB.out.1), (grown_cell hg4 (lt_of_cell (alloc_keep CB.out.2)) (fun e => by have := QB.out _ e.symm; simp at this; omega)).trans (alloc_keep CB.out.2)⟩; have hb4x := grown_at hg4 (at_alloc (.cells #[.int .i64 r] 3) JZ.out.choose_spec.2.2.1) (fun e => by have := QB.out _ e.symm; omega); have r1 := (rules_at hb4x).1; have r2 := (rules_at hb4x).2; have r3 := lt_of_at hb4x; obtain ⟨csq, hcsq, -⟩ := JZ.out.choose_spec.2.2.2.1; have hgqx := grown_at hg4 (at_alloc (.cells #[.int .i64 r] 3) hcsq) (fun e => by have := QB.out _ e.symm; omega); have s1 : x3.cell? ⟨gq, c, none⟩ = some (.slice A x.length cx) := (grown_cell hg4 (lt_of_cell (alloc_keep HV.out)) (fun e => by have := QB.out _ e.symm; simp at this; omega)).trans (alloc_keep HV.out); have s2 := free_at (j := c) hgqx; have s3 := lt_of_at hgqx; clear hq4 hg4 hl4 hb4x hcsq hgqx
          refine hK.out _ _ ?_ (fun hHeld2 => ?_)
          · ((try dsimp only); first | exact CB.out | exact ⟨alloc_keep CB.out.1, alloc_keep CB.out.2⟩ | exact CB3.out | exact ⟨set_keep (set_keep CB3.out.1 (by simp; omega)) (by simp; omega), set_keep (set_keep CB3.out.2 (by simp; omega)) (by simp; omega)⟩ | exact ⟨set_keep (set_keep (set_keep CB3.out.1 (by simp; omega)) (by simp; omega)) (by simp; omega), set_keep (set_keep (set_keep CB3.out.2 (by simp; omega)) (by simp; omega)) (by simp; omega)⟩)
          clear hK K
          try simp only [Act.put, List.setIfInBounds_toArray, List.set_cons_zero, List.set_cons_succ]
          refine wpAnyH_ready (rs := [10]) (by kernel_rfl) (by simp) ?_
          refine AllReadyH.cons (o := _) rfl (fun K hK => ?_) AllReadyH.nil
          go_simp
          refine hK.out _ _ ?_ (fun hHeld2 => ?_)
          · ((try dsimp only); first | exact CB.out | exact ⟨alloc_keep CB.out.1, alloc_keep CB.out.2⟩ | exact CB3.out | exact ⟨set_keep (set_keep CB3.out.1 (by simp; omega)) (by simp; omega), set_keep (set_keep CB3.out.2 (by simp; omega)) (by simp; omega)⟩ | exact ⟨set_keep (set_keep (set_keep CB3.out.1 (by simp; omega)) (by simp; omega)) (by simp; omega), set_keep (set_keep (set_keep CB3.out.2 (by simp; omega)) (by simp; omega)) (by simp; omega)⟩)
          clear hK K
          try simp only [Act.put, List.setIfInBounds_toArray, List.set_cons_zero, List.set_cons_succ]
          refine wpAnyH_take (i := 11) (oi := { dst := some 175, op := .indexAddr 24 (.tmp 165) (.tmp 166), type := _, pos := _, after := _, guard := none }) (v := ?_) rfl (by kernel_rfl) (by kernel_rfl) (by kernel_rfl) (fun _ _ _ h => h) (Or.inl ⟨by rfl, ?_⟩) (by assumption) ?_
          rotate_left
          · (intro w hSw; (try dsimp only at hSw); go_simp; (try with_reducible rfl))
          try simp only [Act.put, List.setIfInBounds_toArray, List.set_cons_zero, List.set_cons_succ]
          refine wpAnyH_ready (rs := [12]) (by kernel_rfl) (by simp) ?_
          refine AllReadyH.cons (o := _) rfl (fun K hK => ?_) AllReadyH.nil
          go_simp
          refine hK.out _ _ ?_ (fun hHeld2 => ?_)
          · ((try dsimp only); first | exact CB.out | exact ⟨alloc_keep CB.out.1, alloc_keep CB.out.2⟩ | exact CB3.out | exact ⟨set_keep (set_keep CB3.out.1 (by simp; omega)) (by simp; omega), set_keep (set_keep CB3.out.2 (by simp; omega)) (by simp; omega)⟩ | exact ⟨set_keep (set_keep (set_keep CB3.out.1 (by simp; omega)) (by simp; omega)) (by simp; omega), set_keep (set_keep (set_keep CB3.out.2 (by simp; omega)) (by simp; omega)) (by simp; omega)⟩)
          clear hK K
          try simp only [Act.put, List.setIfInBounds_toArray, List.set_cons_zero, List.set_cons_succ]
          refine wpAnyH_done (by kernel_rfl) ?_ _
          have IF := Lib.hid (J.out.ask OO LA3.out HXZ.out (by repeat (first | assumption | exact grown_refl _ _ | refine grown_drew ?_ | refine grown_alloc _ ?_)) HX.out HVX.out G4.out Q4.out L4.out AV.out)
          clear hHeld hHeld2
          go_wp2_with fail
          go_roundw
          case rel => exact ⟨k + 1, _, _, _, _, by omega, by go_num, by omega, IF.out.weak (by omega), _, _, _, _, _, _, rfl, rfl⟩
          case measure => simp [intOf]; omega
    · as_aux_lemma =>
        go_wp2_with fail
        refine (Release_any _ l c _ J.out.choose_spec.1.lk).mono ?_
        rintro e Y ⟨v, rfl, hL, hg⟩
        obtain ⟨f1, f2, f3, f4, f5, f6, rfl, -⟩ := hL none (by simp)
        have ga := grown_alloc (.cells #[.slice f1 f2 f3, .slice f4 f5 f6] 26) (grown_refl Y none)
        have LA := Lib.hid (LkA.kept (show LkA X.heap.size Y (lkV f1 f2 f3 f4 f5 f6) (relV l c) from hL) ga (by simp))
        have NB := Lib.hid (at_new Y (.cells #[.slice f1 f2 f3, .slice f4 f5 f6] 26))
        have HXZ := Lib.hid (grown_trans hg ga)
        have JZ := Lib.hid (J.out.grow HXZ.out)
        have zY := hg.size
        have zgo := J.out.lt
        obtain ⟨b11, hb11⟩ : ∃ b, Y.heap.size = b := ⟨_, rfl⟩
        obtain ⟨Z, hZ⟩ : ∃ Z, Z = Y.alloc (.cells #[.slice f1 f2 f3, .slice f4 f5 f6] 26) := ⟨_, rfl⟩
        rw [← hZ] at LA NB HXZ JZ
        rw [hb11] at NB zY
        clear hL hg ga
        have RI := relE_iff V.out HO.out
        have q1 := JZ.out.choose_spec.2.2.2.2.1.cell (i := c) (v := .int .i64 o) (by simp [ints, HO.out])
        have q2 := JZ.out.choose_spec.2.2.2.2.1.free c
        have q3 := JZ.out.choose_spec.2.2.2.2.1.lt
        have hc1 : (c : Int) < 3 := hc1
        clear p1 p2 p3
        go_upto_region 37 with fail
        rw [← hZ]
        try rw [hb11]
        clear hZ hb11
        by_cases hE : relE l c = 0
        rotate_left
        · have t1 : (relE l c == 0) = false := beq_eq_false_iff_ne.2 hE
          have t2 : decide (0 ≤ o) = false := decide_eq_false (fun h => hE (RI.2 h))
          clear hE RI
          go_wp2_with fail
          go_roundw
          case rel => exact ⟨k + 1, _, _, _, _, by omega, by go_num, by omega, JZ.out, _, _, _, _, _, _, rfl, rfl⟩
          case measure => simp [intOf]; omega
        have t2 : decide (0 ≤ o) = true := decide_eq_true (RI.1 hE)
        have EV := relV_of hE
        have PV := rel_valid hE
        have LA2 := LA.out
        rw [EV] at PV LA2
        have IF := Lib.hid ((JZ.out.put4 OO LA2 (by omega) PV).putO (k := c) (x := -1) OO)
        have r1 := (rules_at JZ.out.choose_spec.2.2.1).1
        have r2 := (rules_at JZ.out.choose_spec.2.2.1).2
        have r3 := lt_of_at JZ.out.choose_spec.2.2.1
        have w1_ := (rules_at NB.out).1
        have w2_ := lt_of_at NB.out
        have hne1 : ¬ b4 = go := by omega
        have hne2 : ¬ go = b4 := by omega
        rw [hE]
        clear hE EV PV LA LA2 RI
        go_wp2_with fail
        go_roundw
        case rel => exact ⟨k + 1, _, _, _, _, by omega, by go_num, by omega, IF.out.weak (by omega), _, _, _, _, _, _, rfl, rfl⟩
        case measure => simp [intOf]; omega
    · as_aux_lemma =>
        go_wp2_with fail
        refine (Leave_any _ l r _ J.out.choose_spec.1.lk).mono ?_
        rintro e Y ⟨v, rfl, hL, hg⟩
        obtain ⟨f1, f2, f3, f4, f5, f6, rfl, -⟩ := hL none (by simp)
        have ga := grown_alloc (.cells #[.slice f1 f2 f3, .slice f4 f5 f6] 26) (grown_refl Y none)
        have LA := Lib.hid (LkA.kept (show LkA X.heap.size Y (lkV f1 f2 f3 f4 f5 f6) (leaveV l r) from hL) ga (by simp))
        have NB := Lib.hid (at_new Y (.cells #[.slice f1 f2 f3, .slice f4 f5 f6] 26))
        have HXZ := Lib.hid (grown_trans hg ga)
        have JZ := Lib.hid (J.out.grow HXZ.out)
        have zY := hg.size
        have zgo := J.out.lt
        obtain ⟨b11, hb11⟩ : ∃ b, Y.heap.size = b := ⟨_, rfl⟩
        obtain ⟨Z, hZ⟩ : ∃ Z, Z = Y.alloc (.cells #[.slice f1 f2 f3, .slice f4 f5 f6] 26) := ⟨_, rfl⟩
        rw [← hZ] at LA NB HXZ JZ
        rw [hb11] at NB zY
        clear hL hg ga
        clear p1 p2 p3
        go_upto_region 43 with fail
        rw [← hZ]
        try rw [hb11]
        clear hZ hb11
        by_cases hE : leaveE l r = 0
        rotate_left
        · have t1 : (leaveE l r == 0) = false := beq_eq_false_iff_ne.2 hE
          clear hE
          go_wp2_with fail
          go_roundw
          case rel => exact ⟨k + 1, _, _, _, _, by omega, by go_num, by omega, JZ.out, _, _, _, _, _, _, rfl, rfl⟩
          case measure => simp [intOf]; omega
        obtain ⟨kq, y, hw, -, hy, hry, hle⟩ := leaveE_zero hE
        have EV : leaveV l r = ⟨l.own, l.q.set kq (withL r y)⟩ := by unfold leaveV; rw [if_pos hE, hle]
        have EC : leaveC l r = kq := by unfold leaveC; rw [if_pos hE, hw]
        have PV := leave_valid hE
        have LA2 := LA.out
        rw [EV] at PV LA2
        have hkq : kq < 3 := by have := (List.getElem?_eq_some_iff.1 hy).1; rw [Q3.out] at this; exact this
        have hy8 := V.out.row hy
        have HY := Lib.hid hy
        have HRY := Lib.hid hry
        have IS := Lib.hid (JZ.out.put4 OO LA2 (by omega) PV)
        obtain ⟨vx, hv1, hv2, hv3⟩ := JZ.out.choose_spec.2.2.2.1.at hy
        obtain ⟨A, cx, rfl, k1, k2, k3, hRA⟩ := hv3.row
        have RA := Lib.hid hRA
        unfold maxLen at k2
        have hv4 := lt_of_cell hv1
        have r1 := (rules_at JZ.out.choose_spec.2.2.1).1
        have r2 := (rules_at JZ.out.choose_spec.2.2.1).2
        have r3 := lt_of_at JZ.out.choose_spec.2.2.1
        have w1_ := (rules_at NB.out).1
        have w2_ := lt_of_at NB.out
        have hk0 : decide ((kq : Int) < 0) = false := by simp
        have hk2 : decide ((2 : Int) < kq) = false := by simp; omega
        have hk3 : (kq : Int) < 3 := by omega
        rw [hE, EC]
        clear hE EV EC PV LA LA2 hw hy hry hle hv3 hRA
        go_wp2_with fail
        refine (Has_any A y.length cx y r _ RA.out).mono ?_
        rintro e Z' ⟨rfl, rfl⟩
        rw [decide_eq_true HRY.out]
        go_upto_region 47 with fail
        obtain ⟨Zs, hZs⟩ : ∃ Zs, Zs = (Z'.setCell ⟨b4, 0, none⟩ (.slice f1 f2 f3)).setCell ⟨b4, 1, none⟩ (.slice f4 f5 f6) := ⟨_, rfl⟩
        rw [← hZs] at IS ⊢
        clear hZs r1 r2 r3 w1_ w2_ hv1 hv2 hv4 RA
        obtain ⟨vx, hv1, hv2, hv3⟩ := IS.out.choose_spec.2.2.2.1.at HY.out
        have HVX := Lib.hid hv1
        obtain ⟨A, cx, rfl, k1, k2, k3, hRA⟩ := hv3.row
        have RA := Lib.hid hRA
        unfold maxLen at k2
        have zs := IS.out.lt
        clear hv1 hv2 hv3 hRA
        go_wp2_with fail
        go_loopw [18, 19] (fun rs i wr => ∃ j : Nat, j ≤ y.length ∧ i = .int .i64 j ∧ Zs.grownBy wr none ∧ wr.ownsRow Zs.heap.size 3 1 rs (withL r (y.take j)).length (ints (withL r (y.take j)))) (fun _ i _ => y.length - (intOf i).toNat)
        case atStart => exact ⟨0, by omega, rfl, grown_refl _ _, World.ownsRow_nil _ _ _ _⟩
        case round =>
          obtain ⟨j, hj, rfl, hG, hO⟩ := hrel
          have G := Lib.hid hG
          have O := Lib.hid hO
          have d1 := (grown_cell hG (lt_of_cell HVX.out) (by simp)).trans HVX.out
          have d2 := lt_of_cell d1
          have zG := hG.size
          clear hG hO
          by_cases hjn : j < y.length
          · obtain ⟨z, hz⟩ : ∃ z, y[j]? = some z := ⟨_, List.getElem?_eq_getElem hjn⟩
            obtain ⟨b, off, rfl, zb, d0⟩ := (RowIn.kept RA.out G.out).int hz
            have ST := Lib.hid (withL_step (x := r) hz)
            have hj' : (j : Int) < y.length := by omega
            have hle := withL_le r (y.take j)
            have hle2 : (y.take j).length ≤ 100 := by simp; omega
            clear hz
            by_cases hzr : z = r
            · have t1 : (z == r) = true := by simpa using hzr
              have t2 : (z != r) = false := by simp [bne, t1]
              have O2 : Hid (wr.ownsRow Zs.heap.size 3 1 u18 (withL r (y.take (j + 1))).length (ints (withL r (y.take (j + 1))))) := Lib.hid (by rw [ST.out, if_pos hzr]; exact O.out)
              clear hzr
              go_wp2_with fail
              go_roundw
              case rel => exact ⟨j + 1, by omega, by go_num, G.out, O2.out⟩
              case measure => simp [intOf]; omega
            · have t1 : (z == r) = false := by simpa using hzr
              have t2 : (z != r) = true := by simp [bne, t1]
              have S2 : Hid (withL r (y.take (j + 1)) = withL r (y.take j) ++ [z]) := Lib.hid (by rw [ST.out, if_neg hzr])
              clear hzr
              go_wp2_with (at_builtin; refine wpList_append_in St_int rfl (.tmp 243) (.tmp 251) rfl rfl (O.out.alloc (.cells #[.int .i64 z] 3)) rfl (cell_one _ _ rfl) (fun h => by cases h) (flat_one rfl) ?c1 ?c2 ?c3 ?_)
              case c1 => unfold maxLen; omega
              case c2 => omega
              case c3 => first | omega | (simp; omega)
              intro v3 w3 hown hg hloc
              clear hloc
              have G3 := Lib.hid (grown_own (grown_alloc (.cells #[.int .i64 z] 3) G.out) hg (fun m hm => (O.out.lt m hm).1))
              have O3 : Hid (w3.ownsRow Zs.heap.size 3 1 v3 (withL r (y.take (j + 1))).length (ints (withL r (y.take (j + 1))))) := Lib.hid (by rw [S2.out, List.length_append, ← ints_snoc]; exact hown)
              clear hown hg O G d0 d1
              go_wp2_with fail
              go_roundw
              case rel => exact ⟨j + 1, by omega, by go_num, G3.out, O3.out⟩
              case measure => simp [intOf]; omega
          · obtain rfl : j = y.length := by omega
            have O2 := O.out
            rw [List.take_length] at O2
            have IF := Lib.hid (IS.out.putQ OO G.out HY.out HVX.out (QueN.of_owns O2 (by omega)) (.inr (fun m hm => (O2.lt m hm).1)))
            obtain ⟨csq, hcsq, -⟩ := (IS.out.grow G.out).choose_spec.2.2.2.1
            have q2 := free_at (j := kq) hcsq
            obtain ⟨A9, c9, rfl, -, -, -, -⟩ := sliceIn_owns O2
            clear hjn O O2 hcsq
            go_wp2_with fail
            go_roundw
            case rel => exact ⟨k + 1, _, _, _, _, by omega, by go_num, by omega, IF.out.weak (by omega), _, _, _, _, _, _, rfl, rfl⟩
            case measure => simp [intOf]; omega
    · as_aux_lemma =>
        go_wp2_with fail
        refine (Shut_any B 30 a0 len0 cap0 _ _ 3 _ J.out.choose_spec.2.2.2.2.2.1 (by omega) (by omega)).mono ?_
        rintro e X2 ⟨gS, s, k3, rfl, hsl, hO, hgS, hT, hk3, hg⟩
        have J2 := Lib.hid (J.out.next OO (Nat.le_refl _) hT hg)
        have CS0 := Lib.hid hO.row
        have zX := J.out.lt
        have hgSl : go < gS := by omega
        have zgS := hO.lt
        have SL := Lib.hid hsl
        clear hsl hO hT hg p1 p2 p3
        have p1 := (rules_at J2.out.choose_spec.2.2.1).1
        have p3 := lt_of_at J2.out.choose_spec.2.2.1
        have GE : Hid (grantE l s.length = 0) := Lib.hid (by unfold grantE; rw [if_neg (by rw [valid_iff.2 V.out]; decide), if_neg (fun h => h (by rw [SL.out, O3.out]))])
        have PV := grant_valid GE.out
        obtain ⟨gv, gg⟩ := grant_good (l := l) (closed := s) rfl GE.out O3.out
        have GO := grOk V.out s 3 (by rw [O3.out]; exact Nat.le_refl _) (by rw [SL.out, O3.out])
        have gl := (grantTo_kept l s 3).2.2.2
        go_wp2_with fail
        refine (Grant_any _ l (some ⟨gS, 0, none⟩) 3 3 s _ J2.out.choose_spec.1.lk CS0.out).mono ?_
        rw [GE.out]
        obtain ⟨gs, hgs⟩ : ∃ gs, grantG l s = gs := ⟨_, rfl⟩
        rw [hgs] at gg ⊢
        rintro e Y ⟨v, A, cc, rfl, hle, hR, hRb, hL, hg⟩
        have hgY := Lib.hid hg
        obtain ⟨f1, f2, f3, f4, f5, f6, rfl, -⟩ := hL none (by simp)
        have ga := grown_alloc (.cells #[.slice f1 f2 f3, .slice f4 f5 f6] 26) (grown_refl Y none)
        have LA := Lib.hid (LkA.kept (show LkA X2.heap.size Y (lkV f1 f2 f3 f4 f5 f6) (grantV l s) from hL) ga (by simp))
        have NB := Lib.hid (at_new Y (.cells #[.slice f1 f2 f3, .slice f4 f5 f6] 26))
        have HXZ := Lib.hid (grown_trans hg ga)
        have JZ := Lib.hid (J2.out.grow HXZ.out)
        have zY := hg.size
        have zgo := J2.out.lt
        obtain ⟨b11, hb11⟩ : ∃ b, Y.heap.size = b := ⟨_, rfl⟩
        obtain ⟨Z, hZ⟩ : ∃ Z, Z = Y.alloc (.cells #[.slice f1 f2 f3, .slice f4 f5 f6] 26) := ⟨_, rfl⟩
        rw [← hZ] at LA NB HXZ JZ
        rw [hb11] at NB zY
        clear hL hg ga
        have LA2 := LA.out
        have IS := Lib.hid (JZ.out.put4 OO LA2 (by omega) PV)
        have gbx : Z.grownBy ((Z.setCell ⟨b4, 0, none⟩ (.slice f1 f2 f3)).setCell ⟨b4, 1, none⟩ (.slice f4 f5 f6)) (some b4) := grown_set _ (grown_set _ (grown_refl Z _) (.inr rfl)) (.inr rfl)
        have gYZ : Y.grownBy Z none := by rw [hZ]; exact grown_alloc _ (grown_refl _ _)
        have RG0 := Lib.hid ((hR.kept gYZ).kept_but gbx (fun y hy e => by have := hRb y hy; have := Option.some.inj e; omega))
        have CS1 := Lib.hid (((RowIn.kept CS0.out hgY.out).kept gYZ).kept_but gbx (fun y hy e => by obtain rfl := Option.some.inj hy; have := Option.some.inj e; simp at this; omega))
        have RBk : Hid (∀ y, A = some y → go < y.block) := Lib.hid (fun y hy => by have := hRb y hy; omega)
        have hgl3 : gs.length ≤ 3 := by rw [gg]; exact gl
        have GK : Hid (GrOk l s 3) := Lib.hid GO
        have GG := Lib.hid gg
        have GV := Lib.hid gv
        clear p1 p3 PV gv gg GO gl hgs hR hRb LA LA2 gbx gYZ hgY CS0
        go_upto_region 16 with fail
        rw [← hZ]
        try rw [hb11]
        clear hZ hb11
        have r1 := (rules_at JZ.out.choose_spec.2.2.1).1
        have r2 := (rules_at JZ.out.choose_spec.2.2.1).2
        have r3 := lt_of_at JZ.out.choose_spec.2.2.1
        have w1_ := (rules_at NB.out).1
        have w2_ := lt_of_at NB.out
        go_upto_region 19 with fail
        obtain ⟨Zs, hZs⟩ : ∃ Zs, Zs = (Z.setCell ⟨b4, 0, none⟩ (.slice f1 f2 f3)).setCell ⟨b4, 1, none⟩ (.slice f4 f5 f6) := ⟨_, rfl⟩
        rw [← hZs] at IS RG0 CS1 ⊢
        clear hZs r1 r2 r3 w1_ w2_
        go_wp2_with fail
        go_loopw [24, 25] (fun i _ wx => ∃ j : Nat, j ≤ gs.length ∧ i = .int .i64 j ∧ (TtI w wx B 30 a0 len0 cap0 (z0.take len0) b4 gq go (go + 1) go (.slice f1 f2 f3) (.slice f4 f5 f6) (grantV l s) (behindG l gs j) k3 ∧ RowIn wx A gs.length 2 (grs gs) ∧ RowIn wx (some ⟨gS, 0, none⟩) 3 1 (bools s))) (fun i _ _ => gs.length - (intOf i).toNat)
        case atStart => exact ⟨0, by omega, rfl, IS.out, RG0.out, CS1.out⟩
        case round =>
          obtain ⟨j, hj, rfl, hI, hRG, hCS⟩ := hrel
          have IW := Lib.hid hI
          have RG := Lib.hid hRG
          have CS := Lib.hid hCS
          clear hI hRG hCS IS RG0 CS1
          by_cases hjn : j < gs.length
          · obtain ⟨⟨rb, cz⟩, hg⟩ : ∃ g, gs[j]? = some g := ⟨_, List.getElem?_eq_getElem hjn⟩
            have hall := GK.out.all j (rb, cz)
            rw [← GG.out] at hall
            obtain ⟨cq, hcz, hcq, hcl, hown, rest, hrest⟩ := hall hg
            simp only at hcz hrest
            subst hcz
            have BS : Hid (behindG l gs (j + 1) = ⟨(behindG l gs j).own.set cq rb, (behindG l gs j).q.set cq rest⟩) := Lib.hid (by rw [behindG_succ hg]; unfold giveG; simp only [Int.toNat_natCast]; rw [qAt_of hrest]; rfl)
            obtain ⟨b1, o1, rfl, zb1, d1, d2⟩ := grs_cell RG.out hg
            obtain ⟨bc, oc, hce, zbc, d3⟩ := CS.out.bool hcl
            obtain ⟨rfl, rfl⟩ : gS = bc ∧ 0 = oc := by simpa using hce
            rw [Nat.zero_add] at d3
            have d4 := IW.out.choose_spec.2.2.2.2.1.cell (i := cq) (v := .int .i64 (-1)) (by simp [ints, hown])
            have d5 := IW.out.choose_spec.2.2.2.2.1.free cq
            have d6 := IW.out.choose_spec.2.2.2.2.1.lt
            obtain ⟨v0, q1, q2, q3⟩ := IW.out.choose_spec.2.2.2.1.at hrest
            have QN := Lib.hid q3
            obtain ⟨A0, c0, rfl, k1, k2, k3', hRA⟩ := q3.row
            obtain ⟨b3, o3, rfl, hcx⟩ := hRA.at (by simp)
            have d7 : wr.cell? ⟨b3, o3, none⟩ = some (.int .i64 rb) := hcx 0 _ rfl
            have z7 := lt_of_cell d7
            have z8 := lt_of_cell q1
            simp only [List.length_cons] at q1 k1
            have HV0 := Lib.hid q1
            have HREST := Lib.hid hrest
            have C1 := Lib.hid d1
            unfold maxLen at k2
            have hb1 := RBk.out _ rfl
            simp only at hb1
            have hj1 : (j : Int) < gs.length := by omega
            have hcq1 : (cq : Int) < 3 := by omega
            have hcq0 : decide ((cq : Int) < 0) = false := by simp
            have hcq2 : decide ((2 : Int) < cq) = false := by simp; omega
            have hr0 : (0 : Int) < (rest.length : Int) + 1 := by omega
            have hr1 : (1 : Int) ≤ (rest.length : Int) + 1 := by omega
            have hr2 : (rest.length : Int) + 1 ≤ c0 := by omega
            have hr3 : (1 : Int) ≤ c0 := by omega
            have hr4 : ((rest.length : Int) + 1 == 0) = false := beq_eq_false_iff_ne.2 (by omega)
            have hne1 : ¬ go = gq := by omega
            have hne2 : ¬ gq = go := by omega
            have hqb := QN.out.lt b3 rfl
            clear hg hcl hown hrest hce q3 hRA hcx
            go_upto_region 23 with fail
            go_quiet (fail)
            go_upto_region 25 with fail
            by_cases hcap : c0 = 1
            · subst hcap
              obtain ⟨hre, hqt⟩ := (tail_queN QN.out rfl).2 rfl
              subst hre
              refine wp_region_held_drew (S := fun w' => w'.cell? ⟨b1, o1 + j * 2, none⟩ = some (.int .i64 rb)) (by kernel_rfl) (by (try dsimp only); first | exact C1.out | exact set_keep C1.out (by simp; omega) | exact set_keep (set_keep C1.out (by simp; omega)) (by simp; omega)) (fun hHeld => ?_)
              refine wpAnyH_take (i := 0) (oi := { dst := some 114, op := .move (.tmp 7), type := _, pos := _, after := _, guard := none }) (v := ?_) rfl (by kernel_rfl) (by kernel_rfl) (by kernel_rfl) (fun _ _ _ h => h) (Or.inl ⟨by rfl, ?_⟩) (by assumption) ?_
              rotate_left
              · (intro w hSw; (try dsimp only at hSw); go_simp; (try with_reducible rfl))
              try simp only [Act.put, List.setIfInBounds_toArray, List.set_cons_zero, List.set_cons_succ]
              refine wpAnyH_take (i := 1) (oi := { dst := some 115, op := .move (.tmp 25), type := _, pos := _, after := _, guard := none }) (v := ?_) rfl (by kernel_rfl) (by kernel_rfl) (by kernel_rfl) (fun _ _ _ h => h) (Or.inl ⟨by rfl, ?_⟩) (by assumption) ?_
              rotate_left
              · (intro w hSw; (try dsimp only at hSw); go_simp; (try with_reducible rfl))
              try simp only [Act.put, List.setIfInBounds_toArray, List.set_cons_zero, List.set_cons_succ]
              refine wpAnyH_take (i := 2) (oi := { dst := some 116, op := .move (.tmp 6), type := _, pos := _, after := _, guard := none }) (v := ?_) rfl (by kernel_rfl) (by kernel_rfl) (by kernel_rfl) (fun _ _ _ h => h) (Or.inl ⟨by rfl, ?_⟩) (by assumption) ?_
              rotate_left
              · (intro w hSw; (try dsimp only at hSw); go_simp; (try with_reducible rfl))
              try simp only [Act.put, List.setIfInBounds_toArray, List.set_cons_zero, List.set_cons_succ]
              refine wpAnyH_take (i := 3) (oi := { dst := some 117, op := .move (.tmp 25), type := _, pos := _, after := _, guard := none }) (v := ?_) rfl (by kernel_rfl) (by kernel_rfl) (by kernel_rfl) (fun _ _ _ h => h) (Or.inl ⟨by rfl, ?_⟩) (by assumption) ?_
              rotate_left
              · (intro w hSw; (try dsimp only at hSw); go_simp; (try with_reducible rfl))
              try simp only [Act.put, List.setIfInBounds_toArray, List.set_cons_zero, List.set_cons_succ]
              refine wpAnyH_take (i := 4) (oi := { dst := some 118, op := .move (.tmp 22), type := _, pos := _, after := _, guard := none }) (v := ?_) rfl (by kernel_rfl) (by kernel_rfl) (by kernel_rfl) (fun _ _ _ h => h) (Or.inl ⟨by rfl, ?_⟩) (by assumption) ?_
              rotate_left
              · (intro w hSw; (try dsimp only at hSw); go_simp; (try with_reducible rfl))
              try simp only [Act.put, List.setIfInBounds_toArray, List.set_cons_zero, List.set_cons_succ]
              refine wpAnyH_take (i := 5) (oi := { dst := some 119, op := .move (.tmp 24), type := _, pos := _, after := _, guard := none }) (v := ?_) rfl (by kernel_rfl) (by kernel_rfl) (by kernel_rfl) (fun _ _ _ h => h) (Or.inl ⟨by rfl, ?_⟩) (by assumption) ?_
              rotate_left
              · (intro w hSw; (try dsimp only at hSw); go_simp; (try with_reducible rfl))
              try simp only [Act.put, List.setIfInBounds_toArray, List.set_cons_zero, List.set_cons_succ]
              refine wpAnyH_take (i := 6) (oi := { dst := some 120, op := .indexAddr 47 (.tmp 118) (.tmp 119), type := _, pos := _, after := _, guard := none }) (v := ?_) rfl (by kernel_rfl) (by kernel_rfl) (by kernel_rfl) (fun _ _ _ h => h) (Or.inl ⟨by rfl, ?_⟩) (by assumption) ?_
              rotate_left
              · (intro w hSw; (try dsimp only at hSw); go_simp; (try with_reducible rfl))
              try simp only [Act.put, List.setIfInBounds_toArray, List.set_cons_zero, List.set_cons_succ]
              refine wpAnyH_take (i := 7) (oi := { dst := some 121, op := .fieldAddr 51 (.tmp 120) 0, type := _, pos := _, after := _, guard := none }) (v := ?_) rfl (by kernel_rfl) (by kernel_rfl) (by kernel_rfl) (fun _ _ _ h => h) (Or.inl ⟨by rfl, ?_⟩) (by assumption) ?_
              rotate_left
              · (intro w hSw; (try dsimp only at hSw); go_simp; (try with_reducible rfl))
              try simp only [Act.put, List.setIfInBounds_toArray, List.set_cons_zero, List.set_cons_succ]
              refine wpAnyH_take (i := 8) (oi := { dst := some 122, op := .load 3 (.tmp 121), type := _, pos := _, after := _, guard := none }) (v := ?_) rfl (by kernel_rfl) (by kernel_rfl) (by kernel_rfl) (fun _ _ _ h => h) (Or.inl ⟨by rfl, ?_⟩) (by assumption) ?_
              rotate_left
              · (intro w hSw; (try dsimp only at hSw); go_simp; (try with_reducible rfl))
              try simp only [Act.put, List.setIfInBounds_toArray, List.set_cons_zero, List.set_cons_succ]
              refine wpAnyH_take (i := 9) (oi := { dst := some 123, op := .move (.tmp 6), type := _, pos := _, after := _, guard := none }) (v := ?_) rfl (by kernel_rfl) (by kernel_rfl) (by kernel_rfl) (fun _ _ _ h => h) (Or.inl ⟨by rfl, ?_⟩) (by assumption) ?_
              rotate_left
              · (intro w hSw; (try dsimp only at hSw); go_simp; (try with_reducible rfl))
              try simp only [Act.put, List.setIfInBounds_toArray, List.set_cons_zero, List.set_cons_succ]
              refine wpAnyH_take (i := 10) (oi := { dst := some 124, op := .move (.tmp 25), type := _, pos := _, after := _, guard := none }) (v := ?_) rfl (by kernel_rfl) (by kernel_rfl) (by kernel_rfl) (fun _ _ _ h => h) (Or.inl ⟨by rfl, ?_⟩) (by assumption) ?_
              rotate_left
              · (intro w hSw; (try dsimp only at hSw); go_simp; (try with_reducible rfl))
              try simp only [Act.put, List.setIfInBounds_toArray, List.set_cons_zero, List.set_cons_succ]
              refine wpAnyH_take (i := 11) (oi := { dst := some 125, op := .indexAddr 24 (.tmp 123) (.tmp 124), type := _, pos := _, after := _, guard := none }) (v := ?_) rfl (by kernel_rfl) (by kernel_rfl) (by kernel_rfl) (fun _ _ _ h => h) (Or.inl ⟨by rfl, ?_⟩) (by assumption) ?_
              rotate_left
              · (intro w hSw; (try dsimp only at hSw); go_simp; (try with_reducible rfl))
              try simp only [Act.put, List.setIfInBounds_toArray, List.set_cons_zero, List.set_cons_succ]
              refine wpAnyH_ready (rs := [12]) (by kernel_rfl) (by simp) ?_
              refine AllReadyH.cons (o := _) rfl (fun K hK => ?_) AllReadyH.nil
              go_simp
              refine hK.out _ _ ?_ (fun hHeld2 => ?_)
              · ((try dsimp only); first | exact C1.out | exact set_keep C1.out (by simp; omega) | exact set_keep (set_keep C1.out (by simp; omega)) (by simp; omega))
              clear hK K
              try simp only [Act.put, List.setIfInBounds_toArray, List.set_cons_zero, List.set_cons_succ]
              refine wpAnyH_take (i := 13) (oi := { dst := some 127, op := .slice 22 (.tmp 126) (some (.const (.int .i64 (1)))) none none, type := _, pos := _, after := _, guard := none }) (v := ?_) rfl (by kernel_rfl) (by kernel_rfl) (by kernel_rfl) (fun _ _ _ h => h) (Or.inl ⟨by rfl, ?_⟩) (by assumption) ?_
              rotate_left
              · (intro w hSw; (try dsimp only at hSw); go_simp; (try with_reducible rfl))
              try simp only [Act.put, List.setIfInBounds_toArray, List.set_cons_zero, List.set_cons_succ]
              refine wpAnyH_take (i := 14) (oi := { dst := some 128, op := .indexAddr 22 (.tmp 114) (.tmp 115), type := _, pos := _, after := _, guard := none }) (v := ?_) rfl (by kernel_rfl) (by kernel_rfl) (by kernel_rfl) (fun _ _ _ h => h) (Or.inl ⟨by rfl, ?_⟩) (by assumption) ?_
              rotate_left
              · (intro w hSw; (try dsimp only at hSw); go_simp; (try with_reducible rfl))
              try simp only [Act.put, List.setIfInBounds_toArray, List.set_cons_zero, List.set_cons_succ]
              refine wpAnyH_ready (rs := [15]) (by kernel_rfl) (by simp) ?_
              refine AllReadyH.cons (o := _) rfl (fun K hK => ?_) AllReadyH.nil
              go_simp
              refine hK.out _ _ ?_ (fun hHeld2 => ?_)
              · ((try dsimp only); first | exact C1.out | exact set_keep C1.out (by simp; omega) | exact set_keep (set_keep C1.out (by simp; omega)) (by simp; omega))
              clear hK K
              try simp only [Act.put, List.setIfInBounds_toArray, List.set_cons_zero, List.set_cons_succ]
              refine wpAnyH_take (i := 16) (oi := { dst := some 129, op := .indexAddr 24 (.tmp 116) (.tmp 117), type := _, pos := _, after := _, guard := none }) (v := ?_) rfl (by kernel_rfl) (by kernel_rfl) (by kernel_rfl) (fun _ _ _ h => h) (Or.inl ⟨by rfl, ?_⟩) (by assumption) ?_
              rotate_left
              · (intro w hSw; (try dsimp only at hSw); go_simp; (try with_reducible rfl))
              try simp only [Act.put, List.setIfInBounds_toArray, List.set_cons_zero, List.set_cons_succ]
              refine wpAnyH_ready (rs := [17]) (by kernel_rfl) (by simp) ?_
              refine AllReadyH.cons (o := _) rfl (fun K hK => ?_) AllReadyH.nil
              go_simp
              refine hK.out _ _ ?_ (fun hHeld2 => ?_)
              · ((try dsimp only); first | exact C1.out | exact set_keep C1.out (by simp; omega) | exact set_keep (set_keep C1.out (by simp; omega)) (by simp; omega))
              clear hK K
              try simp only [Act.put, List.setIfInBounds_toArray, List.set_cons_zero, List.set_cons_succ]
              refine wpAnyH_done (by kernel_rfl) ?_ _
              have IF := Lib.hid (turn_give OO IW.out HREST.out HV0.out hqt (by simp [Value.ownBlock]))
              have RG2 := Lib.hid ((RG.out.kept_but (grown_set (p := ⟨go, cq, none⟩) (.int .i64 rb) (grown_refl wr (some go)) (.inr rfl)) (fun y hy e => by have := RBk.out y hy; have := Option.some.inj e; omega)).kept_but (grown_set (p := ⟨gq, cq, none⟩) (.slice (some ⟨b3, o3, none⟩) 0 0) (grown_refl _ (some gq)) (.inr rfl)) (fun y hy e => by have := RBk.out y hy; have := Option.some.inj e; omega))
              have CS2 := Lib.hid ((CS.out.kept_but (grown_set (p := ⟨go, cq, none⟩) (.int .i64 rb) (grown_refl wr (some go)) (.inr rfl)) (fun y hy e => by obtain rfl := Option.some.inj hy; have := Option.some.inj e; simp at this; omega)).kept_but (grown_set (p := ⟨gq, cq, none⟩) (.slice (some ⟨b3, o3, none⟩) 0 0) (grown_refl _ (some gq)) (.inr rfl)) (fun y hy e => by obtain rfl := Option.some.inj hy; have := Option.some.inj e; simp at this; omega))
              clear hHeld hHeld2
              go_wp2_with fail
              go_roundw
              case rel => exact ⟨j + 1, by omega, by go_num, by rw [BS.out]; exact IF.out.grow (grown_drew (grown_draw nq (grown_refl _ none))), RG2.out, CS2.out⟩
              case measure => simp [intOf]; omega
            · have hqt := (tail_queN QN.out rfl).1 hcap
              have hcap2 : ¬ c0 - 1 = 0 := by omega
              refine wp_region_held_drew (S := fun w' => w'.cell? ⟨b1, o1 + j * 2, none⟩ = some (.int .i64 rb)) (by kernel_rfl) (by (try dsimp only); first | exact C1.out | exact set_keep C1.out (by simp; omega) | exact set_keep (set_keep C1.out (by simp; omega)) (by simp; omega)) (fun hHeld => ?_)
              refine wpAnyH_take (i := 0) (oi := { dst := some 114, op := .move (.tmp 7), type := _, pos := _, after := _, guard := none }) (v := ?_) rfl (by kernel_rfl) (by kernel_rfl) (by kernel_rfl) (fun _ _ _ h => h) (Or.inl ⟨by rfl, ?_⟩) (by assumption) ?_
              rotate_left
              · (intro w hSw; (try dsimp only at hSw); go_simp; (try with_reducible rfl))
              try simp only [Act.put, List.setIfInBounds_toArray, List.set_cons_zero, List.set_cons_succ]
              refine wpAnyH_take (i := 1) (oi := { dst := some 115, op := .move (.tmp 25), type := _, pos := _, after := _, guard := none }) (v := ?_) rfl (by kernel_rfl) (by kernel_rfl) (by kernel_rfl) (fun _ _ _ h => h) (Or.inl ⟨by rfl, ?_⟩) (by assumption) ?_
              rotate_left
              · (intro w hSw; (try dsimp only at hSw); go_simp; (try with_reducible rfl))
              try simp only [Act.put, List.setIfInBounds_toArray, List.set_cons_zero, List.set_cons_succ]
              refine wpAnyH_take (i := 2) (oi := { dst := some 116, op := .move (.tmp 6), type := _, pos := _, after := _, guard := none }) (v := ?_) rfl (by kernel_rfl) (by kernel_rfl) (by kernel_rfl) (fun _ _ _ h => h) (Or.inl ⟨by rfl, ?_⟩) (by assumption) ?_
              rotate_left
              · (intro w hSw; (try dsimp only at hSw); go_simp; (try with_reducible rfl))
              try simp only [Act.put, List.setIfInBounds_toArray, List.set_cons_zero, List.set_cons_succ]
              refine wpAnyH_take (i := 3) (oi := { dst := some 117, op := .move (.tmp 25), type := _, pos := _, after := _, guard := none }) (v := ?_) rfl (by kernel_rfl) (by kernel_rfl) (by kernel_rfl) (fun _ _ _ h => h) (Or.inl ⟨by rfl, ?_⟩) (by assumption) ?_
              rotate_left
              · (intro w hSw; (try dsimp only at hSw); go_simp; (try with_reducible rfl))
              try simp only [Act.put, List.setIfInBounds_toArray, List.set_cons_zero, List.set_cons_succ]
              refine wpAnyH_take (i := 4) (oi := { dst := some 118, op := .move (.tmp 22), type := _, pos := _, after := _, guard := none }) (v := ?_) rfl (by kernel_rfl) (by kernel_rfl) (by kernel_rfl) (fun _ _ _ h => h) (Or.inl ⟨by rfl, ?_⟩) (by assumption) ?_
              rotate_left
              · (intro w hSw; (try dsimp only at hSw); go_simp; (try with_reducible rfl))
              try simp only [Act.put, List.setIfInBounds_toArray, List.set_cons_zero, List.set_cons_succ]
              refine wpAnyH_take (i := 5) (oi := { dst := some 119, op := .move (.tmp 24), type := _, pos := _, after := _, guard := none }) (v := ?_) rfl (by kernel_rfl) (by kernel_rfl) (by kernel_rfl) (fun _ _ _ h => h) (Or.inl ⟨by rfl, ?_⟩) (by assumption) ?_
              rotate_left
              · (intro w hSw; (try dsimp only at hSw); go_simp; (try with_reducible rfl))
              try simp only [Act.put, List.setIfInBounds_toArray, List.set_cons_zero, List.set_cons_succ]
              refine wpAnyH_take (i := 6) (oi := { dst := some 120, op := .indexAddr 47 (.tmp 118) (.tmp 119), type := _, pos := _, after := _, guard := none }) (v := ?_) rfl (by kernel_rfl) (by kernel_rfl) (by kernel_rfl) (fun _ _ _ h => h) (Or.inl ⟨by rfl, ?_⟩) (by assumption) ?_
              rotate_left
              · (intro w hSw; (try dsimp only at hSw); go_simp; (try with_reducible rfl))
              try simp only [Act.put, List.setIfInBounds_toArray, List.set_cons_zero, List.set_cons_succ]
              refine wpAnyH_take (i := 7) (oi := { dst := some 121, op := .fieldAddr 51 (.tmp 120) 0, type := _, pos := _, after := _, guard := none }) (v := ?_) rfl (by kernel_rfl) (by kernel_rfl) (by kernel_rfl) (fun _ _ _ h => h) (Or.inl ⟨by rfl, ?_⟩) (by assumption) ?_
              rotate_left
              · (intro w hSw; (try dsimp only at hSw); go_simp; (try with_reducible rfl))
              try simp only [Act.put, List.setIfInBounds_toArray, List.set_cons_zero, List.set_cons_succ]
              refine wpAnyH_take (i := 8) (oi := { dst := some 122, op := .load 3 (.tmp 121), type := _, pos := _, after := _, guard := none }) (v := ?_) rfl (by kernel_rfl) (by kernel_rfl) (by kernel_rfl) (fun _ _ _ h => h) (Or.inl ⟨by rfl, ?_⟩) (by assumption) ?_
              rotate_left
              · (intro w hSw; (try dsimp only at hSw); go_simp; (try with_reducible rfl))
              try simp only [Act.put, List.setIfInBounds_toArray, List.set_cons_zero, List.set_cons_succ]
              refine wpAnyH_take (i := 9) (oi := { dst := some 123, op := .move (.tmp 6), type := _, pos := _, after := _, guard := none }) (v := ?_) rfl (by kernel_rfl) (by kernel_rfl) (by kernel_rfl) (fun _ _ _ h => h) (Or.inl ⟨by rfl, ?_⟩) (by assumption) ?_
              rotate_left
              · (intro w hSw; (try dsimp only at hSw); go_simp; (try with_reducible rfl))
              try simp only [Act.put, List.setIfInBounds_toArray, List.set_cons_zero, List.set_cons_succ]
              refine wpAnyH_take (i := 10) (oi := { dst := some 124, op := .move (.tmp 25), type := _, pos := _, after := _, guard := none }) (v := ?_) rfl (by kernel_rfl) (by kernel_rfl) (by kernel_rfl) (fun _ _ _ h => h) (Or.inl ⟨by rfl, ?_⟩) (by assumption) ?_
              rotate_left
              · (intro w hSw; (try dsimp only at hSw); go_simp; (try with_reducible rfl))
              try simp only [Act.put, List.setIfInBounds_toArray, List.set_cons_zero, List.set_cons_succ]
              refine wpAnyH_take (i := 11) (oi := { dst := some 125, op := .indexAddr 24 (.tmp 123) (.tmp 124), type := _, pos := _, after := _, guard := none }) (v := ?_) rfl (by kernel_rfl) (by kernel_rfl) (by kernel_rfl) (fun _ _ _ h => h) (Or.inl ⟨by rfl, ?_⟩) (by assumption) ?_
              rotate_left
              · (intro w hSw; (try dsimp only at hSw); go_simp; (try with_reducible rfl))
              try simp only [Act.put, List.setIfInBounds_toArray, List.set_cons_zero, List.set_cons_succ]
              refine wpAnyH_ready (rs := [12]) (by kernel_rfl) (by simp) ?_
              refine AllReadyH.cons (o := _) rfl (fun K hK => ?_) AllReadyH.nil
              go_simp
              refine hK.out _ _ ?_ (fun hHeld2 => ?_)
              · ((try dsimp only); first | exact C1.out | exact set_keep C1.out (by simp; omega) | exact set_keep (set_keep C1.out (by simp; omega)) (by simp; omega))
              clear hK K
              try simp only [Act.put, List.setIfInBounds_toArray, List.set_cons_zero, List.set_cons_succ]
              refine wpAnyH_take (i := 13) (oi := { dst := some 127, op := .slice 22 (.tmp 126) (some (.const (.int .i64 (1)))) none none, type := _, pos := _, after := _, guard := none }) (v := ?_) rfl (by kernel_rfl) (by kernel_rfl) (by kernel_rfl) (fun _ _ _ h => h) (Or.inl ⟨by rfl, ?_⟩) (by assumption) ?_
              rotate_left
              · (intro w hSw; (try dsimp only at hSw); go_simp; (try with_reducible rfl))
              try simp only [Act.put, List.setIfInBounds_toArray, List.set_cons_zero, List.set_cons_succ]
              refine wpAnyH_take (i := 14) (oi := { dst := some 128, op := .indexAddr 22 (.tmp 114) (.tmp 115), type := _, pos := _, after := _, guard := none }) (v := ?_) rfl (by kernel_rfl) (by kernel_rfl) (by kernel_rfl) (fun _ _ _ h => h) (Or.inl ⟨by rfl, ?_⟩) (by assumption) ?_
              rotate_left
              · (intro w hSw; (try dsimp only at hSw); go_simp; (try with_reducible rfl))
              try simp only [Act.put, List.setIfInBounds_toArray, List.set_cons_zero, List.set_cons_succ]
              refine wpAnyH_ready (rs := [15]) (by kernel_rfl) (by simp) ?_
              refine AllReadyH.cons (o := _) rfl (fun K hK => ?_) AllReadyH.nil
              go_simp
              refine hK.out _ _ ?_ (fun hHeld2 => ?_)
              · ((try dsimp only); first | exact C1.out | exact set_keep C1.out (by simp; omega) | exact set_keep (set_keep C1.out (by simp; omega)) (by simp; omega))
              clear hK K
              try simp only [Act.put, List.setIfInBounds_toArray, List.set_cons_zero, List.set_cons_succ]
              refine wpAnyH_take (i := 16) (oi := { dst := some 129, op := .indexAddr 24 (.tmp 116) (.tmp 117), type := _, pos := _, after := _, guard := none }) (v := ?_) rfl (by kernel_rfl) (by kernel_rfl) (by kernel_rfl) (fun _ _ _ h => h) (Or.inl ⟨by rfl, ?_⟩) (by assumption) ?_
              rotate_left
              · (intro w hSw; (try dsimp only at hSw); go_simp; (try with_reducible rfl))
              try simp only [Act.put, List.setIfInBounds_toArray, List.set_cons_zero, List.set_cons_succ]
              refine wpAnyH_ready (rs := [17]) (by kernel_rfl) (by simp) ?_
              refine AllReadyH.cons (o := _) rfl (fun K hK => ?_) AllReadyH.nil
              go_simp
              refine hK.out _ _ ?_ (fun hHeld2 => ?_)
              · ((try dsimp only); first | exact C1.out | exact set_keep C1.out (by simp; omega) | exact set_keep (set_keep C1.out (by simp; omega)) (by simp; omega))
              clear hK K
              try simp only [Act.put, List.setIfInBounds_toArray, List.set_cons_zero, List.set_cons_succ]
              refine wpAnyH_done (by kernel_rfl) ?_ _
              have IF := Lib.hid (turn_give OO IW.out HREST.out HV0.out hqt (by simp [Value.ownBlock]))
              have RG2 := Lib.hid ((RG.out.kept_but (grown_set (p := ⟨go, cq, none⟩) (.int .i64 rb) (grown_refl wr (some go)) (.inr rfl)) (fun y hy e => by have := RBk.out y hy; have := Option.some.inj e; omega)).kept_but (grown_set (p := ⟨gq, cq, none⟩) (.slice (some ⟨b3, o3 + 1, none⟩) rest.length (c0 - 1)) (grown_refl _ (some gq)) (.inr rfl)) (fun y hy e => by have := RBk.out y hy; have := Option.some.inj e; omega))
              have CS2 := Lib.hid ((CS.out.kept_but (grown_set (p := ⟨go, cq, none⟩) (.int .i64 rb) (grown_refl wr (some go)) (.inr rfl)) (fun y hy e => by obtain rfl := Option.some.inj hy; have := Option.some.inj e; simp at this; omega)).kept_but (grown_set (p := ⟨gq, cq, none⟩) (.slice (some ⟨b3, o3 + 1, none⟩) rest.length (c0 - 1)) (grown_refl _ (some gq)) (.inr rfl)) (fun y hy e => by obtain rfl := Option.some.inj hy; have := Option.some.inj e; simp at this; omega))
              clear hHeld hHeld2
              go_wp2_with fail
              go_roundw
              case rel => exact ⟨j + 1, by omega, by go_num, by rw [BS.out]; exact IF.out.grow (grown_drew (grown_draw nq (grown_refl _ none))), RG2.out, CS2.out⟩
              case measure => simp [intOf]; omega
          · obtain rfl : j = gs.length := by omega
            have FI : Hid (behindG l gs gs.length = grantV l s) := Lib.hid (by rw [GV.out, GG.out]; exact GK.out.fin)
            rw [FI.out] at IW
            have IW2 := Lib.hid (IW.out.weak (c' := B) (by omega))
            clear hjn
            go_wp2_with fail
            go_loopw [26] (fun i wx => ∃ q : Nat, q ≤ 3 ∧ i = .int .i64 q ∧ wx = wr) (fun i _ => 3 - (intOf i).toNat)
            case atStart => exact ⟨0, by omega, rfl, rfl⟩
            case round =>
              obtain ⟨q, hq, rfl, rfl⟩ := hrel
              by_cases hq3 : q < 3
              · obtain ⟨bb, hbb⟩ : ∃ bb, s[q]? = some bb := ⟨_, List.getElem?_eq_getElem (by rw [SL.out]; omega)⟩
                obtain ⟨bc, oc, hce, zbc, d3⟩ := CS.out.bool hbb
                obtain ⟨rfl, rfl⟩ : gS = bc ∧ 0 = oc := by simpa using hce
                rw [Nat.zero_add] at d3
                have hVg := IW2.out.choose_spec.2.2.2.2.2.2.2.1
                have hQg := IW2.out.choose_spec.2.2.2.2.2.2.2.2
                obtain ⟨oq, hoq⟩ : ∃ oq, (grantV l s).own[q]? = some oq := ⟨_, List.getElem?_eq_getElem (by rw [hVg.len, hQg]; omega)⟩
                obtain ⟨xq, hxq⟩ : ∃ xq, (grantV l s).q[q]? = some xq := ⟨_, List.getElem?_eq_getElem (by rw [hQg]; omega)⟩
                have hob := hVg.own oq (List.mem_of_getElem? hoq)
                have d4 := IW2.out.choose_spec.2.2.2.2.1.cell (i := q) (v := .int .i64 oq) (by simp [ints, hoq])
                have d6 := IW2.out.choose_spec.2.2.2.2.1.lt
                obtain ⟨v0, q1, q2, q3⟩ := IW2.out.choose_spec.2.2.2.1.at hxq
                obtain ⟨A0, c0, rfl, k1, k2, k3', hRA⟩ := q3.row
                have z8 := lt_of_cell q1
                have hq1 : (q : Int) < 3 := by omega
                have DN : Hid (bb = false → oq = -1 → xq = []) := Lib.hid (fun h1 h2 => by
                  subst h1 h2
                  rw [GV.out] at hoq hxq
                  have := GK.out.done q hq3 hbb hoq
                  rw [hxq] at this
                  exact Option.some.inj this)
                clear hVg hQg hbb hoq hxq hce q3 hRA
                cases bb
                · by_cases ho0 : oq = -1
                  · have hxe := DN.out rfl ho0
                    subst ho0
                    subst hxe
                    go_wp2_with fail
                    go_roundw
                    case rel => exact ⟨q + 1, by omega, by go_num, by trivial⟩
                    case measure => simp [intOf]; omega
                  · have t1 : decide (oq < 0) = false := decide_eq_false (by omega)
                    clear ho0
                    go_wp2_with fail
                    go_roundw
                    case rel => exact ⟨q + 1, by omega, by go_num, by trivial⟩
                    case measure => simp [intOf]; omega
                · skip
                  go_wp2_with fail
                  go_roundw
                  case rel => exact ⟨q + 1, by omega, by go_num, by trivial⟩
                  case measure => simp [intOf]; omega
              · obtain rfl : q = 3 := by omega
                go_wp2_with fail
                go_roundw
                case rel => exact ⟨k + 1, _, _, _, _, by omega, by go_num, by omega, IW2.out, _, _, _, _, _, _, rfl, rfl⟩
                case measure => simp [intOf]; omega
end Go.Proofs.Ytbpobekmbdngbaa
