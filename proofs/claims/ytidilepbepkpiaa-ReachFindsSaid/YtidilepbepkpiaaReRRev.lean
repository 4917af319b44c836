/- The contract of the reference's Reverse. -/
import Derived.Test.YtidilepbepkpiaaReRev
import Derived.Deep.RegionHeld3
namespace Go.Proofs.Ytidilepbepkpiaa
open Go.RowKit
set_option linter.unusedVariables false

theorem two_cells {w1 W : World} {b o b2 o2 : Nat} {x x2 : Value} (h : w1.cell? ⟨b, o, none⟩ = some x ∧ w1.cell? ⟨b2, o2, none⟩ = some x2 ∧ b < w1.heap.size ∧ b2 < w1.heap.size) (hg : w1.grownBy W none) :
    W.cell? ⟨b, o, none⟩ = some x ∧ W.cell? ⟨b2, o2, none⟩ = some x2 := ⟨(grown_cell hg h.2.2.1 (by simp)).trans h.1, (grown_cell hg h.2.2.2 (by simp)).trans h.2.1⟩

set_option maxHeartbeats 3200000 in
theorem rReverse_ok (a : Option Addr) (n cap : Nat) (g : Gr) (w : World) (h : ListsR none w a n g) (hv : validB g = true) :
    Calls Try.prog 16 #[.slice a n cap] w (GivesL w (rev g) 0) := by
  obtain ⟨hl, hm⟩ := h.len
  have H := Lib.hid h
  have L := Lib.hid hl
  have HV := Lib.hid hv
  have hn24 : n ≤ 24 := by have := (valid_iff.1 hv).1; omega
  obtain ⟨ib, hi, hz0, hz1, hz2⟩ := info_parts Try.info_ints
  have hib := Lib.hid hi
  have hib0 := Lib.hid hz0
  have hib1 := Lib.hid hz1
  have hib2 := Lib.hid hz2
  clear h hl hv hi hz0 hz1 hz2 hm
  go_enter Try.func16, Try.ntmps16
  go_wp2_with fail
  refine (rValid_any a n cap g _ H.out).mono ?_
  rw [HV.out]
  rintro e w1 ⟨rfl, rfl⟩
  go_wp2_with (at_make; refine wpList_make_full _ rfl _ _ 27 rfl w1.heap.size 22 ib _ 1 Try.underlying27 hib.out hib0.out hib1.out .i64 .i64 _ _ n rfl rfl (by omega) (by omega) (by rw [hib2.out]; omega) (by unfold maxLen; omega) (by omega) ?_)
  intro W2 hC hg2
  rw [made_nils] at hC
  have OL : Hid (OwnL W2 w1.heap.size w1.heap.size n (revL g 0 0) ∧ w1.grownBy W2 none) := ⟨by rw [revL_zero, L.out]; exact ownL_made hC rfl (by unfold maxLen; omega), hg2⟩
  clear hC hg2 hib hib0 hib1 hib2
  go_wp2_with fail
  go_loopw [5] (fun i wr => ∃ k : Nat, k ≤ n ∧ i = .int .i64 k ∧ OwnL wr w1.heap.size w1.heap.size n (revL g k 0) ∧ w1.grownBy wr none) (fun i _ => n - (intOf i).toNat)
  case atStart => exact ⟨0, by omega, rfl, OL.out⟩
  case round =>
    obtain ⟨k, hk, rfl, hO, hG⟩ := hrel
    have K := Lib.hid (And.intro hO hG)
    clear hO hG OL
    by_cases hkn : k < n
    · obtain ⟨l, hl⟩ : ∃ l, g[k]? = some l := ⟨_, List.getElem?_eq_getElem (by rw [L.out]; exact hkn)⟩
      have AD := Lib.hid (adj_at hl)
      obtain ⟨b, off, A, c, rfl, zb1, c1, hlc, hcm, hA, hrow⟩ := H.out.at hl
      have RW := Lib.hid hrow.1
      have C1 := Lib.hid c1
      have okl := (valid_iff.1 HV.out).2 k (by rw [L.out]; exact hkn)
      rw [AD.out] at okl
      have ND := Lib.hid (okB_nodup okl)
      have MEM := Lib.hid (okB_mem okl)
      have hk' : (k : Int) < n := by omega
      obtain ⟨wo, hwo⟩ : ∃ wo : World, wo = wr := ⟨_, rfl⟩
      unfold maxLen at hcm
      clear hl hrow okl hwo c1
      go_wp2_with fail
      go_loopw [6] (fun i wq => ∃ j : Nat, j ≤ l.length ∧ i = .int .i64 j ∧ OwnL wq w1.heap.size w1.heap.size n (revL g k j) ∧ w1.grownBy wq none) (fun i _ => l.length - (intOf i).toNat)
      case atStart => exact ⟨0, by omega, rfl, K.out.1, K.out.2⟩
      case round =>
        obtain ⟨j, hj, rfl, hO, hG⟩ := hrel
        have O := Lib.hid hO
        have G := Lib.hid hG
        clear hO hG K
        have c0 := (grown_cell G.out zb1 (by simp)).trans C1.out
        have zb := Nat.lt_of_lt_of_le zb1 G.out.size
        have zs := G.out.size
        by_cases hjl : j < l.length
        · obtain ⟨x, hx⟩ : ∃ x, l[j]? = some x := ⟨_, List.getElem?_eq_getElem hjl⟩
          obtain ⟨m1, m2, m3⟩ := MEM.out x (List.mem_of_getElem? hx)
          rw [L.out] at m2
          obtain ⟨y, rfl⟩ : ∃ y : Nat, x = y := ⟨x.toNat, by omega⟩
          have hyn : y < n := by omega
          obtain ⟨bb, oo, rfl, zbb, d1⟩ := RW.out.int hx
          obtain ⟨v, q1, q2, hown, hvg⟩ := O.out.at (revL_at (k := k) (j := j) (by rw [L.out]; exact hyn))
          have Q1 := Lib.hid q1
          have OV := Lib.hid hown
          have HX := Lib.hid hx
          have hj' : (j : Int) < (l.length : Int) := by omega
          have hlen := revAt_len (g := g) (k := k) (j := j) (x := y)
          have zg := O.out.lt
          have HVG := Lib.hid hvg
          obtain ⟨csO, hB, _⟩ := O.out
          have HB := Lib.hid hB
          clear hB
          clear hx hown q2 hvg
          have CC : Hid (w1.cell? ⟨b, off + k, none⟩ = some (.slice (some ⟨bb, oo, none⟩) l.length c) ∧ w1.cell? ⟨bb, oo + j, none⟩ = some (.int .i64 y) ∧ b < w1.heap.size ∧ bb < w1.heap.size) := Lib.hid ⟨C1.out, d1, zb1, zbb⟩
          have p1 : wr.drew.cell? ⟨w1.heap.size, y, none⟩ = some v := (grown_cell (grown_drew (grown_refl wr none)) zg (by simp)).trans q1
          have p2 : (wr.drew.alloc (.cells #[.int .i64 k] 3)).cell? ⟨w1.heap.size, y, none⟩ = some v := (grown_cell (grown_alloc _ (grown_drew (grown_refl wr none))) zg (by simp)).trans q1
          have p3 : (wr.alloc (.cells #[.int .i64 k] 3)).drew.cell? ⟨w1.heap.size, y, none⟩ = some v := p2
          clear q1 d1
          go_wp2_with fail
          refine wp_region_held_drew (S := fun w' => w'.cell? ⟨b, off + k, none⟩ = some (.slice (some ⟨bb, oo, none⟩) l.length c) ∧ w'.cell? ⟨bb, oo + j, none⟩ = some (.int .i64 y)) (by kernel_rfl) (by (try dsimp only); refine two_cells CC.out ?_; repeat (first | assumption | exact G.out | refine grown_drew ?_ | refine grown_alloc _ ?_ | refine grown_set _ ?_ (.inl (Nat.le_refl _)))) (fun hHeld => ?_)
          refine wpAnyH_take (i := 0) (oi := { dst := some 28, op := .move (.tmp 4), type := _, pos := _, after := _, guard := none }) (v := ?_) rfl (by kernel_rfl) (by kernel_rfl) (by kernel_rfl) (fun _ _ _ h => h) (Or.inl ⟨by rfl, ?_⟩) (by assumption) ?_
          rotate_left
          · (intro w hSw; (try dsimp only at hSw); go_simp; (try with_reducible rfl))
          try simp only [Act.put, List.setIfInBounds_toArray, List.set_cons_zero, List.set_cons_succ]
          refine wpAnyH_take (i := 1) (oi := { dst := some 29, op := .move (.tmp 0), type := _, pos := _, after := _, guard := none }) (v := ?_) rfl (by kernel_rfl) (by kernel_rfl) (by kernel_rfl) (fun _ _ _ h => h) (Or.inl ⟨by rfl, ?_⟩) (by assumption) ?_
          rotate_left
          · (intro w hSw; (try dsimp only at hSw); go_simp; (try with_reducible rfl))
          try simp only [Act.put, List.setIfInBounds_toArray, List.set_cons_zero, List.set_cons_succ]
          refine wpAnyH_take (i := 2) (oi := { dst := some 30, op := .move (.tmp 5), type := _, pos := _, after := _, guard := none }) (v := ?_) rfl (by kernel_rfl) (by kernel_rfl) (by kernel_rfl) (fun _ _ _ h => h) (Or.inl ⟨by rfl, ?_⟩) (by assumption) ?_
          rotate_left
          · (intro w hSw; (try dsimp only at hSw); go_simp; (try with_reducible rfl))
          try simp only [Act.put, List.setIfInBounds_toArray, List.set_cons_zero, List.set_cons_succ]
          refine wpAnyH_take (i := 3) (oi := { dst := some 31, op := .indexAddr 27 (.tmp 29) (.tmp 30), type := _, pos := _, after := _, guard := none }) (v := ?_) rfl (by kernel_rfl) (by kernel_rfl) (by kernel_rfl) (fun _ _ _ h => h) (Or.inl ⟨by rfl, ?_⟩) (by assumption) ?_
          rotate_left
          · (intro w hSw; (try dsimp only at hSw); go_simp; (try with_reducible rfl))
          try simp only [Act.put, List.setIfInBounds_toArray, List.set_cons_zero, List.set_cons_succ]
          refine wpAnyH_take (i := 4) (oi := { dst := some 32, op := .load 22 (.tmp 31), type := _, pos := _, after := _, guard := none }) (v := ?_) rfl (by kernel_rfl) (by kernel_rfl) (by kernel_rfl) (fun _ _ _ h => h) (Or.inl ⟨by rfl, ?_⟩) (by assumption) ?_
          rotate_left
          · (intro w hSw; (try dsimp only at hSw); go_simp; (try with_reducible rfl))
          try simp only [Act.put, List.setIfInBounds_toArray, List.set_cons_zero, List.set_cons_succ]
          refine wpAnyH_take (i := 5) (oi := { dst := some 33, op := .move (.tmp 6), type := _, pos := _, after := _, guard := none }) (v := ?_) rfl (by kernel_rfl) (by kernel_rfl) (by kernel_rfl) (fun _ _ _ h => h) (Or.inl ⟨by rfl, ?_⟩) (by assumption) ?_
          rotate_left
          · (intro w hSw; (try dsimp only at hSw); go_simp; (try with_reducible rfl))
          try simp only [Act.put, List.setIfInBounds_toArray, List.set_cons_zero, List.set_cons_succ]
          refine wpAnyH_take (i := 6) (oi := { dst := some 34, op := .indexAddr 22 (.tmp 32) (.tmp 33), type := _, pos := _, after := _, guard := none }) (v := ?_) rfl (by kernel_rfl) (by kernel_rfl) (by kernel_rfl) (fun _ _ _ h => h) (Or.inl ⟨by rfl, ?_⟩) (by assumption) ?_
          rotate_left
          · (intro w hSw; (try dsimp only at hSw); go_simp; (try with_reducible rfl))
          try simp only [Act.put, List.setIfInBounds_toArray, List.set_cons_zero, List.set_cons_succ]
          refine wpAnyH_take (i := 7) (oi := { dst := some 35, op := .load 3 (.tmp 34), type := _, pos := _, after := _, guard := none }) (v := ?_) rfl (by kernel_rfl) (by kernel_rfl) (by kernel_rfl) (fun _ _ _ h => h) (Or.inl ⟨by rfl, ?_⟩) (by assumption) ?_
          rotate_left
          · (intro w hSw; (try dsimp only at hSw); go_simp; (try with_reducible rfl))
          try simp only [Act.put, List.setIfInBounds_toArray, List.set_cons_zero, List.set_cons_succ]
          refine wpAnyH_take (i := 8) (oi := { dst := some 36, op := .move (.tmp 4), type := _, pos := _, after := _, guard := none }) (v := ?_) rfl (by kernel_rfl) (by kernel_rfl) (by kernel_rfl) (fun _ _ _ h => h) (Or.inl ⟨by rfl, ?_⟩) (by assumption) ?_
          rotate_left
          · (intro w hSw; (try dsimp only at hSw); go_simp; (try with_reducible rfl))
          try simp only [Act.put, List.setIfInBounds_toArray, List.set_cons_zero, List.set_cons_succ]
          refine wpAnyH_take (i := 9) (oi := { dst := some 37, op := .move (.tmp 0), type := _, pos := _, after := _, guard := none }) (v := ?_) rfl (by kernel_rfl) (by kernel_rfl) (by kernel_rfl) (fun _ _ _ h => h) (Or.inl ⟨by rfl, ?_⟩) (by assumption) ?_
          rotate_left
          · (intro w hSw; (try dsimp only at hSw); go_simp; (try with_reducible rfl))
          try simp only [Act.put, List.setIfInBounds_toArray, List.set_cons_zero, List.set_cons_succ]
          refine wpAnyH_take (i := 10) (oi := { dst := some 38, op := .move (.tmp 5), type := _, pos := _, after := _, guard := none }) (v := ?_) rfl (by kernel_rfl) (by kernel_rfl) (by kernel_rfl) (fun _ _ _ h => h) (Or.inl ⟨by rfl, ?_⟩) (by assumption) ?_
          rotate_left
          · (intro w hSw; (try dsimp only at hSw); go_simp; (try with_reducible rfl))
          try simp only [Act.put, List.setIfInBounds_toArray, List.set_cons_zero, List.set_cons_succ]
          refine wpAnyH_take (i := 11) (oi := { dst := some 39, op := .indexAddr 27 (.tmp 37) (.tmp 38), type := _, pos := _, after := _, guard := none }) (v := ?_) rfl (by kernel_rfl) (by kernel_rfl) (by kernel_rfl) (fun _ _ _ h => h) (Or.inl ⟨by rfl, ?_⟩) (by assumption) ?_
          rotate_left
          · (intro w hSw; (try dsimp only at hSw); go_simp; (try with_reducible rfl))
          try simp only [Act.put, List.setIfInBounds_toArray, List.set_cons_zero, List.set_cons_succ]
          refine wpAnyH_take (i := 12) (oi := { dst := some 40, op := .load 22 (.tmp 39), type := _, pos := _, after := _, guard := none }) (v := ?_) rfl (by kernel_rfl) (by kernel_rfl) (by kernel_rfl) (fun _ _ _ h => h) (Or.inl ⟨by rfl, ?_⟩) (by assumption) ?_
          rotate_left
          · (intro w hSw; (try dsimp only at hSw); go_simp; (try with_reducible rfl))
          try simp only [Act.put, List.setIfInBounds_toArray, List.set_cons_zero, List.set_cons_succ]
          refine wpAnyH_take (i := 13) (oi := { dst := some 41, op := .move (.tmp 6), type := _, pos := _, after := _, guard := none }) (v := ?_) rfl (by kernel_rfl) (by kernel_rfl) (by kernel_rfl) (fun _ _ _ h => h) (Or.inl ⟨by rfl, ?_⟩) (by assumption) ?_
          rotate_left
          · (intro w hSw; (try dsimp only at hSw); go_simp; (try with_reducible rfl))
          try simp only [Act.put, List.setIfInBounds_toArray, List.set_cons_zero, List.set_cons_succ]
          refine wpAnyH_take (i := 14) (oi := { dst := some 42, op := .indexAddr 22 (.tmp 40) (.tmp 41), type := _, pos := _, after := _, guard := none }) (v := ?_) rfl (by kernel_rfl) (by kernel_rfl) (by kernel_rfl) (fun _ _ _ h => h) (Or.inl ⟨by rfl, ?_⟩) (by assumption) ?_
          rotate_left
          · (intro w hSw; (try dsimp only at hSw); go_simp; (try with_reducible rfl))
          try simp only [Act.put, List.setIfInBounds_toArray, List.set_cons_zero, List.set_cons_succ]
          refine wpAnyH_take (i := 15) (oi := { dst := some 43, op := .load 3 (.tmp 42), type := _, pos := _, after := _, guard := none }) (v := ?_) rfl (by kernel_rfl) (by kernel_rfl) (by kernel_rfl) (fun _ _ _ h => h) (Or.inl ⟨by rfl, ?_⟩) (by assumption) ?_
          rotate_left
          · (intro w hSw; (try dsimp only at hSw); go_simp; (try with_reducible rfl))
          try simp only [Act.put, List.setIfInBounds_toArray, List.set_cons_zero, List.set_cons_succ]
          refine wpAnyH_take (i := 16) (oi := { dst := some 44, op := .indexAddr 27 (.tmp 36) (.tmp 43), type := _, pos := _, after := _, guard := none }) (v := ?_) rfl (by kernel_rfl) (by kernel_rfl) (by kernel_rfl) (fun _ _ _ h => h) (Or.inl ⟨by rfl, ?_⟩) (by assumption) ?_
          rotate_left
          · (intro w hSw; (try dsimp only at hSw); go_simp; (try with_reducible rfl))
          try simp only [Act.put, List.setIfInBounds_toArray, List.set_cons_zero, List.set_cons_succ]
          refine wpAnyH_take (i := 18) (oi := { dst := some 46, op := .move (.tmp 5), type := _, pos := _, after := _, guard := none }) (v := ?_) rfl (by kernel_rfl) (by kernel_rfl) (by kernel_rfl) (fun _ _ _ h => h) (Or.inl ⟨by rfl, ?_⟩) (by assumption) ?_
          rotate_left
          · (intro w hSw; (try dsimp only at hSw); go_simp; (try with_reducible rfl))
          try simp only [Act.put, List.setIfInBounds_toArray, List.set_cons_zero, List.set_cons_succ]
          refine wpAnyH_ready (rs := [17, 19]) (by kernel_rfl) (by simp) ?_
          refine AllReadyH.cons (o := _) rfl (fun K hK => ?_) (AllReadyH.cons (o := _) rfl (fun K hK => ?_) AllReadyH.nil)
          · skip
            go_simp
            refine hK.out _ _ ?_ (fun hHeld2 => ?_)
            · ((try dsimp only); refine two_cells CC.out ?_; repeat (first | assumption | exact G.out | refine grown_drew ?_ | refine grown_alloc _ ?_ | refine grown_set _ ?_ (.inl (Nat.le_refl _))))
            clear hK K
            try simp only [Act.put, List.setIfInBounds_toArray, List.set_cons_zero, List.set_cons_succ]
            refine wpAnyH_ready (rs := [19]) (by kernel_rfl) (by simp) ?_
            refine AllReadyH.cons (o := _) rfl (fun K hK => ?_) AllReadyH.nil
            go_simp
            refine hK.out _ _ ?_ (fun hHeld2 => ?_)
            · ((try dsimp only); refine two_cells CC.out ?_; repeat (first | assumption | exact G.out | refine grown_drew ?_ | refine grown_alloc _ ?_ | refine grown_set _ ?_ (.inl (Nat.le_refl _))))
            clear hK K
            try simp only [Act.put, List.setIfInBounds_toArray, List.set_cons_zero, List.set_cons_succ]
            refine wpAnyH_ready (rs := [20]) (by kernel_rfl) (by simp) ?_
            refine AllReadyH.cons (o := _) rfl (fun K hK => ?_) AllReadyH.nil
            refine step_append_in St_int rfl (.tmp 45) (.tmp 47) rfl (by rfl) (OV.out.kept (by repeat (first | assumption | exact grown_refl _ _ | refine grown_drew ?_ | refine grown_alloc _ ?_)) (Classical.em _)) (by rfl) (cell_one (.int .i64 k) 3 (by rfl)) (fun h => by cases h) (flat_one rfl) (by unfold maxLen; omega) (by omega) (by first | omega | (simp; omega)) ?_; intro v' w3 hown3 hg3 hloc; have g3 : wr.grownBy w3 v.ownBlock := grown_trans (by repeat (first | assumption | exact grown_refl _ _ | refine grown_drew ?_ | refine grown_alloc _ ?_)) hg3; have g13 : w1.grownBy w3 none := grown_own G.out g3 (fun m hm => (OV.out.lt m hm).1); obtain ⟨A3, c3, rfl, _, _, _, _⟩ := sliceIn_owns hown3; have HC3 := Lib.hid (grown_at g3 HB.out (fun e => HVG.out e.symm)); have q3 := (rules_at HC3.out).1; have q4 := (rules_at HC3.out).2; have z3 := lt_of_at HC3.out; have HO3 := Lib.hid hown3; have HL := Lib.hid hloc; clear hown3 hg3 hloc
            refine hK.out _ _ ?_ (fun hHeld2 => ?_)
            · ((try dsimp only); refine two_cells CC.out ?_; repeat (first | assumption | exact G.out | refine grown_drew ?_ | refine grown_alloc _ ?_ | refine grown_set _ ?_ (.inl (Nat.le_refl _))))
            clear hK K
            try simp only [Act.put, List.setIfInBounds_toArray]
            refine wpAnyH_ready (rs := [21]) (by kernel_rfl) (by simp) ?_
            refine AllReadyH.cons (o := _) rfl (fun K hK => ?_) AllReadyH.nil
            go_simp
            refine hK.out _ _ ?_ (fun hHeld2 => ?_)
            · ((try dsimp only); refine two_cells CC.out ?_; repeat (first | assumption | exact G.out | refine grown_drew ?_ | refine grown_alloc _ ?_ | refine grown_set _ ?_ (.inl (Nat.le_refl _))))
            clear hK K
            try simp only [Act.put, List.setIfInBounds_toArray, List.set_cons_zero, List.set_cons_succ]
            refine wpAnyH_ready (rs := [22]) (by kernel_rfl) (by simp) ?_
            refine AllReadyH.cons (o := _) rfl (fun K hK => ?_) AllReadyH.nil
            go_simp
            refine hK.out _ _ ?_ (fun hHeld2 => ?_)
            · ((try dsimp only); refine two_cells CC.out ?_; repeat (first | assumption | exact G.out | refine grown_drew ?_ | refine grown_alloc _ ?_ | refine grown_set _ ?_ (.inl (Nat.le_refl _))))
            clear hK K
            try simp only [Act.put, List.setIfInBounds_toArray, List.set_cons_zero, List.set_cons_succ]
            refine wpAnyH_done (by kernel_rfl) ?_ _
            have O3 := Lib.hid (O.out.put (i := y) (ys := revAt g k j y ++ [(k : Int)]) (revL_at (by rw [L.out]; exact hyn)) Q1.out g3 (.inr rfl) (by rw [List.length_append, ints_snoc]; exact HO3.out) (HL.out.imp id (fun h m hm => by rw [h] at hm; simp at hm; omega)))
            have G3 : Hid (w1.grownBy (w3.setCell ⟨w1.heap.size, y, none⟩ _) none) := Lib.hid (grown_set (.slice A3 ((revAt g k j y).length + 1) c3) g13 (.inl (Nat.le_refl _)))
            clear HO3 HL g3 g13 OV O Q1 G q3 q4 z3 HC3 HB CC p1 p2 p3 hHeld hHeld2 c0
            rw [revL_set (by rw [AD.out]; exact HX.out) (by rw [AD.out]; exact ND.out) (by rw [L.out]; exact hyn)] at O3
            go_wp2_with fail
            go_roundw
            case rel => exact ⟨j + 1, by omega, by go_num, O3.out, G3.out⟩
            case measure => simp [intOf]; omega
          · skip
            go_simp
            refine hK.out _ _ ?_ (fun hHeld2 => ?_)
            · ((try dsimp only); refine two_cells CC.out ?_; repeat (first | assumption | exact G.out | refine grown_drew ?_ | refine grown_alloc _ ?_ | refine grown_set _ ?_ (.inl (Nat.le_refl _))))
            clear hK K
            try simp only [Act.put, List.setIfInBounds_toArray, List.set_cons_zero, List.set_cons_succ]
            refine wpAnyH_ready (rs := [17]) (by kernel_rfl) (by simp) ?_
            refine AllReadyH.cons (o := _) rfl (fun K hK => ?_) AllReadyH.nil
            go_simp
            refine hK.out _ _ ?_ (fun hHeld2 => ?_)
            · ((try dsimp only); refine two_cells CC.out ?_; repeat (first | assumption | exact G.out | refine grown_drew ?_ | refine grown_alloc _ ?_ | refine grown_set _ ?_ (.inl (Nat.le_refl _))))
            clear hK K
            try simp only [Act.put, List.setIfInBounds_toArray, List.set_cons_zero, List.set_cons_succ]
            refine wpAnyH_ready (rs := [20]) (by kernel_rfl) (by simp) ?_
            refine AllReadyH.cons (o := _) rfl (fun K hK => ?_) AllReadyH.nil
            refine step_append_in St_int rfl (.tmp 45) (.tmp 47) rfl (by rfl) (OV.out.kept (by repeat (first | assumption | exact grown_refl _ _ | refine grown_drew ?_ | refine grown_alloc _ ?_)) (Classical.em _)) (by rfl) (cell_one (.int .i64 k) 3 (by rfl)) (fun h => by cases h) (flat_one rfl) (by unfold maxLen; omega) (by omega) (by first | omega | (simp; omega)) ?_; intro v' w3 hown3 hg3 hloc; have g3 : wr.grownBy w3 v.ownBlock := grown_trans (by repeat (first | assumption | exact grown_refl _ _ | refine grown_drew ?_ | refine grown_alloc _ ?_)) hg3; have g13 : w1.grownBy w3 none := grown_own G.out g3 (fun m hm => (OV.out.lt m hm).1); obtain ⟨A3, c3, rfl, _, _, _, _⟩ := sliceIn_owns hown3; have HC3 := Lib.hid (grown_at g3 HB.out (fun e => HVG.out e.symm)); have q3 := (rules_at HC3.out).1; have q4 := (rules_at HC3.out).2; have z3 := lt_of_at HC3.out; have HO3 := Lib.hid hown3; have HL := Lib.hid hloc; clear hown3 hg3 hloc
            refine hK.out _ _ ?_ (fun hHeld2 => ?_)
            · ((try dsimp only); refine two_cells CC.out ?_; repeat (first | assumption | exact G.out | refine grown_drew ?_ | refine grown_alloc _ ?_ | refine grown_set _ ?_ (.inl (Nat.le_refl _))))
            clear hK K
            try simp only [Act.put, List.setIfInBounds_toArray]
            refine wpAnyH_ready (rs := [21]) (by kernel_rfl) (by simp) ?_
            refine AllReadyH.cons (o := _) rfl (fun K hK => ?_) AllReadyH.nil
            go_simp
            refine hK.out _ _ ?_ (fun hHeld2 => ?_)
            · ((try dsimp only); refine two_cells CC.out ?_; repeat (first | assumption | exact G.out | refine grown_drew ?_ | refine grown_alloc _ ?_ | refine grown_set _ ?_ (.inl (Nat.le_refl _))))
            clear hK K
            try simp only [Act.put, List.setIfInBounds_toArray, List.set_cons_zero, List.set_cons_succ]
            refine wpAnyH_ready (rs := [22]) (by kernel_rfl) (by simp) ?_
            refine AllReadyH.cons (o := _) rfl (fun K hK => ?_) AllReadyH.nil
            go_simp
            refine hK.out _ _ ?_ (fun hHeld2 => ?_)
            · ((try dsimp only); refine two_cells CC.out ?_; repeat (first | assumption | exact G.out | refine grown_drew ?_ | refine grown_alloc _ ?_ | refine grown_set _ ?_ (.inl (Nat.le_refl _))))
            clear hK K
            try simp only [Act.put, List.setIfInBounds_toArray, List.set_cons_zero, List.set_cons_succ]
            refine wpAnyH_done (by kernel_rfl) ?_ _
            have O3 := Lib.hid (O.out.put (i := y) (ys := revAt g k j y ++ [(k : Int)]) (revL_at (by rw [L.out]; exact hyn)) Q1.out g3 (.inr rfl) (by rw [List.length_append, ints_snoc]; exact HO3.out) (HL.out.imp id (fun h m hm => by rw [h] at hm; simp at hm; omega)))
            have G3 : Hid (w1.grownBy (w3.setCell ⟨w1.heap.size, y, none⟩ _) none) := Lib.hid (grown_set (.slice A3 ((revAt g k j y).length + 1) c3) g13 (.inl (Nat.le_refl _)))
            clear HO3 HL g3 g13 OV O Q1 G q3 q4 z3 HC3 HB CC p1 p2 p3 hHeld hHeld2 c0
            rw [revL_set (by rw [AD.out]; exact HX.out) (by rw [AD.out]; exact ND.out) (by rw [L.out]; exact hyn)] at O3
            go_wp2_with fail
            go_roundw
            case rel => exact ⟨j + 1, by omega, by go_num, O3.out, G3.out⟩
            case measure => simp [intOf]; omega
        · obtain rfl : j = l.length := by omega
          rw [revL_next (by rw [AD.out]; exact Nat.le_refl _)] at O
          clear hjl
          go_wp2_with fail
          go_roundw
          case rel => exact ⟨k + 1, by omega, by go_num, O.out, G.out⟩
          case measure => simp [intOf]; omega
    · obtain rfl : k = n := by omega
      have KO := K.out.1
      rw [← L.out, revL_end, L.out] at KO
      have O := Lib.hid KO
      have G := Lib.hid K.out.2
      clear hkn K KO
      go_wp2_with fail
      refine bodyPost_ret (v := .tuple #[.slice (some ⟨w1.heap.size, 0, none⟩) k k, .int .i64 0]) (by simp [results, Try.results16, go_sem]) rfl ⟨_, _, _, rfl, Nat.le_refl _, by unfold maxLen; omega, (fun h => by cases h), (fun R hR => O.out.lists hR), G.out⟩

theorem rReverse_no (a : Option Addr) (n cap : Nat) (g : Gr) (w : World) (h : ListsR none w a n g) (hv : validB g = false) :
    Calls Try.prog 16 #[.slice a n cap] w (GivesL w [] 20) := by
  have H := Lib.hid h
  have HV := Lib.hid hv
  clear h hv
  go_enter Try.func16, Try.ntmps16
  go_wp2_with fail
  refine (rValid_any a n cap g _ H.out).mono ?_
  rw [HV.out]
  rintro e w1 ⟨rfl, rfl⟩
  go_wp2_with fail
  exact bodyPost_ret (v := .tuple #[.slice none 0 0, .int .i64 20]) (by simp [results, Try.results16, go_sem]) rfl ⟨_, _, _, rfl, Nat.le_refl _, Nat.zero_le _, (fun _ => rfl), (fun R _ => listsR_nil R _), grown_refl _ _⟩
end Go.Proofs.Ytidilepbepkpiaa
