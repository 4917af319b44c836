/- The contract of the reference's Without. -/
import Derived.Test.YtidilepbepkpiaaReRef2
import Derived.Test.YtidilepbepkpiaaReRRev
namespace Go.Proofs.Ytidilepbepkpiaa
open Go.RowKit
set_option linter.unusedVariables false

set_option maxHeartbeats 3200000 in
theorem rWithout_ok (a : Option Addr) (n cap : Nat) (g : Gr) (a1 : Option Addr) (c1 : Nat) (s : List Bool) (w : World) (h : ListsR none w a n g) (hs : RowIn w a1 n 1 (bools s)) (hv : validB g = true) :
    Calls Try.prog 23 #[.slice a n cap, .slice a1 n c1] w (GivesL w (without g s) 0) := by
  obtain ⟨hl, hm⟩ := h.len
  have H := Lib.hid h
  have S0 := Lib.hid hs
  have LS := Lib.hid hs.len1b
  have L := Lib.hid hl
  have HV := Lib.hid hv
  have hn24 : n ≤ 24 := by have := (valid_iff.1 hv).1; omega
  obtain ⟨ib, hi, hz0, hz1, hz2⟩ := info_parts Try.info_ints
  have hib := Lib.hid hi
  have hib0 := Lib.hid hz0
  have hib1 := Lib.hid hz1
  have hib2 := Lib.hid hz2
  have C0 : Hid (chkM g n = 0) := Lib.hid (by simp [chkM, hv, hl])
  clear h hl hv hs hi hz0 hz1 hz2 hm
  go_enter Try.func23, Try.ntmps23
  go_wp2_with fail
  refine (rCheck_any a n cap g _ _ _ _ H.out).mono ?_
  rw [C0.out]
  rintro e w1 ⟨rfl, rfl⟩
  go_wp2_with (at_make; refine wpList_make_full _ rfl _ _ 27 rfl w1.heap.size 22 ib _ 1 Try.underlying27 hib.out hib0.out hib1.out .i64 .i64 _ _ n rfl rfl (by omega) (by omega) (by rw [hib2.out]; omega) (by unfold maxLen; omega) (by omega) ?_)
  intro W2 hC hg2
  rw [made_nils] at hC
  have OL : Hid (OwnL W2 w1.heap.size w1.heap.size n (wthL g s 0 0) ∧ w1.grownBy W2 none) := ⟨by rw [wthL_zero, L.out]; exact ownL_made hC rfl (by unfold maxLen; omega), hg2⟩
  clear hC hg2 hib hib0 hib1 hib2
  go_wp2_with fail
  go_loopw [8] (fun i wr => ∃ k : Nat, k ≤ n ∧ i = .int .i64 k ∧ OwnL wr w1.heap.size w1.heap.size n (wthL g s k 0) ∧ w1.grownBy wr none) (fun i _ => n - (intOf i).toNat)
  case atStart => exact ⟨0, by omega, rfl, OL.out⟩
  case round =>
    obtain ⟨k, hk, rfl, hO, hG⟩ := hrel
    have K := Lib.hid (And.intro hO hG)
    clear hO hG OL
    by_cases hkn : k < n
    · obtain ⟨l, hl⟩ : ∃ l, g[k]? = some l := ⟨_, List.getElem?_eq_getElem (by rw [L.out]; exact hkn)⟩
      have AD := Lib.hid (adj_at hl)
      obtain ⟨b, off, A, c, rfl, zb1, c1, hlc, hcm, hA, hrow⟩ := H.out.at hl
      have RW := Lib.hid hrow.1
      have C1 := Lib.hid c1
      have okl := (valid_iff.1 HV.out).2 k (by rw [L.out]; exact hkn)
      rw [AD.out] at okl
      have MEM := Lib.hid (okB_mem okl)
      obtain ⟨sk, hsk⟩ : ∃ q, s[k]? = some q := ⟨_, List.getElem?_eq_getElem (by rw [LS.out]; exact hkn)⟩
      obtain ⟨b1, o1, rfl, zs, _⟩ := S0.out.bool hsk
      have SK := Lib.hid hsk
      have hk' : (k : Int) < n := by omega
      have hl24 : l.length ≤ 24 := by have := okB_len okl; rw [L.out] at this; omega
      unfold maxLen at hcm
      clear hl hrow okl c1 hsk
      go_wp2_with fail
      go_loopw [9] (fun i wq => ∃ j : Nat, j ≤ l.length ∧ i = .int .i64 j ∧ OwnL wq w1.heap.size w1.heap.size n (wthL g s k j) ∧ w1.grownBy wq none) (fun i _ => l.length - (intOf i).toNat)
      case atStart => exact ⟨0, by omega, rfl, K.out.1, K.out.2⟩
      case round =>
        obtain ⟨j, hj, rfl, hO, hG⟩ := hrel
        have O := Lib.hid hO
        have G := Lib.hid hG
        clear hO hG K
        have c0 := (grown_cell G.out zb1 (by simp)).trans C1.out
        have zb := Nat.lt_of_lt_of_le zb1 G.out.size
        have zs0 := G.out.size
        by_cases hjl : j < l.length
        · obtain ⟨x, hx⟩ : ∃ x, l[j]? = some x := ⟨_, List.getElem?_eq_getElem hjl⟩
          obtain ⟨m1, m2, m3⟩ := MEM.out x (List.mem_of_getElem? hx)
          rw [L.out] at m2
          obtain ⟨y, rfl⟩ : ∃ y : Nat, x = y := ⟨x.toNat, by omega⟩
          have hyn : y < n := by omega
          obtain ⟨bb, oo, rfl, zbb, d1⟩ := RW.out.int hx
          have d0 := (grown_cell G.out zbb (by simp)).trans d1
          have zbw := Nat.lt_of_lt_of_le zbb G.out.size
          obtain ⟨sy, hsy⟩ : ∃ q, s[y]? = some q := ⟨_, List.getElem?_eq_getElem (by rw [LS.out]; exact hyn)⟩
          obtain ⟨b1', o1', he, zs', ds⟩ := (RowIn.kept S0.out G.out).bool SK.out
          obtain ⟨rfl, rfl⟩ : b1 = b1' ∧ o1 = o1' := by simpa using he
          obtain ⟨b1', o1', he, _, dy⟩ := (RowIn.kept S0.out G.out).bool hsy
          obtain ⟨rfl, rfl⟩ : b1 = b1' ∧ o1 = o1' := by simpa using he
          have KE := Lib.hid (keepE_at SK.out hsy)
          have HX : Hid ((adj g k)[j]? = some (y : Int)) := Lib.hid (by rw [AD.out]; exact hx)
          have hj' : (j : Int) < (l.length : Int) := by omega
          have hy' : (y : Int) < n := by omega
          clear hx hsy he
          cases sk
          · cases sy
            · obtain ⟨v, q1, q2, hown, hvg⟩ := O.out.at (wthL_at (s := s) (k := k) (j := j) (v := k) (by rw [L.out]; exact hkn))
              have hrl : ((wthA g k j k).filter (keepE s k)).length ≤ 24 := Nat.le_trans wthA_len (by rw [AD.out]; exact hl24)
              have ST := Lib.hid (wthL_set (s := s) (by rw [L.out]; exact hkn) HX.out KE.out)
              have AT := Lib.hid (wthL_at (g := g) (s := s) (k := k) (j := j) (v := k) (by rw [L.out]; exact hkn))
              obtain ⟨row, hrw⟩ : ∃ row, row = (wthA g k j k).filter (keepE s k) := ⟨_, rfl⟩
              rw [← hrw] at hown hrl ST AT
              have Q1 := Lib.hid q1
              have OV := Lib.hid hown
              have zg := O.out.lt
              have zs := G.out.size
              have HVG := Lib.hid hvg
              obtain ⟨csO, hB, _⟩ := O.out
              have HB := Lib.hid hB
              clear hB hown q2 hvg hrw KE
              have CC : Hid (w1.cell? ⟨b, off + k, none⟩ = some (.slice (some ⟨bb, oo, none⟩) l.length c) ∧ w1.cell? ⟨bb, oo + j, none⟩ = some (.int .i64 y) ∧ b < w1.heap.size ∧ bb < w1.heap.size) := Lib.hid ⟨C1.out, d1, zb1, zbb⟩
              have p1 : wr.drew.cell? ⟨w1.heap.size, k, none⟩ = some v := (grown_cell (grown_drew (grown_refl wr none)) zg (by simp)).trans q1
              have p2 : (wr.drew.alloc (.cells #[.int .i64 y] 3)).cell? ⟨w1.heap.size, k, none⟩ = some v := (grown_cell (grown_alloc _ (grown_drew (grown_refl wr none))) zg (by simp)).trans q1
              have p3 : (wr.alloc (.cells #[.int .i64 y] 3)).drew.cell? ⟨w1.heap.size, k, none⟩ = some v := p2
              clear q1
              go_wp2_with fail
              clear d1
              refine wp_region_held_drew (S := fun w' => w'.cell? ⟨b, off + k, none⟩ = some (.slice (some ⟨bb, oo, none⟩) l.length c) ∧ w'.cell? ⟨bb, oo + j, none⟩ = some (.int .i64 y)) (by kernel_rfl) (by (try dsimp only); refine two_cells CC.out ?_; repeat (first | assumption | exact G.out | refine grown_drew ?_ | refine grown_alloc _ ?_ | refine grown_set _ ?_ (.inl (Nat.le_refl _)))) (fun hHeld => ?_)
              refine wpAnyH_take (i := 0) (oi := { dst := some 52, op := .move (.tmp 7), type := _, pos := _, after := _, guard := none }) (v := ?_) rfl (by kernel_rfl) (by kernel_rfl) (by kernel_rfl) (fun _ _ _ h => h) (Or.inl ⟨by rfl, ?_⟩) (by assumption) ?_
              rotate_left
              · (intro w hSw; (try dsimp only at hSw); go_simp; (try with_reducible rfl))
              try simp only [Act.put, List.setIfInBounds_toArray, List.set_cons_zero, List.set_cons_succ]
              refine wpAnyH_take (i := 1) (oi := { dst := some 53, op := .move (.tmp 8), type := _, pos := _, after := _, guard := none }) (v := ?_) rfl (by kernel_rfl) (by kernel_rfl) (by kernel_rfl) (fun _ _ _ h => h) (Or.inl ⟨by rfl, ?_⟩) (by assumption) ?_
              rotate_left
              · (intro w hSw; (try dsimp only at hSw); go_simp; (try with_reducible rfl))
              try simp only [Act.put, List.setIfInBounds_toArray, List.set_cons_zero, List.set_cons_succ]
              refine wpAnyH_take (i := 2) (oi := { dst := some 54, op := .move (.tmp 7), type := _, pos := _, after := _, guard := none }) (v := ?_) rfl (by kernel_rfl) (by kernel_rfl) (by kernel_rfl) (fun _ _ _ h => h) (Or.inl ⟨by rfl, ?_⟩) (by assumption) ?_
              rotate_left
              · (intro w hSw; (try dsimp only at hSw); go_simp; (try with_reducible rfl))
              try simp only [Act.put, List.setIfInBounds_toArray, List.set_cons_zero, List.set_cons_succ]
              refine wpAnyH_take (i := 3) (oi := { dst := some 55, op := .move (.tmp 8), type := _, pos := _, after := _, guard := none }) (v := ?_) rfl (by kernel_rfl) (by kernel_rfl) (by kernel_rfl) (fun _ _ _ h => h) (Or.inl ⟨by rfl, ?_⟩) (by assumption) ?_
              rotate_left
              · (intro w hSw; (try dsimp only at hSw); go_simp; (try with_reducible rfl))
              try simp only [Act.put, List.setIfInBounds_toArray, List.set_cons_zero, List.set_cons_succ]
              refine wpAnyH_take (i := 4) (oi := { dst := some 56, op := .indexAddr 27 (.tmp 54) (.tmp 55), type := _, pos := _, after := _, guard := none }) (v := ?_) rfl (by kernel_rfl) (by kernel_rfl) (by kernel_rfl) (fun _ _ _ h => h) (Or.inl ⟨by rfl, ?_⟩) (by assumption) ?_
              rotate_left
              · (intro w hSw; (try dsimp only at hSw); go_simp; (try with_reducible rfl))
              try simp only [Act.put, List.setIfInBounds_toArray, List.set_cons_zero, List.set_cons_succ]
              refine wpAnyH_take (i := 6) (oi := { dst := some 58, op := .move (.tmp 0), type := _, pos := _, after := _, guard := none }) (v := ?_) rfl (by kernel_rfl) (by kernel_rfl) (by kernel_rfl) (fun _ _ _ h => h) (Or.inl ⟨by rfl, ?_⟩) (by assumption) ?_
              rotate_left
              · (intro w hSw; (try dsimp only at hSw); go_simp; (try with_reducible rfl))
              try simp only [Act.put, List.setIfInBounds_toArray, List.set_cons_zero, List.set_cons_succ]
              refine wpAnyH_take (i := 7) (oi := { dst := some 59, op := .move (.tmp 8), type := _, pos := _, after := _, guard := none }) (v := ?_) rfl (by kernel_rfl) (by kernel_rfl) (by kernel_rfl) (fun _ _ _ h => h) (Or.inl ⟨by rfl, ?_⟩) (by assumption) ?_
              rotate_left
              · (intro w hSw; (try dsimp only at hSw); go_simp; (try with_reducible rfl))
              try simp only [Act.put, List.setIfInBounds_toArray, List.set_cons_zero, List.set_cons_succ]
              refine wpAnyH_take (i := 8) (oi := { dst := some 60, op := .indexAddr 27 (.tmp 58) (.tmp 59), type := _, pos := _, after := _, guard := none }) (v := ?_) rfl (by kernel_rfl) (by kernel_rfl) (by kernel_rfl) (fun _ _ _ h => h) (Or.inl ⟨by rfl, ?_⟩) (by assumption) ?_
              rotate_left
              · (intro w hSw; (try dsimp only at hSw); go_simp; (try with_reducible rfl))
              try simp only [Act.put, List.setIfInBounds_toArray, List.set_cons_zero, List.set_cons_succ]
              refine wpAnyH_take (i := 9) (oi := { dst := some 61, op := .load 22 (.tmp 60), type := _, pos := _, after := _, guard := none }) (v := ?_) rfl (by kernel_rfl) (by kernel_rfl) (by kernel_rfl) (fun _ _ _ h => h) (Or.inl ⟨by rfl, ?_⟩) (by assumption) ?_
              rotate_left
              · (intro w hSw; (try dsimp only at hSw); go_simp; (try with_reducible rfl))
              try simp only [Act.put, List.setIfInBounds_toArray, List.set_cons_zero, List.set_cons_succ]
              refine wpAnyH_take (i := 10) (oi := { dst := some 62, op := .move (.tmp 9), type := _, pos := _, after := _, guard := none }) (v := ?_) rfl (by kernel_rfl) (by kernel_rfl) (by kernel_rfl) (fun _ _ _ h => h) (Or.inl ⟨by rfl, ?_⟩) (by assumption) ?_
              rotate_left
              · (intro w hSw; (try dsimp only at hSw); go_simp; (try with_reducible rfl))
              try simp only [Act.put, List.setIfInBounds_toArray, List.set_cons_zero, List.set_cons_succ]
              refine wpAnyH_take (i := 11) (oi := { dst := some 63, op := .indexAddr 22 (.tmp 61) (.tmp 62), type := _, pos := _, after := _, guard := none }) (v := ?_) rfl (by kernel_rfl) (by kernel_rfl) (by kernel_rfl) (fun _ _ _ h => h) (Or.inl ⟨by rfl, ?_⟩) (by assumption) ?_
              rotate_left
              · (intro w hSw; (try dsimp only at hSw); go_simp; (try with_reducible rfl))
              try simp only [Act.put, List.setIfInBounds_toArray, List.set_cons_zero, List.set_cons_succ]
              refine wpAnyH_take (i := 12) (oi := { dst := some 64, op := .load 3 (.tmp 63), type := _, pos := _, after := _, guard := none }) (v := ?_) rfl (by kernel_rfl) (by kernel_rfl) (by kernel_rfl) (fun _ _ _ h => h) (Or.inl ⟨by rfl, ?_⟩) (by assumption) ?_
              rotate_left
              · (intro w hSw; (try dsimp only at hSw); go_simp; (try with_reducible rfl))
              try simp only [Act.put, List.setIfInBounds_toArray, List.set_cons_zero, List.set_cons_succ]
              refine wpAnyH_ready (rs := [5, 13]) (by kernel_rfl) (by simp) ?_
              refine AllReadyH.cons (o := _) rfl (fun K hK => ?_) (AllReadyH.cons (o := _) rfl (fun K hK => ?_) AllReadyH.nil)
              · skip
                go_simp
                refine hK.out _ _ ?_ (fun hHeld2 => ?_)
                · ((try dsimp only); refine two_cells CC.out ?_; repeat (first | assumption | exact G.out | refine grown_drew ?_ | refine grown_alloc _ ?_ | refine grown_set _ ?_ (.inl (Nat.le_refl _))))
                clear hK K
                try simp only [Act.put, List.setIfInBounds_toArray, List.set_cons_zero, List.set_cons_succ]
                refine wpAnyH_ready (rs := [13]) (by kernel_rfl) (by simp) ?_
                refine AllReadyH.cons (o := _) rfl (fun K hK => ?_) AllReadyH.nil
                go_simp
                refine hK.out _ _ ?_ (fun hHeld2 => ?_)
                · ((try dsimp only); refine two_cells CC.out ?_; repeat (first | assumption | exact G.out | refine grown_drew ?_ | refine grown_alloc _ ?_ | refine grown_set _ ?_ (.inl (Nat.le_refl _))))
                clear hK K
                try simp only [Act.put, List.setIfInBounds_toArray, List.set_cons_zero, List.set_cons_succ]
                refine wpAnyH_ready (rs := [14]) (by kernel_rfl) (by simp) ?_
                refine AllReadyH.cons (o := _) rfl (fun K hK => ?_) AllReadyH.nil
                refine step_append_in St_int rfl (.tmp 57) (.tmp 65) rfl (by rfl) (OV.out.kept (by repeat (first | assumption | exact grown_refl _ _ | refine grown_drew ?_ | refine grown_alloc _ ?_)) (Classical.em _)) (by rfl) (cell_one (.int .i64 y) 3 (by rfl)) (fun h => by cases h) (flat_one rfl) (by unfold maxLen; omega) (by omega) (by first | omega | (simp; omega)) ?_; intro v' w3 hown3 hg3 hloc; have g3 : wr.grownBy w3 v.ownBlock := grown_trans (by repeat (first | assumption | exact grown_refl _ _ | refine grown_drew ?_ | refine grown_alloc _ ?_)) hg3; have g13 : w1.grownBy w3 none := grown_own G.out g3 (fun m hm => (OV.out.lt m hm).1); obtain ⟨A3, c3, rfl, _, _, _, _⟩ := sliceIn_owns hown3; have HC3 := Lib.hid (grown_at g3 HB.out (fun e => HVG.out e.symm)); have q3 := (rules_at HC3.out).1; have q4 := (rules_at HC3.out).2; have z3 := lt_of_at HC3.out; have HO3 := Lib.hid hown3; have HL := Lib.hid hloc; clear hown3 hg3 hloc
                refine hK.out _ _ ?_ (fun hHeld2 => ?_)
                · ((try dsimp only); refine two_cells CC.out ?_; repeat (first | assumption | exact G.out | refine grown_drew ?_ | refine grown_alloc _ ?_ | refine grown_set _ ?_ (.inl (Nat.le_refl _))))
                clear hK K
                try simp only [Act.put, List.setIfInBounds_toArray]
                refine wpAnyH_ready (rs := [15]) (by kernel_rfl) (by simp) ?_
                refine AllReadyH.cons (o := _) rfl (fun K hK => ?_) AllReadyH.nil
                go_simp
                refine hK.out _ _ ?_ (fun hHeld2 => ?_)
                · ((try dsimp only); refine two_cells CC.out ?_; repeat (first | assumption | exact G.out | refine grown_drew ?_ | refine grown_alloc _ ?_ | refine grown_set _ ?_ (.inl (Nat.le_refl _))))
                clear hK K
                try simp only [Act.put, List.setIfInBounds_toArray, List.set_cons_zero, List.set_cons_succ]
                refine wpAnyH_ready (rs := [16]) (by kernel_rfl) (by simp) ?_
                refine AllReadyH.cons (o := _) rfl (fun K hK => ?_) AllReadyH.nil
                go_simp
                refine hK.out _ _ ?_ (fun hHeld2 => ?_)
                · ((try dsimp only); refine two_cells CC.out ?_; repeat (first | assumption | exact G.out | refine grown_drew ?_ | refine grown_alloc _ ?_ | refine grown_set _ ?_ (.inl (Nat.le_refl _))))
                clear hK K
                try simp only [Act.put, List.setIfInBounds_toArray, List.set_cons_zero, List.set_cons_succ]
                refine wpAnyH_done (by kernel_rfl) ?_ _
                have O3 := Lib.hid (O.out.put (i := k) (ys := row ++ [(y : Int)]) AT.out Q1.out g3 (.inr rfl) (by rw [List.length_append, ints_snoc]; exact HO3.out) (HL.out.imp id (fun h m hm => by rw [h] at hm; simp at hm; omega)))
                have G3 : Hid (w1.grownBy (w3.setCell ⟨w1.heap.size, k, none⟩ _) none) := Lib.hid (grown_set (.slice A3 (row.length + 1) c3) g13 (.inl (Nat.le_refl _)))
                clear HO3 HL g3 g13 OV O Q1 G q3 q4 z3 HC3 HB CC p1 p2 p3 hHeld hHeld2 c0 AT
                rw [ST.out] at O3
                go_wp2_with fail
                go_roundw
                case rel => exact ⟨j + 1, by omega, by go_num, O3.out, G3.out⟩
                case measure => simp [intOf]; omega
              · skip
                go_simp
                refine hK.out _ _ ?_ (fun hHeld2 => ?_)
                · ((try dsimp only); refine two_cells CC.out ?_; repeat (first | assumption | exact G.out | refine grown_drew ?_ | refine grown_alloc _ ?_ | refine grown_set _ ?_ (.inl (Nat.le_refl _))))
                clear hK K
                try simp only [Act.put, List.setIfInBounds_toArray, List.set_cons_zero, List.set_cons_succ]
                refine wpAnyH_ready (rs := [5]) (by kernel_rfl) (by simp) ?_
                refine AllReadyH.cons (o := _) rfl (fun K hK => ?_) AllReadyH.nil
                go_simp
                refine hK.out _ _ ?_ (fun hHeld2 => ?_)
                · ((try dsimp only); refine two_cells CC.out ?_; repeat (first | assumption | exact G.out | refine grown_drew ?_ | refine grown_alloc _ ?_ | refine grown_set _ ?_ (.inl (Nat.le_refl _))))
                clear hK K
                try simp only [Act.put, List.setIfInBounds_toArray, List.set_cons_zero, List.set_cons_succ]
                refine wpAnyH_ready (rs := [14]) (by kernel_rfl) (by simp) ?_
                refine AllReadyH.cons (o := _) rfl (fun K hK => ?_) AllReadyH.nil
                refine step_append_in St_int rfl (.tmp 57) (.tmp 65) rfl (by rfl) (OV.out.kept (by repeat (first | assumption | exact grown_refl _ _ | refine grown_drew ?_ | refine grown_alloc _ ?_)) (Classical.em _)) (by rfl) (cell_one (.int .i64 y) 3 (by rfl)) (fun h => by cases h) (flat_one rfl) (by unfold maxLen; omega) (by omega) (by first | omega | (simp; omega)) ?_; intro v' w3 hown3 hg3 hloc; have g3 : wr.grownBy w3 v.ownBlock := grown_trans (by repeat (first | assumption | exact grown_refl _ _ | refine grown_drew ?_ | refine grown_alloc _ ?_)) hg3; have g13 : w1.grownBy w3 none := grown_own G.out g3 (fun m hm => (OV.out.lt m hm).1); obtain ⟨A3, c3, rfl, _, _, _, _⟩ := sliceIn_owns hown3; have HC3 := Lib.hid (grown_at g3 HB.out (fun e => HVG.out e.symm)); have q3 := (rules_at HC3.out).1; have q4 := (rules_at HC3.out).2; have z3 := lt_of_at HC3.out; have HO3 := Lib.hid hown3; have HL := Lib.hid hloc; clear hown3 hg3 hloc
                refine hK.out _ _ ?_ (fun hHeld2 => ?_)
                · ((try dsimp only); refine two_cells CC.out ?_; repeat (first | assumption | exact G.out | refine grown_drew ?_ | refine grown_alloc _ ?_ | refine grown_set _ ?_ (.inl (Nat.le_refl _))))
                clear hK K
                try simp only [Act.put, List.setIfInBounds_toArray]
                refine wpAnyH_ready (rs := [15]) (by kernel_rfl) (by simp) ?_
                refine AllReadyH.cons (o := _) rfl (fun K hK => ?_) AllReadyH.nil
                go_simp
                refine hK.out _ _ ?_ (fun hHeld2 => ?_)
                · ((try dsimp only); refine two_cells CC.out ?_; repeat (first | assumption | exact G.out | refine grown_drew ?_ | refine grown_alloc _ ?_ | refine grown_set _ ?_ (.inl (Nat.le_refl _))))
                clear hK K
                try simp only [Act.put, List.setIfInBounds_toArray, List.set_cons_zero, List.set_cons_succ]
                refine wpAnyH_ready (rs := [16]) (by kernel_rfl) (by simp) ?_
                refine AllReadyH.cons (o := _) rfl (fun K hK => ?_) AllReadyH.nil
                go_simp
                refine hK.out _ _ ?_ (fun hHeld2 => ?_)
                · ((try dsimp only); refine two_cells CC.out ?_; repeat (first | assumption | exact G.out | refine grown_drew ?_ | refine grown_alloc _ ?_ | refine grown_set _ ?_ (.inl (Nat.le_refl _))))
                clear hK K
                try simp only [Act.put, List.setIfInBounds_toArray, List.set_cons_zero, List.set_cons_succ]
                refine wpAnyH_done (by kernel_rfl) ?_ _
                have O3 := Lib.hid (O.out.put (i := k) (ys := row ++ [(y : Int)]) AT.out Q1.out g3 (.inr rfl) (by rw [List.length_append, ints_snoc]; exact HO3.out) (HL.out.imp id (fun h m hm => by rw [h] at hm; simp at hm; omega)))
                have G3 : Hid (w1.grownBy (w3.setCell ⟨w1.heap.size, k, none⟩ _) none) := Lib.hid (grown_set (.slice A3 (row.length + 1) c3) g13 (.inl (Nat.le_refl _)))
                clear HO3 HL g3 g13 OV O Q1 G q3 q4 z3 HC3 HB CC p1 p2 p3 hHeld hHeld2 c0 AT
                rw [ST.out] at O3
                go_wp2_with fail
                go_roundw
                case rel => exact ⟨j + 1, by omega, by go_num, O3.out, G3.out⟩
                case measure => simp [intOf]; omega
            · have O2 : Hid (OwnL wr w1.heap.size w1.heap.size n (wthL g s k (j + 1))) := Lib.hid (by rw [wthL_skip HX.out KE.out]; exact O.out)
              clear O KE
              go_wp2_with fail
              go_roundw
              case rel => exact ⟨j + 1, by omega, by go_num, O2.out, G.out⟩
              case measure => simp [intOf]; omega
          · have O2 : Hid (OwnL wr w1.heap.size w1.heap.size n (wthL g s k (j + 1))) := Lib.hid (by rw [wthL_skip HX.out KE.out]; exact O.out)
            clear O KE
            go_wp2_with fail
            go_roundw
            case rel => exact ⟨j + 1, by omega, by go_num, O2.out, G.out⟩
            case measure => simp [intOf]; omega
        · obtain rfl : j = l.length := by omega
          rw [wthL_next (by rw [AD.out]; exact Nat.le_refl _)] at O
          clear hjl
          go_wp2_with fail
          go_roundw
          case rel => exact ⟨k + 1, by omega, by go_num, O.out, G.out⟩
          case measure => simp [intOf]; omega
    · obtain rfl : k = n := by omega
      have KO := K.out.1
      rw [← L.out, wthL_end, L.out] at KO
      have O := Lib.hid KO
      have G := Lib.hid K.out.2
      clear hkn K KO
      go_wp2_with fail
      refine bodyPost_ret (v := .tuple #[.slice (some ⟨w1.heap.size, 0, none⟩) k k, .int .i64 0]) (by simp [results, Try.results23, go_sem]) rfl ⟨_, _, _, rfl, Nat.le_refl _, by unfold maxLen; omega, (fun h => by cases h), (fun R hR => O.out.lists hR), G.out⟩
end Go.Proofs.Ytidilepbepkpiaa
