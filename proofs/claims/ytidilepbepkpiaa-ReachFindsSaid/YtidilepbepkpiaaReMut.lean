/- The contract of Mutual. -/
import Derived.Test.YtidilepbepkpiaaReFrom
namespace Go.Proofs.Ytidilepbepkpiaa
open Go.RowKit
set_option linter.unusedVariables false

/-- Some vertex is open, and it and every open one reach each other. -/
def Mut (g : Gr) (s : List Bool) : Prop := ∃ v : Nat, isOpen s v ∧ ∀ w : Nat, isOpen s w → Reach g s v w ∧ Reach g s w v
theorem mut_yes {g : Gr} {s : List Bool} {v : Nat} (hv : isOpen s v) (h : ∀ w : Nat, isOpen s w → Reach g s v w ∧ Reach g s w v) : Mut g s := ⟨v, hv, h⟩
theorem mut_no {g : Gr} {s : List Bool} {v w : Nat} (hv : isOpen s v) (hw : isOpen s w) (h : ¬ (Reach g s v w ∧ Reach g s w v)) : ¬ Mut g s := by
  rintro ⟨u, hu, hall⟩
  exact h ⟨(hall v hv).2.trans (hall w hw).1, (hall w hw).2.trans (hall v hv).1⟩
theorem mut_none {g : Gr} {s : List Bool} (h : ∀ x : Nat, x < s.length → s[x]? = some true) : ¬ Mut g s := by
  rintro ⟨u, hu, _⟩
  have hl := (List.getElem?_eq_some_iff.1 hu).1
  rw [isOpen, h u hl] at hu
  cases hu
/-- What Mutual returns on a valid graph. -/
def MutP (g : Gr) (s : List Bool) (w : World) (e : Ending) (w' : World) : Prop := ∃ b : Bool, e = .returned (.tuple #[.bool b, .int .i64 0]) ∧ (b = true ↔ Mut g s) ∧ w.grownBy w' none
theorem at_row2 (w : World) (o1 o2 : Obj) (cs : Array Value) : (((w.alloc o1).alloc o2).setRow w.heap.size cs).heap[w.heap.size + 1]? = some o2 := by
  rw [setRow_other _ _ _ _ (by omega)]
  have := at_new (w.alloc o1) o2
  rw [World.size_alloc] at this
  exact this

set_option maxHeartbeats 3200000 in
theorem Mutual_ok (a : Option Addr) (n cap : Nat) (g : Gr) (a1 : Option Addr) (c1 : Nat) (s : List Bool) (w : World) (h : ListsR none w a n g) (hs : RowIn w a1 n 1 (bools s)) (hv : validB g = true) :
    Calls Try.prog 14 #[.slice a n cap, .slice a1 n c1] w (MutP g s w) := by
  have L := Lib.hid h.len.1
  have LS := Lib.hid hs.len1b
  have H := Lib.hid h
  have S0 := Lib.hid hs
  have V := Lib.hid hv
  have hn24 : n ≤ 24 := by have := (valid_iff.1 hv).1; have := L.out; omega
  clear h hs hv
  go_enter Try.func14, Try.ntmps14
  go_wp2_with fail
  refine (Reverse_ok a n cap g _ H.out V.out).mono ?_
  rintro e w1 ⟨b, nb, cb, rfl, hb1, hb2, hb3, hB, hg1⟩
  have B0 := hB none (by simp)
  obtain rfl : n = nb := by have := B0.len.1; rw [rev_len] at this; have := L.out; omega
  have B := Lib.hid B0
  have H1 := keep hg1 H
  have S1 := keep hg1 S0
  have G1 := Lib.hid hg1
  clear hB B0 hg1 H S0
  go_wp2_with fail
  go_loopw [8, 9, 29] (fun _ _ i wr => ∃ k : Nat, k ≤ n ∧ i = .int .i64 k ∧ (∀ x : Nat, x < k → s[x]? = some true) ∧ wr = w1) (fun _ _ i _ => n - (intOf i).toNat)
  case atStart => exact ⟨0, by omega, rfl, by omega, rfl⟩
  case round =>
    obtain ⟨k, hk, rfl, hA, rfl⟩ := hrel
    have A := Lib.hid hA
    clear hA
    by_cases hkn : k < n
    · obtain ⟨sk, hsk⟩ : ∃ b, s[k]? = some b := ⟨_, List.getElem?_eq_getElem (by rw [LS.out]; exact hkn)⟩
      obtain ⟨bb, o1, rfl, zb, d1⟩ := S1.out.bool hsk
      have SK := Lib.hid hsk
      have hk' : (k : Int) < n := by omega
      clear hsk
      cases sk
      · have hkl : k < 24 := by omega
        go_wp2_with fail
        refine (found_any a n cap g _ c1 s k _ H1.out S1.out V.out hkn).mono ?_
        rintro e w2 ⟨m1, rfl, l1, hm1, hg2⟩
        have H2 := keep hg2 H1
        have B2 := keep hg2 B
        have S2 := keep hg2 S1
        have G2 := Lib.hid (grown_trans G1.out hg2)
        have zb2 := Nat.lt_of_lt_of_le zb hg2.size
        clear H1 B S1 hg2 G1 d1
        go_wp2_with fail
        refine (found_any b n cb (rev g) _ c1 s k _ B2.out S2.out (rev_valid V.out) hkn).mono ?_
        rintro e w3 ⟨m2, rfl, l2, hm2, hg3⟩
        have S3 := keep hg3 S2
        have G3 := Lib.hid (grown_trans G2.out hg3)
        have zb3 := Nat.lt_of_lt_of_le zb2 hg3.size
        have M1 := Lib.hid hm1
        have M2 : Hid (∀ x : Nat, m2[x]? = some true ↔ Reach g s x k) := Lib.hid (fun x => (hm2 x).trans (reach_rev V.out))
        clear H2 B2 S2 hg3 G2 hm1 hm2
        go_wp2_with (first
          | (refine wpList_store_row rfl 50 (.tmp 10) (.tmp 38) rfl _ _ rfl rfl 50 _ (at_alloc _ (at_new _ _)) (by rw [Try.info24]; simp [bools, l1]) (by simp [bools, l1]) (bools_all _) ?_)
          | (refine wpList_store_row rfl 50 (.tmp 11) (.tmp 42) rfl _ _ rfl rfl 50 _ (at_row2 _ _ _ _) (by rw [Try.info24]; simp [bools, l2]) (by simp [bools, l2]) (bools_all _) ?_))
        obtain ⟨W5, hW5⟩ : ∃ W5, W5 = (((w3.alloc (.cells #[.bool false, .bool false, .bool false, .bool false, .bool false, .bool false, .bool false, .bool false, .bool false, .bool false, .bool false, .bool false, .bool false, .bool false, .bool false, .bool false, .bool false, .bool false, .bool false, .bool false, .bool false, .bool false, .bool false, .bool false] 50)).alloc (.cells #[.bool false, .bool false, .bool false, .bool false, .bool false, .bool false, .bool false, .bool false, .bool false, .bool false, .bool false, .bool false, .bool false, .bool false, .bool false, .bool false, .bool false, .bool false, .bool false, .bool false, .bool false, .bool false, .bool false, .bool false] 50)).setRow w3.heap.size (bools m1).toArray).setRow (w3.heap.size + 1) (bools m2).toArray := ⟨_, rfl⟩
        rw [← hW5]
        have C1 : Hid (W5.heap[w3.heap.size]? = some (.cells (bools m1).toArray 50 (0, 0))) := Lib.hid (by
          rw [hW5, setRow_other _ _ _ _ (by omega)]
          exact setRow_heap _ _ _ _ _ _ (at_alloc _ (at_new _ _)))
        have C2 : Hid (W5.heap[w3.heap.size + 1]? = some (.cells (bools m2).toArray 50 (0, 0))) := Lib.hid (by
          rw [hW5]
          exact setRow_heap _ _ _ _ _ _ (at_row2 _ _ _ _))
        have g5 : w3.grownBy W5 none := by
          rw [hW5]
          exact grown_row (grown_row (grown_alloc _ (grown_alloc _ (grown_refl _ _))) (Nat.le_refl _) _) (by omega) _
        have S5 := keep g5 S3
        have G5 := Lib.hid (grown_trans G3.out g5)
        have zb5 := Nat.lt_of_lt_of_le zb3 g5.size
        clear hW5 g5 S3 G3
        go_loopw [12, 13, 45] (fun _ _ i wr => ∃ j : Nat, j ≤ n ∧ i = .int .i64 j ∧ (∀ x : Nat, x < j → isOpen s x → m1[x]? = some true ∧ m2[x]? = some true) ∧ wr = W5) (fun _ _ i _ => n - (intOf i).toNat)
        case atStart => exact ⟨0, by omega, rfl, by omega, rfl⟩
        case round =>
          obtain ⟨j, hj, rfl, hA, rfl⟩ := hrel
          have AA := Lib.hid hA
          clear hA
          by_cases hjn : j < n
          · obtain ⟨sj, hsj⟩ : ∃ b, s[j]? = some b := ⟨_, List.getElem?_eq_getElem (by rw [LS.out]; exact hjn)⟩
            obtain ⟨bb', o1', he, zb', d1⟩ := S5.out.bool hsj
            obtain ⟨rfl, rfl⟩ : bb = bb' ∧ o1 = o1' := by simpa using he
            obtain ⟨x1, hx1⟩ : ∃ b, m1[j]? = some b := ⟨_, List.getElem?_eq_getElem (by omega)⟩
            obtain ⟨x2, hx2⟩ : ∃ b, m2[j]? = some b := ⟨_, List.getElem?_eq_getElem (by omega)⟩
            have q1 : wr.cell? ⟨w3.heap.size, j, none⟩ = some (.bool x1) := by rw [cell_at C1.out]; simp [bools, hx1]
            have q2 : wr.cell? ⟨w3.heap.size + 1, j, none⟩ = some (.bool x2) := by rw [cell_at C2.out]; simp [bools, hx2]
            have y1 := lt_of_at C1.out
            have y2 := lt_of_at C2.out
            have SJ := Lib.hid hsj
            have X1 := Lib.hid hx1
            have X2 := Lib.hid hx2
            have hj' : (j : Int) < n := by omega
            have hj24 : (j : Int) < 24 := by omega
            have up : Hid ((isOpen s j → x1 = true ∧ x2 = true) → ∀ x : Nat, x < j + 1 → isOpen s x → m1[x]? = some true ∧ m2[x]? = some true) := Lib.hid (fun ho x hx hox => by
              by_cases e : x = j
              · subst e
                obtain ⟨rfl, rfl⟩ := ho hox
                exact ⟨X1.out, X2.out⟩
              · exact AA.out x (by omega) hox)
            have no : Hid (isOpen s j → ¬ (x1 = true ∧ x2 = true) → ¬ Mut g s) := Lib.hid (fun ho hb => mut_no SK.out ho (fun hr => hb (by
              have h1 := (M1.out j).2 hr.1
              have h2 := (M2.out j).2 hr.2
              rw [X1.out] at h1; rw [X2.out] at h2
              simpa using And.intro h1 h2)))
            clear hsj hx1 hx2 he
            clear AA SK A hkl hkn hk' zb zb2 zb3
            cases sj
            · cases x1
              · have NO := Lib.hid (no.out SJ.out (by simp))
                clear no up
                go_wp2_with fail
                exact bodyPost_ret (v := .tuple #[.bool false, .int .i64 0]) (by simp [results, Try.results14, go_sem]) rfl ⟨false, rfl, by simp [NO.out], G5.out⟩
              · cases x2
                · have NO := Lib.hid (no.out SJ.out (by simp))
                  clear no up
                  go_wp2_with fail
                  exact bodyPost_ret (v := .tuple #[.bool false, .int .i64 0]) (by simp [results, Try.results14, go_sem]) rfl ⟨false, rfl, by simp [NO.out], G5.out⟩
                · go_wp2_with fail
                  go_roundw
                  case rel => exact ⟨j + 1, by omega, by go_num, up.out (fun _ => ⟨rfl, rfl⟩), trivial⟩
                  case measure => simp [intOf]; omega
            · go_wp2_with fail
              go_roundw
              case rel => exact ⟨j + 1, by omega, by go_num, up.out (fun h => by unfold isOpen at h; rw [SJ.out] at h; cases h), trivial⟩
              case measure => simp [intOf]; omega
          · obtain rfl : j = n := by omega
            have Y := Lib.hid (mut_yes (g := g) (s := s) SK.out (fun w hw => by
              have hl := (List.getElem?_eq_some_iff.1 hw).1
              rw [LS.out] at hl
              have := AA.out w hl hw
              exact ⟨(M1.out w).1 this.1, (M2.out w).1 this.2⟩))
            clear hjn
            go_wp2_with fail
            exact bodyPost_ret (v := .tuple #[.bool true, .int .i64 0]) (by simp [results, Try.results14, go_sem]) rfl ⟨true, rfl, by simp [Y.out], G5.out⟩
      · go_wp2_with fail
        go_roundw
        case rel => exact ⟨k + 1, by omega, by go_num, (fun x hx => by
          by_cases e : x = k
          · rw [e]; exact SK.out
          · exact A.out x (by omega)), trivial⟩
        case measure => simp [intOf]; omega
    · obtain rfl : k = n := by omega
      clear hkn
      go_wp2_with fail
      exact bodyPost_ret (v := .tuple #[.bool false, .int .i64 0]) (by simp [results, Try.results14, go_sem]) rfl ⟨false, rfl, by simp [mut_none (g := g) (s := s) (by rw [LS.out]; exact A.out)], G1.out⟩
end Go.Proofs.Ytidilepbepkpiaa
