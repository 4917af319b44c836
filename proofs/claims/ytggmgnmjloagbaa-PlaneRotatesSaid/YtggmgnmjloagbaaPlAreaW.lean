/- The walk of PlaneArea. -/
import Derived.Test.YtggmgnmjloagbaaPlMade
import Derived.Test.YtggmgnmjloagbaaApp
import Derived.Deep.RegionHeld3
namespace Go.Proofs.Ytggmgnmjloagbaa
open Go.RowKit
set_option linter.unusedVariables false

theorem St_block : SliceT Try.prog 24 30 (.agg #[.string ⟨#[]⟩, .int .i64 0, .int .i64 0]) 3 32 :=
  .mk' Try.underlying24 Try.info_block rfl (by decide)
theorem bk_one (x : Bk) : ∀ u ∈ x.cells, u.oneCell' = true := cells_one x

/-- A part of a row of blocks. -/
theorem rowB_part {w : World} {b off n : Nat} {l : List Bk} (h : rowB w (some ⟨b, off, none⟩) n l) (lo m : Nat) (hm : lo + m ≤ n) : rowB w (some ⟨b, off + lo * 3, none⟩) m ((l.drop lo).take m) := by
  have := RowIn.part h lo m hm
  rw [part_flat Bk.cells 3 Bk.size] at this
  exact this
theorem rowB_from {w : World} {b n : Nat} {l : List Bk} (h : rowB w (some ⟨b, 0, none⟩) n l) (k : Nat) (hk : k ≤ n) : rowB w (some ⟨b, k * 3, none⟩) (n - k) (l.drop k) := by
  have hl := rowB_len h
  have := rowB_part h k (n - k) (by omega)
  rw [Nat.zero_add, List.take_of_length_le (by simp; omega)] at this
  exact this
theorem block_at0 {w : World} {g n : Nat} {l : List Bk} (h : rowB w (some ⟨g, 0, none⟩) n l) {k : Nat} {t : Bk} (hk : l[k]? = some t) :
    w.cell? ⟨g, k * 3, none⟩ = some (.string t.nm) ∧ w.cell? ⟨g, k * 3 + 1, none⟩ = some (.int .i64 t.p.1) ∧ w.cell? ⟨g, k * 3 + 2, none⟩ = some (.int .i64 t.p.2) := by
  obtain ⟨b, off, he, _, h0, h1, h2⟩ := block_at h hk
  obtain ⟨rfl, rfl⟩ : g = b ∧ 0 = off := by simpa using he
  rw [Nat.zero_add] at h0 h1 h2
  exact ⟨h0, h1, h2⟩
theorem cells_later {W w : World} {b j : Nat} {x y z : Value} (h : W.cell? ⟨b, j, none⟩ = some x ∧ W.cell? ⟨b, j + 1, none⟩ = some y ∧ W.cell? ⟨b, j + 2, none⟩ = some z) (hg : W.grownBy w none) :
    w.cell? ⟨b, j, none⟩ = some x ∧ w.cell? ⟨b, j + 1, none⟩ = some y ∧ w.cell? ⟨b, j + 2, none⟩ = some z :=
  ⟨(grown_cell hg (lt_of_cell h.1) (by simp)).trans h.1, (grown_cell hg (lt_of_cell h.2.1) (by simp)).trans h.2.1, (grown_cell hg (lt_of_cell h.2.2) (by simp)).trans h.2.2⟩
theorem cells0 {W w : World} {b : Nat} {x y z : Value} (h : W.cell? ⟨b, 0 * 3, none⟩ = some x ∧ W.cell? ⟨b, 0 * 3 + 1, none⟩ = some y ∧ W.cell? ⟨b, 0 * 3 + 2, none⟩ = some z) (hg : W.grownBy w none) :
    W.grownBy w none ∧ w.cell? ⟨b, 0, none⟩ = some x ∧ w.cell? ⟨b, 1, none⟩ = some y ∧ w.cell? ⟨b, 2, none⟩ = some z :=
  ⟨hg, cells_later h hg⟩
theorem _root_.Go.World.ownsRow.kept_any {w W : World} {base e size n : Nat} {v : Value} {xs : List Value} (h : w.ownsRow base e size v n xs) (hg : w.grownBy W none) : W.ownsRow base e size v n xs := h.kept hg (Classical.em _)
theorem rowB_upto {w : World} {b n : Nat} {l : List Bk} (h : rowB w (some ⟨b, 0, none⟩) n l) (k : Nat) (hk : k ≤ n) : rowB w (some ⟨b, 0, none⟩) k (l.take k) := by
  have := rowB_part h 0 k (by omega)
  rw [Nat.zero_mul, Nat.zero_add, List.drop_zero] at this
  exact this
theorem rowB_owns {w : World} {base e n : Nat} {v : Value} {l : List Bk} (h : w.ownsRow base e 3 v n (l.flatMap Bk.cells)) : ∃ A c, v = .slice A n c ∧ n ≤ c ∧ c ≤ maxLen ∧ (A = none → c = 0) ∧ rowB w A n l := sliceIn_owns h

theorem made_ok {l : List Bk} (h : Made l) (h48 : l.length ≤ 48) : checkI l = 0 ∧ areaV l = areaI (pts l) := by
  have h1 : l.all Bk.ok = true := List.all_eq_true.2 fun b hb => by have := (h b hb).2; simp [Bk.ok]; exact this
  have h2 : checkI l = 0 := by unfold checkI; rw [if_neg (by omega), h1]; rfl
  exact ⟨h2, by unfold areaV; rw [if_pos h2]⟩
theorem made_sub {l l' : List Bk} (h : Made l) (hs : ∀ b ∈ l', b ∈ l) : Made l' := fun b hb => h b (hs b hb)

theorem Area_own {w : World} {base m : Nat} {v : Value} {xs : List Value} {l : List Bk} (ho : w.ownsRow base 30 3 v m xs) (he : xs = l.flatMap Bk.cells) (hm : Made l) (hl : l.length ≤ 48) :
    Calls Try.prog 13 #[v] w fun e w' => e = .returned (.tuple #[.int .i64 (areaI (pts l)), .int .i64 0]) ∧ w.grownBy w' none := by
  subst he
  obtain ⟨A, c, rfl, _, _, _, hr⟩ := rowB_owns ho
  have := Area_any A m c l w hr
  rw [(made_ok hm hl).1, (made_ok hm hl).2] at this
  exact this
theorem Area_row {w : World} {A : Option Addr} {m c : Nat} {l : List Bk} (hr : rowB w A m l) (hm : Made l) (hl : l.length ≤ 48) :
    Calls Try.prog 13 #[.slice A m c] w fun e w' => e = .returned (.tuple #[.int .i64 (areaI (pts l)), .int .i64 0]) ∧ w.grownBy w' none := by
  have := Area_any A m c l w hr
  rw [(made_ok hm hl).1, (made_ok hm hl).2] at this
  exact this

theorem area_eq1 {l : List Bk} (k : Nat) : areaI (pts (l.drop k ++ l.take k)) = areaI (pts l) := by
  have h : pts l = pts (l.take k) ++ pts (l.drop k) := by rw [pts, pts, pts, ← List.map_append, List.take_append_drop]
  rw [h, ← area_turn (pts (l.take k))]
  simp [pts]
theorem drop_cons {l : List Bk} {k : Nat} {b : Bk} (hb : l[k]? = some b) : l.drop k = b :: l.drop (k + 1) := by
  obtain ⟨h, rfl⟩ := List.getElem?_eq_some_iff.1 hb
  exact List.drop_eq_getElem_cons h
theorem area_eq2 {l : List Bk} {k : Nat} {b : Bk} (hb : l[k]? = some b) : areaI (pts (l.take k ++ b :: l.drop k)) = areaI (pts l) := by
  have h : pts l = pts (l.take k) ++ b.p :: pts (l.drop (k + 1)) := by
    conv => lhs; rw [← List.take_append_drop k l, drop_cons hb]
    simp [pts]
  rw [h, ← area_twice, drop_cons hb]
  simp [pts]
theorem area_eq3 {l : List Bk} {k : Nat} {a b : Bk} (ha : l[0]? = some a) (hb : l[k]? = some b) (hk : 0 < k) : areaI (pts (l.take (k + 1))) + areaI (pts (a :: l.drop k)) = areaI (pts l) := by
  cases l with
  | nil => simp at ha
  | cons x l =>
    simp at ha; subst ha
    obtain ⟨k, rfl⟩ : ∃ j, k = j + 1 := ⟨k - 1, by omega⟩
    simp only [List.getElem?_cons_succ] at hb
    have h : pts (x :: l) = x.p :: pts (l.take k) ++ b.p :: pts (l.drop (k + 1)) := by
      conv => lhs; rw [← List.take_append_drop k l, drop_cons hb]
      simp [pts]
    rw [h, area_cut]
    congr 1
    · congr 1
      have : l.take (k + 1) = l.take k ++ [b] := by rw [List.take_add_one, hb]; simp
      simp [pts, this]
    · congr 1
      have : (x :: l).drop (k + 1) = b :: l.drop (k + 1) := by simp [drop_cons hb]
      rw [this]; simp [pts]
theorem area_bds {l : List Bk} (h : Made l) (hl : l.length ≤ 48) : -100000000000 ≤ areaI (pts l) ∧ areaI (pts l) ≤ 100000000000 := by
  refine area_bd (fun p hp => ?_) (by simpa [pts] using hl)
  obtain ⟨b, hb, rfl⟩ := List.mem_map.1 hp
  exact (h b hb).2

set_option maxRecDepth 100000 in
set_option maxHeartbeats 4000000 in
theorem PlaneArea_walk (a0 : Option Addr) (len0 cap0 : Nat) (z0 : List Int) (a1 a2 : Int) (w : World) (w0 : IsRow .i64 w a0 len0 cap0 z0) (w1 : (Lit.int .i64 a1).wf = true) (w2 : (Lit.int .i64 a2).wf = true) :
    Calls Try.prog 4 #[.slice a0 len0 cap0, .int .i64 a1, .int .i64 a2] w fun e w' => e = .returned (.bool true) ∧ Below w.heap.size w w' := by
  have r0 := Lib.hid w0
  obtain ⟨n, hn, hn4, hn8⟩ : ∃ n : Nat, (n : Int) = 4 + cut a1 5 ∧ 4 ≤ n ∧ n ≤ 8 := by
    have := cut_in a1 5 (by omega)
    exact ⟨(4 + cut a1 5).toNat, by omega, by omega, by omega⟩
  obtain ⟨k, hk, hk2, hkn⟩ : ∃ k : Nat, (k : Int) = 2 + cut a2 ((n : Int) - 3) ∧ 2 ≤ k ∧ k + 2 ≤ n := by
    have := cut_in a2 ((n : Int) - 3) (by omega)
    exact ⟨(2 + cut a2 ((n : Int) - 3)).toNat, by omega, by omega, by omega⟩
  have HN := Lib.hid hn
  have HK := Lib.hid hk
  have HB1 := Lib.hid (wf_i64 w1)
  have HB2 := Lib.hid (wf_i64 w2)
  have hc1 := cut_in a1 5 (by omega)
  have hc2 := cut_in a2 ((n : Int) - 3) (by omega)
  clear w0 w1 w2 hn hk
  go_enter Try.func4, Try.ntmps4
  go_wp2_with fail
  refine (known_any _).mono ?_
  rintro e w1 ⟨rfl, hg1⟩
  have G1 := Lib.hid hg1
  clear hg1
  go_wp2_with fail
  refine (Cut_any _ _ _ HB1.out.1 HB1.out.2 (by omega) (by omega)).mono ?_
  rintro e w' ⟨rfl, rfl⟩
  go_wp2_with fail
  rw [← HN.out]
  refine (blocks_any a0 len0 cap0 z0 n _ (isRow_kept r0.out G1.out) (by omega)).mono ?_
  rintro e w2 ⟨v, l, rfl, hl, hmade, hown, hg2⟩
  obtain ⟨g, cap, rfl, hgb, hO⟩ := ownR_of_owns hown (by omega)
  obtain ⟨hcap, hcap2⟩ := hO.capLe
  have hR : rowB w2 (some ⟨g, 0, none⟩) n l := hO.row
  have F2 : Hid (rowB w2 (some ⟨g, 0, none⟩) n l ∧ w.grownBy w2 none) := ⟨hR, grown_trans G1.out hg2⟩
  have M := Lib.hid hmade
  have L := Lib.hid hl
  have hb := hg2.size
  have hb0 := G1.out.size
  clear hR hO hown hmade hl hg2 G1 r0 hgb hc1 HB1 HN
  go_wp2_with fail
  refine (Cut_any _ _ _ HB2.out.1 HB2.out.2 (by omega) (by omega)).mono ?_
  rintro e w' ⟨rfl, rfl⟩
  go_wp2_with fail
  rw [← HK.out]
  refine (Area_any _ _ _ _ _ F2.out.1).mono ?_
  rw [(made_ok M.out (by rw [L.out]; omega)).1, (made_ok M.out (by rw [L.out]; omega)).2]
  rintro e w3 ⟨rfl, hg3⟩
  have F3 := keep hg3 F2
  have hb3 := hg3.size
  clear hg3 F2 HB2 hc2
  go_wp2_with fail
  have k1 : k ≤ n := by omega
  have k2 : ¬ cap = k := by omega
  have k3 : (k : Int) ≤ n := by omega
  have k4 : k ≤ cap := by omega
  have k5 : (k : Int) ≤ cap := by omega
  have P1 := Lib.hid (rowB_from F3.out.1 k (by omega))
  have P2 := Lib.hid (rowB_upto F3.out.1 k (by omega))
  have E5 : Hid ([] ++ (l.drop k).flatMap Bk.cells ++ (l.take k).flatMap Bk.cells = (l.drop k ++ l.take k).flatMap Bk.cells) := Lib.hid (by simp)
  have M5 : Hid (Made (l.drop k ++ l.take k)) := Lib.hid (made_sub M.out (fun b hb => (List.mem_append.1 hb).elim List.mem_of_mem_drop List.mem_of_mem_take))
  have L5 : Hid ((l.drop k ++ l.take k).length ≤ 48) := Lib.hid (by simp [L.out]; omega)
  go_region_held3 (fun _ => True) (trivial) (first
    | (refine step_append_in St_block rfl (.const (.slice none 0 0)) (.tmp 40) rfl (by rfl) (World.ownsRow_nil _ w3.heap.size _ _) (by rfl) P1.out (fun h => by cases h) (flatC_one bk_one _) (by unfold maxLen; omega) (by omega) (Nat.le_refl _) ?_; intro v1 w4 hown4 hg4 hloc; clear hloc; have g4 : w3.grownBy w4 none := grown_trans (grown_drew (grown_refl w3 none)) hg4; have P3 := Lib.hid (RowIn.kept P2.out g4); have O4 := Lib.hid hown4; have hW4 := g4.size; clear hown4 hg4)
    | (refine step_append_in St_block rfl (.tmp 41) (.tmp 44) rfl (by rfl) O4.out (by rfl) P3.out (fun h => by cases h) (flatC_one bk_one _) (by unfold maxLen; omega) (by omega) hW4 ?_; intro v2 w5 hown5 hg5 hloc; clear hloc; have g54 : w3.grownBy w5 none := grown_own g4 hg5 (fun g hg => (O4.out.lt g hg).1); have O5 := Lib.hid hown5; clear hown5 hg5)
    | (go_at_call 13; refine (Area_own O5.out E5.out M5.out L5.out).mono ?_; rintro e w6 ⟨rfl, hg6⟩; have F6 := keep hg6 (keep g54 F3); have hb6 := Lib.hid (grown_trans g54 hg6); clear hg6))
  have R1 := keep hb6.out P1
  have R2 := keep hb6.out P2
  have hcap3 : k + 1 ≤ cap := by omega
  have hcap4 : (k : Int) + 1 ≤ cap := by omega
  clear O4 O5 E5 M5 L5 P1 P2 g4 g54 hb6 F3
  go_wp2_with fail
  refine (Area_row (rowB_upto F6.out.1 (k + 1) (by omega)) (made_sub M.out (fun b hb => List.mem_of_mem_take hb)) (by simp [L.out]; omega)).mono ?_
  rintro e w7 ⟨rfl, hg7⟩
  have F7 := keep hg7 F6
  have T1 := keep hg7 R1
  have T2 := keep hg7 R2
  clear hg7 F6 R1 R2
  obtain ⟨b0, hb0⟩ : ∃ b0, l[0]? = some b0 := ⟨_, List.getElem?_eq_getElem (by rw [L.out]; omega)⟩
  obtain ⟨bk, hbk⟩ : ∃ bk, l[k]? = some bk := ⟨_, List.getElem?_eq_getElem (by rw [L.out]; omega)⟩
  have C0 := Lib.hid (block_at0 F7.out.1 hb0)
  have CK := Lib.hid (block_at0 F7.out.1 hbk)
  have E8 : Hid ((Bk.cells b0) ++ (l.drop k).flatMap Bk.cells = (b0 :: l.drop k).flatMap Bk.cells) := Lib.hid (by simp)
  have M8 : Hid (Made (b0 :: l.drop k)) := Lib.hid (made_sub M.out (fun b hb => (List.mem_cons.1 hb).elim (fun h => h ▸ List.mem_of_getElem? hb0) List.mem_of_mem_drop))
  have L8 : Hid ((b0 :: l.drop k).length ≤ 48) := Lib.hid (by simp [L.out]; omega)
  have n0 : (0 : Int) < n := by omega
  have n1 : 0 < n := by omega
  go_wp2_with fail
  go_region_held3 (fun w' => w7.grownBy w' none ∧ w'.cell? ⟨g, 0, none⟩ = some (.string b0.nm) ∧ w'.cell? ⟨g, 1, none⟩ = some (.int .i64 b0.p.1) ∧ w'.cell? ⟨g, 2, none⟩ = some (.int .i64 b0.p.2)) ((refine cells0 C0.out ?_; (repeat (first | assumption | exact grown_refl _ _ | refine grown_drew ?_ | refine grown_alloc _ ?_)))) (first
    | (refine step_append_in St_block rfl (.tmp 61) (.tmp 64) rfl (by rfl) (World.ownsRow_lit (base := w7.heap.size) _ _ 1 (by simp) (by unfold maxLen; omega) rfl) (by rfl) (RowIn.kept T1.out (by repeat (first | assumption | exact grown_refl _ _ | refine grown_drew ?_ | refine grown_alloc _ ?_))) (fun h => by cases h) (flatC_one bk_one _) (by unfold maxLen; omega) (by omega) (by simp) ?_; intro v2 w8 hown8 hg8 hloc; clear hloc; have O8 := Lib.hid hown8; have g78 : w7.grownBy w8 none := grown_own (by (repeat (first | assumption | exact grown_refl _ _ | refine grown_drew ?_ | refine grown_alloc _ ?_))) hg8 (fun g hg => by simp [Value.ownBlock] at hg; omega); clear hown8 hg8)
    | (go_at_call 13; refine (Area_own O8.out E8.out M8.out L8.out).mono ?_; rintro e w9 ⟨rfl, hg9⟩; have g79 := grown_trans g78 hg9; clear hg9))
  have G79 := Lib.hid g79
  have F9 := keep g79 F7
  have T1' := keep g79 T1
  have T2' := keep g79 T2
  have CK' := Lib.hid (cells_later CK.out g79)
  have E9 : Hid (([] ++ (l.take k).flatMap Bk.cells ++ Bk.cells bk) ++ (l.drop k).flatMap Bk.cells = (l.take k ++ bk :: l.drop k).flatMap Bk.cells) := Lib.hid (by simp)
  have M9 : Hid (Made (l.take k ++ bk :: l.drop k)) := Lib.hid (made_sub M.out (fun b hb => (List.mem_append.1 hb).elim List.mem_of_mem_take (fun h => (List.mem_cons.1 h).elim (fun h => h ▸ List.mem_of_getElem? hbk) List.mem_of_mem_drop)))
  have L9 : Hid ((l.take k ++ bk :: l.drop k).length ≤ 48) := Lib.hid (by simp [L.out]; omega)
  have k6 : k < n := by omega
  have k7 : (k : Int) < n := by omega
  clear g78 g79 C0 CK T1 T2 F7 E8 M8 L8 O8
  go_wp2_with fail
  go_region_held3 (fun w' => w9.grownBy w' none ∧ w'.cell? ⟨g, k * 3, none⟩ = some (.string bk.nm) ∧ w'.cell? ⟨g, k * 3 + 1, none⟩ = some (.int .i64 bk.p.1) ∧ w'.cell? ⟨g, k * 3 + 2, none⟩ = some (.int .i64 bk.p.2)) ((refine ⟨?_, cells_later CK'.out ?_⟩ <;> (repeat (first | assumption | exact grown_refl _ _ | refine grown_drew ?_ | refine grown_alloc _ ?_)))) (first
    | (refine step_append_in St_block rfl (.const (.slice none 0 0)) (.tmp 72) rfl (by rfl) (World.ownsRow_nil _ w9.heap.size _ _) (by rfl) (RowIn.kept T2'.out (by (repeat (first | assumption | exact grown_refl _ _ | refine grown_drew ?_ | refine grown_alloc _ ?_)))) (fun h => by cases h) (flatC_one bk_one _) (by unfold maxLen; omega) (by omega) (by simp) ?_; intro v3 w10 hown10 hg10 hloc; clear hloc; have O10 := Lib.hid hown10; have g10 : w9.grownBy w10 none := grown_own (by (repeat (first | assumption | exact grown_refl _ _ | refine grown_drew ?_ | refine grown_alloc _ ?_))) hg10 (fun g hg => by simp [Value.ownBlock] at hg); have z10 := g10.size; (try (have NB := Lib.hid (grown_at (w := (w9.alloc (.cells #[.string bk.nm, .int .i64 bk.p.1, .int .i64 bk.p.2] 30)).drew) hg10 (at_new w9 _) (by simp [Value.ownBlock])))); clear hown10 hg10)
    | (refine step_append_in St_block rfl (.tmp 73) (.tmp 78) rfl (by rfl) (World.ownsRow.kept_any O10.out (by (repeat (first | assumption | exact grown_refl _ _ | refine grown_drew ?_ | refine grown_alloc _ ?_)))) (by rfl) (news := Bk.cells bk) (by first | exact rowIn_block (n := 1) (size := 3) NB.out rfl (by unfold maxLen; omega) | exact rowIn_block (n := 1) (size := 3) (at_new _ _) rfl (by unfold maxLen; omega)) (fun h => by cases h) (bk_one _) (by unfold maxLen; omega) (by omega) (by first | exact z10 | (simp; omega)) ?_; intro v4 w11 hown11 hg11 hloc; clear hloc; have g11 : w9.grownBy w11 none := grown_own (by (repeat (first | assumption | exact grown_refl _ _ | refine grown_drew ?_ | refine grown_alloc _ ?_))) hg11 (fun g hg => (O10.out.lt g hg).1); have O11 := Lib.hid hown11; have z11 := g11.size; clear hown11 hg11)
    | (refine step_append_in St_block rfl (.tmp 79) (.tmp 82) rfl (by rfl) O11.out (by rfl) (RowIn.kept T1'.out (by (repeat (first | assumption | exact grown_refl _ _ | refine grown_drew ?_ | refine grown_alloc _ ?_)))) (fun h => by cases h) (flatC_one bk_one _) (by unfold maxLen; omega) (by omega) z11 ?_; intro v5 w12 hown12 hg12 hloc; clear hloc; have g12 : w9.grownBy w12 none := grown_own (by (repeat (first | assumption | exact grown_refl _ _ | refine grown_drew ?_ | refine grown_alloc _ ?_))) hg12 (fun g hg => (O11.out.lt g hg).1); have O12 := Lib.hid hown12; clear hown12 hg12)
    | (go_at_call 13; refine (Area_own O12.out E9.out M9.out L9.out).mono ?_; rintro e w13 ⟨rfl, hg13⟩; have g13 := grown_trans g12 hg13; clear hg13))
  all_goals
    have H1 := area_eq1 (l := l) k
    have H2 := area_eq2 hbk
    have H3 := area_eq3 hb0 hbk (by omega)
    have B1 := area_bds (made_sub M.out (l' := l.take (k + 1)) (fun b hb => List.mem_of_mem_take hb)) (by simp [L.out]; omega)
    have B2 := area_bds (made_sub M.out (l' := b0 :: l.drop k) (fun b hb => (List.mem_cons.1 hb).elim (fun h => h ▸ List.mem_of_getElem? hb0) List.mem_of_mem_drop)) (by simp [L.out]; omega)
    obtain ⟨B1a, B1b⟩ := B1
    obtain ⟨B2a, B2b⟩ := B2
    have HG := Lib.hid (grown_trans F9.out.2 g13)
    clear g10 g11 g12 g13 F9 T1' T2' CK' E9 M9 L9 O10 O11 O12 hb0 hbk G79 M L
    go_wp2_with fail
    go_ret
    exact ⟨rfl, grown_below HG.out⟩
end Go.Proofs.Ytggmgnmjloagbaa
