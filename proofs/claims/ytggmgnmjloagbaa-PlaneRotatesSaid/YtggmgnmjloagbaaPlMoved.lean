/- The contract of moved: rotated, and mirrored. -/
import Derived.Test.YtggmgnmjloagbaaPlSteps
namespace Go.Proofs.Ytggmgnmjloagbaa
open Go.RowKit
set_option linter.unusedVariables false

def mapB (f : Pt → Pt) (l : List Bk) : List Bk := l.map fun b => ⟨b.nm, f b.p⟩
theorem mapB_succ {f : Pt → Pt} {l : List Bk} {k : Nat} {t : Bk} (h : l[k]? = some t) : (mapB f (l.take k)).flatMap Bk.cells ++ Bk.cells ⟨t.nm, f t.p⟩ = (mapB f (l.take (k + 1))).flatMap Bk.cells := by
  rw [List.take_add_one, h]; simp [mapB]
theorem mapB_full {f : Pt → Pt} {l : List Bk} {n : Nat} (h : l.length = n) : mapB f (l.take n) = mapB f l := by rw [List.take_of_length_le (by omega)]
theorem made_map {f : Pt → Pt} {l : List Bk} (h : Made l) (hf : ∀ p, inB p → inB (f p)) : Made (mapB f l) := by
  intro b hb
  obtain ⟨c, hc, rfl⟩ := List.mem_map.1 hb
  exact ⟨(h c hc).1, hf _ (h c hc).2⟩
theorem pts_map (f : Pt → Pt) (l : List Bk) : pts (mapB f l) = (pts l).map f := by simp [pts, mapB]
theorem rot_in (q : Int) : ∀ p, inB p → inB (rotN (quarters q) p) := fun p h => rotN_in h _
theorem rotmir_in (q : Int) : ∀ p, inB p → inB (mir (rotN (quarters q) p)) := fun p h => mir_in (rotN_in h _)

theorem at_new' {w : World} {o : Obj} {m : Nat} (h : m = w.heap.size) : (w.alloc o).heap[m]? = some o := by subst h; exact at_new w o
theorem own_new {w : World} {base e size n b : Nat} {v : Value} {xs : List Value} (h : w.ownsRow base e size v n xs) (hb : w.heap.size ≤ b) : v.ownBlock ≠ some b := by
  intro he
  have := h.lt b he
  omega
theorem own_set {w : World} {base e size n : Nat} {v u : Value} {xs : List Value} {p : Addr} (h : w.ownsRow base e size v n xs) (hb : v.ownBlock ≠ some p.block) : (w.setCell p u).ownsRow base e size v n xs :=
  h.kept (row := some p.block) (grown_set u (grown_refl w _) (.inr rfl)) (.inr hb)
theorem own_set3 {w : World} {base e size n b : Nat} {v : Value} {xs : List Value} (h : w.ownsRow base e size v n xs) (hb : v.ownBlock ≠ some b) (x y z : Value) :
    (((w.setCell ⟨b, 0, none⟩ x).setCell ⟨b, 1, none⟩ y).setCell ⟨b, 2, none⟩ z).ownsRow base e size v n xs := own_set (own_set (own_set h hb) hb) hb

set_option maxHeartbeats 2000000 in
theorem moved_false (g n cap : Nat) (l : List Bk) (q : Int) (w : World) (h : rowB w (some ⟨g, 0, none⟩) n l) (hn : n ≤ 48) (hc : n ≤ cap) (hm : Made l) (hq : -9223372036854775808 ≤ q ∧ q ≤ 9223372036854775807) :
    Calls Try.prog 21 #[.slice (some ⟨g, 0, none⟩) n cap, .int .i64 q, .bool false] w fun e w' => ∃ v, e = .returned (.tuple #[v, .bool true]) ∧ w'.ownsRow w.heap.size 30 3 v n ((mapB (rotN (quarters q)) l).flatMap Bk.cells) ∧ w.grownBy w' none := by
  have R := Lib.hid h
  have L := Lib.hid (rowB_len h)
  have M := Lib.hid hm
  have HQ := Lib.hid hq
  clear h hm hq
  go_enter Try.func21, Try.ntmps21
  go_wp2_with fail
  go_loopw [8, 9] (fun v i wr => ∃ k : Nat, k ≤ n ∧ i = .int .i64 k ∧ wr.ownsRow w.heap.size 30 3 v k ((mapB (rotN (quarters q)) (l.take k)).flatMap Bk.cells) ∧ w.grownBy wr none) (fun _ i _ => n - (intOf i).toNat)
  case atStart => exact ⟨0, by omega, rfl, World.ownsRow_nil _ _ _ _, grown_refl _ _⟩
  case round =>
    obtain ⟨k, hk, rfl, hown, hG⟩ := hrel
    have O := Lib.hid hown
    have F : Hid (rowB wr (some ⟨g, 0, none⟩) n l ∧ w.grownBy wr none) := ⟨RowIn.kept R.out hG, hG⟩
    clear hown hG
    by_cases hkn : k < n
    · obtain ⟨t, ht⟩ : ∃ t, l[k]? = some t := ⟨_, List.getElem?_eq_getElem (by rw [L.out]; exact hkn)⟩
      obtain ⟨⟨x, y⟩, rfl, it⟩ := made_at M.out ht
      have C4 := Lib.hid (fun w => Rotate_ok ⟨#[]⟩ x y q w it HQ.out)
      have iR := rotN_in it (quarters q)
      have HS := Lib.hid (mapB_succ (f := (rotN (quarters q))) ht)
      obtain ⟨u, hu⟩ : ∃ u, u = (rotN (quarters q) (x, y)).1 := ⟨_, rfl⟩
      obtain ⟨v, hv⟩ : ∃ v, v = (rotN (quarters q) (x, y)).2 := ⟨_, rfl⟩
      have huv : rotN (quarters q) (x, y) = (u, v) := by rw [hu, hv]
      simp only [huv] at HS
      rw [← hu, ← hv] at C4
      have I2 : Hid (inB (u, v)) := Lib.hid (by rw [← huv]; exact iR)
      obtain ⟨b1, b2, b3, b4⟩ := I2.out
      simp only at b1 b2 b3 b4
      obtain ⟨c0, c1, c2⟩ := block_at0 F.out.1 ht
      simp only at c0 c1 c2
      have zg := lt_of_cell c0
      simp only at zg
      have hk' : (k : Int) < n := by omega
      clear ht it iR hu hv huv
      go_wp2_with fail
      refine (C4.out _).mono ?_
      rintro e w4 ⟨rfl, hg4⟩
      have K4 := keep hg4 (Lib.hid (And.intro O.out F.out.2))
      clear hg4 O F C4 c0 c1 c2
      have O5 := Lib.hid ((K4.out.1.alloc (.cells #[.string ⟨#[]⟩, .int .i64 u, .int .i64 v] 30)).alloc (.cells #[.string ⟨#[]⟩, .int .i64 u, .int .i64 v] 30))
      have zz4 := K4.out.2.size
      go_wp2_with (at_builtin; refine wpList_append_in St_block rfl (.tmp 37) (.tmp 39) rfl (by rfl) O5.out (by rfl) (news := Bk.cells ⟨⟨#[]⟩, (u, v)⟩) (rowIn_block (n := 1) (size := 3) (at_new' (by simp)) rfl (by unfold maxLen; omega)) (fun h => by cases h) (bk_one _) ?c1 ?c2 ?c3 ?_)
      case c1 => unfold maxLen; omega
      case c2 => omega
      case c3 => simp; omega
      intro v' w7 hown7 hg7 hloc
      clear hloc
      have G7 := Lib.hid (grown_own (grown_alloc (.cells #[.string ⟨#[]⟩, .int .i64 u, .int .i64 v] 30) (grown_alloc (.cells #[.string ⟨#[]⟩, .int .i64 u, .int .i64 v] 30) K4.out.2)) hg7 (fun g hg => (O5.out.lt g hg).1))
      have O7 := Lib.hid hown7
      clear hown7 hg7 O5 K4
      go_wp2_with fail
      go_roundw
      case rel => exact ⟨k + 1, by omega, by go_num, by rw [← HS.out]; exact O7.out, G7.out⟩
      case measure => simp [intOf]; omega
    · obtain rfl : k = n := by omega
      have O2 := Lib.hid (by have := O.out; rw [mapB_full L.out] at this; exact this)
      clear O hkn
      go_wp2_with fail
      exact bodyPost_ret (v := .tuple #[u8, .bool true]) (by simp [results, Try.results21, go_sem]) rfl ⟨u8, rfl, O2.out, F.out.2⟩

set_option maxHeartbeats 2000000 in
theorem moved_true (g n cap : Nat) (l : List Bk) (q : Int) (w : World) (h : rowB w (some ⟨g, 0, none⟩) n l) (hn : n ≤ 48) (hc : n ≤ cap) (hm : Made l) (hq : -9223372036854775808 ≤ q ∧ q ≤ 9223372036854775807) :
    Calls Try.prog 21 #[.slice (some ⟨g, 0, none⟩) n cap, .int .i64 q, .bool true] w fun e w' => ∃ v, e = .returned (.tuple #[v, .bool true]) ∧ w'.ownsRow w.heap.size 30 3 v n ((mapB (fun p => mir (rotN (quarters q) p)) l).flatMap Bk.cells) ∧ w.grownBy w' none := by
  have R := Lib.hid h
  have L := Lib.hid (rowB_len h)
  have M := Lib.hid hm
  have HQ := Lib.hid hq
  clear h hm hq
  go_enter Try.func21, Try.ntmps21
  go_wp2_with fail
  go_loopw [8, 9] (fun v i wr => ∃ k : Nat, k ≤ n ∧ i = .int .i64 k ∧ wr.ownsRow w.heap.size 30 3 v k ((mapB (fun p => mir (rotN (quarters q) p)) (l.take k)).flatMap Bk.cells) ∧ w.grownBy wr none) (fun _ i _ => n - (intOf i).toNat)
  case atStart => exact ⟨0, by omega, rfl, World.ownsRow_nil _ _ _ _, grown_refl _ _⟩
  case round =>
    obtain ⟨k, hk, rfl, hown, hG⟩ := hrel
    have O := Lib.hid hown
    have F : Hid (rowB wr (some ⟨g, 0, none⟩) n l ∧ w.grownBy wr none) := ⟨RowIn.kept R.out hG, hG⟩
    clear hown hG
    by_cases hkn : k < n
    · obtain ⟨t, ht⟩ : ∃ t, l[k]? = some t := ⟨_, List.getElem?_eq_getElem (by rw [L.out]; exact hkn)⟩
      obtain ⟨⟨x, y⟩, rfl, it⟩ := made_at M.out ht
      have C4 := Lib.hid (fun w => Rotate_ok ⟨#[]⟩ x y q w it HQ.out)
      have iR := rotN_in it (quarters q)
      have HS := Lib.hid (mapB_succ (f := (fun p => mir (rotN (quarters q) p))) ht)
      obtain ⟨u, hu⟩ : ∃ u, u = (rotN (quarters q) (x, y)).1 := ⟨_, rfl⟩
      obtain ⟨v, hv⟩ : ∃ v, v = (rotN (quarters q) (x, y)).2 := ⟨_, rfl⟩
      have huv : rotN (quarters q) (x, y) = (u, v) := by rw [hu, hv]
      simp only [huv] at HS
      rw [← hu, ← hv] at C4
      have I2 : Hid (inB (u, v)) := Lib.hid (by rw [← huv]; exact iR)
      obtain ⟨b1, b2, b3, b4⟩ := I2.out
      simp only at b1 b2 b3 b4
      obtain ⟨c0, c1, c2⟩ := block_at0 F.out.1 ht
      simp only at c0 c1 c2
      have zg := lt_of_cell c0
      simp only at zg
      have hk' : (k : Int) < n := by omega
      clear ht it iR hu hv huv
      go_wp2_with fail
      refine (C4.out _).mono ?_
      rintro e w4 ⟨rfl, hg4⟩
      have K4 := keep hg4 (Lib.hid (And.intro O.out F.out.2))
      clear hg4 O F C4 c0 c1 c2
      have C5 := Lib.hid (fun w => Mirror_ok ⟨#[]⟩ u v w I2.out)
      go_wp2_with fail
      refine (C5.out _).mono ?_
      rintro e w5 ⟨rfl, hg5⟩
      have K5 := next_box hg5 K4
      obtain ⟨p1, p2⟩ := rules_at K5.out.2
      have zp := lt_of_at K5.out.2
      have KB := Lib.hid (at_set (j := 2) (.int .i64 (-v)) (at_set (j := 1) (.int .i64 u) (at_set (j := 0) (.string ⟨#[]⟩) K5.out.2)))
      have zw := K5.out.1.2.size
      have K6 := Lib.hid (grown3 (grown_refl w5 none) (Nat.le_refl _) (.string ⟨#[]⟩) (.int .i64 u) (.int .i64 (-v)))
      have zz4 := K4.out.2.size
      have G6 := Lib.hid (grown3 K5.out.1.2 (b := w4.heap.size) zz4 (.string ⟨#[]⟩) (.int .i64 u) (.int .i64 (-v)))
      have O6 := Lib.hid (own_set3 K5.out.1.1 (b := w4.heap.size) (own_new K4.out.1 (Nat.le_refl _)) (.string ⟨#[]⟩) (.int .i64 u) (.int .i64 (-v)))
      obtain ⟨s0, s1, s2⟩ := set3 K5.out.2 (.string ⟨#[]⟩) (.int .i64 u) (.int .i64 (-v))
      clear hg5 K4 C5 K6
      go_wp2_with (at_builtin; refine wpList_append_in St_block rfl (.tmp 37) (.tmp 39) rfl (by rfl) (O6.out.alloc (.cells #[.string ⟨#[]⟩, .int .i64 u, .int .i64 (-v)] 30)) (by rfl) (news := Bk.cells ⟨⟨#[]⟩, (u, -v)⟩) (rowIn_block (n := 1) (size := 3) (at_new' (by simp [World.setCell])) rfl (by unfold maxLen; omega)) (fun h => by cases h) (bk_one _) ?c1 ?c2 ?c3 ?_)
      case c1 => unfold maxLen; omega
      case c2 => omega
      case c3 => simp [World.setCell]; omega
      intro v' w7 hown7 hg7 hloc
      clear hloc
      have G7 := Lib.hid (grown_own (grown_alloc (.cells #[.string ⟨#[]⟩, .int .i64 u, .int .i64 (-v)] 30) G6.out) hg7 (fun g hg => (O6.out.lt g hg).1))
      have O7 := Lib.hid hown7
      clear hown7 hg7 O6 G6 KB s0 s1 s2 p1 p2 K5
      go_wp2_with fail
      go_roundw
      case rel => exact ⟨k + 1, by omega, by go_num, by rw [← HS.out]; exact O7.out, G7.out⟩
      case measure => simp [intOf]; omega
    · obtain rfl : k = n := by omega
      have O2 := Lib.hid (by have := O.out; rw [mapB_full L.out] at this; exact this)
      clear O hkn
      go_wp2_with fail
      exact bodyPost_ret (v := .tuple #[u8, .bool true]) (by simp [results, Try.results21, go_sem]) rfl ⟨u8, rfl, O2.out, F.out.2⟩

end Go.Proofs.Ytggmgnmjloagbaa
