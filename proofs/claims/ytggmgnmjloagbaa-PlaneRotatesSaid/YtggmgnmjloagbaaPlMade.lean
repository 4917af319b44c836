/- What the laws make: blocks; the sanity check. -/
import Derived.Test.YtggmgnmjloagbaaPlArea
namespace Go.Proofs.Ytggmgnmjloagbaa
open Go.RowKit
set_option linter.unusedVariables false

theorem Try.info_block : (Try.prog.info? 30).map (fun i => (i.zero, i.size, i.bytes)) = some (some (.agg #[.string ⟨#[]⟩, .int .i64 0, .int .i64 0]), 3, 32) := by kernel_rfl

/-- A block without a name, in range. -/
def Made (l : List Bk) : Prop := ∀ b ∈ l, b.nm = ⟨#[]⟩ ∧ inB b.p
theorem made_snoc {l : List Bk} {p : Pt} (h : Made l) (hp : inB p) : Made (l ++ [⟨⟨#[]⟩, p⟩]) := by
  intro b hb
  rcases List.mem_append.1 hb with h1 | h1
  · exact h b h1
  · simp at h1; subst h1; exact ⟨rfl, hp⟩
theorem flat_snoc (l : List Bk) (b : Bk) : (l ++ [b]).flatMap Bk.cells = l.flatMap Bk.cells ++ b.cells := by simp

/-- What blocks has made so far. -/
def MadeAt (base : Nat) (n : Nat) (v i : Value) (wr : World) : Prop := ∃ (k : Nat) (l : List Bk), k ≤ n ∧ i = .int .i64 k ∧ l.length = k ∧ Made l ∧ wr.ownsRow base 30 3 v k (l.flatMap Bk.cells)

theorem owns_not {w : World} {base e size n B : Nat} {v : Value} {xs : List Value} (h : w.ownsRow base e size v n xs) (hB : B < base) : v.ownBlock ≠ some B := by
  intro he
  have := h.lt B he
  omega
theorem grown_tape {w w1 w2 : World} {B : Nat} {v : Value} (h : w.grownBy w1 (some B)) (k : w1.grownBy w2 v.ownBlock) (hr : ∀ g, v.ownBlock = some g → w.heap.size ≤ g) : w.grownBy w2 (some B) :=
  ⟨k.os.trans h.os, k.tape.trans h.tape, k.output.trans h.output, Nat.le_trans h.size k.size,
    fun i hi hne => (k.block i (Nat.lt_of_lt_of_le hi h.size) (by intro e; have := hr i e.symm; omega)).trans (h.block i hi hne)⟩
theorem grown_own {w w1 w2 : World} {r : Option Nat} (h : w.grownBy w1 none) (k : w1.grownBy w2 r) (hr : ∀ g, r = some g → w.heap.size ≤ g) : w.grownBy w2 none :=
  ⟨k.os.trans h.os, k.tape.trans h.tape, k.output.trans h.output, Nat.le_trans h.size k.size,
    fun i hi hne => (k.block i (Nat.lt_of_lt_of_le hi h.size) (by intro e; have := hr i e.symm; omega)).trans (h.block i hi hne)⟩
theorem own_weak {w : World} {base base' e size n : Nat} {v : Value} {xs : List Value} (h : w.ownsRow base e size v n xs) (hb : base' ≤ base) : w.ownsRow base' e size v n xs := by
  obtain ⟨h1, h2⟩ := h
  refine ⟨h1, ?_⟩
  rcases h2 with h2 | ⟨g, cap, cur, hv, hg, h3⟩
  · exact .inl h2
  · exact .inr ⟨g, cap, cur, hv, Nat.le_trans hb hg, h3⟩
theorem cell_three {W : World} (x : Bk) (T : TypeId) {m : Nat} (hm : m = W.heap.size) : ∀ j u, x.cells[j]? = some u → (W.alloc (.cells #[.string x.nm, .int .i64 x.p.1, .int .i64 x.p.2] T)).cell? ((⟨m, 0, none⟩ : Addr).add j) = some u := by
  subst hm
  intro j u hj
  match j, hj with
  | 0, hj => simp [Bk.cells] at hj; subst hj; simp [Addr.add]
  | 1, hj => simp [Bk.cells] at hj; subst hj; simp [Addr.add]
  | 2, hj => simp [Bk.cells] at hj; subst hj; simp [Addr.add]
theorem cells_one (x : Bk) : ∀ u ∈ x.cells, u.oneCell' = true := by
  intro u hu
  simp only [Bk.cells, List.mem_cons, List.not_mem_nil, or_false] at hu
  rcases hu with rfl | rfl | rfl <;> rfl
theorem in_small {x y : Int} (h : 0 ≤ x ∧ x < 7 ∧ 0 ≤ y ∧ y < 7) : inB (x - 3, y - 3) := by refine ⟨?_, ?_, ?_, ?_⟩ <;> simp only <;> omega
theorem in_great {x y : Int} (h : 0 ≤ x ∧ x < 3 ∧ 0 ≤ y ∧ y < 3) : inB (9999 * (x - 1), 9999 * (y - 1)) := by refine ⟨?_, ?_, ?_, ?_⟩ <;> simp only <;> omega

set_option maxHeartbeats 2000000 in
theorem blocks_any (a0 : Option Addr) (len0 cap0 : Nat) (z0 : List Int) (n : Nat) (w : World) (h : IsRow .i64 w a0 len0 cap0 z0) (hn : n ≤ 100) :
    Calls Try.prog 10 #[.slice a0 len0 cap0, .int .i64 n] w fun e w' => ∃ v l, e = .returned v ∧ l.length = n ∧ Made l ∧ w'.ownsRow w.heap.size 30 3 v n (l.flatMap Bk.cells) ∧ w.grownBy w' none := by
  have ht := tape_new h (grown_refl w none) 53
  have hT := Lib.hid ht
  have hG := Lib.hid (grown_alloc (.cells #[.slice a0 len0 cap0, .int .i64 0] 53) (grown_refl w none))
  obtain ⟨i0, hi, hz0, hz1, hz2⟩ := info_parts Try.info_block
  have hi' := Lib.hid hi
  have hz0' := Lib.hid hz0
  have hz1' := Lib.hid hz1
  have hz2' := Lib.hid hz2
  clear h ht hi hz0 hz1 hz2
  go_enter Try.func10, Try.ntmps10
  go_wp2_with fail
  go_loopw [6, 7] (fun v i wr => MadeAt (w.heap.size + 1) n v i wr ∧ (∃ j, j ≤ 5 * (intOf i).toNat ∧ TapeAt wr w.heap.size 53 a0 len0 cap0 (z0.take len0) j) ∧ w.grownBy wr none) (fun _ i _ => n - (intOf i).toNat)
  case atStart => exact ⟨⟨0, [], by omega, rfl, rfl, (fun _ h => by cases h), World.ownsRow_nil _ _ _ _⟩, ⟨0, by omega, hT.out⟩, hG.out⟩
  case round =>
    obtain ⟨⟨k, l, hk, rfl, hlen, hmade, hown⟩, ⟨j, hj, hTr⟩, hGr⟩ := hrel
    have O := Lib.hid hown
    have L := Lib.hid hlen
    have M := Lib.hid hmade
    have T := Lib.hid hTr
    have G := Lib.hid hGr
    have hTlt := Lib.hid hTr.lt
    have J : j ≤ 5 * k := by simpa [intOf] using hj
    have hwr := hTr.lt
    clear hown hlen hmade hTr hGr hj hT hG
    by_cases hkn : k < n
    · have hk' : (k : Int) < n := by omega
      go_wp2_with fail
      refine (Next_in _ _ _ _ _ _ _ 7 _ T.out (by omega) (by omega) (by omega)).mono ?_
      rintro e w1 ⟨x, rfl, x0, x1, hT1, hg1⟩
      have T1 := Lib.hid hT1
      have G1 := Lib.hid hg1
      clear hT1 hg1
      go_wp2_with fail
      refine (Next_in _ _ _ _ _ _ _ 7 _ T1.out (by omega) (by omega) (by omega)).mono ?_
      rintro e w2 ⟨y, rfl, y0, y1, hT2, hg2⟩
      have T2 := Lib.hid hT2
      have G2 := Lib.hid (grown_trans G1.out hg2)
      clear hT2 hg2 T1 G1
      have TA := Lib.hid (T2.out.other (grown_alloc (.cells #[.string ⟨#[]⟩, .int .i64 (x - 3), .int .i64 (y - 3)] 30) (grown_refl w2 none)))
      have CA := Lib.hid (at_new w2 (.cells #[.string ⟨#[]⟩, .int .i64 (x - 3), .int .i64 (y - 3)] 30))
      have GA := Lib.hid (grown_alloc (.cells #[.string ⟨#[]⟩, .int .i64 (x - 3), .int .i64 (y - 3)] 30) G2.out)
      have zB := hTlt.out
      have z2 := G2.out.size
      clear T2 G2
      go_wp2_with fail
      refine (Next_in _ _ _ _ _ _ _ 6 _ TA.out (by omega) (by omega) (by omega)).mono ?_
      rintro e w3 ⟨z, rfl, za, zb, hT3, hg3⟩
      have T3 := Lib.hid hT3
      have C3 := Lib.hid (grown_at hg3 CA.out (by simp; omega))
      have G3 := Lib.hid (grown_trans GA.out hg3)
      clear hT3 hg3 TA CA GA
      by_cases hz : z = 0
      · have q3 := (rules_at C3.out).1
        have q4 := (rules_at C3.out).2
        have z4 := lt_of_at C3.out
        go_wp2_with fail
        refine (Next_in _ _ _ _ _ _ _ 3 _ T3.out (by omega) (by omega) (by omega)).mono ?_
        rintro e w4 ⟨u, rfl, ua, ub, hT4, hg4⟩
        have T4 := Lib.hid hT4
        have C4 := Lib.hid (grown_at hg4 C3.out (by simp; omega))
        have G4 := Lib.hid (grown_trans G3.out hg4)
        clear hT4 hg4 T3 C3 G3 q3 q4
        go_wp2_with fail
        refine (Next_in _ _ _ _ _ _ _ 3 _ T4.out (by omega) (by omega) (by omega)).mono ?_
        rintro e w5 ⟨t, rfl, ta, tb, hT5, hg5⟩
        have C5 := Lib.hid (grown_at hg5 C4.out (by simp; omega))
        have C6 := Lib.hid (at_set (j := 2) (.int .i64 (9999 * (t - 1))) (at_set (j := 1) (.int .i64 (9999 * (u - 1))) (at_set (j := 0) (.string ⟨#[]⟩) C5.out)))
        have T6 := Lib.hid (((hT5.set (p := ⟨w2.heap.size, 0, none⟩) (by simp; omega) (.string ⟨#[]⟩)).set (p := ⟨w2.heap.size, 1, none⟩) (by simp; omega) (.int .i64 (9999 * (u - 1)))).set (p := ⟨w2.heap.size, 2, none⟩) (by simp; omega) (.int .i64 (9999 * (t - 1))))
        have G6 := Lib.hid (grown_set (p := ⟨w2.heap.size, 2, none⟩) (.int .i64 (9999 * (t - 1))) (grown_set (p := ⟨w2.heap.size, 1, none⟩) (.int .i64 (9999 * (u - 1))) (grown_set (p := ⟨w2.heap.size, 0, none⟩) (.string ⟨#[]⟩) (grown_trans G4.out hg5) (.inl (by simp; omega))) (.inl (by simp; omega))) (.inl (by simp; omega)))
        have q5 := (rules_at C5.out).1
        have q6 := (rules_at C5.out).2
        have z5 := lt_of_at C5.out
        obtain ⟨s0, s1, s2⟩ := set3 C5.out (.string ⟨#[]⟩) (.int .i64 (9999 * (u - 1))) (.int .i64 (9999 * (t - 1)))
        have HI := Lib.hid (in_great (x := u) (y := t) ⟨ua, ub, ta, tb⟩)
        clear hT5 hg5 T4 C4 G4
        have q7 := (rules_at C6.out).1
        have z7 := lt_of_at C6.out
        have GS := G6.out.size
        have O1 := Lib.hid (O.out.kept G6.out (.inr (owns_not O.out (by omega))))
        have OA := Lib.hid (O1.out.alloc (.cells #[.string ⟨#[]⟩, .int .i64 (9999 * (u - 1)), .int .i64 (9999 * (t - 1))] 30))
        go_wp2_with (at_builtin; refine wpList_append_own _ rfl _ _ 24 rfl (w.heap.size + 1) 30 i0 _ 3 32 Try.underlying24 hi'.out hz0'.out hz1'.out hz2'.out rfl (by decide) _ _ _ rfl OA.out ⟨w5.heap.size, 0, none⟩ 1 1 (Bk.cells ⟨⟨#[]⟩, ((9999 * (u - 1)), (9999 * (t - 1)))⟩) rfl rfl ?c1 (cells_one _) ?c3 ?c4 ?c5 ?_)
        case c1 => exact cell_three ⟨⟨#[]⟩, ((9999 * (u - 1)), (9999 * (t - 1)))⟩ _ (by simp [World.setCell])
        case c3 => unfold maxLen; omega
        case c4 => omega
        case c5 => simp; omega
        intro v' w7 hown7 hg7 _
        have O7 := Lib.hid hown7
        have hlt7 := owns_not OA.out (B := w.heap.size) (by omega)
        have G7 := Lib.hid (grown_own (grown_alloc _ (grown_new G.out G6.out (Nat.le_refl _))) hg7 (fun g hg => by have := (OA.out.lt g hg).1; omega))
        have T7 := Lib.hid ((T6.out.other (grown_alloc _ (grown_refl _ none))).above hg7 (fun g hg => by have := (OA.out.lt g hg).1; omega))
        clear hown7 hg7 O1 OA q7 C6 G6 T6 O G
        go_wp2_with fail
        go_roundw
        case rel => exact ⟨⟨k + 1, l ++ [⟨⟨#[]⟩, ((9999 * (u - 1)), (9999 * (t - 1)))⟩], by omega, by go_num, by simp [L.out], made_snoc M.out HI.out, by rw [flat_snoc]; exact O7.out⟩, ⟨j + 5, by simp [intOf]; omega, T7.out⟩, G7.out⟩
        case measure => simp [intOf]; omega
      · have HI := Lib.hid (in_small (x := x) (y := y) ⟨x0, x1, y0, y1⟩)
        have q7 := (rules_at C3.out).1
        have z7 := lt_of_at C3.out
        have GS := G3.out.size
        have O1 := Lib.hid (O.out.kept G3.out (.inr (owns_not O.out (by omega))))
        have OA := Lib.hid (O1.out.alloc (.cells #[.string ⟨#[]⟩, .int .i64 (x - 3), .int .i64 (y - 3)] 30))
        go_wp2_with (at_builtin; refine wpList_append_own _ rfl _ _ 24 rfl (w.heap.size + 1) 30 i0 _ 3 32 Try.underlying24 hi'.out hz0'.out hz1'.out hz2'.out rfl (by decide) _ _ _ rfl OA.out ⟨w3.heap.size, 0, none⟩ 1 1 (Bk.cells ⟨⟨#[]⟩, ((x - 3), (y - 3))⟩) rfl rfl ?c1 (cells_one _) ?c3 ?c4 ?c5 ?_)
        case c1 => exact cell_three ⟨⟨#[]⟩, ((x - 3), (y - 3))⟩ _ rfl
        case c3 => unfold maxLen; omega
        case c4 => omega
        case c5 => simp; omega
        intro v' w7 hown7 hg7 _
        have O7 := Lib.hid hown7
        have hlt7 := owns_not OA.out (B := w.heap.size) (by omega)
        have G7 := Lib.hid (grown_own (grown_alloc _ (grown_new G.out G3.out (Nat.le_refl _))) hg7 (fun g hg => by have := (OA.out.lt g hg).1; omega))
        have T7 := Lib.hid ((T3.out.other (grown_alloc _ (grown_refl _ none))).above hg7 (fun g hg => by have := (OA.out.lt g hg).1; omega))
        clear hown7 hg7 O1 OA q7 C3 G3 T3 O G
        go_wp2_with fail
        go_roundw
        case rel => exact ⟨⟨k + 1, l ++ [⟨⟨#[]⟩, ((x - 3), (y - 3))⟩], by omega, by go_num, by simp [L.out], made_snoc M.out HI.out, by rw [flat_snoc]; exact O7.out⟩, ⟨j + 3, by simp [intOf]; omega, T7.out⟩, G7.out⟩
        case measure => simp [intOf]; omega
    · obtain rfl : k = n := by omega
      go_wp2_with fail
      go_ret
      exact ⟨_, l, rfl, L.out, M.out, own_weak O.out (by omega), G.out⟩

def knB : List Bk := [⟨⟨#[]⟩, (0, 0)⟩, ⟨⟨#[]⟩, (1, 0)⟩, ⟨⟨#[]⟩, (1, 1)⟩, ⟨⟨#[]⟩, (0, 1)⟩]
theorem kn_row (w : World) : rowB (w.alloc (.cells #[.string ⟨#[]⟩, .int .i64 0, .int .i64 0, .string ⟨#[]⟩, .int .i64 1, .int .i64 0, .string ⟨#[]⟩, .int .i64 1, .int .i64 1, .string ⟨#[]⟩, .int .i64 0, .int .i64 1] 30)) (some ⟨w.heap.size, 0, none⟩) 4 knB :=
  rowIn_block (n := 4) (size := 3) (at_new w _) rfl (by unfold maxLen; omega)

set_option maxHeartbeats 800000 in
theorem known_any (w : World) :
    Calls Try.prog 9 #[] w fun e w' => e = .returned (.bool true) ∧ w.grownBy w' none := by
  go_enter Try.func9, Try.ntmps9
  go_wp2_with fail
  refine (Turn_ok _ _ _ 0 0 1 0 1 1 _ (by decide) (by decide) (by decide)).mono ?_
  rw [show turnP (0, 0) (1, 0) (1, 1) = 1 from by decide]
  rintro e w1 ⟨rfl, hg1⟩
  have G1 := Lib.hid hg1
  clear hg1
  go_wp2_with fail
  refine (Area_any _ 4 4 knB _ (kn_row w1)).mono ?_
  rw [show areaV knB = 2 from by decide, show checkI knB = 0 from by decide]
  rintro e w2 ⟨rfl, hg2⟩
  have G2 := Lib.hid (grown_trans (grown_alloc _ G1.out) hg2)
  clear hg2 G1
  go_wp2_with fail
  refine (At_ok _ 2 (-3) _ (by decide)).mono ?_
  rintro e w3 ⟨rfl, hg3⟩
  have G3 := Lib.hid (grown_trans G2.out hg3)
  have e1 : FloatKind.f64.format.order (floatOfInt .f64 2) 4611686018427387904 = some .eq := by kernel_rfl
  have e2 : FloatKind.f64.format.order (floatOfInt .f64 (-3)) 13837309855095848960 = some .eq := by kernel_rfl
  clear hg3 G2
  go_wp2_with fail
  go_ret
  exact ⟨rfl, G3.out⟩
end Go.Proofs.Ytggmgnmjloagbaa
