/- The contract of Turns. -/
import Derived.Test.YtggmgnmjloagbaaPlAreaW
namespace Go.Proofs.Ytggmgnmjloagbaa
open Go.RowKit
set_option linter.unusedVariables false

theorem Try.info_int : (Try.prog.info? 3).map (fun i => (i.zero, i.size, i.bytes)) = some (some (.int .i64 0), 1, 8) := by kernel_rfl
theorem St_int : SliceT Try.prog 22 3 (.int .i64 0) 1 8 := .mk' Try.underlying22 Try.info_int rfl (by decide)

/-- What Turns returns beside the error. -/
def turnsV (l : List Bk) : List Int := if checkI l = 0 then turnsI (pts l) else []
def turnsUp (l : List Bk) (k : Nat) : List Int := (List.range k).map (tri (pts l))
theorem turnsUp_len (l : List Bk) (k : Nat) : (turnsUp l k).length = k := by simp [turnsUp]
theorem turnsUp_succ (l : List Bk) (k : Nat) : ints (turnsUp l (k + 1)) = ints (turnsUp l k) ++ [.int .i64 (tri (pts l) k)] := by simp [ints, turnsUp, List.range_succ]
theorem tri_at {l : List Bk} {k : Nat} {a b c : Bk} (ha : l[k]? = some a) (hb : l[k + 1]? = some b) (hc : l[k + 2]? = some c) : tri (pts l) k = turnP a.p b.p c.p := by
  unfold tri
  simp only [List.getD_eq_getElem?_getD, pts_at ha, pts_at hb, pts_at hc, Option.getD_some]

theorem block_after {W : World} {b off n : Nat} {l : List Bk} (h : rowB W (some ⟨b, off, none⟩) n l) {k : Nat} {t : Bk} (hk : l[k]? = some t) :
    (∀ v : After W, v.w.cell? ⟨b, off + k * 3, none⟩ = some (.string t.nm)) ∧ (∀ v : After W, v.w.cell? ⟨b, off + k * 3 + 1, none⟩ = some (.int .i64 t.p.1)) ∧ (∀ v : After W, v.w.cell? ⟨b, off + k * 3 + 2, none⟩ = some (.int .i64 t.p.2)) := by
  obtain ⟨b', off', he, hb, h0, h1, h2⟩ := block_at h hk
  obtain ⟨rfl, rfl⟩ : b = b' ∧ off = off' := by simpa using he
  exact ⟨fun v => (grown_cell v.grown hb (by simp)).trans h0, fun v => (grown_cell v.grown hb (by simp)).trans h1, fun v => (grown_cell v.grown hb (by simp)).trans h2⟩
theorem cell_one {W : World} (x : Value) (T : TypeId) {m : Nat} (hm : m = W.heap.size) : RowIn (W.alloc (.cells #[x] T)) (some ⟨m, 0, none⟩) 1 1 [x] := by
  subst hm
  exact rowIn_block (n := 1) (size := 1) (at_new W _) rfl (by unfold maxLen; omega)

set_option maxHeartbeats 2000000 in
theorem Turns_any (a : Option Addr) (n cap : Nat) (l : List Bk) (w : World) (h : rowB w a n l) (hcap : n ≤ cap) (hcm : cap ≤ maxLen) :
    Calls Try.prog 14 #[.slice a n cap] w fun e w' => ∃ v, e = .returned (.tuple #[v, .int .i64 (checkI l)]) ∧ w'.ownsRow w.heap.size 3 1 v (turnsV l).length (ints (turnsV l)) ∧ w.grownBy w' none := by
  have F0 : Hid (rowB w a n l ∧ w.grownBy w none) := ⟨h, grown_refl w none⟩
  have hl := Lib.hid (rowB_len h)
  unfold maxLen at hcm
  clear h
  by_cases hc : checkI l = 0
  · have HC := Lib.hid hc
    obtain ⟨h48, hall⟩ := check_zero hc
    rw [hl.out] at h48
    have HB := Lib.hid (inB_of hall)
    have HL : Hid ((pts l).length = n) := by show (pts l).length = n; simp [pts, hl.out]
    have HV : Hid (turnsV l = turnsUp l (n - 2)) := by show turnsV l = _; unfold turnsV turnsUp turnsI; rw [if_pos HC.out, HL.out]
    clear hc hall
    go_enter Try.func14, Try.ntmps14
    go_wp2_with fail
    refine (check_any a n cap l _ F0.out.1).mono ?_
    rintro e w1 ⟨rfl, hg⟩
    rw [HC.out]
    have F1 := keep hg F0
    have O1 := Lib.hid (World.ownsRow_nil w1 w.heap.size 3 1)
    clear hg
    go_wp2_with fail
    go_loopw [5, 6] (fun s i wr => ∃ k : Nat, k ≤ n - 2 ∧ i = .int .i64 ((k : Int) + 2) ∧ wr.ownsRow w.heap.size 3 1 s k (ints (turnsUp l k)) ∧ w.grownBy wr none) (fun _ i _ => n - (intOf i).toNat)
    case atStart => exact ⟨0, by omega, rfl, O1.out, F1.out.2⟩
    case round =>
      obtain ⟨k, hk, rfl, hown, hF⟩ := hrel
      have F : Hid (rowB wr a n l ∧ w.grownBy wr none) := ⟨RowIn.kept F0.out.1 hF, hF⟩
      have O := Lib.hid hown
      clear hown hF F1 O1
      by_cases hkn : k + 2 < n
      · obtain ⟨t0, ht0⟩ : ∃ t, l[k]? = some t := ⟨_, List.getElem?_eq_getElem (by rw [hl.out]; omega)⟩
        obtain ⟨t1, ht1⟩ : ∃ t, l[k + 1]? = some t := ⟨_, List.getElem?_eq_getElem (by rw [hl.out]; omega)⟩
        obtain ⟨t2, ht2⟩ : ∃ t, l[k + 2]? = some t := ⟨_, List.getElem?_eq_getElem (by rw [hl.out]; omega)⟩
        have i0 := Lib.hid (HB.out _ (List.mem_of_getElem? (pts_at ht0)))
        have i1 := Lib.hid (HB.out _ (List.mem_of_getElem? (pts_at ht1)))
        have i2 := Lib.hid (HB.out _ (List.mem_of_getElem? (pts_at ht2)))
        have HT := Lib.hid (tri_at ht0 ht1 ht2)
        obtain ⟨bl, off, rfl, hb, _⟩ := block_at F.out.1 ht0
        obtain ⟨c0, c1, c2⟩ := block_after F.out.1 ht0
        obtain ⟨d0, d1, d2⟩ := block_after F.out.1 ht1
        obtain ⟨e0, e1, e2⟩ := block_after F.out.1 ht2
        have hk' : (k : Int) + 2 < n := by omega
        have hz0 := F.out.2.size
        have u1 : IntKind.i64.wrap ((k : Int) + 2 - 2) = (k : Int) := by rw [IntWalk.i64_in _ (by omega)]; omega
        have u2 : IntKind.i64.wrap ((k : Int) + 2 - 1) = ((k + 1 : Nat) : Int) := by rw [IntWalk.i64_in _ (by omega)]; omega
        clear ht0 ht1 ht2
        go_wp2_with fail
        refine wp_region_after (by kernel_rfl) (by kernel_rfl) (grown_refl _ _) ?_
        repeat (go_big_quiet_step ((go_at_call 11; exact after_call (Turn_ok _ _ _ _ _ _ _ _ _ _ i0.out i1.out i2.out))))
        refine wpQuiet_nil ?_
        rintro _ ⟨v, rfl⟩
        have F2 := keep v.grown F
        have O2 := keep v.grown O
        have hz1 := v.grown.size
        obtain ⟨W2, hW2⟩ : ∃ W2, W2 = v.w := ⟨_, rfl⟩
        rw [← hW2] at F2 O2 hz1 ⊢
        clear hW2 c0 c1 c2 d0 d1 d2 e0 e1 e2 u1 u2 F O
        obtain ⟨tt, htt⟩ : ∃ tt, tt = turnP (t0.p.1, t0.p.2) (t1.p.1, t1.p.2) (t2.p.1, t2.p.2) := ⟨_, rfl⟩
        rw [← htt]
        have HT2 : Hid (tri (pts l) k = tt) := Lib.hid (HT.out.trans htt.symm)
        clear htt HT
        go_wp2_with (at_builtin; refine wpList_append_in St_int rfl (.tmp 38) (.tmp 40) rfl rfl (O2.out.alloc (.cells #[.int .i64 tt] 3)) rfl (cell_one _ _ rfl) (fun h => by cases h) (flat_one rfl) ?c1 ?c2 ?c3 ?_)
        case c1 => unfold maxLen; omega
        case c2 => omega
        case c3 => simp; omega
        intro v' w3 hown hg hloc
        clear hloc
        have O3 := Lib.hid hown
        have G3 := Lib.hid (grown_own (grown_alloc (.cells #[.int .i64 tt] 3) F2.out.2) hg (fun g hg => (O2.out.lt g hg).1))
        clear hown hg O2 F2
        go_wp2_with fail
        go_roundw
        case rel => exact ⟨k + 1, by omega, by go_num, by rw [turnsUp_succ, HT2.out]; exact O3.out, G3.out⟩
        case measure => simp [intOf]; omega
      · have HK : Hid (k = n - 2) := Lib.hid (by omega)
        have hk' : ¬ (k : Int) + 2 < n := by omega
        clear hkn
        go_wp2_with fail
        refine bodyPost_ret (v := .tuple #[u5, .int .i64 0]) (by simp [results, Try.results14, go_sem]) rfl ⟨u5, by rw [HC.out], ?_, F.out.2⟩
        rw [HV.out, turnsUp_len, ← HK.out]
        exact O.out
  · have HC := Lib.hid hc
    have hv := check_val l
    have HV : Hid (turnsV l = []) := Lib.hid (if_neg hc)
    clear hc
    go_enter Try.func14, Try.ntmps14
    go_wp2_with fail
    refine (check_any a n cap l _ F0.out.1).mono ?_
    generalize hcg : checkI l = c at *
    have HG := Lib.hid hcg
    clear hcg
    rintro e w1 ⟨rfl, hg⟩
    have F1 := keep hg F0
    clear hg F0
    rcases hv with rfl | rfl | rfl
    · exact absurd rfl HC.out
    · go_wp2_with fail
      refine bodyPost_ret (v := .tuple #[.slice none 0 0, .int .i64 14]) (by simp [results, Try.results14, go_sem]) rfl ⟨_, by rw [HG.out], by rw [HV.out]; exact World.ownsRow_nil _ _ _ _, F1.out.2⟩
    · go_wp2_with fail
      refine bodyPost_ret (v := .tuple #[.slice none 0 0, .int .i64 19]) (by simp [results, Try.results14, go_sem]) rfl ⟨_, by rw [HG.out], by rw [HV.out]; exact World.ownsRow_nil _ _ _ _, F1.out.2⟩
end Go.Proofs.Ytggmgnmjloagbaa
