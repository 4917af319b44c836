/- The contracts of Own, Release, Ask (program and reference). -/
import Derived.Test.YtbpobekmbdngbaaLkCopy
namespace Go.Proofs.Ytbpobekmbdngbaa
open Go.RowKit
set_option linter.unusedVariables false

theorem give_zero {w W : World} {err : Int} (hg : w.grownBy W none) : GiveLk zeroL err w (.returned (.tuple #[lkV none 0 0 none 0 0, .int .i64 err])) W := ⟨_, rfl, fun R _ => lkV_zero R W, hg⟩
theorem FreshLk.open {w : World} {w0 : Nat} {v1 v2 : Value} {l : Lk} (h : FreshLk w w0 v1 v2 l) (hn : 0 < l.own.length) (hq : 0 < l.q.length) :
    ∃ g1 k1 g2 k2 base, v1 = .slice (some ⟨g1, 0, none⟩) l.own.length k1 ∧ v2 = .slice (some ⟨g2, 0, none⟩) l.q.length k2 ∧ w0 ≤ g1 ∧ w0 ≤ g2 ∧ g1 ≠ g2 ∧ g1 < base ∧ w0 ≤ base ∧ base ≤ w.heap.size ∧ OwnR w g1 k1 l.own.length 3 1 (ints l.own) ∧ OwnC w base g2 k2 l.q.length l.q := by
  obtain ⟨base, h1, h2, h3, h4, h5⟩ := h
  obtain ⟨g1, k1, rfl, hb1, hO⟩ := ownR_of_owns h1 hn
  rcases h3 with ⟨rfl, hq0⟩ | ⟨g2, k2, rfl, hg2, hC⟩
  · rw [hq0] at hq; simp at hq
  · obtain ⟨e1, e2⟩ := h2 g1 rfl
    exact ⟨g1, k1, g2, k2, base, rfl, rfl, hb1, hg2, fun e => e2 (by rw [e]; rfl), e1, h4, h5, hO, hC⟩
/-- A lock of the call's own reads as a lock. -/
theorem lkV_own {w : World} {w0 g1 k1 g2 k2 base n m : Nat} {l : Lk} (hO : OwnR w g1 k1 n 3 1 (ints l.own)) (hC : OwnC w base g2 k2 m l.q) (h1 : w0 ≤ g1) (h2 : w0 ≤ g2) (h3 : w0 ≤ base) {R : Option Nat} (hR : ∀ b, R = some b → b < w0) :
    LkV R w (lkV (some ⟨g1, 0, none⟩) n k1 (some ⟨g2, 0, none⟩) m k2) l := by
  obtain ⟨c1, c2⟩ := hO.capLe
  obtain ⟨c3, c4, c5⟩ := hC.capLe
  exact ⟨_, _, _, _, _, _, rfl, ⟨⟨hO.row, fun x hx e => by obtain rfl := Option.some.inj hx; have := hR _ e.symm; simp at this; omega⟩, hC.lists (fun b hb => by have := hR b hb; omega) (fun e => by have := hR _ e; omega)⟩, (fun h => by cases h), (fun h => by cases h), c1, by unfold maxLen; omega, c3, by unfold maxLen; omega⟩
theorem errC_zero {l : Lk} {r c : Int} (h : errC l r c = 0) : validL l = true ∧ 0 ≤ r ∧ r < 8 ∧ ∃ k : Nat, c = k ∧ k < l.own.length := by
  unfold errC at h
  split at h
  · cases h
  · split at h
    · cases h
    · rename_i h1 h2
      refine ⟨by simpa using h1, by omega, by omega, c.toNat, by omega, by omega⟩
theorem ints_snoc (l : List Int) (x : Int) : ints l ++ [.int .i64 x] = ints (l ++ [x]) := by simp [ints]
theorem ints_set1 (l : List Int) (i : Nat) (x : Int) : (ints l).set i (.int .i64 x) = ints (l.set i x) := by simp [ints, List.map_set]
def ownV (l : Lk) (r c : Int) : Lk := if ownE l r c = 0 then ownL l r c else zeroL
def relV (l : Lk) (c : Int) : Lk := if relE l c = 0 then relL l c else zeroL
def askV (l : Lk) (r c : Int) : Lk := if askE l r c = 0 then askL l r c else zeroL
/-- The memory of an operation: the lock's box B, the result's B + 1. -/
def BoxRes (w W : World) (v1 v2 : Value) : Prop := W.heap[w.heap.size]? = some (.cells #[v1, v2] 26 (0, 0)) ∧ W.heap[w.heap.size + 1]? = some (.cells #[.slice none 0 0, .slice none 0 0] 26 (0, 0)) ∧ w.grownBy W none
theorem boxRes_new (w : World) (v1 v2 : Value) : BoxRes w ((w.alloc (.cells #[v1, v2] 26)).alloc (.cells #[.slice none 0 0, .slice none 0 0] 26)) v1 v2 := by
  refine ⟨at_alloc _ (at_new w _), ?_, grown_alloc _ (grown_alloc _ (grown_refl _ _))⟩
  have := at_new (w.alloc (.cells #[v1, v2] 26)) (.cells #[.slice none 0 0, .slice none 0 0] 26)
  rw [World.size_alloc] at this
  exact this
theorem BoxRes.kept {w W W' : World} {v1 v2 : Value} {r : Option Nat} (h : BoxRes w W v1 v2) (hg : W.grownBy W' r) (hr : ∀ b, r = some b → w.heap.size + 1 < b) : BoxRes w W' v1 v2 :=
  ⟨grown_at hg h.1 (fun e => by have := hr _ e.symm; omega), grown_at hg h.2.1 (fun e => by have := hr _ e.symm; omega), grown_own h.2.2 hg (fun b hb => by have := hr b hb; omega)⟩
instance {w W W' : World} {v1 v2 : Value} : Stay none W W' (BoxRes w W v1 v2) (BoxRes w W' v1 v2) := ⟨fun hg h => h.kept hg (by simp)⟩
theorem BoxRes.put {w W : World} {v1 v2 u1 u2 : Value} (h : BoxRes w W v1 v2) : BoxRes w ((W.setCell ⟨w.heap.size, 0, none⟩ u1).setCell ⟨w.heap.size, 1, none⟩ u2) u1 u2 :=
  ⟨two_set h.1, at_set_other _ (at_set_other _ h.2.1 (by simp)) (by simp), grown_set _ (grown_set _ h.2.2 (.inl (by simp))) (.inl (by simp))⟩
theorem BoxRes.facts {w W : World} {v1 v2 : Value} (h : BoxRes w W v1 v2) : (∀ j, W.cell? ⟨w.heap.size, j, none⟩ = (#[v1, v2] : Array Value)[j]?) ∧ (∀ j, W.frozen? ⟨w.heap.size, j, none⟩ = false) ∧ w.heap.size < W.heap.size ∧
    (∀ j, W.cell? ⟨w.heap.size + 1, j, none⟩ = (#[.slice none 0 0, .slice none 0 0] : Array Value)[j]?) ∧ (∀ j, W.frozen? ⟨w.heap.size + 1, j, none⟩ = false) ∧ w.heap.size + 1 < W.heap.size :=
  ⟨(rules_at h.1).1, (rules_at h.1).2, lt_of_at h.1, (rules_at h.2.1).1, (rules_at h.2.1).2, lt_of_at h.2.1⟩
theorem BoxRes.out {w W : World} {v1 v2 : Value} (h : BoxRes w W v1 v2) (u1 u2 : Value) : w.grownBy ((W.setCell ⟨w.heap.size + 1, 0, none⟩ u1).setCell ⟨w.heap.size + 1, 1, none⟩ u2) none ∧ W.grownBy ((W.setCell ⟨w.heap.size + 1, 0, none⟩ u1).setCell ⟨w.heap.size + 1, 1, none⟩ u2) (some (w.heap.size + 1)) :=
  ⟨grown_set _ (grown_set _ h.2.2 (.inl (by simp))) (.inl (by simp)), grown_set _ (grown_set _ (grown_refl _ _) (.inr rfl)) (.inr rfl)⟩
theorem alloc_keep {X : World} {a : Addr} {u : Value} {o : Obj} (h : X.cell? a = some u) : (X.alloc o).cell? a = some u := by rw [World.cell?_alloc_lt _ _ _ (lt_of_cell h)]; exact h
theorem set_keep {X : World} {p a : Addr} {u v : Value} (h : X.cell? a = some u) (hne : p.block ≠ a.block) : (X.setCell p v).cell? a = some u := by rw [World.cell?_setCell_other _ _ _ _ (fun e => hne (by rw [e]))]; exact h
theorem ask_end {w X Xa x3 : World} {g1 k1 g2 k2 base n k : Nat} {l : Lk} {x ys : List Int} {vx v4 u1 u2 : Value} (hO : OwnR X g1 k1 n 3 1 (ints l.own)) (hC : OwnC X base g2 k2 n l.q) (hB : BoxRes w X u1 u2) (hx : l.q[k]? = some x) (h1 : g1 < base) (h2 : g1 ≠ g2) (hb : w.heap.size + 1 < base) (hg2 : w.heap.size + 1 < g2)
    (q1 : X.cell? ⟨g2, k, none⟩ = some vx) (hv : X.ownsRow base 3 1 vx x.length (ints x)) (ga : X.grownBy Xa none) (g3 : Xa.grownBy x3 vx.ownBlock) (ho : x3.ownsRow base 3 1 v4 ys.length (ints ys)) (hl : v4.ownBlock = vx.ownBlock ∨ v4.ownBlock = some Xa.heap.size) :
    OwnR (x3.setCell ⟨g2, k, none⟩ v4) g1 k1 n 3 1 (ints l.own) ∧ OwnC (x3.setCell ⟨g2, k, none⟩ v4) base g2 k2 n (l.q.set k ys) ∧ BoxRes w (x3.setCell ⟨g2, k, none⟩ v4) u1 u2 := by
  have hq : ∀ m, vx.ownBlock = some m → base ≤ m := fun m hm => (hv.lt m hm).1
  have gx := grown_trans (grown_weak (r := vx.ownBlock) ga) g3
  have gs : x3.grownBy (x3.setCell ⟨g2, k, none⟩ v4) (some g2) := grown_set _ (grown_refl x3 _) (.inr rfl)
  refine ⟨(hO.kept gx (fun e => by have := hq g1 e.symm; omega)).kept gs (by simp; exact h2), hC.put hx q1 gx (.inr rfl) ho (hl.imp id (fun h m hm => ?_)), (hB.kept gx (fun m hm => by have := hq m hm; omega)).kept gs (fun m hm => by obtain rfl := Option.some.inj hm; exact hg2)⟩
  rw [h] at hm
  have := Option.some.inj hm
  have := ga.size
  omega
theorem boxRes_box {w W : World} {u1 u2 : Value} : W.grownBy ((W.setCell ⟨w.heap.size, 0, none⟩ u1).setCell ⟨w.heap.size, 1, none⟩ u2) (some w.heap.size) := grown_set _ (grown_set _ (grown_refl _ _) (.inr rfl)) (.inr rfl)

set_option maxRecDepth 100000 in
set_option maxHeartbeats 6400000 in
theorem Own_any (v : Value) (l : Lk) (r c : Int) (w : World) (h : LkV none w v l) :
    Calls Try.prog 24 #[v, .int .i64 r, .int .i64 c] w (GiveLk (ownV l r c) (ownE l r c) w) := by
  obtain ⟨a1, n1, c1, a2, n2, c2, rfl, h⟩ := h
  obtain ⟨l1, l2, m1, m2⟩ := h.len
  have L1 := Lib.hid l1
  have L2 := Lib.hid l2
  have K0 := keep (boxRes_new w (.slice a1 n1 c1) (.slice a2 n2 c2)).2.2 (Lib.hid h)
  have BR0 := Lib.hid (boxRes_new w (.slice a1 n1 c1) (.slice a2 n2 c2))
  clear h l1 l2
  go_enter Try.func24, Try.ntmps24
  go_wp2_with fail
  refine (check_any _ l r c _ ⟨a1, n1, c1, a2, n2, c2, rfl, K0.out⟩).mono ?_
  rintro e w1 ⟨rfl, hg⟩
  have K1 := keep hg K0
  have BR := keep hg BR0
  clear hg K0 BR0
  by_cases hE : errC l r c = 0
  rotate_left
  · have EE : Hid (ownE l r c = errC l r c) := Lib.hid (by unfold ownE; rw [if_pos hE])
    have EN : Hid (¬ errC l r c = 0) := Lib.hid hE
    have t1 : (errC l r c == 0) = false := beq_eq_false_iff_ne.2 hE
    have t2 : (errC l r c != 0) = true := by simp [bne, t1]
    clear hE
    have EV : Hid (ownV l r c = zeroL) := Lib.hid (by unfold ownV; rw [if_neg (by rw [EE.out]; first | decide | exact EN.out)])
    obtain ⟨s0, s1⟩ := two_get BR.out.2.1 (.slice none 0 0) (.slice none 0 0)
    obtain ⟨p1, p2, p3, p4, p5, p6⟩ := BR.out.facts
    have GZ := Lib.hid (BR.out.out (.slice none 0 0) (.slice none 0 0)).1
    clear BR
    go_wp2_with fail
    exact bodyPost_ret (v := .tuple #[lkV none 0 0 none 0 0, .int .i64 (errC l r c)]) (by simp [results, Try.results24, go_sem, s0, s1]) rfl (by rw [EV.out, EE.out]; exact ⟨_, rfl, fun R _ => lkV_zero R _, GZ.out⟩)
  obtain ⟨hv, hr1, hr2, k, rfl, hk⟩ := errC_zero hE
  have HV := Lib.hid hv
  have VL0 := Lib.hid (valid_iff.1 hv)
  have h12 : n2 = n1 := by have := VL0.out.len; rw [L1.out, L2.out] at this; omega
  subst h12
  have hkn : k < n2 := by rw [L1.out] at hk; exact hk
  have E0 : Hid (ownE l r (k : Int) = if oAt l k ≠ -1 ∨ r ∈ qAt l k then 24 else 0) := Lib.hid (by unfold ownE; rw [if_neg (fun h => h hE), Int.toNat_natCast])
  obtain ⟨o, ho⟩ : ∃ o, l.own[k]? = some o := ⟨_, List.getElem?_eq_getElem hk⟩
  obtain ⟨x, hx⟩ : ∃ x, l.q[k]? = some x := ⟨_, List.getElem?_eq_getElem (by rw [L2.out]; exact hkn)⟩
  have HO := Lib.hid ho
  have OA := Lib.hid (oAt_of ho)
  have QA := Lib.hid (qAt_of hx)
  have HX := Lib.hid hx
  have hx8 := VL0.out.row hx
  have hk' : (k : Int) < n2 := by omega
  obtain ⟨b1, o1, rfl, zb1, d1⟩ := K1.out.1.1.1.int ho
  obtain ⟨b2, o2, A, cc, rfl, zb2, d2, hlc, hcm, hA, hrow⟩ := K1.out.1.2.at hx
  have RW := Lib.hid hrow.1
  unfold maxLen at hcm
  clear hrow hA
  rw [hE]
  clear hv hE ho hx
  obtain ⟨p1, p2, p3, p4, p5, p6⟩ := BR.out.facts
  by_cases h1 : o = -1
  rotate_left
  · have EE : Hid (ownE l r (k : Int) = 24) := Lib.hid (by rw [E0.out, OA.out, if_pos (.inl h1)])
    have t1 : (o == -1) = false := beq_eq_false_iff_ne.2 h1
    have t2 : (o != -1) = true := by simp [bne, t1]
    clear h1 p1 p2 p3 p4 p5 p6
    have EV : Hid (ownV l r (k : Int) = zeroL) := Lib.hid (by unfold ownV; rw [if_neg (by rw [EE.out]; first | decide | exact EN.out)])
    obtain ⟨s0, s1⟩ := two_get BR.out.2.1 (.slice none 0 0) (.slice none 0 0)
    obtain ⟨p1, p2, p3, p4, p5, p6⟩ := BR.out.facts
    have GZ := Lib.hid (BR.out.out (.slice none 0 0) (.slice none 0 0)).1
    clear BR
    go_wp2_with fail
    exact bodyPost_ret (v := .tuple #[lkV none 0 0 none 0 0, .int .i64 (24)]) (by simp [results, Try.results24, go_sem, s0, s1]) rfl (by rw [EV.out, EE.out]; exact ⟨_, rfl, fun R _ => lkV_zero R _, GZ.out⟩)
  subst h1
  go_wp2_with fail
  refine (Contains_any A x.length cc x r _ RW.out).mono ?_
  rintro e w1' ⟨rfl, rfl⟩
  by_cases h2 : r ∈ x
  · have EE : Hid (ownE l r (k : Int) = 24) := Lib.hid (by rw [E0.out, QA.out, if_pos (.inr h2)])
    rw [decide_eq_true h2]
    clear h2 p1 p2 p3 p4 p5 p6
    have EV : Hid (ownV l r (k : Int) = zeroL) := Lib.hid (by unfold ownV; rw [if_neg (by rw [EE.out]; first | decide | exact EN.out)])
    obtain ⟨s0, s1⟩ := two_get BR.out.2.1 (.slice none 0 0) (.slice none 0 0)
    obtain ⟨p1, p2, p3, p4, p5, p6⟩ := BR.out.facts
    have GZ := Lib.hid (BR.out.out (.slice none 0 0) (.slice none 0 0)).1
    clear BR
    go_wp2_with fail
    exact bodyPost_ret (v := .tuple #[lkV none 0 0 none 0 0, .int .i64 (24)]) (by simp [results, Try.results24, go_sem, s0, s1]) rfl (by rw [EV.out, EE.out]; exact ⟨_, rfl, fun R _ => lkV_zero R _, GZ.out⟩)
  have EE : Hid (ownE l r (k : Int) = 0) := Lib.hid (by rw [E0.out, QA.out, OA.out, if_neg (fun h => h.elim (fun h => h rfl) h2)])
  rw [decide_eq_false h2]
  clear h2
  have EV : Hid (ownV l r (k : Int) = ownL l r (k : Int)) := Lib.hid (by unfold ownV; rw [if_pos EE.out])
  go_wp2_with fail
  refine (clone_any _ l _ ⟨_, _, _, _, _, _, rfl, K1.out⟩ HV.out).mono ?_
  rintro e w3 ⟨v1, v2, rfl, hF, hg⟩
  obtain ⟨g1, k1, g2, k2, base, rfl, rfl, f1, f2, f3, f4, f5, f6, hO, hC⟩ := hF.open (Nat.lt_of_le_of_lt (Nat.zero_le _) hk) (by rw [L2.out]; omega)
  rw [L1.out, L2.out] at *
  have BR3 := keep hg BR
  have zz := hg.size
  have zw6 := p6
  clear hg hF BR K1 p1 p2 p3 p4 p5 p6
  obtain ⟨p1, p2, p3, p4, p5, p6⟩ := BR3.out.facts
  obtain ⟨hcap1, hcap2⟩ := hO.capLe
  go_upto_region 7 with fail
  have gB := @boxRes_box w w3 (.slice (some ⟨g1, 0, none⟩) n2 k1) (.slice (some ⟨g2, 0, none⟩) n2 k2)
  have BX := Lib.hid (@BoxRes.put _ _ _ _ (.slice (some ⟨g1, 0, none⟩) n2 k1) (.slice (some ⟨g2, 0, none⟩) n2 k2) BR3.out)
  have O4 := Lib.hid (hO.kept gB (by simp; omega))
  have C4 := Lib.hid (hC.kept gB (fun b hb => by obtain rfl := Option.some.inj hb; omega))
  obtain ⟨X, hX⟩ : ∃ X, X = (w3.setCell ⟨w.heap.size, 0, none⟩ (.slice (some ⟨g1, 0, none⟩) n2 k1)).setCell ⟨w.heap.size, 1, none⟩ (.slice (some ⟨g2, 0, none⟩) n2 k2) := ⟨_, rfl⟩
  rw [← hX] at BX O4 C4 ⊢
  have zX : w3.heap.size ≤ X.heap.size := by rw [hX]; simp
  clear gB hO hC BR3 hX p1 p2 p3 p4 p5 p6
  obtain ⟨p1, p2, p3, p4, p5, p6⟩ := BX.out.facts
  have q1 := O4.out.cell (i := k) (v := .int .i64 (-1)) (by simp [ints, HO.out])
  have q2 := O4.out.free k
  have q3 := O4.out.lt
  have O5 : Hid (OwnR (X.setCell ⟨g1, k, none⟩ (.int .i64 r)) g1 k1 n2 3 1 (ints (ownL l r (k : Int)).own)) := Lib.hid (by
    have := O4.out.set (i := k) (.int .i64 r)
    rw [ints_set1] at this
    unfold ownL
    rw [Int.toNat_natCast]; exact this)
  have gX := grown_set (p := ⟨g1, k, none⟩) (.int .i64 r) (grown_refl X (some g1)) (.inr rfl)
  have C5 : Hid (OwnC (X.setCell ⟨g1, k, none⟩ (.int .i64 r)) base g2 k2 n2 (ownL l r (k : Int)).q) := Lib.hid (C4.out.kept gX (fun b hb => by obtain rfl := Option.some.inj hb; omega))
  have BZ : Hid (BoxRes w (X.setCell ⟨g1, k, none⟩ (.int .i64 r)) (.slice (some ⟨g1, 0, none⟩) n2 k1) (.slice (some ⟨g2, 0, none⟩) n2 k2)) := Lib.hid (BX.out.kept gX (fun b hb => by obtain rfl := Option.some.inj hb; omega))
  clear O4 C4 gX
  go_upto_region 8 with fail
  clear BX q1 q2 q3
  generalize hY : X.setCell ⟨g1, k, none⟩ (.int .i64 r) = Y at *
  clear p1 p2 p3 p4 p5 p6
  obtain ⟨p1, p2, p3, p4, p5, p6⟩ := BZ.out.facts
  obtain ⟨s0, s1⟩ := two_get BZ.out.2.1 (.slice (some ⟨g1, 0, none⟩) n2 k1) (.slice (some ⟨g2, 0, none⟩) n2 k2)
  obtain ⟨hz1, hz2⟩ := BZ.out.out (.slice (some ⟨g1, 0, none⟩) n2 k1) (.slice (some ⟨g2, 0, none⟩) n2 k2)
  have GZ := Lib.hid hz1
  have O6 := Lib.hid (O5.out.kept hz2 (by simp; omega))
  have C6 := Lib.hid (C5.out.kept hz2 (fun b hb => by obtain rfl := Option.some.inj hb; omega))
  clear hz1 hz2 O5 C5 BZ
  go_wp2_with fail
  exact bodyPost_ret (v := .tuple #[lkV (some ⟨g1, 0, none⟩) n2 k1 (some ⟨g2, 0, none⟩) n2 k2, .int .i64 0]) (by simp [results, Try.results24, go_sem, s0, s1]) rfl (by rw [EV.out, EE.out]; exact ⟨_, rfl, fun R hR => lkV_own (l := ownL l r (k : Int)) O6.out C6.out (w0 := w.heap.size) (by omega) (by omega) (by omega) hR, GZ.out⟩)

set_option maxRecDepth 100000 in
set_option maxHeartbeats 6400000 in
theorem rOwn_any (v : Value) (l : Lk) (r c : Int) (w : World) (h : LkV none w v l) :
    Calls Try.prog 25 #[v, .int .i64 r, .int .i64 c] w (GiveLk (ownV l r c) (ownE l r c) w) := by
  obtain ⟨a1, n1, c1, a2, n2, c2, rfl, h⟩ := h
  obtain ⟨l1, l2, m1, m2⟩ := h.len
  have L1 := Lib.hid l1
  have L2 := Lib.hid l2
  have K0 := keep (boxRes_new w (.slice a1 n1 c1) (.slice a2 n2 c2)).2.2 (Lib.hid h)
  have BR0 := Lib.hid (boxRes_new w (.slice a1 n1 c1) (.slice a2 n2 c2))
  clear h l1 l2
  go_enter Try.func25, Try.ntmps25
  go_wp2_with fail
  refine (rcheck_any _ l r c _ ⟨a1, n1, c1, a2, n2, c2, rfl, K0.out⟩).mono ?_
  rintro e w1 ⟨rfl, hg⟩
  have K1 := keep hg K0
  have BR := keep hg BR0
  clear hg K0 BR0
  by_cases hE : errC l r c = 0
  rotate_left
  · have EE : Hid (ownE l r c = errC l r c) := Lib.hid (by unfold ownE; rw [if_pos hE])
    have EN : Hid (¬ errC l r c = 0) := Lib.hid hE
    have t1 : (errC l r c == 0) = false := beq_eq_false_iff_ne.2 hE
    have t2 : (errC l r c != 0) = true := by simp [bne, t1]
    clear hE
    have EV : Hid (ownV l r c = zeroL) := Lib.hid (by unfold ownV; rw [if_neg (by rw [EE.out]; first | decide | exact EN.out)])
    obtain ⟨s0, s1⟩ := two_get BR.out.2.1 (.slice none 0 0) (.slice none 0 0)
    obtain ⟨p1, p2, p3, p4, p5, p6⟩ := BR.out.facts
    have GZ := Lib.hid (BR.out.out (.slice none 0 0) (.slice none 0 0)).1
    clear BR
    go_wp2_with fail
    exact bodyPost_ret (v := .tuple #[lkV none 0 0 none 0 0, .int .i64 (errC l r c)]) (by simp [results, Try.results25, go_sem, s0, s1]) rfl (by rw [EV.out, EE.out]; exact ⟨_, rfl, fun R _ => lkV_zero R _, GZ.out⟩)
  obtain ⟨hv, hr1, hr2, k, rfl, hk⟩ := errC_zero hE
  have HV := Lib.hid hv
  have VL0 := Lib.hid (valid_iff.1 hv)
  have h12 : n2 = n1 := by have := VL0.out.len; rw [L1.out, L2.out] at this; omega
  subst h12
  have hkn : k < n2 := by rw [L1.out] at hk; exact hk
  have E0 : Hid (ownE l r (k : Int) = if oAt l k ≠ -1 ∨ r ∈ qAt l k then 24 else 0) := Lib.hid (by unfold ownE; rw [if_neg (fun h => h hE), Int.toNat_natCast])
  obtain ⟨o, ho⟩ : ∃ o, l.own[k]? = some o := ⟨_, List.getElem?_eq_getElem hk⟩
  obtain ⟨x, hx⟩ : ∃ x, l.q[k]? = some x := ⟨_, List.getElem?_eq_getElem (by rw [L2.out]; exact hkn)⟩
  have HO := Lib.hid ho
  have OA := Lib.hid (oAt_of ho)
  have QA := Lib.hid (qAt_of hx)
  have HX := Lib.hid hx
  have hx8 := VL0.out.row hx
  have hk' : (k : Int) < n2 := by omega
  obtain ⟨b1, o1, rfl, zb1, d1⟩ := K1.out.1.1.1.int ho
  obtain ⟨b2, o2, A, cc, rfl, zb2, d2, hlc, hcm, hA, hrow⟩ := K1.out.1.2.at hx
  have RW := Lib.hid hrow.1
  unfold maxLen at hcm
  clear hrow hA
  rw [hE]
  clear hv hE ho hx
  obtain ⟨p1, p2, p3, p4, p5, p6⟩ := BR.out.facts
  by_cases h1 : o = -1
  rotate_left
  · have EE : Hid (ownE l r (k : Int) = 24) := Lib.hid (by rw [E0.out, OA.out, if_pos (.inl h1)])
    have t1 : (o == -1) = false := beq_eq_false_iff_ne.2 h1
    have t2 : (o != -1) = true := by simp [bne, t1]
    clear h1 p1 p2 p3 p4 p5 p6
    have EV : Hid (ownV l r (k : Int) = zeroL) := Lib.hid (by unfold ownV; rw [if_neg (by rw [EE.out]; first | decide | exact EN.out)])
    obtain ⟨s0, s1⟩ := two_get BR.out.2.1 (.slice none 0 0) (.slice none 0 0)
    obtain ⟨p1, p2, p3, p4, p5, p6⟩ := BR.out.facts
    have GZ := Lib.hid (BR.out.out (.slice none 0 0) (.slice none 0 0)).1
    clear BR
    go_wp2_with fail
    exact bodyPost_ret (v := .tuple #[lkV none 0 0 none 0 0, .int .i64 (24)]) (by simp [results, Try.results25, go_sem, s0, s1]) rfl (by rw [EV.out, EE.out]; exact ⟨_, rfl, fun R _ => lkV_zero R _, GZ.out⟩)
  subst h1
  go_wp2_with fail
  refine (Has_any A x.length cc x r _ RW.out).mono ?_
  rintro e w1' ⟨rfl, rfl⟩
  by_cases h2 : r ∈ x
  · have EE : Hid (ownE l r (k : Int) = 24) := Lib.hid (by rw [E0.out, QA.out, if_pos (.inr h2)])
    rw [decide_eq_true h2]
    clear h2 p1 p2 p3 p4 p5 p6
    have EV : Hid (ownV l r (k : Int) = zeroL) := Lib.hid (by unfold ownV; rw [if_neg (by rw [EE.out]; first | decide | exact EN.out)])
    obtain ⟨s0, s1⟩ := two_get BR.out.2.1 (.slice none 0 0) (.slice none 0 0)
    obtain ⟨p1, p2, p3, p4, p5, p6⟩ := BR.out.facts
    have GZ := Lib.hid (BR.out.out (.slice none 0 0) (.slice none 0 0)).1
    clear BR
    go_wp2_with fail
    exact bodyPost_ret (v := .tuple #[lkV none 0 0 none 0 0, .int .i64 (24)]) (by simp [results, Try.results25, go_sem, s0, s1]) rfl (by rw [EV.out, EE.out]; exact ⟨_, rfl, fun R _ => lkV_zero R _, GZ.out⟩)
  have EE : Hid (ownE l r (k : Int) = 0) := Lib.hid (by rw [E0.out, QA.out, OA.out, if_neg (fun h => h.elim (fun h => h rfl) h2)])
  rw [decide_eq_false h2]
  clear h2
  have EV : Hid (ownV l r (k : Int) = ownL l r (k : Int)) := Lib.hid (by unfold ownV; rw [if_pos EE.out])
  go_wp2_with fail
  refine (rCopy_any _ l _ ⟨_, _, _, _, _, _, rfl, K1.out⟩ HV.out).mono ?_
  rintro e w3 ⟨v1, v2, rfl, hF, hg⟩
  obtain ⟨g1, k1, g2, k2, base, rfl, rfl, f1, f2, f3, f4, f5, f6, hO, hC⟩ := hF.open (Nat.lt_of_le_of_lt (Nat.zero_le _) hk) (by rw [L2.out]; omega)
  rw [L1.out, L2.out] at *
  have BR3 := keep hg BR
  have zz := hg.size
  have zw6 := p6
  clear hg hF BR K1 p1 p2 p3 p4 p5 p6
  obtain ⟨p1, p2, p3, p4, p5, p6⟩ := BR3.out.facts
  obtain ⟨hcap1, hcap2⟩ := hO.capLe
  go_upto_region 7 with fail
  have gB := @boxRes_box w w3 (.slice (some ⟨g1, 0, none⟩) n2 k1) (.slice (some ⟨g2, 0, none⟩) n2 k2)
  have BX := Lib.hid (@BoxRes.put _ _ _ _ (.slice (some ⟨g1, 0, none⟩) n2 k1) (.slice (some ⟨g2, 0, none⟩) n2 k2) BR3.out)
  have O4 := Lib.hid (hO.kept gB (by simp; omega))
  have C4 := Lib.hid (hC.kept gB (fun b hb => by obtain rfl := Option.some.inj hb; omega))
  obtain ⟨X, hX⟩ : ∃ X, X = (w3.setCell ⟨w.heap.size, 0, none⟩ (.slice (some ⟨g1, 0, none⟩) n2 k1)).setCell ⟨w.heap.size, 1, none⟩ (.slice (some ⟨g2, 0, none⟩) n2 k2) := ⟨_, rfl⟩
  rw [← hX] at BX O4 C4 ⊢
  have zX : w3.heap.size ≤ X.heap.size := by rw [hX]; simp
  clear gB hO hC BR3 hX p1 p2 p3 p4 p5 p6
  obtain ⟨p1, p2, p3, p4, p5, p6⟩ := BX.out.facts
  have q1 := O4.out.cell (i := k) (v := .int .i64 (-1)) (by simp [ints, HO.out])
  have q2 := O4.out.free k
  have q3 := O4.out.lt
  have O5 : Hid (OwnR (X.setCell ⟨g1, k, none⟩ (.int .i64 r)) g1 k1 n2 3 1 (ints (ownL l r (k : Int)).own)) := Lib.hid (by
    have := O4.out.set (i := k) (.int .i64 r)
    rw [ints_set1] at this
    unfold ownL
    rw [Int.toNat_natCast]; exact this)
  have gX := grown_set (p := ⟨g1, k, none⟩) (.int .i64 r) (grown_refl X (some g1)) (.inr rfl)
  have C5 : Hid (OwnC (X.setCell ⟨g1, k, none⟩ (.int .i64 r)) base g2 k2 n2 (ownL l r (k : Int)).q) := Lib.hid (C4.out.kept gX (fun b hb => by obtain rfl := Option.some.inj hb; omega))
  have BZ : Hid (BoxRes w (X.setCell ⟨g1, k, none⟩ (.int .i64 r)) (.slice (some ⟨g1, 0, none⟩) n2 k1) (.slice (some ⟨g2, 0, none⟩) n2 k2)) := Lib.hid (BX.out.kept gX (fun b hb => by obtain rfl := Option.some.inj hb; omega))
  clear O4 C4 gX
  go_upto_region 8 with fail
  clear BX q1 q2 q3
  generalize hY : X.setCell ⟨g1, k, none⟩ (.int .i64 r) = Y at *
  clear p1 p2 p3 p4 p5 p6
  obtain ⟨p1, p2, p3, p4, p5, p6⟩ := BZ.out.facts
  obtain ⟨s0, s1⟩ := two_get BZ.out.2.1 (.slice (some ⟨g1, 0, none⟩) n2 k1) (.slice (some ⟨g2, 0, none⟩) n2 k2)
  obtain ⟨hz1, hz2⟩ := BZ.out.out (.slice (some ⟨g1, 0, none⟩) n2 k1) (.slice (some ⟨g2, 0, none⟩) n2 k2)
  have GZ := Lib.hid hz1
  have O6 := Lib.hid (O5.out.kept hz2 (by simp; omega))
  have C6 := Lib.hid (C5.out.kept hz2 (fun b hb => by obtain rfl := Option.some.inj hb; omega))
  clear hz1 hz2 O5 C5 BZ
  go_wp2_with fail
  exact bodyPost_ret (v := .tuple #[lkV (some ⟨g1, 0, none⟩) n2 k1 (some ⟨g2, 0, none⟩) n2 k2, .int .i64 0]) (by simp [results, Try.results25, go_sem, s0, s1]) rfl (by rw [EV.out, EE.out]; exact ⟨_, rfl, fun R hR => lkV_own (l := ownL l r (k : Int)) O6.out C6.out (w0 := w.heap.size) (by omega) (by omega) (by omega) hR, GZ.out⟩)

set_option maxRecDepth 100000 in
set_option maxHeartbeats 6400000 in
theorem Release_any (v : Value) (l : Lk) (c : Int) (w : World) (h : LkV none w v l) :
    Calls Try.prog 15 #[v, .int .i64 c] w (GiveLk (relV l c) (relE l c) w) := by
  obtain ⟨a1, n1, c1, a2, n2, c2, rfl, h⟩ := h
  obtain ⟨l1, l2, m1, m2⟩ := h.len
  have L1 := Lib.hid l1
  have L2 := Lib.hid l2
  have K0 := keep (boxRes_new w (.slice a1 n1 c1) (.slice a2 n2 c2)).2.2 (Lib.hid h)
  have BR0 := Lib.hid (boxRes_new w (.slice a1 n1 c1) (.slice a2 n2 c2))
  clear h l1 l2
  go_enter Try.func15, Try.ntmps15
  go_wp2_with fail
  refine (check_any _ l 0 c _ ⟨a1, n1, c1, a2, n2, c2, rfl, K0.out⟩).mono ?_
  rintro e w1 ⟨rfl, hg⟩
  have K1 := keep hg K0
  have BR := keep hg BR0
  clear hg K0 BR0
  by_cases hE : errC l 0 c = 0
  rotate_left
  · have EE : Hid (relE l c = errC l 0 c) := Lib.hid (by unfold relE; rw [if_pos hE])
    have EN : Hid (¬ errC l 0 c = 0) := Lib.hid hE
    have t1 : (errC l 0 c == 0) = false := beq_eq_false_iff_ne.2 hE
    have t2 : (errC l 0 c != 0) = true := by simp [bne, t1]
    clear hE
    have EV : Hid (relV l c = zeroL) := Lib.hid (by unfold relV; rw [if_neg (by rw [EE.out]; first | decide | exact EN.out)])
    obtain ⟨s0, s1⟩ := two_get BR.out.2.1 (.slice none 0 0) (.slice none 0 0)
    obtain ⟨p1, p2, p3, p4, p5, p6⟩ := BR.out.facts
    have GZ := Lib.hid (BR.out.out (.slice none 0 0) (.slice none 0 0)).1
    clear BR
    go_wp2_with fail
    exact bodyPost_ret (v := .tuple #[lkV none 0 0 none 0 0, .int .i64 (errC l 0 c)]) (by simp [results, Try.results15, go_sem, s0, s1]) rfl (by rw [EV.out, EE.out]; exact ⟨_, rfl, fun R _ => lkV_zero R _, GZ.out⟩)
  obtain ⟨hv, hr1, hr2, k, rfl, hk⟩ := errC_zero hE
  have HV := Lib.hid hv
  have VL0 := Lib.hid (valid_iff.1 hv)
  have h12 : n2 = n1 := by have := VL0.out.len; rw [L1.out, L2.out] at this; omega
  subst h12
  have hkn : k < n2 := by rw [L1.out] at hk; exact hk
  have E0 : Hid (relE l (k : Int) = if oAt l k = -1 then 24 else 0) := Lib.hid (by unfold relE; rw [if_neg (fun h => h hE), Int.toNat_natCast])
  obtain ⟨o, ho⟩ : ∃ o, l.own[k]? = some o := ⟨_, List.getElem?_eq_getElem hk⟩
  obtain ⟨x, hx⟩ : ∃ x, l.q[k]? = some x := ⟨_, List.getElem?_eq_getElem (by rw [L2.out]; exact hkn)⟩
  have HO := Lib.hid ho
  have OA := Lib.hid (oAt_of ho)
  have QA := Lib.hid (qAt_of hx)
  have HX := Lib.hid hx
  have hx8 := VL0.out.row hx
  have hk' : (k : Int) < n2 := by omega
  obtain ⟨b1, o1, rfl, zb1, d1⟩ := K1.out.1.1.1.int ho
  rw [hE]
  clear hv hE ho hx
  obtain ⟨p1, p2, p3, p4, p5, p6⟩ := BR.out.facts
  by_cases h1 : o = -1
  · have EE : Hid (relE l (k : Int) = 24) := Lib.hid (by rw [E0.out, OA.out, if_pos h1])
    subst h1
    clear p1 p2 p3 p4 p5 p6
    have EV : Hid (relV l (k : Int) = zeroL) := Lib.hid (by unfold relV; rw [if_neg (by rw [EE.out]; first | decide | exact EN.out)])
    obtain ⟨s0, s1⟩ := two_get BR.out.2.1 (.slice none 0 0) (.slice none 0 0)
    obtain ⟨p1, p2, p3, p4, p5, p6⟩ := BR.out.facts
    have GZ := Lib.hid (BR.out.out (.slice none 0 0) (.slice none 0 0)).1
    clear BR
    go_wp2_with fail
    exact bodyPost_ret (v := .tuple #[lkV none 0 0 none 0 0, .int .i64 (24)]) (by simp [results, Try.results15, go_sem, s0, s1]) rfl (by rw [EV.out, EE.out]; exact ⟨_, rfl, fun R _ => lkV_zero R _, GZ.out⟩)
  have EE : Hid (relE l (k : Int) = 0) := Lib.hid (by rw [E0.out, OA.out, if_neg h1])
  have t1 : (o == -1) = false := beq_eq_false_iff_ne.2 h1
  have EV : Hid (relV l (k : Int) = relL l (k : Int)) := Lib.hid (by unfold relV; rw [if_pos EE.out])
  go_wp2_with fail
  refine (clone_any _ l _ ⟨_, _, _, _, _, _, rfl, K1.out⟩ HV.out).mono ?_
  rintro e w3 ⟨v1, v2, rfl, hF, hg⟩
  obtain ⟨g1, k1, g2, k2, base, rfl, rfl, f1, f2, f3, f4, f5, f6, hO, hC⟩ := hF.open (Nat.lt_of_le_of_lt (Nat.zero_le _) hk) (by rw [L2.out]; omega)
  rw [L1.out, L2.out] at *
  have BR3 := keep hg BR
  have zz := hg.size
  have zw6 := p6
  clear hg hF BR K1 p1 p2 p3 p4 p5 p6
  obtain ⟨p1, p2, p3, p4, p5, p6⟩ := BR3.out.facts
  obtain ⟨hcap1, hcap2⟩ := hO.capLe
  go_upto_region 7 with fail
  have gB := @boxRes_box w w3 (.slice (some ⟨g1, 0, none⟩) n2 k1) (.slice (some ⟨g2, 0, none⟩) n2 k2)
  have BX := Lib.hid (@BoxRes.put _ _ _ _ (.slice (some ⟨g1, 0, none⟩) n2 k1) (.slice (some ⟨g2, 0, none⟩) n2 k2) BR3.out)
  have O4 := Lib.hid (hO.kept gB (by simp; omega))
  have C4 := Lib.hid (hC.kept gB (fun b hb => by obtain rfl := Option.some.inj hb; omega))
  obtain ⟨X, hX⟩ : ∃ X, X = (w3.setCell ⟨w.heap.size, 0, none⟩ (.slice (some ⟨g1, 0, none⟩) n2 k1)).setCell ⟨w.heap.size, 1, none⟩ (.slice (some ⟨g2, 0, none⟩) n2 k2) := ⟨_, rfl⟩
  rw [← hX] at BX O4 C4 ⊢
  have zX : w3.heap.size ≤ X.heap.size := by rw [hX]; simp
  clear gB hO hC BR3 hX p1 p2 p3 p4 p5 p6
  obtain ⟨p1, p2, p3, p4, p5, p6⟩ := BX.out.facts
  have q1 := O4.out.cell (i := k) (v := .int .i64 o) (by simp [ints, HO.out])
  have q2 := O4.out.free k
  have q3 := O4.out.lt
  have O5 : Hid (OwnR (X.setCell ⟨g1, k, none⟩ (.int .i64 (-1))) g1 k1 n2 3 1 (ints (relL l (k : Int)).own)) := Lib.hid (by
    have := O4.out.set (i := k) (.int .i64 (-1))
    rw [ints_set1] at this
    unfold relL
    rw [Int.toNat_natCast]; exact this)
  have gX := grown_set (p := ⟨g1, k, none⟩) (.int .i64 (-1)) (grown_refl X (some g1)) (.inr rfl)
  have C5 : Hid (OwnC (X.setCell ⟨g1, k, none⟩ (.int .i64 (-1))) base g2 k2 n2 (relL l (k : Int)).q) := Lib.hid (C4.out.kept gX (fun b hb => by obtain rfl := Option.some.inj hb; omega))
  have BZ : Hid (BoxRes w (X.setCell ⟨g1, k, none⟩ (.int .i64 (-1))) (.slice (some ⟨g1, 0, none⟩) n2 k1) (.slice (some ⟨g2, 0, none⟩) n2 k2)) := Lib.hid (BX.out.kept gX (fun b hb => by obtain rfl := Option.some.inj hb; omega))
  clear O4 C4 gX
  go_upto_region 8 with fail
  clear BX q1 q2 q3
  generalize hY : X.setCell ⟨g1, k, none⟩ (.int .i64 (-1)) = Y at *
  clear p1 p2 p3 p4 p5 p6
  obtain ⟨p1, p2, p3, p4, p5, p6⟩ := BZ.out.facts
  obtain ⟨s0, s1⟩ := two_get BZ.out.2.1 (.slice (some ⟨g1, 0, none⟩) n2 k1) (.slice (some ⟨g2, 0, none⟩) n2 k2)
  obtain ⟨hz1, hz2⟩ := BZ.out.out (.slice (some ⟨g1, 0, none⟩) n2 k1) (.slice (some ⟨g2, 0, none⟩) n2 k2)
  have GZ := Lib.hid hz1
  have O6 := Lib.hid (O5.out.kept hz2 (by simp; omega))
  have C6 := Lib.hid (C5.out.kept hz2 (fun b hb => by obtain rfl := Option.some.inj hb; omega))
  clear hz1 hz2 O5 C5 BZ
  go_wp2_with fail
  exact bodyPost_ret (v := .tuple #[lkV (some ⟨g1, 0, none⟩) n2 k1 (some ⟨g2, 0, none⟩) n2 k2, .int .i64 0]) (by simp [results, Try.results15, go_sem, s0, s1]) rfl (by rw [EV.out, EE.out]; exact ⟨_, rfl, fun R hR => lkV_own (l := relL l (k : Int)) O6.out C6.out (w0 := w.heap.size) (by omega) (by omega) (by omega) hR, GZ.out⟩)

set_option maxRecDepth 100000 in
set_option maxHeartbeats 6400000 in
theorem rRelease_any (v : Value) (l : Lk) (c : Int) (w : World) (h : LkV none w v l) :
    Calls Try.prog 26 #[v, .int .i64 c] w (GiveLk (relV l c) (relE l c) w) := by
  obtain ⟨a1, n1, c1, a2, n2, c2, rfl, h⟩ := h
  obtain ⟨l1, l2, m1, m2⟩ := h.len
  have L1 := Lib.hid l1
  have L2 := Lib.hid l2
  have K0 := keep (boxRes_new w (.slice a1 n1 c1) (.slice a2 n2 c2)).2.2 (Lib.hid h)
  have BR0 := Lib.hid (boxRes_new w (.slice a1 n1 c1) (.slice a2 n2 c2))
  clear h l1 l2
  go_enter Try.func26, Try.ntmps26
  go_wp2_with fail
  refine (rcheck_any _ l 0 c _ ⟨a1, n1, c1, a2, n2, c2, rfl, K0.out⟩).mono ?_
  rintro e w1 ⟨rfl, hg⟩
  have K1 := keep hg K0
  have BR := keep hg BR0
  clear hg K0 BR0
  by_cases hE : errC l 0 c = 0
  rotate_left
  · have EE : Hid (relE l c = errC l 0 c) := Lib.hid (by unfold relE; rw [if_pos hE])
    have EN : Hid (¬ errC l 0 c = 0) := Lib.hid hE
    have t1 : (errC l 0 c == 0) = false := beq_eq_false_iff_ne.2 hE
    have t2 : (errC l 0 c != 0) = true := by simp [bne, t1]
    clear hE
    have EV : Hid (relV l c = zeroL) := Lib.hid (by unfold relV; rw [if_neg (by rw [EE.out]; first | decide | exact EN.out)])
    obtain ⟨s0, s1⟩ := two_get BR.out.2.1 (.slice none 0 0) (.slice none 0 0)
    obtain ⟨p1, p2, p3, p4, p5, p6⟩ := BR.out.facts
    have GZ := Lib.hid (BR.out.out (.slice none 0 0) (.slice none 0 0)).1
    clear BR
    go_wp2_with fail
    exact bodyPost_ret (v := .tuple #[lkV none 0 0 none 0 0, .int .i64 (errC l 0 c)]) (by simp [results, Try.results26, go_sem, s0, s1]) rfl (by rw [EV.out, EE.out]; exact ⟨_, rfl, fun R _ => lkV_zero R _, GZ.out⟩)
  obtain ⟨hv, hr1, hr2, k, rfl, hk⟩ := errC_zero hE
  have HV := Lib.hid hv
  have VL0 := Lib.hid (valid_iff.1 hv)
  have h12 : n2 = n1 := by have := VL0.out.len; rw [L1.out, L2.out] at this; omega
  subst h12
  have hkn : k < n2 := by rw [L1.out] at hk; exact hk
  have E0 : Hid (relE l (k : Int) = if oAt l k = -1 then 24 else 0) := Lib.hid (by unfold relE; rw [if_neg (fun h => h hE), Int.toNat_natCast])
  obtain ⟨o, ho⟩ : ∃ o, l.own[k]? = some o := ⟨_, List.getElem?_eq_getElem hk⟩
  obtain ⟨x, hx⟩ : ∃ x, l.q[k]? = some x := ⟨_, List.getElem?_eq_getElem (by rw [L2.out]; exact hkn)⟩
  have HO := Lib.hid ho
  have OA := Lib.hid (oAt_of ho)
  have QA := Lib.hid (qAt_of hx)
  have HX := Lib.hid hx
  have hx8 := VL0.out.row hx
  have hk' : (k : Int) < n2 := by omega
  obtain ⟨b1, o1, rfl, zb1, d1⟩ := K1.out.1.1.1.int ho
  rw [hE]
  clear hv hE ho hx
  obtain ⟨p1, p2, p3, p4, p5, p6⟩ := BR.out.facts
  by_cases h1 : o = -1
  · have EE : Hid (relE l (k : Int) = 24) := Lib.hid (by rw [E0.out, OA.out, if_pos h1])
    subst h1
    clear p1 p2 p3 p4 p5 p6
    have EV : Hid (relV l (k : Int) = zeroL) := Lib.hid (by unfold relV; rw [if_neg (by rw [EE.out]; first | decide | exact EN.out)])
    obtain ⟨s0, s1⟩ := two_get BR.out.2.1 (.slice none 0 0) (.slice none 0 0)
    obtain ⟨p1, p2, p3, p4, p5, p6⟩ := BR.out.facts
    have GZ := Lib.hid (BR.out.out (.slice none 0 0) (.slice none 0 0)).1
    clear BR
    go_wp2_with fail
    exact bodyPost_ret (v := .tuple #[lkV none 0 0 none 0 0, .int .i64 (24)]) (by simp [results, Try.results26, go_sem, s0, s1]) rfl (by rw [EV.out, EE.out]; exact ⟨_, rfl, fun R _ => lkV_zero R _, GZ.out⟩)
  have EE : Hid (relE l (k : Int) = 0) := Lib.hid (by rw [E0.out, OA.out, if_neg h1])
  have t1 : (o == -1) = false := beq_eq_false_iff_ne.2 h1
  have EV : Hid (relV l (k : Int) = relL l (k : Int)) := Lib.hid (by unfold relV; rw [if_pos EE.out])
  go_wp2_with fail
  refine (rCopy_any _ l _ ⟨_, _, _, _, _, _, rfl, K1.out⟩ HV.out).mono ?_
  rintro e w3 ⟨v1, v2, rfl, hF, hg⟩
  obtain ⟨g1, k1, g2, k2, base, rfl, rfl, f1, f2, f3, f4, f5, f6, hO, hC⟩ := hF.open (Nat.lt_of_le_of_lt (Nat.zero_le _) hk) (by rw [L2.out]; omega)
  rw [L1.out, L2.out] at *
  have BR3 := keep hg BR
  have zz := hg.size
  have zw6 := p6
  clear hg hF BR K1 p1 p2 p3 p4 p5 p6
  obtain ⟨p1, p2, p3, p4, p5, p6⟩ := BR3.out.facts
  obtain ⟨hcap1, hcap2⟩ := hO.capLe
  go_upto_region 7 with fail
  have gB := @boxRes_box w w3 (.slice (some ⟨g1, 0, none⟩) n2 k1) (.slice (some ⟨g2, 0, none⟩) n2 k2)
  have BX := Lib.hid (@BoxRes.put _ _ _ _ (.slice (some ⟨g1, 0, none⟩) n2 k1) (.slice (some ⟨g2, 0, none⟩) n2 k2) BR3.out)
  have O4 := Lib.hid (hO.kept gB (by simp; omega))
  have C4 := Lib.hid (hC.kept gB (fun b hb => by obtain rfl := Option.some.inj hb; omega))
  obtain ⟨X, hX⟩ : ∃ X, X = (w3.setCell ⟨w.heap.size, 0, none⟩ (.slice (some ⟨g1, 0, none⟩) n2 k1)).setCell ⟨w.heap.size, 1, none⟩ (.slice (some ⟨g2, 0, none⟩) n2 k2) := ⟨_, rfl⟩
  rw [← hX] at BX O4 C4 ⊢
  have zX : w3.heap.size ≤ X.heap.size := by rw [hX]; simp
  clear gB hO hC BR3 hX p1 p2 p3 p4 p5 p6
  obtain ⟨p1, p2, p3, p4, p5, p6⟩ := BX.out.facts
  have q1 := O4.out.cell (i := k) (v := .int .i64 o) (by simp [ints, HO.out])
  have q2 := O4.out.free k
  have q3 := O4.out.lt
  have O5 : Hid (OwnR (X.setCell ⟨g1, k, none⟩ (.int .i64 (-1))) g1 k1 n2 3 1 (ints (relL l (k : Int)).own)) := Lib.hid (by
    have := O4.out.set (i := k) (.int .i64 (-1))
    rw [ints_set1] at this
    unfold relL
    rw [Int.toNat_natCast]; exact this)
  have gX := grown_set (p := ⟨g1, k, none⟩) (.int .i64 (-1)) (grown_refl X (some g1)) (.inr rfl)
  have C5 : Hid (OwnC (X.setCell ⟨g1, k, none⟩ (.int .i64 (-1))) base g2 k2 n2 (relL l (k : Int)).q) := Lib.hid (C4.out.kept gX (fun b hb => by obtain rfl := Option.some.inj hb; omega))
  have BZ : Hid (BoxRes w (X.setCell ⟨g1, k, none⟩ (.int .i64 (-1))) (.slice (some ⟨g1, 0, none⟩) n2 k1) (.slice (some ⟨g2, 0, none⟩) n2 k2)) := Lib.hid (BX.out.kept gX (fun b hb => by obtain rfl := Option.some.inj hb; omega))
  clear O4 C4 gX
  go_upto_region 8 with fail
  clear BX q1 q2 q3
  generalize hY : X.setCell ⟨g1, k, none⟩ (.int .i64 (-1)) = Y at *
  clear p1 p2 p3 p4 p5 p6
  obtain ⟨p1, p2, p3, p4, p5, p6⟩ := BZ.out.facts
  obtain ⟨s0, s1⟩ := two_get BZ.out.2.1 (.slice (some ⟨g1, 0, none⟩) n2 k1) (.slice (some ⟨g2, 0, none⟩) n2 k2)
  obtain ⟨hz1, hz2⟩ := BZ.out.out (.slice (some ⟨g1, 0, none⟩) n2 k1) (.slice (some ⟨g2, 0, none⟩) n2 k2)
  have GZ := Lib.hid hz1
  have O6 := Lib.hid (O5.out.kept hz2 (by simp; omega))
  have C6 := Lib.hid (C5.out.kept hz2 (fun b hb => by obtain rfl := Option.some.inj hb; omega))
  clear hz1 hz2 O5 C5 BZ
  go_wp2_with fail
  exact bodyPost_ret (v := .tuple #[lkV (some ⟨g1, 0, none⟩) n2 k1 (some ⟨g2, 0, none⟩) n2 k2, .int .i64 0]) (by simp [results, Try.results26, go_sem, s0, s1]) rfl (by rw [EV.out, EE.out]; exact ⟨_, rfl, fun R hR => lkV_own (l := relL l (k : Int)) O6.out C6.out (w0 := w.heap.size) (by omega) (by omega) (by omega) hR, GZ.out⟩)

set_option maxRecDepth 100000 in
set_option maxHeartbeats 6400000 in
theorem Ask_any (v : Value) (l : Lk) (r c : Int) (w : World) (h : LkV none w v l) :
    Calls Try.prog 14 #[v, .int .i64 r, .int .i64 c] w (GiveLk (askV l r c) (askE l r c) w) := by
  obtain ⟨a1, n1, c1, a2, n2, c2, rfl, h⟩ := h
  obtain ⟨l1, l2, m1, m2⟩ := h.len
  have L1 := Lib.hid l1
  have L2 := Lib.hid l2
  have K0 := keep (boxRes_new w (.slice a1 n1 c1) (.slice a2 n2 c2)).2.2 (Lib.hid h)
  have BR0 := Lib.hid (boxRes_new w (.slice a1 n1 c1) (.slice a2 n2 c2))
  clear h l1 l2
  go_enter Try.func14, Try.ntmps14
  go_wp2_with fail
  refine (check_any _ l r c _ ⟨a1, n1, c1, a2, n2, c2, rfl, K0.out⟩).mono ?_
  rintro e w1 ⟨rfl, hg⟩
  have K1 := keep hg K0
  have BR := keep hg BR0
  clear hg K0 BR0
  by_cases hE : errC l r c = 0
  rotate_left
  · have EE : Hid (askE l r c = errC l r c) := Lib.hid (by unfold askE; rw [if_pos hE])
    have EN : Hid (¬ errC l r c = 0) := Lib.hid hE
    have t1 : (errC l r c == 0) = false := beq_eq_false_iff_ne.2 hE
    have t2 : (errC l r c != 0) = true := by simp [bne, t1]
    clear hE
    have EV : Hid (askV l r c = zeroL) := Lib.hid (by unfold askV; rw [if_neg (by rw [EE.out]; first | decide | exact EN.out)])
    obtain ⟨s0, s1⟩ := two_get BR.out.2.1 (.slice none 0 0) (.slice none 0 0)
    obtain ⟨p1, p2, p3, p4, p5, p6⟩ := BR.out.facts
    have GZ := Lib.hid (BR.out.out (.slice none 0 0) (.slice none 0 0)).1
    clear BR
    go_wp2_with fail
    exact bodyPost_ret (v := .tuple #[lkV none 0 0 none 0 0, .int .i64 (errC l r c)]) (by simp [results, Try.results14, go_sem, s0, s1]) rfl (by rw [EV.out, EE.out]; exact ⟨_, rfl, fun R _ => lkV_zero R _, GZ.out⟩)
  obtain ⟨hv, hr1, hr2, k, rfl, hk⟩ := errC_zero hE
  have HV := Lib.hid hv
  have VL0 := Lib.hid (valid_iff.1 hv)
  have h12 : n2 = n1 := by have := VL0.out.len; rw [L1.out, L2.out] at this; omega
  subst h12
  have hkn : k < n2 := by rw [L1.out] at hk; exact hk
  have E0 : Hid (askE l r (k : Int) = if 0 ≤ waitsL l r ∨ oAt l k = r then 24 else 0) := Lib.hid (by unfold askE; rw [if_neg (fun h => h hE), Int.toNat_natCast])
  obtain ⟨o, ho⟩ : ∃ o, l.own[k]? = some o := ⟨_, List.getElem?_eq_getElem hk⟩
  obtain ⟨x, hx⟩ : ∃ x, l.q[k]? = some x := ⟨_, List.getElem?_eq_getElem (by rw [L2.out]; exact hkn)⟩
  have HO := Lib.hid ho
  have OA := Lib.hid (oAt_of ho)
  have QA := Lib.hid (qAt_of hx)
  have HX := Lib.hid hx
  have hx8 := VL0.out.row hx
  have hk' : (k : Int) < n2 := by omega
  obtain ⟨b1, o1, rfl, zb1, d1⟩ := K1.out.1.1.1.int ho
  rw [hE]
  clear hv hE ho hx
  obtain ⟨p1, p2, p3, p4, p5, p6⟩ := BR.out.facts
  clear p1 p2 p3 p4 p5 p6
  clear d1 zb1
  obtain ⟨p1, p2, p3, p4, p5, p6⟩ := BR.out.facts
  go_wp2_with fail
  refine (waits_any _ l r _ ⟨_, _, _, _, _, _, rfl, K1.out⟩).mono ?_
  rintro e w2 ⟨rfl, hg⟩
  have K2 := keep hg K1
  have BR2 := keep hg BR
  clear hg K1 BR p1 p2 p3 p4 p5 p6
  rename_i _ _
  have BR := BR2
  have K1 := K2
  clear BR2 K2
  obtain ⟨b1', o1', he1, zb1, d1⟩ := K1.out.1.1.1.int HO.out
  obtain ⟨rfl, rfl⟩ : b1 = b1' ∧ o1 = o1' := by simpa using he1
  obtain ⟨p1, p2, p3, p4, p5, p6⟩ := BR.out.facts
  by_cases h1 : 0 ≤ waitsL l r
  · have EE : Hid (askE l r (k : Int) = 24) := Lib.hid (by rw [E0.out, if_pos (.inl h1)])
    have t1 : decide (0 ≤ waitsL l r) = true := by simpa using h1
    clear h1 p1 p2 p3 p4 p5 p6
    have EV : Hid (askV l r (k : Int) = zeroL) := Lib.hid (by unfold askV; rw [if_neg (by rw [EE.out]; first | decide | exact EN.out)])
    obtain ⟨s0, s1⟩ := two_get BR.out.2.1 (.slice none 0 0) (.slice none 0 0)
    obtain ⟨p1, p2, p3, p4, p5, p6⟩ := BR.out.facts
    have GZ := Lib.hid (BR.out.out (.slice none 0 0) (.slice none 0 0)).1
    clear BR
    go_wp2_with fail
    exact bodyPost_ret (v := .tuple #[lkV none 0 0 none 0 0, .int .i64 (24)]) (by simp [results, Try.results14, go_sem, s0, s1]) rfl (by rw [EV.out, EE.out]; exact ⟨_, rfl, fun R _ => lkV_zero R _, GZ.out⟩)
  have t1 : decide (0 ≤ waitsL l r) = false := by simpa using h1
  by_cases h2 : o = r
  · have EE : Hid (askE l r (k : Int) = 24) := Lib.hid (by rw [E0.out, OA.out, if_pos (.inr h2)])
    have t2 : (o == r) = true := beq_iff_eq.2 h2
    clear h1 h2 p1 p2 p3 p4 p5 p6
    have EV : Hid (askV l r (k : Int) = zeroL) := Lib.hid (by unfold askV; rw [if_neg (by rw [EE.out]; first | decide | exact EN.out)])
    obtain ⟨s0, s1⟩ := two_get BR.out.2.1 (.slice none 0 0) (.slice none 0 0)
    obtain ⟨p1, p2, p3, p4, p5, p6⟩ := BR.out.facts
    have GZ := Lib.hid (BR.out.out (.slice none 0 0) (.slice none 0 0)).1
    clear BR
    go_wp2_with fail
    exact bodyPost_ret (v := .tuple #[lkV none 0 0 none 0 0, .int .i64 (24)]) (by simp [results, Try.results14, go_sem, s0, s1]) rfl (by rw [EV.out, EE.out]; exact ⟨_, rfl, fun R _ => lkV_zero R _, GZ.out⟩)
  have t2 : (o == r) = false := beq_eq_false_iff_ne.2 h2
  have EE : Hid (askE l r (k : Int) = 0) := Lib.hid (by rw [E0.out, OA.out, if_neg (fun h => h.elim h1 h2)])
  clear h1 h2
  have EV : Hid (askV l r (k : Int) = askL l r (k : Int)) := Lib.hid (by unfold askV; rw [if_pos EE.out])
  go_wp2_with fail
  refine (clone_any _ l _ ⟨_, _, _, _, _, _, rfl, K1.out⟩ HV.out).mono ?_
  rintro e w3 ⟨v1, v2, rfl, hF, hg⟩
  obtain ⟨g1, k1, g2, k2, base, rfl, rfl, f1, f2, f3, f4, f5, f6, hO, hC⟩ := hF.open (Nat.lt_of_le_of_lt (Nat.zero_le _) hk) (by rw [L2.out]; omega)
  rw [L1.out, L2.out] at *
  have BR3 := keep hg BR
  have zz := hg.size
  have zw6 := p6
  clear hg hF BR K1 p1 p2 p3 p4 p5 p6
  obtain ⟨p1, p2, p3, p4, p5, p6⟩ := BR3.out.facts
  obtain ⟨hcap1, hcap2⟩ := hO.capLe
  go_upto_region 7 with fail
  have gB := @boxRes_box w w3 (.slice (some ⟨g1, 0, none⟩) n2 k1) (.slice (some ⟨g2, 0, none⟩) n2 k2)
  have BX := Lib.hid (@BoxRes.put _ _ _ _ (.slice (some ⟨g1, 0, none⟩) n2 k1) (.slice (some ⟨g2, 0, none⟩) n2 k2) BR3.out)
  have O4 := Lib.hid (hO.kept gB (by simp; omega))
  have C4 := Lib.hid (hC.kept gB (fun b hb => by obtain rfl := Option.some.inj hb; omega))
  obtain ⟨X, hX⟩ : ∃ X, X = (w3.setCell ⟨w.heap.size, 0, none⟩ (.slice (some ⟨g1, 0, none⟩) n2 k1)).setCell ⟨w.heap.size, 1, none⟩ (.slice (some ⟨g2, 0, none⟩) n2 k2) := ⟨_, rfl⟩
  rw [← hX] at BX O4 C4 ⊢
  have zX : w3.heap.size ≤ X.heap.size := by rw [hX]; simp
  clear gB hO hC BR3 hX p1 p2 p3 p4 p5 p6
  obtain ⟨p1, p2, p3, p4, p5, p6⟩ := BX.out.facts
  obtain ⟨vx, q1, q2, hvx, hvg⟩ := C4.out.at HX.out
  obtain ⟨AX, kx, rfl, e1, e2, -, -⟩ := sliceIn_owns hvx
  unfold maxLen at e2
  have VO := Lib.hid hvx
  have VG := Lib.hid hvg
  have AL : Hid (askL l r (k : Int) = ⟨l.own, l.q.set k (x ++ [r])⟩) := Lib.hid (by unfold askL; rw [Int.toNat_natCast, QA.out])
  have QC := Lib.hid q1
  have CB : Hid (X.cell? ⟨w.heap.size, 1, none⟩ = some (.slice (some ⟨g2, 0, none⟩) n2 k2) ∧ w.heap.size < X.heap.size) := Lib.hid ⟨by rw [p1]; rfl, p3⟩
  have zg2 := C4.out.lt
  clear hvx hvg
  go_cut [] (fun wx => OwnR wx g1 k1 n2 3 1 (ints (askL l r (k : Int)).own) ∧ OwnC wx base g2 k2 n2 (askL l r (k : Int)).q ∧ BoxRes w wx (.slice (some ⟨g1, 0, none⟩) n2 k1) (.slice (some ⟨g2, 0, none⟩) n2 k2))
  case first =>
    refine wp_region_held_drew (S := fun w' => w'.cell? ⟨w.heap.size, 1, none⟩ = some (.slice (some ⟨g2, 0, none⟩) n2 k2)) (by kernel_rfl) (by (try dsimp only); first | assumption | exact CB.out.1 | exact alloc_keep CB.out.1 | exact set_keep s3 (by simp; omega)) (fun hHeld => ?_)
    refine wpAnyH_take (i := 0) (oi := { dst := some 35, op := .fieldAddr 26 (.tmp 3) 1, type := _, pos := _, after := _, guard := none }) (v := ?_) rfl (by kernel_rfl) (by kernel_rfl) (by kernel_rfl) (fun _ _ _ h => h) (Or.inl ⟨by rfl, ?_⟩) (by assumption) ?_
    rotate_left
    · (intro w hSw; (try dsimp only at hSw); go_simp; (try with_reducible rfl))
    try simp only [Act.put, List.setIfInBounds_toArray, List.set_cons_zero, List.set_cons_succ]
    refine wpAnyH_take (i := 1) (oi := { dst := some 36, op := .load 24 (.tmp 35), type := _, pos := _, after := _, guard := none }) (v := ?_) rfl (by kernel_rfl) (by kernel_rfl) (by kernel_rfl) (fun _ _ _ h => h) (Or.inl ⟨by rfl, ?_⟩) (by assumption) ?_
    rotate_left
    · (intro w hSw; (try dsimp only at hSw); go_simp; (try with_reducible rfl))
    try simp only [Act.put, List.setIfInBounds_toArray, List.set_cons_zero, List.set_cons_succ]
    refine wpAnyH_take (i := 2) (oi := { dst := some 37, op := .move (.tmp 2), type := _, pos := _, after := _, guard := none }) (v := ?_) rfl (by kernel_rfl) (by kernel_rfl) (by kernel_rfl) (fun _ _ _ h => h) (Or.inl ⟨by rfl, ?_⟩) (by assumption) ?_
    rotate_left
    · (intro w hSw; (try dsimp only at hSw); go_simp; (try with_reducible rfl))
    try simp only [Act.put, List.setIfInBounds_toArray, List.set_cons_zero, List.set_cons_succ]
    refine wpAnyH_take (i := 3) (oi := { dst := some 38, op := .fieldAddr 26 (.tmp 3) 1, type := _, pos := _, after := _, guard := none }) (v := ?_) rfl (by kernel_rfl) (by kernel_rfl) (by kernel_rfl) (fun _ _ _ h => h) (Or.inl ⟨by rfl, ?_⟩) (by assumption) ?_
    rotate_left
    · (intro w hSw; (try dsimp only at hSw); go_simp; (try with_reducible rfl))
    try simp only [Act.put, List.setIfInBounds_toArray, List.set_cons_zero, List.set_cons_succ]
    refine wpAnyH_take (i := 4) (oi := { dst := some 39, op := .load 24 (.tmp 38), type := _, pos := _, after := _, guard := none }) (v := ?_) rfl (by kernel_rfl) (by kernel_rfl) (by kernel_rfl) (fun _ _ _ h => h) (Or.inl ⟨by rfl, ?_⟩) (by assumption) ?_
    rotate_left
    · (intro w hSw; (try dsimp only at hSw); go_simp; (try with_reducible rfl))
    try simp only [Act.put, List.setIfInBounds_toArray, List.set_cons_zero, List.set_cons_succ]
    refine wpAnyH_take (i := 5) (oi := { dst := some 40, op := .move (.tmp 2), type := _, pos := _, after := _, guard := none }) (v := ?_) rfl (by kernel_rfl) (by kernel_rfl) (by kernel_rfl) (fun _ _ _ h => h) (Or.inl ⟨by rfl, ?_⟩) (by assumption) ?_
    rotate_left
    · (intro w hSw; (try dsimp only at hSw); go_simp; (try with_reducible rfl))
    try simp only [Act.put, List.setIfInBounds_toArray, List.set_cons_zero, List.set_cons_succ]
    refine wpAnyH_take (i := 6) (oi := { dst := some 41, op := .indexAddr 24 (.tmp 39) (.tmp 40), type := _, pos := _, after := _, guard := none }) (v := ?_) rfl (by kernel_rfl) (by kernel_rfl) (by kernel_rfl) (fun _ _ _ h => h) (Or.inl ⟨by rfl, ?_⟩) (by assumption) ?_
    rotate_left
    · (intro w hSw; (try dsimp only at hSw); go_simp; (try with_reducible rfl))
    try simp only [Act.put, List.setIfInBounds_toArray, List.set_cons_zero, List.set_cons_succ]
    refine wpAnyH_take (i := 8) (oi := { dst := some 43, op := .move (.tmp 1), type := _, pos := _, after := _, guard := none }) (v := ?_) rfl (by kernel_rfl) (by kernel_rfl) (by kernel_rfl) (fun _ _ _ h => h) (Or.inl ⟨by rfl, ?_⟩) (by assumption) ?_
    rotate_left
    · (intro w hSw; (try dsimp only at hSw); go_simp; (try with_reducible rfl))
    try simp only [Act.put, List.setIfInBounds_toArray, List.set_cons_zero, List.set_cons_succ]
    refine wpAnyH_ready (rs := [7, 9]) (by kernel_rfl) (by simp) ?_
    refine AllReadyH.cons (o := _) rfl (fun K hK => ?_) (AllReadyH.cons (o := _) rfl (fun K hK => ?_) AllReadyH.nil)
    · skip
      go_simp
      refine hK.out _ _ ?_ (fun hHeld2 => ?_)
      · ((try dsimp only); first | assumption | exact CB.out.1 | exact alloc_keep CB.out.1 | exact set_keep s3 (by simp; omega))
      clear hK K
      try simp only [Act.put, List.setIfInBounds_toArray, List.set_cons_zero, List.set_cons_succ]
      refine wpAnyH_ready (rs := [9]) (by kernel_rfl) (by simp) ?_
      refine AllReadyH.cons (o := _) rfl (fun K hK => ?_) AllReadyH.nil
      go_simp
      refine hK.out _ _ ?_ (fun hHeld2 => ?_)
      · ((try dsimp only); first | assumption | exact CB.out.1 | exact alloc_keep CB.out.1 | exact set_keep s3 (by simp; omega))
      clear hK K
      try simp only [Act.put, List.setIfInBounds_toArray, List.set_cons_zero, List.set_cons_succ]
      refine wpAnyH_ready (rs := [10]) (by kernel_rfl) (by simp) ?_
      refine AllReadyH.cons (o := _) rfl (fun K hK => ?_) AllReadyH.nil
      refine step_append_in St_int rfl (.tmp 42) (.tmp 44) rfl (by rfl) (VO.out.kept (by repeat (first | assumption | exact grown_refl _ _ | refine grown_drew ?_ | refine grown_alloc _ ?_)) (Classical.em _)) (by rfl) (news := [.int .i64 r]) (rowIn_block (n := 1) (size := 1) (by first | exact at_new X _ | exact at_new X.drew _) rfl (by unfold maxLen; omega)) (fun h => by cases h) (flat_one rfl) (by unfold maxLen; omega) (by omega) (by first | omega | (simp; omega)) ?_; intro v4 x3 hown4 hg4 hloc4; obtain ⟨A4, k4, rfl, -, -, -, -⟩ := sliceIn_owns hown4; have s3 : x3.cell? ⟨w.heap.size, 1, none⟩ = some (.slice (some ⟨g2, 0, none⟩) n2 k2) := (grown_cell hg4 (by simp; omega) (fun e => by have := VO.out.lt _ e.symm; simp at this; omega)).trans (alloc_keep CB.out.1); have EN := fun (hl : (Value.slice A4 (x.length + 1) k4).ownBlock = (Value.slice AX x.length kx).ownBlock ∨ _) => Lib.hid (ask_end O4.out C4.out BX.out HX.out f4 f3 (by omega) (by omega) QC.out VO.out (by repeat (first | assumption | exact grown_refl _ _ | refine grown_drew ?_ | refine grown_alloc _ ?_)) hg4 (ys := x ++ [r]) (by rw [← ints_snoc, List.length_append]; exact hown4) hl); have ENL := EN hloc4; have qg := (grown_cell hg4 (by simp; omega) (fun e => VG.out e.symm)).trans (alloc_keep QC.out); obtain ⟨csC, hcC, -⟩ := C4.out; have qf := free_at (j := k) (grown_at hg4 (at_alloc _ hcC) (fun e => VG.out e.symm)); have zx3 := hg4.size; have zx4 := lt_of_cell qg; clear hown4 hg4 hloc4 EN hcC
      refine hK.out _ _ ?_ (fun hHeld2 => ?_)
      · ((try dsimp only); first | assumption | exact CB.out.1 | exact alloc_keep CB.out.1 | exact set_keep s3 (by simp; omega))
      clear hK K
      try simp only [Act.put, List.setIfInBounds_toArray, List.set_cons_zero, List.set_cons_succ]
      refine wpAnyH_ready (rs := [11]) (by kernel_rfl) (by simp) ?_
      refine AllReadyH.cons (o := _) rfl (fun K hK => ?_) AllReadyH.nil
      go_simp
      refine hK.out _ _ ?_ (fun hHeld2 => ?_)
      · ((try dsimp only); first | assumption | exact CB.out.1 | exact alloc_keep CB.out.1 | exact set_keep s3 (by simp; omega))
      clear hK K
      try simp only [Act.put, List.setIfInBounds_toArray, List.set_cons_zero, List.set_cons_succ]
      refine wpAnyH_ready (rs := [12]) (by kernel_rfl) (by simp) ?_
      refine AllReadyH.cons (o := _) rfl (fun K hK => ?_) AllReadyH.nil
      go_simp
      refine hK.out _ _ ?_ (fun hHeld2 => ?_)
      · ((try dsimp only); first | assumption | exact CB.out.1 | exact alloc_keep CB.out.1 | exact set_keep s3 (by simp; omega))
      clear hK K
      try simp only [Act.put, List.setIfInBounds_toArray, List.set_cons_zero, List.set_cons_succ]
      refine wpAnyH_done (by kernel_rfl) ?_ _
      go_wp2_with fail
      go_meet
      rw [AL.out]
      exact ENL.out
    · skip
      go_simp
      refine hK.out _ _ ?_ (fun hHeld2 => ?_)
      · ((try dsimp only); first | assumption | exact CB.out.1 | exact alloc_keep CB.out.1 | exact set_keep s3 (by simp; omega))
      clear hK K
      try simp only [Act.put, List.setIfInBounds_toArray, List.set_cons_zero, List.set_cons_succ]
      refine wpAnyH_ready (rs := [7]) (by kernel_rfl) (by simp) ?_
      refine AllReadyH.cons (o := _) rfl (fun K hK => ?_) AllReadyH.nil
      go_simp
      refine hK.out _ _ ?_ (fun hHeld2 => ?_)
      · ((try dsimp only); first | assumption | exact CB.out.1 | exact alloc_keep CB.out.1 | exact set_keep s3 (by simp; omega))
      clear hK K
      try simp only [Act.put, List.setIfInBounds_toArray, List.set_cons_zero, List.set_cons_succ]
      refine wpAnyH_ready (rs := [10]) (by kernel_rfl) (by simp) ?_
      refine AllReadyH.cons (o := _) rfl (fun K hK => ?_) AllReadyH.nil
      refine step_append_in St_int rfl (.tmp 42) (.tmp 44) rfl (by rfl) (VO.out.kept (by repeat (first | assumption | exact grown_refl _ _ | refine grown_drew ?_ | refine grown_alloc _ ?_)) (Classical.em _)) (by rfl) (news := [.int .i64 r]) (rowIn_block (n := 1) (size := 1) (by first | exact at_new X _ | exact at_new X.drew _) rfl (by unfold maxLen; omega)) (fun h => by cases h) (flat_one rfl) (by unfold maxLen; omega) (by omega) (by first | omega | (simp; omega)) ?_; intro v4 x3 hown4 hg4 hloc4; obtain ⟨A4, k4, rfl, -, -, -, -⟩ := sliceIn_owns hown4; have s3 : x3.cell? ⟨w.heap.size, 1, none⟩ = some (.slice (some ⟨g2, 0, none⟩) n2 k2) := (grown_cell hg4 (by simp; omega) (fun e => by have := VO.out.lt _ e.symm; simp at this; omega)).trans (alloc_keep CB.out.1); have EN := fun (hl : (Value.slice A4 (x.length + 1) k4).ownBlock = (Value.slice AX x.length kx).ownBlock ∨ _) => Lib.hid (ask_end O4.out C4.out BX.out HX.out f4 f3 (by omega) (by omega) QC.out VO.out (by repeat (first | assumption | exact grown_refl _ _ | refine grown_drew ?_ | refine grown_alloc _ ?_)) hg4 (ys := x ++ [r]) (by rw [← ints_snoc, List.length_append]; exact hown4) hl); have ENL := EN hloc4; have qg := (grown_cell hg4 (by simp; omega) (fun e => VG.out e.symm)).trans (alloc_keep QC.out); obtain ⟨csC, hcC, -⟩ := C4.out; have qf := free_at (j := k) (grown_at hg4 (at_alloc _ hcC) (fun e => VG.out e.symm)); have zx3 := hg4.size; have zx4 := lt_of_cell qg; clear hown4 hg4 hloc4 EN hcC
      refine hK.out _ _ ?_ (fun hHeld2 => ?_)
      · ((try dsimp only); first | assumption | exact CB.out.1 | exact alloc_keep CB.out.1 | exact set_keep s3 (by simp; omega))
      clear hK K
      try simp only [Act.put, List.setIfInBounds_toArray, List.set_cons_zero, List.set_cons_succ]
      refine wpAnyH_ready (rs := [11]) (by kernel_rfl) (by simp) ?_
      refine AllReadyH.cons (o := _) rfl (fun K hK => ?_) AllReadyH.nil
      go_simp
      refine hK.out _ _ ?_ (fun hHeld2 => ?_)
      · ((try dsimp only); first | assumption | exact CB.out.1 | exact alloc_keep CB.out.1 | exact set_keep s3 (by simp; omega))
      clear hK K
      try simp only [Act.put, List.setIfInBounds_toArray, List.set_cons_zero, List.set_cons_succ]
      refine wpAnyH_ready (rs := [12]) (by kernel_rfl) (by simp) ?_
      refine AllReadyH.cons (o := _) rfl (fun K hK => ?_) AllReadyH.nil
      go_simp
      refine hK.out _ _ ?_ (fun hHeld2 => ?_)
      · ((try dsimp only); first | assumption | exact CB.out.1 | exact alloc_keep CB.out.1 | exact set_keep s3 (by simp; omega))
      clear hK K
      try simp only [Act.put, List.setIfInBounds_toArray, List.set_cons_zero, List.set_cons_succ]
      refine wpAnyH_done (by kernel_rfl) ?_ _
      go_wp2_with fail
      go_meet
      rw [AL.out]
      exact ENL.out
  case rest =>
  obtain ⟨hO5, hC5, hBZ⟩ := hcut
  have O5 := Lib.hid hO5
  have C5 := Lib.hid hC5
  have BZ := Lib.hid hBZ
  clear hO5 hC5 hBZ BX O4 C4 CB VO VG q1 q2
  clear p1 p2 p3 p4 p5 p6
  obtain ⟨p1, p2, p3, p4, p5, p6⟩ := BZ.out.facts
  obtain ⟨s0, s1⟩ := two_get BZ.out.2.1 (.slice (some ⟨g1, 0, none⟩) n2 k1) (.slice (some ⟨g2, 0, none⟩) n2 k2)
  obtain ⟨hz1, hz2⟩ := BZ.out.out (.slice (some ⟨g1, 0, none⟩) n2 k1) (.slice (some ⟨g2, 0, none⟩) n2 k2)
  have GZ := Lib.hid hz1
  have O6 := Lib.hid (O5.out.kept hz2 (by simp; omega))
  have C6 := Lib.hid (C5.out.kept hz2 (fun b hb => by obtain rfl := Option.some.inj hb; omega))
  clear hz1 hz2 O5 C5 BZ
  go_wp2_with fail
  exact bodyPost_ret (v := .tuple #[lkV (some ⟨g1, 0, none⟩) n2 k1 (some ⟨g2, 0, none⟩) n2 k2, .int .i64 0]) (by simp [results, Try.results14, go_sem, s0, s1]) rfl (by rw [EV.out, EE.out]; exact ⟨_, rfl, fun R hR => lkV_own (l := askL l r (k : Int)) O6.out C6.out (w0 := w.heap.size) (by omega) (by omega) (by omega) hR, GZ.out⟩)

set_option maxRecDepth 100000 in
set_option maxHeartbeats 6400000 in
theorem rAsk_any (v : Value) (l : Lk) (r c : Int) (w : World) (h : LkV none w v l) :
    Calls Try.prog 27 #[v, .int .i64 r, .int .i64 c] w (GiveLk (askV l r c) (askE l r c) w) := by
  obtain ⟨a1, n1, c1, a2, n2, c2, rfl, h⟩ := h
  obtain ⟨l1, l2, m1, m2⟩ := h.len
  have L1 := Lib.hid l1
  have L2 := Lib.hid l2
  have K0 := keep (boxRes_new w (.slice a1 n1 c1) (.slice a2 n2 c2)).2.2 (Lib.hid h)
  have BR0 := Lib.hid (boxRes_new w (.slice a1 n1 c1) (.slice a2 n2 c2))
  clear h l1 l2
  go_enter Try.func27, Try.ntmps27
  go_wp2_with fail
  refine (rcheck_any _ l r c _ ⟨a1, n1, c1, a2, n2, c2, rfl, K0.out⟩).mono ?_
  rintro e w1 ⟨rfl, hg⟩
  have K1 := keep hg K0
  have BR := keep hg BR0
  clear hg K0 BR0
  by_cases hE : errC l r c = 0
  rotate_left
  · have EE : Hid (askE l r c = errC l r c) := Lib.hid (by unfold askE; rw [if_pos hE])
    have EN : Hid (¬ errC l r c = 0) := Lib.hid hE
    have t1 : (errC l r c == 0) = false := beq_eq_false_iff_ne.2 hE
    have t2 : (errC l r c != 0) = true := by simp [bne, t1]
    clear hE
    have EV : Hid (askV l r c = zeroL) := Lib.hid (by unfold askV; rw [if_neg (by rw [EE.out]; first | decide | exact EN.out)])
    obtain ⟨s0, s1⟩ := two_get BR.out.2.1 (.slice none 0 0) (.slice none 0 0)
    obtain ⟨p1, p2, p3, p4, p5, p6⟩ := BR.out.facts
    have GZ := Lib.hid (BR.out.out (.slice none 0 0) (.slice none 0 0)).1
    clear BR
    go_wp2_with fail
    exact bodyPost_ret (v := .tuple #[lkV none 0 0 none 0 0, .int .i64 (errC l r c)]) (by simp [results, Try.results27, go_sem, s0, s1]) rfl (by rw [EV.out, EE.out]; exact ⟨_, rfl, fun R _ => lkV_zero R _, GZ.out⟩)
  obtain ⟨hv, hr1, hr2, k, rfl, hk⟩ := errC_zero hE
  have HV := Lib.hid hv
  have VL0 := Lib.hid (valid_iff.1 hv)
  have h12 : n2 = n1 := by have := VL0.out.len; rw [L1.out, L2.out] at this; omega
  subst h12
  have hkn : k < n2 := by rw [L1.out] at hk; exact hk
  have E0 : Hid (askE l r (k : Int) = if 0 ≤ waitsL l r ∨ oAt l k = r then 24 else 0) := Lib.hid (by unfold askE; rw [if_neg (fun h => h hE), Int.toNat_natCast])
  obtain ⟨o, ho⟩ : ∃ o, l.own[k]? = some o := ⟨_, List.getElem?_eq_getElem hk⟩
  obtain ⟨x, hx⟩ : ∃ x, l.q[k]? = some x := ⟨_, List.getElem?_eq_getElem (by rw [L2.out]; exact hkn)⟩
  have HO := Lib.hid ho
  have OA := Lib.hid (oAt_of ho)
  have QA := Lib.hid (qAt_of hx)
  have HX := Lib.hid hx
  have hx8 := VL0.out.row hx
  have hk' : (k : Int) < n2 := by omega
  obtain ⟨b1, o1, rfl, zb1, d1⟩ := K1.out.1.1.1.int ho
  rw [hE]
  clear hv hE ho hx
  obtain ⟨p1, p2, p3, p4, p5, p6⟩ := BR.out.facts
  clear p1 p2 p3 p4 p5 p6
  clear d1 zb1
  obtain ⟨p1, p2, p3, p4, p5, p6⟩ := BR.out.facts
  go_wp2_with fail
  refine (rAt_any _ l r _ ⟨_, _, _, _, _, _, rfl, K1.out⟩).mono ?_
  rintro e w2 ⟨rfl, hg⟩
  have K2 := keep hg K1
  have BR2 := keep hg BR
  clear hg K1 BR p1 p2 p3 p4 p5 p6
  rename_i _ _
  have BR := BR2
  have K1 := K2
  clear BR2 K2
  obtain ⟨b1', o1', he1, zb1, d1⟩ := K1.out.1.1.1.int HO.out
  obtain ⟨rfl, rfl⟩ : b1 = b1' ∧ o1 = o1' := by simpa using he1
  obtain ⟨p1, p2, p3, p4, p5, p6⟩ := BR.out.facts
  by_cases h1 : 0 ≤ waitsL l r
  · have EE : Hid (askE l r (k : Int) = 24) := Lib.hid (by rw [E0.out, if_pos (.inl h1)])
    have t1 : decide (0 ≤ waitsL l r) = true := by simpa using h1
    clear h1 p1 p2 p3 p4 p5 p6
    have EV : Hid (askV l r (k : Int) = zeroL) := Lib.hid (by unfold askV; rw [if_neg (by rw [EE.out]; first | decide | exact EN.out)])
    obtain ⟨s0, s1⟩ := two_get BR.out.2.1 (.slice none 0 0) (.slice none 0 0)
    obtain ⟨p1, p2, p3, p4, p5, p6⟩ := BR.out.facts
    have GZ := Lib.hid (BR.out.out (.slice none 0 0) (.slice none 0 0)).1
    clear BR
    go_wp2_with fail
    exact bodyPost_ret (v := .tuple #[lkV none 0 0 none 0 0, .int .i64 (24)]) (by simp [results, Try.results27, go_sem, s0, s1]) rfl (by rw [EV.out, EE.out]; exact ⟨_, rfl, fun R _ => lkV_zero R _, GZ.out⟩)
  have t1 : decide (0 ≤ waitsL l r) = false := by simpa using h1
  by_cases h2 : o = r
  · have EE : Hid (askE l r (k : Int) = 24) := Lib.hid (by rw [E0.out, OA.out, if_pos (.inr h2)])
    have t2 : (o == r) = true := beq_iff_eq.2 h2
    clear h1 h2 p1 p2 p3 p4 p5 p6
    have EV : Hid (askV l r (k : Int) = zeroL) := Lib.hid (by unfold askV; rw [if_neg (by rw [EE.out]; first | decide | exact EN.out)])
    obtain ⟨s0, s1⟩ := two_get BR.out.2.1 (.slice none 0 0) (.slice none 0 0)
    obtain ⟨p1, p2, p3, p4, p5, p6⟩ := BR.out.facts
    have GZ := Lib.hid (BR.out.out (.slice none 0 0) (.slice none 0 0)).1
    clear BR
    go_wp2_with fail
    exact bodyPost_ret (v := .tuple #[lkV none 0 0 none 0 0, .int .i64 (24)]) (by simp [results, Try.results27, go_sem, s0, s1]) rfl (by rw [EV.out, EE.out]; exact ⟨_, rfl, fun R _ => lkV_zero R _, GZ.out⟩)
  have t2 : (o == r) = false := beq_eq_false_iff_ne.2 h2
  have EE : Hid (askE l r (k : Int) = 0) := Lib.hid (by rw [E0.out, OA.out, if_neg (fun h => h.elim h1 h2)])
  clear h1 h2
  have EV : Hid (askV l r (k : Int) = askL l r (k : Int)) := Lib.hid (by unfold askV; rw [if_pos EE.out])
  go_wp2_with fail
  refine (rCopy_any _ l _ ⟨_, _, _, _, _, _, rfl, K1.out⟩ HV.out).mono ?_
  rintro e w3 ⟨v1, v2, rfl, hF, hg⟩
  obtain ⟨g1, k1, g2, k2, base, rfl, rfl, f1, f2, f3, f4, f5, f6, hO, hC⟩ := hF.open (Nat.lt_of_le_of_lt (Nat.zero_le _) hk) (by rw [L2.out]; omega)
  rw [L1.out, L2.out] at *
  have BR3 := keep hg BR
  have zz := hg.size
  have zw6 := p6
  clear hg hF BR K1 p1 p2 p3 p4 p5 p6
  obtain ⟨p1, p2, p3, p4, p5, p6⟩ := BR3.out.facts
  obtain ⟨hcap1, hcap2⟩ := hO.capLe
  go_upto_region 7 with fail
  have gB := @boxRes_box w w3 (.slice (some ⟨g1, 0, none⟩) n2 k1) (.slice (some ⟨g2, 0, none⟩) n2 k2)
  have BX := Lib.hid (@BoxRes.put _ _ _ _ (.slice (some ⟨g1, 0, none⟩) n2 k1) (.slice (some ⟨g2, 0, none⟩) n2 k2) BR3.out)
  have O4 := Lib.hid (hO.kept gB (by simp; omega))
  have C4 := Lib.hid (hC.kept gB (fun b hb => by obtain rfl := Option.some.inj hb; omega))
  obtain ⟨X, hX⟩ : ∃ X, X = (w3.setCell ⟨w.heap.size, 0, none⟩ (.slice (some ⟨g1, 0, none⟩) n2 k1)).setCell ⟨w.heap.size, 1, none⟩ (.slice (some ⟨g2, 0, none⟩) n2 k2) := ⟨_, rfl⟩
  rw [← hX] at BX O4 C4 ⊢
  have zX : w3.heap.size ≤ X.heap.size := by rw [hX]; simp
  clear gB hO hC BR3 hX p1 p2 p3 p4 p5 p6
  obtain ⟨p1, p2, p3, p4, p5, p6⟩ := BX.out.facts
  obtain ⟨vx, q1, q2, hvx, hvg⟩ := C4.out.at HX.out
  obtain ⟨AX, kx, rfl, e1, e2, -, -⟩ := sliceIn_owns hvx
  unfold maxLen at e2
  have VO := Lib.hid hvx
  have VG := Lib.hid hvg
  have AL : Hid (askL l r (k : Int) = ⟨l.own, l.q.set k (x ++ [r])⟩) := Lib.hid (by unfold askL; rw [Int.toNat_natCast, QA.out])
  have QC := Lib.hid q1
  have CB : Hid (X.cell? ⟨w.heap.size, 1, none⟩ = some (.slice (some ⟨g2, 0, none⟩) n2 k2) ∧ w.heap.size < X.heap.size) := Lib.hid ⟨by rw [p1]; rfl, p3⟩
  have zg2 := C4.out.lt
  clear hvx hvg
  go_cut [] (fun wx => OwnR wx g1 k1 n2 3 1 (ints (askL l r (k : Int)).own) ∧ OwnC wx base g2 k2 n2 (askL l r (k : Int)).q ∧ BoxRes w wx (.slice (some ⟨g1, 0, none⟩) n2 k1) (.slice (some ⟨g2, 0, none⟩) n2 k2))
  case first =>
    refine wp_region_held_drew (S := fun w' => w'.cell? ⟨w.heap.size, 1, none⟩ = some (.slice (some ⟨g2, 0, none⟩) n2 k2)) (by kernel_rfl) (by (try dsimp only); first | assumption | exact CB.out.1 | exact alloc_keep CB.out.1 | exact set_keep s3 (by simp; omega)) (fun hHeld => ?_)
    refine wpAnyH_take (i := 0) (oi := { dst := some 33, op := .fieldAddr 26 (.tmp 3) 1, type := _, pos := _, after := _, guard := none }) (v := ?_) rfl (by kernel_rfl) (by kernel_rfl) (by kernel_rfl) (fun _ _ _ h => h) (Or.inl ⟨by rfl, ?_⟩) (by assumption) ?_
    rotate_left
    · (intro w hSw; (try dsimp only at hSw); go_simp; (try with_reducible rfl))
    try simp only [Act.put, List.setIfInBounds_toArray, List.set_cons_zero, List.set_cons_succ]
    refine wpAnyH_take (i := 1) (oi := { dst := some 34, op := .load 24 (.tmp 33), type := _, pos := _, after := _, guard := none }) (v := ?_) rfl (by kernel_rfl) (by kernel_rfl) (by kernel_rfl) (fun _ _ _ h => h) (Or.inl ⟨by rfl, ?_⟩) (by assumption) ?_
    rotate_left
    · (intro w hSw; (try dsimp only at hSw); go_simp; (try with_reducible rfl))
    try simp only [Act.put, List.setIfInBounds_toArray, List.set_cons_zero, List.set_cons_succ]
    refine wpAnyH_take (i := 2) (oi := { dst := some 35, op := .move (.tmp 2), type := _, pos := _, after := _, guard := none }) (v := ?_) rfl (by kernel_rfl) (by kernel_rfl) (by kernel_rfl) (fun _ _ _ h => h) (Or.inl ⟨by rfl, ?_⟩) (by assumption) ?_
    rotate_left
    · (intro w hSw; (try dsimp only at hSw); go_simp; (try with_reducible rfl))
    try simp only [Act.put, List.setIfInBounds_toArray, List.set_cons_zero, List.set_cons_succ]
    refine wpAnyH_take (i := 3) (oi := { dst := some 36, op := .fieldAddr 26 (.tmp 3) 1, type := _, pos := _, after := _, guard := none }) (v := ?_) rfl (by kernel_rfl) (by kernel_rfl) (by kernel_rfl) (fun _ _ _ h => h) (Or.inl ⟨by rfl, ?_⟩) (by assumption) ?_
    rotate_left
    · (intro w hSw; (try dsimp only at hSw); go_simp; (try with_reducible rfl))
    try simp only [Act.put, List.setIfInBounds_toArray, List.set_cons_zero, List.set_cons_succ]
    refine wpAnyH_take (i := 4) (oi := { dst := some 37, op := .load 24 (.tmp 36), type := _, pos := _, after := _, guard := none }) (v := ?_) rfl (by kernel_rfl) (by kernel_rfl) (by kernel_rfl) (fun _ _ _ h => h) (Or.inl ⟨by rfl, ?_⟩) (by assumption) ?_
    rotate_left
    · (intro w hSw; (try dsimp only at hSw); go_simp; (try with_reducible rfl))
    try simp only [Act.put, List.setIfInBounds_toArray, List.set_cons_zero, List.set_cons_succ]
    refine wpAnyH_take (i := 5) (oi := { dst := some 38, op := .move (.tmp 2), type := _, pos := _, after := _, guard := none }) (v := ?_) rfl (by kernel_rfl) (by kernel_rfl) (by kernel_rfl) (fun _ _ _ h => h) (Or.inl ⟨by rfl, ?_⟩) (by assumption) ?_
    rotate_left
    · (intro w hSw; (try dsimp only at hSw); go_simp; (try with_reducible rfl))
    try simp only [Act.put, List.setIfInBounds_toArray, List.set_cons_zero, List.set_cons_succ]
    refine wpAnyH_take (i := 6) (oi := { dst := some 39, op := .indexAddr 24 (.tmp 37) (.tmp 38), type := _, pos := _, after := _, guard := none }) (v := ?_) rfl (by kernel_rfl) (by kernel_rfl) (by kernel_rfl) (fun _ _ _ h => h) (Or.inl ⟨by rfl, ?_⟩) (by assumption) ?_
    rotate_left
    · (intro w hSw; (try dsimp only at hSw); go_simp; (try with_reducible rfl))
    try simp only [Act.put, List.setIfInBounds_toArray, List.set_cons_zero, List.set_cons_succ]
    refine wpAnyH_take (i := 8) (oi := { dst := some 41, op := .move (.tmp 1), type := _, pos := _, after := _, guard := none }) (v := ?_) rfl (by kernel_rfl) (by kernel_rfl) (by kernel_rfl) (fun _ _ _ h => h) (Or.inl ⟨by rfl, ?_⟩) (by assumption) ?_
    rotate_left
    · (intro w hSw; (try dsimp only at hSw); go_simp; (try with_reducible rfl))
    try simp only [Act.put, List.setIfInBounds_toArray, List.set_cons_zero, List.set_cons_succ]
    refine wpAnyH_ready (rs := [7, 9]) (by kernel_rfl) (by simp) ?_
    refine AllReadyH.cons (o := _) rfl (fun K hK => ?_) (AllReadyH.cons (o := _) rfl (fun K hK => ?_) AllReadyH.nil)
    · skip
      go_simp
      refine hK.out _ _ ?_ (fun hHeld2 => ?_)
      · ((try dsimp only); first | assumption | exact CB.out.1 | exact alloc_keep CB.out.1 | exact set_keep s3 (by simp; omega))
      clear hK K
      try simp only [Act.put, List.setIfInBounds_toArray, List.set_cons_zero, List.set_cons_succ]
      refine wpAnyH_ready (rs := [9]) (by kernel_rfl) (by simp) ?_
      refine AllReadyH.cons (o := _) rfl (fun K hK => ?_) AllReadyH.nil
      go_simp
      refine hK.out _ _ ?_ (fun hHeld2 => ?_)
      · ((try dsimp only); first | assumption | exact CB.out.1 | exact alloc_keep CB.out.1 | exact set_keep s3 (by simp; omega))
      clear hK K
      try simp only [Act.put, List.setIfInBounds_toArray, List.set_cons_zero, List.set_cons_succ]
      refine wpAnyH_ready (rs := [10]) (by kernel_rfl) (by simp) ?_
      refine AllReadyH.cons (o := _) rfl (fun K hK => ?_) AllReadyH.nil
      refine step_append_in St_int rfl (.tmp 40) (.tmp 42) rfl (by rfl) (VO.out.kept (by repeat (first | assumption | exact grown_refl _ _ | refine grown_drew ?_ | refine grown_alloc _ ?_)) (Classical.em _)) (by rfl) (news := [.int .i64 r]) (rowIn_block (n := 1) (size := 1) (by first | exact at_new X _ | exact at_new X.drew _) rfl (by unfold maxLen; omega)) (fun h => by cases h) (flat_one rfl) (by unfold maxLen; omega) (by omega) (by first | omega | (simp; omega)) ?_; intro v4 x3 hown4 hg4 hloc4; obtain ⟨A4, k4, rfl, -, -, -, -⟩ := sliceIn_owns hown4; have s3 : x3.cell? ⟨w.heap.size, 1, none⟩ = some (.slice (some ⟨g2, 0, none⟩) n2 k2) := (grown_cell hg4 (by simp; omega) (fun e => by have := VO.out.lt _ e.symm; simp at this; omega)).trans (alloc_keep CB.out.1); have EN := fun (hl : (Value.slice A4 (x.length + 1) k4).ownBlock = (Value.slice AX x.length kx).ownBlock ∨ _) => Lib.hid (ask_end O4.out C4.out BX.out HX.out f4 f3 (by omega) (by omega) QC.out VO.out (by repeat (first | assumption | exact grown_refl _ _ | refine grown_drew ?_ | refine grown_alloc _ ?_)) hg4 (ys := x ++ [r]) (by rw [← ints_snoc, List.length_append]; exact hown4) hl); have ENL := EN hloc4; have qg := (grown_cell hg4 (by simp; omega) (fun e => VG.out e.symm)).trans (alloc_keep QC.out); obtain ⟨csC, hcC, -⟩ := C4.out; have qf := free_at (j := k) (grown_at hg4 (at_alloc _ hcC) (fun e => VG.out e.symm)); have zx3 := hg4.size; have zx4 := lt_of_cell qg; clear hown4 hg4 hloc4 EN hcC
      refine hK.out _ _ ?_ (fun hHeld2 => ?_)
      · ((try dsimp only); first | assumption | exact CB.out.1 | exact alloc_keep CB.out.1 | exact set_keep s3 (by simp; omega))
      clear hK K
      try simp only [Act.put, List.setIfInBounds_toArray, List.set_cons_zero, List.set_cons_succ]
      refine wpAnyH_ready (rs := [11]) (by kernel_rfl) (by simp) ?_
      refine AllReadyH.cons (o := _) rfl (fun K hK => ?_) AllReadyH.nil
      go_simp
      refine hK.out _ _ ?_ (fun hHeld2 => ?_)
      · ((try dsimp only); first | assumption | exact CB.out.1 | exact alloc_keep CB.out.1 | exact set_keep s3 (by simp; omega))
      clear hK K
      try simp only [Act.put, List.setIfInBounds_toArray, List.set_cons_zero, List.set_cons_succ]
      refine wpAnyH_ready (rs := [12]) (by kernel_rfl) (by simp) ?_
      refine AllReadyH.cons (o := _) rfl (fun K hK => ?_) AllReadyH.nil
      go_simp
      refine hK.out _ _ ?_ (fun hHeld2 => ?_)
      · ((try dsimp only); first | assumption | exact CB.out.1 | exact alloc_keep CB.out.1 | exact set_keep s3 (by simp; omega))
      clear hK K
      try simp only [Act.put, List.setIfInBounds_toArray, List.set_cons_zero, List.set_cons_succ]
      refine wpAnyH_done (by kernel_rfl) ?_ _
      go_wp2_with fail
      go_meet
      rw [AL.out]
      exact ENL.out
    · skip
      go_simp
      refine hK.out _ _ ?_ (fun hHeld2 => ?_)
      · ((try dsimp only); first | assumption | exact CB.out.1 | exact alloc_keep CB.out.1 | exact set_keep s3 (by simp; omega))
      clear hK K
      try simp only [Act.put, List.setIfInBounds_toArray, List.set_cons_zero, List.set_cons_succ]
      refine wpAnyH_ready (rs := [7]) (by kernel_rfl) (by simp) ?_
      refine AllReadyH.cons (o := _) rfl (fun K hK => ?_) AllReadyH.nil
      go_simp
      refine hK.out _ _ ?_ (fun hHeld2 => ?_)
      · ((try dsimp only); first | assumption | exact CB.out.1 | exact alloc_keep CB.out.1 | exact set_keep s3 (by simp; omega))
      clear hK K
      try simp only [Act.put, List.setIfInBounds_toArray, List.set_cons_zero, List.set_cons_succ]
      refine wpAnyH_ready (rs := [10]) (by kernel_rfl) (by simp) ?_
      refine AllReadyH.cons (o := _) rfl (fun K hK => ?_) AllReadyH.nil
      refine step_append_in St_int rfl (.tmp 40) (.tmp 42) rfl (by rfl) (VO.out.kept (by repeat (first | assumption | exact grown_refl _ _ | refine grown_drew ?_ | refine grown_alloc _ ?_)) (Classical.em _)) (by rfl) (news := [.int .i64 r]) (rowIn_block (n := 1) (size := 1) (by first | exact at_new X _ | exact at_new X.drew _) rfl (by unfold maxLen; omega)) (fun h => by cases h) (flat_one rfl) (by unfold maxLen; omega) (by omega) (by first | omega | (simp; omega)) ?_; intro v4 x3 hown4 hg4 hloc4; obtain ⟨A4, k4, rfl, -, -, -, -⟩ := sliceIn_owns hown4; have s3 : x3.cell? ⟨w.heap.size, 1, none⟩ = some (.slice (some ⟨g2, 0, none⟩) n2 k2) := (grown_cell hg4 (by simp; omega) (fun e => by have := VO.out.lt _ e.symm; simp at this; omega)).trans (alloc_keep CB.out.1); have EN := fun (hl : (Value.slice A4 (x.length + 1) k4).ownBlock = (Value.slice AX x.length kx).ownBlock ∨ _) => Lib.hid (ask_end O4.out C4.out BX.out HX.out f4 f3 (by omega) (by omega) QC.out VO.out (by repeat (first | assumption | exact grown_refl _ _ | refine grown_drew ?_ | refine grown_alloc _ ?_)) hg4 (ys := x ++ [r]) (by rw [← ints_snoc, List.length_append]; exact hown4) hl); have ENL := EN hloc4; have qg := (grown_cell hg4 (by simp; omega) (fun e => VG.out e.symm)).trans (alloc_keep QC.out); obtain ⟨csC, hcC, -⟩ := C4.out; have qf := free_at (j := k) (grown_at hg4 (at_alloc _ hcC) (fun e => VG.out e.symm)); have zx3 := hg4.size; have zx4 := lt_of_cell qg; clear hown4 hg4 hloc4 EN hcC
      refine hK.out _ _ ?_ (fun hHeld2 => ?_)
      · ((try dsimp only); first | assumption | exact CB.out.1 | exact alloc_keep CB.out.1 | exact set_keep s3 (by simp; omega))
      clear hK K
      try simp only [Act.put, List.setIfInBounds_toArray, List.set_cons_zero, List.set_cons_succ]
      refine wpAnyH_ready (rs := [11]) (by kernel_rfl) (by simp) ?_
      refine AllReadyH.cons (o := _) rfl (fun K hK => ?_) AllReadyH.nil
      go_simp
      refine hK.out _ _ ?_ (fun hHeld2 => ?_)
      · ((try dsimp only); first | assumption | exact CB.out.1 | exact alloc_keep CB.out.1 | exact set_keep s3 (by simp; omega))
      clear hK K
      try simp only [Act.put, List.setIfInBounds_toArray, List.set_cons_zero, List.set_cons_succ]
      refine wpAnyH_ready (rs := [12]) (by kernel_rfl) (by simp) ?_
      refine AllReadyH.cons (o := _) rfl (fun K hK => ?_) AllReadyH.nil
      go_simp
      refine hK.out _ _ ?_ (fun hHeld2 => ?_)
      · ((try dsimp only); first | assumption | exact CB.out.1 | exact alloc_keep CB.out.1 | exact set_keep s3 (by simp; omega))
      clear hK K
      try simp only [Act.put, List.setIfInBounds_toArray, List.set_cons_zero, List.set_cons_succ]
      refine wpAnyH_done (by kernel_rfl) ?_ _
      go_wp2_with fail
      go_meet
      rw [AL.out]
      exact ENL.out
  case rest =>
  obtain ⟨hO5, hC5, hBZ⟩ := hcut
  have O5 := Lib.hid hO5
  have C5 := Lib.hid hC5
  have BZ := Lib.hid hBZ
  clear hO5 hC5 hBZ BX O4 C4 CB VO VG q1 q2
  clear p1 p2 p3 p4 p5 p6
  obtain ⟨p1, p2, p3, p4, p5, p6⟩ := BZ.out.facts
  obtain ⟨s0, s1⟩ := two_get BZ.out.2.1 (.slice (some ⟨g1, 0, none⟩) n2 k1) (.slice (some ⟨g2, 0, none⟩) n2 k2)
  obtain ⟨hz1, hz2⟩ := BZ.out.out (.slice (some ⟨g1, 0, none⟩) n2 k1) (.slice (some ⟨g2, 0, none⟩) n2 k2)
  have GZ := Lib.hid hz1
  have O6 := Lib.hid (O5.out.kept hz2 (by simp; omega))
  have C6 := Lib.hid (C5.out.kept hz2 (fun b hb => by obtain rfl := Option.some.inj hb; omega))
  clear hz1 hz2 O5 C5 BZ
  go_wp2_with fail
  exact bodyPost_ret (v := .tuple #[lkV (some ⟨g1, 0, none⟩) n2 k1 (some ⟨g2, 0, none⟩) n2 k2, .int .i64 0]) (by simp [results, Try.results27, go_sem, s0, s1]) rfl (by rw [EV.out, EE.out]; exact ⟨_, rfl, fun R hR => lkV_own (l := askL l r (k : Int)) O6.out C6.out (w0 := w.heap.size) (by omega) (by omega) (by omega) hR, GZ.out⟩)
end Go.Proofs.Ytbpobekmbdngbaa
