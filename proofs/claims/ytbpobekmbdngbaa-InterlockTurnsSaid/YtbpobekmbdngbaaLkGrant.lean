/- The contracts of Grant (program and reference). -/
import Derived.Test.YtbpobekmbdngbaaLkLeave
import Derived.Test.YtbpobekmbdngbaaLkSame
namespace Go.Proofs.Ytbpobekmbdngbaa
open Go.RowKit
set_option linter.unusedVariables false

/-! ### The law -/
def grantV (l : Lk) (closed : List Bool) : Lk := if grantE l closed.length = 0 then (grantTo l closed l.own.length).1 else zeroL
def grantG (l : Lk) (closed : List Bool) : List (Int × Int) := if grantE l closed.length = 0 then (grantTo l closed l.own.length).2 else []
theorem grant_bad {l : Lk} {closed : List Bool} {m : Nat} {c : Int} (hm : closed.length = m) (h : grantE l m = c) (hc : c ≠ 0) : grantV l closed = zeroL ∧ grantG l closed = [] := by
  subst hm
  unfold grantV grantG
  rw [if_neg (by rw [h]; exact hc), if_neg (by rw [h]; exact hc)]
  exact ⟨rfl, rfl⟩
theorem grant_good {l : Lk} {closed : List Bool} {m n : Nat} (hm : closed.length = m) (h : grantE l m = 0) (hn : l.own.length = n) : grantV l closed = (grantTo l closed n).1 ∧ grantG l closed = (grantTo l closed n).2 := by
  subst hm
  unfold grantV grantG
  rw [if_pos h, if_pos h, hn]
  exact ⟨rfl, rfl⟩
theorem grantTo_skip {l : Lk} {closed : List Bool} {k : Nat} {o : Int} {x : List Int} {b : Bool} (ho : l.own[k]? = some o) (hx : l.q[k]? = some x) (hb : closed[k]? = some b) (h : o ≠ -1 ∨ b = true ∨ x = []) : grantTo l closed (k + 1) = grantTo l closed k := by
  rw [grantTo, qAt_of hx]
  cases x with
  | nil => rfl
  | cons r rest =>
    simp only
    rw [if_neg]
    rintro ⟨h1, h2⟩
    rw [oAt_of ho] at h1
    rw [hb] at h2
    rcases h with h | h | h
    · exact h h1
    · subst h; simp at h2
    · cases h
theorem grantTo_take {l : Lk} {closed : List Bool} {k : Nat} {r : Int} {rest : List Int} (ho : l.own[k]? = some (-1)) (hx : l.q[k]? = some (r :: rest)) (hb : closed[k]? = some false) :
    grantTo l closed (k + 1) = (⟨(grantTo l closed k).1.own.set k r, (grantTo l closed k).1.q.set k rest⟩, (grantTo l closed k).2 ++ [(r, (k : Int))]) := by
  rw [grantTo, qAt_of hx]
  simp only
  rw [if_pos ⟨oAt_of ho, hb⟩]
theorem grantTo_kept (l : Lk) (closed : List Bool) (k : Nat) : (∀ j, k ≤ j → (grantTo l closed k).1.own[j]? = l.own[j]? ∧ (grantTo l closed k).1.q[j]? = l.q[j]?) ∧ (grantTo l closed k).1.own.length = l.own.length ∧ (grantTo l closed k).1.q.length = l.q.length ∧ (grantTo l closed k).2.length ≤ k := by
  induction k with
  | zero => exact ⟨fun j _ => ⟨rfl, rfl⟩, rfl, rfl, Nat.le_refl _⟩
  | succ k ih =>
    obtain ⟨h1, h2, h3, h4⟩ := ih
    have skip : (∀ j, k + 1 ≤ j → (grantTo l closed k).1.own[j]? = l.own[j]? ∧ (grantTo l closed k).1.q[j]? = l.q[j]?) ∧ (grantTo l closed k).1.own.length = l.own.length ∧ (grantTo l closed k).1.q.length = l.q.length ∧ (grantTo l closed k).2.length ≤ k + 1 :=
      ⟨fun j hj => h1 j (by omega), h2, h3, by omega⟩
    rw [grantTo]
    split
    · exact skip
    · split
      · refine ⟨fun j hj => ?_, by simpa using h2, by simpa using h3, by simp; omega⟩
        simp only
        rw [List.getElem?_set_ne (by omega), List.getElem?_set_ne (by omega)]
        exact h1 j (by omega)
      · exact skip

/-! ### Memory -/
theorem Try.info_grant : (Try.prog.info? 51).map (fun i => (i.zero, i.size, i.bytes)) = some (some (.agg #[.int .i64 0, .int .i64 0]), 2, 16) := by kernel_rfl
theorem St_grant : SliceT Try.prog 47 51 (.agg #[.int .i64 0, .int .i64 0]) 2 16 := .mk' Try.underlying47 Try.info_grant rfl (by decide)
/-- As RdC; the lists lie below hi. -/
def RdU (w : World) (base hi g cap n : Nat) (xss : List (List Int)) : Prop :=
  ∃ cs : Array Value, w.heap[g]? = some (.cells cs 22 (0, 0)) ∧ cs.size = cap ∧ n ≤ cap ∧ xss.length = n ∧ cap ≤ maxLen ∧
    ∀ (i : Nat) (xs : List Int), xss[i]? = some xs → ∃ (A : Option Addr) (c : Nat), cs[i]? = some (.slice A xs.length c) ∧ xs.length ≤ c ∧ c ≤ maxLen ∧ (A = none → c = 0) ∧ RowIn w A xs.length 1 (ints xs) ∧ ∀ x, A = some x → base ≤ x.block ∧ x.block < hi ∧ x.block ≠ g
theorem OwnC.rdU {w : World} {base g cap n : Nat} {xss : List (List Int)} (h : OwnC w base g cap n xss) : RdU w base w.heap.size g cap n xss := by
  obtain ⟨cs, h1, h2, h3, h4, h6, h7⟩ := h
  refine ⟨cs, h1, h2, h3, h4, h6, fun i xs hi => ?_⟩
  obtain ⟨v, g1, g2, g3, _⟩ := h7 i xs hi
  obtain ⟨A, c, rfl, f1, f2, f3, f4⟩ := sliceIn_owns g2
  refine ⟨A, c, g1, f1, f2, f3, f4, fun x hx => ?_⟩
  subst hx
  exact ⟨(g2.lt x.block rfl).1, (g2.lt x.block rfl).2, fun e => g3 (by simp [Value.ownBlock, e])⟩
theorem RdU.rd {w : World} {base hi g cap n : Nat} {xss : List (List Int)} (h : RdU w base hi g cap n xss) : RdC w base g cap n xss := by
  obtain ⟨cs, h1, h2, h3, h4, h6, h7⟩ := h
  refine ⟨cs, h1, h2, h3, h4, h6, fun i xs hx => ?_⟩
  obtain ⟨A, c, g1, f1, f2, f3, f4, f5⟩ := h7 i xs hx
  exact ⟨A, c, g1, f1, f2, f3, f4, fun x hy => ⟨(f5 x hy).1, (f5 x hy).2.2⟩⟩
theorem RdU.lt {w : World} {base hi g cap n : Nat} {xss : List (List Int)} (h : RdU w base hi g cap n xss) : g < w.heap.size := h.rd.lt
theorem RdU.at {w : World} {base hi g cap n : Nat} {xss : List (List Int)} (h : RdU w base hi g cap n xss) {i : Nat} {xs : List Int} (hx : xss[i]? = some xs) :
    ∃ A c, w.cell? ⟨g, i, none⟩ = some (.slice A xs.length c) ∧ w.frozen? ⟨g, i, none⟩ = false ∧ xs.length ≤ c ∧ c ≤ maxLen ∧ (A = none → c = 0) ∧ RowIn w A xs.length 1 (ints xs) ∧ ∀ x, A = some x → base ≤ x.block ∧ x.block < hi ∧ x.block ≠ g := by
  obtain ⟨cs, h1, h2, h3, h4, h6, h7⟩ := h
  obtain ⟨A, c, g1, g2⟩ := h7 i xs hx
  exact ⟨A, c, by rw [cell_at h1, g1], free_at h1, g2⟩
theorem RdU.kept {w W : World} {base hi g cap n : Nat} {xss : List (List Int)} {r : Option Nat} (h : RdU w base hi g cap n xss) (hg : w.grownBy W r) (hr : ∀ b, r = some b → (b < base ∨ hi ≤ b) ∧ b ≠ g) : RdU W base hi g cap n xss := by
  obtain ⟨cs, h1, h2, h3, h4, h6, h7⟩ := h
  refine ⟨cs, grown_at hg h1 (fun e => (hr g e.symm).2 rfl), h2, h3, h4, h6, fun i xs hz => ?_⟩
  obtain ⟨A, c, g1, f1, f2, f3, f4, f5⟩ := h7 i xs hz
  refine ⟨A, c, g1, f1, f2, f3, f4.kept_but hg (fun x hx e => ?_), f5⟩
  have := f5 x hx
  have := (hr _ e.symm).1
  omega
instance {w W : World} {base hi g cap n : Nat} {xss : List (List Int)} : Stay none w W (RdU w base hi g cap n xss) (RdU W base hi g cap n xss) := ⟨fun hg h => h.kept hg (by simp)⟩
/-- The head of list k is taken away. -/
theorem RdU.tail {w : World} {base hi g cap n k b off b2 off2 c c2 : Nat} {xss : List (List Int)} {r : Int} {rest : List Int} (h : RdU w base hi g cap n xss) (hk : xss[k]? = some (r :: rest)) (hv : w.cell? ⟨g, k, none⟩ = some (.slice (some ⟨b, off, none⟩) (rest.length + 1) c))
    (h2 : rest.length ≤ c2) (h2m : c2 ≤ maxLen) (hp : b2 = b ∧ (rest.length = 0 ∨ off2 = off + 1)) : RdU (w.setCell ⟨g, k, none⟩ (.slice (some ⟨b2, off2, none⟩) rest.length c2)) base hi g cap n (xss.set k rest) := by
  obtain ⟨rfl, hp⟩ := hp
  obtain ⟨A, d, e1, e2, e3, e4, e5, e6, e7⟩ := h.at hk
  rw [hv] at e1
  simp only [Option.some.injEq, Value.slice.injEq, List.length_cons, true_and] at e1
  obtain ⟨rfl, rfl⟩ := e1
  have hrow : RowIn w (some ⟨b2, off2, none⟩) rest.length 1 (ints rest) := by
    rcases hp with h0 | rfl
    · exact ⟨by simp [ints], by omega, .inl h0⟩
    · have := e6.part 1 rest.length (by simp; omega)
      rw [Nat.mul_one, Nat.mul_one, show ((ints (r :: rest)).drop 1).take rest.length = ints rest from by show (ints rest).take rest.length = _; rw [List.take_of_length_le (by rw [ints_len]; exact Nat.le_refl _)]] at this
      exact this
  obtain ⟨cs, h1, h2', h3, h4, h6, h7⟩ := h
  have gs : w.grownBy (w.setCell ⟨g, k, none⟩ (.slice (some ⟨b2, off2, none⟩) rest.length c2)) (some g) := grown_set _ (grown_refl w _) (.inr rfl)
  have hkl := (List.getElem?_eq_some_iff.1 hk).1
  refine ⟨cs.setIfInBounds k _, at_set _ h1, by simpa using h2', h3, by simpa using h4, h6, fun j zs hj => ?_⟩
  have hbk := e7 _ rfl
  by_cases hji : k = j
  · subst hji
    obtain rfl : zs = rest := by
      rw [List.getElem?_set_self (by omega)] at hj
      exact (Option.some.inj hj).symm
    exact ⟨_, _, Array.getElem?_setIfInBounds_self_of_lt (by omega), h2, h2m, (fun h => by cases h), hrow.kept_but gs (fun x hx e => by obtain rfl := Option.some.inj hx; exact hbk.2.2 (Option.some.inj e)), fun x hx => by obtain rfl := Option.some.inj hx; exact hbk⟩
  · rw [List.getElem?_set_ne hji] at hj
    obtain ⟨B, d, g1, f1, f2, f3, f4, f5⟩ := h7 j zs hj
    exact ⟨B, d, by rw [Array.getElem?_setIfInBounds_ne hji]; exact g1, f1, f2, f3, f4.kept_but gs (fun x hx e => (f5 x hx).2.2 (Option.some.inj e)), f5⟩
/-- Behind k cells. -/
def GrInv (w wr : World) (base hi g1 k1 g2 k2 n : Nat) (own : List Int) (q : List (List Int)) (gs : List (Int × Int)) (vg : Value) : Prop :=
  OwnR wr g1 k1 n 3 1 (ints own) ∧ RdU wr base hi g2 k2 n q ∧ BoxRes w wr (.slice (some ⟨g1, 0, none⟩) n k1) (.slice (some ⟨g2, 0, none⟩) n k2) ∧ wr.ownsRow hi 51 2 vg gs.length (grs gs) ∧ hi ≤ wr.heap.size
theorem cell_gr {W : World} (r c : Int) (T : TypeId) {m : Nat} (hm : m = W.heap.size) : RowIn (W.alloc (.cells #[.int .i64 r, .int .i64 c] T)) (some ⟨m, 0, none⟩) 1 2 [.int .i64 r, .int .i64 c] := by
  subst hm
  exact rowIn_block (n := 1) (size := 2) (at_new W _) rfl (by unfold maxLen; omega)
theorem grs_snoc (gs : List (Int × Int)) (r c : Int) : grs gs ++ [.int .i64 r, .int .i64 c] = grs (gs ++ [(r, c)]) := by simp [grs, gc]
section
variable {w wr : World} {base hi g1 k1 g2 k2 n : Nat} {own : List Int} {q : List (List Int)} {gs : List (Int × Int)} {vg : Value}
theorem GrInv.kept {W : World} (h : GrInv w wr base hi g1 k1 g2 k2 n own q gs vg) (hg : wr.grownBy W none) : GrInv w W base hi g1 k1 g2 k2 n own q gs vg :=
  ⟨h.1.kept hg (by simp), h.2.1.kept hg (by simp), h.2.2.1.kept hg (by simp), h.2.2.2.1.kept hg (Classical.em _), Nat.le_trans h.2.2.2.2 hg.size⟩
instance {W : World} : Stay none wr W (GrInv w wr base hi g1 k1 g2 k2 n own q gs vg) (GrInv w W base hi g1 k1 g2 k2 n own q gs vg) := ⟨fun hg h => h.kept hg⟩
theorem GrInv.app {W Xa : World} {v3 : Value} {r c : Int} (h : GrInv w wr base hi g1 k1 g2 k2 n own q gs vg) (ga : wr.grownBy Xa none) (hg : Xa.grownBy W vg.ownBlock) (ho : W.ownsRow hi 51 2 v3 (gs.length + 1) (grs gs ++ [.int .i64 r, .int .i64 c]))
    (h1 : g1 < hi) (h2 : g2 < hi) (h3 : w.heap.size + 1 < hi) : GrInv w W base hi g1 k1 g2 k2 n own q (gs ++ [(r, c)]) v3 := by
  have hA := h.kept ga
  have hb : ∀ b, vg.ownBlock = some b → hi ≤ b := fun b hb => (h.2.2.2.1.lt b hb).1
  exact ⟨hA.1.kept hg (fun e => by have := hb g1 e.symm; omega), hA.2.1.kept hg (fun b e => by have := hb b e; omega), hA.2.2.1.kept hg (fun b e => by have := hb b e; omega), by rw [List.length_append, ← grs_snoc]; exact ho, Nat.le_trans hA.2.2.2.2 hg.size⟩
theorem GrInv.setOwn (h : GrInv w wr base hi g1 k1 g2 k2 n own q gs vg) (k : Nat) (r : Int) (h1 : g1 < hi) (h2 : g1 < base) (h3 : g1 ≠ g2) (h4 : w.heap.size + 1 < g1) : GrInv w (wr.setCell ⟨g1, k, none⟩ (.int .i64 r)) base hi g1 k1 g2 k2 n (own.set k r) q gs vg := by
  have gg := grown_set (p := ⟨g1, k, none⟩) (.int .i64 r) (grown_refl wr (some g1)) (.inr rfl)
  have := h.1.set (i := k) (.int .i64 r)
  rw [ints_set1] at this
  exact ⟨this, h.2.1.kept gg (fun b e => by obtain rfl := Option.some.inj e; exact ⟨.inl h2, h3⟩), h.2.2.1.kept gg (fun b e => by obtain rfl := Option.some.inj e; exact h4), h.2.2.2.1.kept gg (.inr (owns_ne h.2.2.2.1 h1)), Nat.le_trans h.2.2.2.2 gg.size⟩
theorem GrInv.que {k b off b2 off2 c c2 : Nat} {r : Int} {rest : List Int} (h : GrInv w wr base hi g1 k1 g2 k2 n own q gs vg) (hk : q[k]? = some (r :: rest)) (hv : wr.cell? ⟨g2, k, none⟩ = some (.slice (some ⟨b, off, none⟩) (rest.length + 1) c)) (h2 : rest.length ≤ c2) (h2m : c2 ≤ maxLen) (hp : b2 = b ∧ (rest.length = 0 ∨ off2 = off + 1))
    (h1 : g2 < hi) (h3 : g1 ≠ g2) (h4 : w.heap.size + 1 < g2) : GrInv w (wr.setCell ⟨g2, k, none⟩ (.slice (some ⟨b2, off2, none⟩) rest.length c2)) base hi g1 k1 g2 k2 n own (q.set k rest) gs vg := by
  have gg := grown_set (p := ⟨g2, k, none⟩) (.slice (some ⟨b2, off2, none⟩) rest.length c2) (grown_refl wr (some g2)) (.inr rfl)
  exact ⟨h.1.kept gg (by simp; exact h3), h.2.1.tail hk hv h2 h2m hp, h.2.2.1.kept gg (fun b e => by obtain rfl := Option.some.inj e; exact h4), h.2.2.2.1.kept gg (.inr (owns_ne h.2.2.2.1 h1)), Nat.le_trans h.2.2.2.2 gg.size⟩
end
theorem lkV_empty {R : Option Nat} {w W : World} {b1 b2 : Option Addr} {d1 d2 : Nat} {l : Lk} (h : LkV R w (lkV b1 0 d1 b2 0 d2) l) : LkV R W (lkV b1 0 d1 b2 0 d2) l := by
  obtain ⟨a1, n1, c1, a2, n2, c2, he, ⟨⟨h1, h1b⟩, cs, ⟨h2, h2b⟩, h3, h4⟩, h5⟩ := h
  simp only [Value.agg.injEq, Array.mk.injEq, List.cons.injEq, Value.slice.injEq, and_true] at he
  obtain ⟨⟨rfl, rfl, rfl⟩, rfl, rfl, rfl⟩ := he
  refine ⟨_, _, _, _, _, _, rfl, ⟨⟨⟨h1.1, h1.2.1, .inl rfl⟩, h1b⟩, cs, ⟨⟨h2.1, h2.2.1, .inl rfl⟩, h2b⟩, h3, fun i xs hi => ?_⟩, h5⟩
  have := (List.getElem?_eq_some_iff.1 hi).1
  have := h2.1
  omega
def GiveGr (l : Lk) (gs : List (Int × Int)) (err : Int) (w : World) (e : Ending) (w' : World) : Prop :=
  ∃ v A c, e = .returned (.tuple #[v, .slice A gs.length c, .int .i64 err]) ∧ gs.length ≤ c ∧ RowIn w' A gs.length 2 (grs gs) ∧ (∀ x, A = some x → w.heap.size ≤ x.block) ∧ (∀ R, (∀ b, R = some b → b < w.heap.size) → LkV R w' v l) ∧ w.grownBy w' none

set_option maxRecDepth 100000 in
set_option maxHeartbeats 12800000 in
theorem Grant_any (v : Value) (l : Lk) (ac : Option Addr) (nb cb : Nat) (closed : List Bool) (w : World) (h : LkV none w v l) (hc : RowIn w ac nb 1 (bools closed)) :
    Calls Try.prog 18 #[v, .slice ac nb cb] w (GiveGr (grantV l closed) (grantG l closed) (grantE l closed.length) w) := by
  obtain ⟨a1, n1, c1, a2, n2, c2, rfl, h⟩ := h
  obtain ⟨l1, l2, m1, m2⟩ := h.len
  have L1 := Lib.hid l1
  have L2 := Lib.hid l2
  have LB := Lib.hid hc.len1b
  have CL := Lib.hid hc
  have K0 := keep (boxRes_new w (.slice a1 n1 c1) (.slice a2 n2 c2)).2.2 (Lib.hid h)
  have BR0 := Lib.hid (boxRes_new w (.slice a1 n1 c1) (.slice a2 n2 c2))
  have hm3 := hc.2.1
  unfold maxLen at hm3
  clear h l1 l2 hc
  go_enter Try.func18, Try.ntmps18
  go_wp2_with fail
  refine (Valid_any _ l _ ⟨a1, n1, c1, a2, n2, c2, rfl, K0.out⟩).mono ?_
  rintro e w1 ⟨rfl, hg⟩
  have K1 := keep hg K0
  have BR := keep hg BR0
  clear hg K0 BR0
  cases hV : validL l
  · have EE : Hid (grantE l nb = 20) := Lib.hid (by unfold grantE; rw [if_pos hV])
    clear hV
    obtain ⟨ev, ec⟩ := grant_bad LB.out EE.out (by decide)
    have EV := Lib.hid ev
    have EG := Lib.hid ec
    clear ev ec
    obtain ⟨s0, s1⟩ := two_get BR.out.2.1 (.slice none 0 0) (.slice none 0 0)
    obtain ⟨p1, p2, p3, p4, p5, p6⟩ := BR.out.facts
    have GZ := Lib.hid (BR.out.out (.slice none 0 0) (.slice none 0 0)).1
    clear BR
    go_wp2_with fail
    exact bodyPost_ret (v := .tuple #[lkV none 0 0 none 0 0, .slice none 0 0, .int .i64 (20)]) (by simp [results, Try.results18, go_sem, s0, s1]) rfl (by rw [EV.out, EG.out, LB.out, EE.out]; exact ⟨_, none, 0, rfl, Nat.le_refl _, rowIn_nil _ _, by simp, fun R _ => lkV_zero R _, GZ.out⟩)
  have HV := Lib.hid hV
  have VL0 := Lib.hid (valid_iff.1 hV)
  have h12 : n2 = n1 := by have := VL0.out.len; rw [L1.out, L2.out] at this; omega
  subst h12
  have hn48 : n2 ≤ 48 := by have := VL0.out.le; rw [L1.out] at this; omega
  have E0 : Hid (grantE l nb = if nb ≠ n2 then 19 else 0) := Lib.hid (by unfold grantE; rw [if_neg (by rw [hV]; decide), L1.out])
  clear hV
  obtain ⟨p1, p2, p3, p4, p5, p6⟩ := BR.out.facts
  by_cases hnb : nb = n2
  rotate_left
  · have EE : Hid (grantE l nb = 19) := Lib.hid (by rw [E0.out, if_pos hnb])
    have t1 : ((nb : Int) == n2) = false := beq_eq_false_iff_ne.2 (by omega)
    have t2 : ((nb : Int) != n2) = true := by simp [bne, t1]
    clear hnb p1 p2 p3 p4 p5 p6
    obtain ⟨ev, ec⟩ := grant_bad LB.out EE.out (by decide)
    have EV := Lib.hid ev
    have EG := Lib.hid ec
    clear ev ec
    obtain ⟨s0, s1⟩ := two_get BR.out.2.1 (.slice none 0 0) (.slice none 0 0)
    obtain ⟨p1, p2, p3, p4, p5, p6⟩ := BR.out.facts
    have GZ := Lib.hid (BR.out.out (.slice none 0 0) (.slice none 0 0)).1
    clear BR
    go_wp2_with fail
    exact bodyPost_ret (v := .tuple #[lkV none 0 0 none 0 0, .slice none 0 0, .int .i64 (19)]) (by simp [results, Try.results18, go_sem, s0, s1]) rfl (by rw [EV.out, EG.out, LB.out, EE.out]; exact ⟨_, none, 0, rfl, Nat.le_refl _, rowIn_nil _ _, by simp, fun R _ => lkV_zero R _, GZ.out⟩)
  subst hnb
  have EE : Hid (grantE l nb = 0) := Lib.hid (by rw [E0.out, if_neg (fun h => h rfl)])
  obtain ⟨ev, eg⟩ := grant_good LB.out EE.out L1.out
  have EV := Lib.hid ev
  have EG := Lib.hid eg
  clear ev eg E0
  go_wp2_with fail
  refine (clone_any _ l _ ⟨_, _, _, _, _, _, rfl, K1.out⟩ HV.out).mono ?_
  rintro e w3 ⟨v1, v2, rfl, hF, hg⟩
  have BR3 := keep hg BR
  have CL3 := CL
  have zz := hg.size
  have zw6 := p6
  by_cases hn0 : nb = 0
  · subst hn0
    have FL := Lib.hid hF
    obtain ⟨b1, j1, d1, b2, j2, d2, he, hL⟩ := hF.lk (R := none) (by simp)
    simp only [Value.agg.injEq, Array.mk.injEq, List.cons.injEq, and_true] at he
    obtain ⟨rfl, rfl⟩ := he
    obtain ⟨x1, x2, -, -⟩ := hL.len
    rw [L1.out] at x1
    rw [L2.out] at x2
    subst x1
    subst x2
    clear hF hL hg BR p1 p2 p3 p4 p5 p6
    obtain ⟨p1, p2, p3, p4, p5, p6⟩ := BR3.out.facts
    go_upto_region 6 with fail
    have BX := Lib.hid (@BoxRes.put _ _ _ _ (.slice b1 0 d1) (.slice b2 0 d2) BR3.out)
    have gB := @boxRes_box w w3 (.slice b1 0 d1) (.slice b2 0 d2)
    have FX : Hid (∀ R, (∀ b, R = some b → b < w.heap.size) → ∀ W, w3.grownBy W (some (w.heap.size + 1)) → True) := Lib.hid (fun _ _ _ _ => trivial)
    obtain ⟨X, hX⟩ : ∃ X, X = (w3.setCell ⟨w.heap.size, 0, none⟩ (.slice b1 0 d1)).setCell ⟨w.heap.size, 1, none⟩ (.slice b2 0 d2) := ⟨_, rfl⟩
    rw [← hX] at BX gB ⊢
    clear hX BR3 FX p1 p2 p3 p4 p5 p6
    obtain ⟨p1, p2, p3, p4, p5, p6⟩ := BX.out.facts
    obtain ⟨s0, s1⟩ := two_get BX.out.2.1 (.slice b1 0 d1) (.slice b2 0 d2)
    obtain ⟨hz1, hz2⟩ := BX.out.out (.slice b1 0 d1) (.slice b2 0 d2)
    have GZ := Lib.hid hz1
    have LF : Hid (∀ R, (∀ b, R = some b → b < w.heap.size) → LkV R ((X.setCell ⟨w.heap.size + 1, 0, none⟩ (.slice b1 0 d1)).setCell ⟨w.heap.size + 1, 1, none⟩ (.slice b2 0 d2)) (lkV b1 0 d1 b2 0 d2) l) := Lib.hid (fun R hR => lkV_empty (FL.out.lk (R := R) (fun b hb => by have := hR b hb; omega)))
    clear hz1 hz2 gB FL
    go_wp2_with fail
    go_loopw [7, 8, 9, 28] (fun vg _ _ i wr => vg = .slice none 0 0 ∧ i = .int .i64 0 ∧ wr = X) (fun _ _ _ _ _ => 0)
    case atStart => exact ⟨rfl, rfl, rfl⟩
    case round =>
      obtain ⟨rfl, rfl, rfl⟩ := hrel
      go_wp2_with fail
      exact bodyPost_ret (v := .tuple #[lkV b1 0 d1 b2 0 d2, .slice none 0 0, .int .i64 0]) (by simp [results, Try.results18, go_sem, s0, s1]) rfl (by rw [EV.out, EG.out, LB.out, EE.out]; exact ⟨_, none, 0, rfl, Nat.le_refl _, rowIn_nil _ _, by simp, LF.out, GZ.out⟩)
  obtain ⟨g1, k1, g2, k2, base, rfl, rfl, f1, f2, f3, f4, f5, f6, hO, hC⟩ := hF.open (by rw [L1.out]; omega) (by rw [L2.out]; omega)
  have LL1 := L1
  have LL2 := L2
  rw [LL1.out] at hO
  rw [LL2.out] at hC
  rw [LL1.out, LL2.out]
  clear LL1 LL2
  clear hg hF BR K1 p1 p2 p3 p4 p5 p6
  obtain ⟨p1, p2, p3, p4, p5, p6⟩ := BR3.out.facts
  obtain ⟨hcap1, hcap2⟩ := hO.capLe
  obtain ⟨hcap3, hcap4, -⟩ := hC.capLe
  go_upto_region 6 with fail
  have gB := @boxRes_box w w3 (.slice (some ⟨g1, 0, none⟩) nb k1) (.slice (some ⟨g2, 0, none⟩) nb k2)
  have BX := Lib.hid (@BoxRes.put _ _ _ _ (.slice (some ⟨g1, 0, none⟩) nb k1) (.slice (some ⟨g2, 0, none⟩) nb k2) BR3.out)
  have O4 := Lib.hid (hO.kept gB (by simp; omega))
  have C4 := Lib.hid (hC.kept gB (fun b hb => by obtain rfl := Option.some.inj hb; omega))
  obtain ⟨X, hX⟩ : ∃ X, X = (w3.setCell ⟨w.heap.size, 0, none⟩ (.slice (some ⟨g1, 0, none⟩) nb k1)).setCell ⟨w.heap.size, 1, none⟩ (.slice (some ⟨g2, 0, none⟩) nb k2) := ⟨_, rfl⟩
  rw [← hX] at BX O4 C4 ⊢
  have zX : w3.heap.size = X.heap.size := by rw [hX]; simp
  have I0 : Hid (GrInv w X base X.heap.size g1 k1 g2 k2 nb l.own l.q [] (.slice none 0 0)) := Lib.hid ⟨O4.out, C4.out.rdU, BX.out, World.ownsRow_nil _ _ _ _, Nat.le_refl _⟩
  have zg1 := O4.out.lt
  have zg2 := C4.out.lt
  have zb : base ≤ X.heap.size := by omega
  clear gB hO hC BR3 hX zX O4 C4 f6 p1 p2 p3 p4 p5 p6
  obtain ⟨p1, p2, p3, p4, p5, p6⟩ := BX.out.facts
  go_wp2_with fail
  clear BX p1 p2 p3 p4 p5 p6
  obtain ⟨hi, hhi⟩ : ∃ hi, X.heap.size = hi := ⟨_, rfl⟩
  have HHI := Lib.hid hhi
  rw [hhi] at zg1 zg2 zb I0
  clear hhi
  go_loopw [7, 8, 9, 28] (fun vg _ _ i wr => ∃ k : Nat, k ≤ nb ∧ i = .int .i64 k ∧ GrInv w wr base hi g1 k1 g2 k2 nb (grantTo l closed k).1.own (grantTo l closed k).1.q (grantTo l closed k).2 vg) (fun _ _ _ i _ => nb - (intOf i).toNat)
  case atStart => exact ⟨0, by omega, rfl, I0.out⟩
  case round =>
    obtain ⟨k, hk, rfl, hI⟩ := hrel
    have I := Lib.hid hI
    obtain ⟨p1, p2, p3, p4, p5, p6⟩ := hI.2.2.1.facts
    obtain ⟨hkp, hkl1, hkl2, hkl3⟩ := grantTo_kept l closed k
    have KP := Lib.hid hkp
    clear hI hkp hkl1 hkl2 I0
    by_cases hkn : k < nb
    · obtain ⟨o, ho⟩ : ∃ o, l.own[k]? = some o := ⟨_, List.getElem?_eq_getElem (by rw [L1.out]; exact hkn)⟩
      obtain ⟨x, hx⟩ : ∃ x, l.q[k]? = some x := ⟨_, List.getElem?_eq_getElem (by rw [L2.out]; exact hkn)⟩
      obtain ⟨b, hb⟩ : ∃ b, closed[k]? = some b := ⟨_, List.getElem?_eq_getElem (by rw [LB.out]; exact hkn)⟩
      have ho' := ((KP.out k (Nat.le_refl _)).1).trans ho
      have hx' := ((KP.out k (Nat.le_refl _)).2).trans hx
      have q1 := I.out.1.cell (i := k) (v := .int .i64 o) (by simp [ints, ho'])
      have q2 := I.out.1.free k
      obtain ⟨A, cx, r1, r2, r3, r4, r5, r6, r7⟩ := I.out.2.1.at hx'
      obtain ⟨bc, oc, rfl, zbc, d3⟩ := (RowIn.kept CL.out I.out.2.2.1.2.2).bool hb
      have z1 := I.out.1.lt
      have z2 := I.out.2.1.lt
      have R6 := Lib.hid r6
      have R7 := Lib.hid r7
      have R5 := Lib.hid r5
      have SK := fun h => Lib.hid (grantTo_skip (l := l) (closed := closed) ho hx hb h)
      have HX := Lib.hid hx'
      have HOo := Lib.hid ho
      have HXx := Lib.hid hx
      have HB := Lib.hid hb
      have R1 := Lib.hid r1
      unfold maxLen at r4
      have hk' : (k : Int) < nb := by omega
      clear ho hx hb ho' hx' r5 r6 r7
      by_cases h1 : o = -1
      rotate_left
      · have S := SK (.inl h1)
        have t1 : (o == -1) = false := beq_eq_false_iff_ne.2 h1
        clear h1 SK
        go_wp2_with fail
        go_roundw
        case rel => exact ⟨k + 1, by omega, by go_num, by rw [S.out]; exact I.out⟩
        case measure => simp [intOf]; omega
      subst h1
      cases b
      rotate_left
      · have S := SK (.inr (.inl rfl))
        clear SK
        go_wp2_with fail
        go_roundw
        case rel => exact ⟨k + 1, by omega, by go_num, by rw [S.out]; exact I.out⟩
        case measure => simp [intOf]; omega
      cases x with
      | nil =>
        have S := SK (.inr (.inr rfl))
        clear SK
        simp only [List.length_nil] at r1
        go_wp2_with fail
        go_roundw
        case rel => exact ⟨k + 1, by omega, by go_num, by rw [S.out]; exact I.out⟩
        case measure => simp [intOf]; omega
      | cons r rest =>
        have S := Lib.hid (grantTo_take HOo.out HXx.out HB.out)
        clear SK
        simp only [List.length_cons] at r1 r3 R6 R1
        obtain ⟨bx, ox, rfl, hcx⟩ := R6.out.at (by omega)
        have x0 : wr.cell? ⟨bx, ox, none⟩ = some (.int .i64 r) := hcx 0 _ rfl
        have zx0 := lt_of_cell x0
        obtain ⟨rb1, rb2, rb3⟩ := R7.out _ rfl
        simp only at rb1 rb2 rb3 zx0
        have hr0 : (0 : Int) < (rest.length : Int) + 1 := by omega
        have hr1 : (1 : Int) ≤ (rest.length : Int) + 1 := by omega
        have hr2 : (rest.length : Int) + 1 ≤ cx := by omega
        have hr3 : (1 : Int) ≤ cx := by omega
        clear hcx
        go_wp2_with (at_builtin; refine wpList_append_in St_grant rfl (.tmp 51) (.tmp 57) rfl rfl (I.out.2.2.2.1.alloc (.cells #[.int .i64 r, .int .i64 k] 51)) rfl (news := [.int .i64 r, .int .i64 k]) (cell_gr _ _ _ (by first | rfl | simp)) (fun h => by cases h) (flat_one rfl) ?c1 ?c2 ?c3 ?_)
        case c1 => unfold maxLen; omega
        case c2 => omega
        case c3 => rw [World.size_alloc]; have := I.out.2.2.2.2; omega
        intro v3 x3 hown hg hloc
        clear hloc
        have I2 := Lib.hid (I.out.app (grown_alloc (.cells #[.int .i64 r, .int .i64 k] 51) (grown_refl wr none)) hg hown (by omega) (by omega) (by omega))
        have hne : ∀ bb, bb < hi → some bb ≠ u7.ownBlock := fun bb hbb e => by have := (I.out.2.2.2.1.lt bb e.symm).1; omega
        have C2 := Lib.hid ((grown_cell hg (by simp; omega) (hne g2 (by omega))).trans (alloc_keep R1.out))
        have X2 := (grown_cell hg (a := ⟨bx, ox, none⟩) (by simp; omega) (hne bx rb2)).trans (alloc_keep x0)
        clear p1 p2 p3 p4 p5 p6 q1 q2 r1 x0
        obtain ⟨p1, p2, p3, p4, p5, p6⟩ := I2.out.2.2.1.facts
        have S2 : Hid (x3.cell? ⟨w.heap.size, 0, none⟩ = some (.slice (some ⟨g1, 0, none⟩) nb k1) ∧ x3.cell? ⟨w.heap.size, 1, none⟩ = some (.slice (some ⟨g2, 0, none⟩) nb k2) ∧ x3.cell? ⟨bx, ox, none⟩ = some (.int .i64 r)) := Lib.hid ⟨by rw [p1]; rfl, by rw [p1]; rfl, X2⟩
        have zq1 := I2.out.1.lt
        have zq2 := I2.out.2.1.lt
        have ho2 := I2.out.1.cell (i := k) (v := .int .i64 (-1)) (by simp [ints, ((KP.out k (Nat.le_refl _)).1).trans HOo.out])
        have hf2 := I2.out.1.free k
        obtain ⟨A9, c9, -, hf3, -⟩ := I2.out.2.1.at HX.out
        have c2c := C2.out
        clear hown hg hne I zbc d3
        go_upto_region 12 with fail
        by_cases hre : rest.length = 0
        · obtain rfl : rest = [] := List.eq_nil_of_length_eq_zero hre
          have I3 := Lib.hid ((I2.out.setOwn k r (by omega) f4 f3 (by omega)).que (k := k) (b := bx) (off := ox) (b2 := bx) (off2 := ox) (c := cx) (c2 := 0) HX.out (set_keep C2.out (by simpa using f3)) (by omega) (by unfold maxLen; omega) ⟨rfl, .inl rfl⟩ (by omega) f3 (by omega))
          go_region_held3 (fun w' => w'.cell? ⟨w.heap.size, 0, none⟩ = some (.slice (some ⟨g1, 0, none⟩) nb k1) ∧ w'.cell? ⟨w.heap.size, 1, none⟩ = some (.slice (some ⟨g2, 0, none⟩) nb k2) ∧ w'.cell? ⟨bx, ox, none⟩ = some (.int .i64 r)) (first | exact S2.out | (exact ⟨set_keep S2.out.1 (by simp; omega), set_keep S2.out.2.1 (by simp; omega), set_keep S2.out.2.2 (by simp; omega)⟩) | (exact ⟨set_keep (set_keep S2.out.1 (by simp; omega)) (by simp; omega), set_keep (set_keep S2.out.2.1 (by simp; omega)) (by simp; omega), set_keep (set_keep S2.out.2.2 (by simp; omega)) (by simp; omega)⟩)) (fail)
          go_wp2_with fail
          go_roundw
          case rel => exact ⟨k + 1, by omega, by go_num, by rw [S.out]; exact I3.out.kept (grown_drew (grown_refl _ none))⟩
          case measure => simp [intOf]; omega
        · have hne0 : ¬ rest.length = 0 := hre
          have I3 := Lib.hid ((I2.out.setOwn k r (by omega) f4 f3 (by omega)).que (k := k) (b := bx) (off := ox) (b2 := bx) (off2 := ox + 1) (c := cx) (c2 := rest.length) HX.out (set_keep C2.out (by simpa using f3)) (by omega) (by unfold maxLen; omega) ⟨rfl, .inr rfl⟩ (by omega) f3 (by omega))
          go_region_held3 (fun w' => w'.cell? ⟨w.heap.size, 0, none⟩ = some (.slice (some ⟨g1, 0, none⟩) nb k1) ∧ w'.cell? ⟨w.heap.size, 1, none⟩ = some (.slice (some ⟨g2, 0, none⟩) nb k2) ∧ w'.cell? ⟨bx, ox, none⟩ = some (.int .i64 r)) (first | exact S2.out | (exact ⟨set_keep S2.out.1 (by simp; omega), set_keep S2.out.2.1 (by simp; omega), set_keep S2.out.2.2 (by simp; omega)⟩) | (exact ⟨set_keep (set_keep S2.out.1 (by simp; omega)) (by simp; omega), set_keep (set_keep S2.out.2.1 (by simp; omega)) (by simp; omega), set_keep (set_keep S2.out.2.2 (by simp; omega)) (by simp; omega)⟩)) (fail)
          go_wp2_with fail
          go_roundw
          case rel => exact ⟨k + 1, by omega, by go_num, by rw [S.out]; exact I3.out.kept (grown_drew (grown_refl _ none))⟩
          case measure => simp [intOf]; omega
    · obtain rfl : k = nb := by omega
      clear hkn
      obtain ⟨s0, s1⟩ := two_get I.out.2.2.1.2.1 (.slice (some ⟨g1, 0, none⟩) k k1) (.slice (some ⟨g2, 0, none⟩) k k2)
      obtain ⟨hz1, hz2⟩ := I.out.2.2.1.out (.slice (some ⟨g1, 0, none⟩) k k1) (.slice (some ⟨g2, 0, none⟩) k k2)
      have GZ := Lib.hid hz1
      have O6 := Lib.hid (I.out.1.kept hz2 (by simp; omega))
      have C6 := Lib.hid (I.out.2.1.rd.kept hz2 (fun b hb => by obtain rfl := Option.some.inj hb; omega))
      have V6 := Lib.hid (I.out.2.2.2.1.kept hz2 (.inr (owns_ne I.out.2.2.2.1 (by omega))))
      obtain ⟨A7, c7, rfl, y1, y2, y3, y4⟩ := sliceIn_owns V6.out
      have Y4 := Lib.hid y4
      have YB : Hid (∀ x, A7 = some x → w.heap.size ≤ x.block) := Lib.hid (fun x hx => by subst hx; have := (V6.out.lt x.block rfl).1; omega)
      clear hz1 hz2 I y2 y3 y4
      go_wp2_with fail
      exact bodyPost_ret (v := .tuple #[lkV (some ⟨g1, 0, none⟩) k k1 (some ⟨g2, 0, none⟩) k k2, .slice A7 (grantTo l closed k).2.length c7, .int .i64 0]) (by simp [results, Try.results18, go_sem, s0, s1]) rfl (by rw [EV.out, EG.out, LB.out, EE.out]; exact ⟨_, _, _, rfl, y1, Y4.out, YB.out, fun R hR => lkV_rd (l := (grantTo l closed k).1) O6.out C6.out (w0 := w.heap.size) (by omega) (by omega) (by omega) hR, GZ.out⟩)

set_option maxRecDepth 100000 in
set_option maxHeartbeats 12800000 in
theorem rGrant_any (v : Value) (l : Lk) (ac : Option Addr) (nb cb : Nat) (closed : List Bool) (w : World) (h : LkV none w v l) (hc : RowIn w ac nb 1 (bools closed)) :
    Calls Try.prog 29 #[v, .slice ac nb cb] w (GiveGr (grantV l closed) (grantG l closed) (grantE l closed.length) w) := by
  obtain ⟨a1, n1, c1, a2, n2, c2, rfl, h⟩ := h
  obtain ⟨l1, l2, m1, m2⟩ := h.len
  have L1 := Lib.hid l1
  have L2 := Lib.hid l2
  have LB := Lib.hid hc.len1b
  have CL := Lib.hid hc
  have K0 := keep (boxRes_new w (.slice a1 n1 c1) (.slice a2 n2 c2)).2.2 (Lib.hid h)
  have BR0 := Lib.hid (boxRes_new w (.slice a1 n1 c1) (.slice a2 n2 c2))
  have hm3 := hc.2.1
  unfold maxLen at hm3
  clear h l1 l2 hc
  go_enter Try.func29, Try.ntmps29
  go_wp2_with fail
  refine (rValid_any _ l _ ⟨a1, n1, c1, a2, n2, c2, rfl, K0.out⟩).mono ?_
  rintro e w1 ⟨rfl, hg⟩
  have K1 := keep hg K0
  have BR := keep hg BR0
  clear hg K0 BR0
  cases hV : validL l
  · have EE : Hid (grantE l nb = 20) := Lib.hid (by unfold grantE; rw [if_pos hV])
    clear hV
    obtain ⟨ev, ec⟩ := grant_bad LB.out EE.out (by decide)
    have EV := Lib.hid ev
    have EG := Lib.hid ec
    clear ev ec
    obtain ⟨s0, s1⟩ := two_get BR.out.2.1 (.slice none 0 0) (.slice none 0 0)
    obtain ⟨p1, p2, p3, p4, p5, p6⟩ := BR.out.facts
    have GZ := Lib.hid (BR.out.out (.slice none 0 0) (.slice none 0 0)).1
    clear BR
    go_wp2_with fail
    exact bodyPost_ret (v := .tuple #[lkV none 0 0 none 0 0, .slice none 0 0, .int .i64 (20)]) (by simp [results, Try.results29, go_sem, s0, s1]) rfl (by rw [EV.out, EG.out, LB.out, EE.out]; exact ⟨_, none, 0, rfl, Nat.le_refl _, rowIn_nil _ _, by simp, fun R _ => lkV_zero R _, GZ.out⟩)
  have HV := Lib.hid hV
  have VL0 := Lib.hid (valid_iff.1 hV)
  have h12 : n2 = n1 := by have := VL0.out.len; rw [L1.out, L2.out] at this; omega
  subst h12
  have hn48 : n2 ≤ 48 := by have := VL0.out.le; rw [L1.out] at this; omega
  have E0 : Hid (grantE l nb = if nb ≠ n2 then 19 else 0) := Lib.hid (by unfold grantE; rw [if_neg (by rw [hV]; decide), L1.out])
  clear hV
  obtain ⟨p1, p2, p3, p4, p5, p6⟩ := BR.out.facts
  by_cases hnb : nb = n2
  rotate_left
  · have EE : Hid (grantE l nb = 19) := Lib.hid (by rw [E0.out, if_pos hnb])
    have t1 : ((nb : Int) == n2) = false := beq_eq_false_iff_ne.2 (by omega)
    have t2 : ((nb : Int) != n2) = true := by simp [bne, t1]
    clear hnb p1 p2 p3 p4 p5 p6
    obtain ⟨ev, ec⟩ := grant_bad LB.out EE.out (by decide)
    have EV := Lib.hid ev
    have EG := Lib.hid ec
    clear ev ec
    obtain ⟨s0, s1⟩ := two_get BR.out.2.1 (.slice none 0 0) (.slice none 0 0)
    obtain ⟨p1, p2, p3, p4, p5, p6⟩ := BR.out.facts
    have GZ := Lib.hid (BR.out.out (.slice none 0 0) (.slice none 0 0)).1
    clear BR
    go_wp2_with fail
    exact bodyPost_ret (v := .tuple #[lkV none 0 0 none 0 0, .slice none 0 0, .int .i64 (19)]) (by simp [results, Try.results29, go_sem, s0, s1]) rfl (by rw [EV.out, EG.out, LB.out, EE.out]; exact ⟨_, none, 0, rfl, Nat.le_refl _, rowIn_nil _ _, by simp, fun R _ => lkV_zero R _, GZ.out⟩)
  subst hnb
  have EE : Hid (grantE l nb = 0) := Lib.hid (by rw [E0.out, if_neg (fun h => h rfl)])
  obtain ⟨ev, eg⟩ := grant_good LB.out EE.out L1.out
  have EV := Lib.hid ev
  have EG := Lib.hid eg
  clear ev eg E0
  go_wp2_with fail
  refine (rCopy_any _ l _ ⟨_, _, _, _, _, _, rfl, K1.out⟩ HV.out).mono ?_
  rintro e w3 ⟨v1, v2, rfl, hF, hg⟩
  have BR3 := keep hg BR
  have CL3 := CL
  have zz := hg.size
  have zw6 := p6
  by_cases hn0 : nb = 0
  · subst hn0
    have FL := Lib.hid hF
    obtain ⟨b1, j1, d1, b2, j2, d2, he, hL⟩ := hF.lk (R := none) (by simp)
    simp only [Value.agg.injEq, Array.mk.injEq, List.cons.injEq, and_true] at he
    obtain ⟨rfl, rfl⟩ := he
    obtain ⟨x1, x2, -, -⟩ := hL.len
    rw [L1.out] at x1
    rw [L2.out] at x2
    subst x1
    subst x2
    clear hF hL hg BR p1 p2 p3 p4 p5 p6
    obtain ⟨p1, p2, p3, p4, p5, p6⟩ := BR3.out.facts
    go_upto_region 6 with fail
    have BX := Lib.hid (@BoxRes.put _ _ _ _ (.slice b1 0 d1) (.slice b2 0 d2) BR3.out)
    have gB := @boxRes_box w w3 (.slice b1 0 d1) (.slice b2 0 d2)
    have FX : Hid (∀ R, (∀ b, R = some b → b < w.heap.size) → ∀ W, w3.grownBy W (some (w.heap.size + 1)) → True) := Lib.hid (fun _ _ _ _ => trivial)
    obtain ⟨X, hX⟩ : ∃ X, X = (w3.setCell ⟨w.heap.size, 0, none⟩ (.slice b1 0 d1)).setCell ⟨w.heap.size, 1, none⟩ (.slice b2 0 d2) := ⟨_, rfl⟩
    rw [← hX] at BX gB ⊢
    clear hX BR3 FX p1 p2 p3 p4 p5 p6
    obtain ⟨p1, p2, p3, p4, p5, p6⟩ := BX.out.facts
    obtain ⟨s0, s1⟩ := two_get BX.out.2.1 (.slice b1 0 d1) (.slice b2 0 d2)
    obtain ⟨hz1, hz2⟩ := BX.out.out (.slice b1 0 d1) (.slice b2 0 d2)
    have GZ := Lib.hid hz1
    have LF : Hid (∀ R, (∀ b, R = some b → b < w.heap.size) → LkV R ((X.setCell ⟨w.heap.size + 1, 0, none⟩ (.slice b1 0 d1)).setCell ⟨w.heap.size + 1, 1, none⟩ (.slice b2 0 d2)) (lkV b1 0 d1 b2 0 d2) l) := Lib.hid (fun R hR => lkV_empty (FL.out.lk (R := R) (fun b hb => by have := hR b hb; omega)))
    clear hz1 hz2 gB FL
    go_wp2_with fail
    go_loopw [7, 8] (fun vg i wr => vg = .slice none 0 0 ∧ i = .int .i64 0 ∧ wr = X) (fun _ _ _ => 0)
    case atStart => exact ⟨rfl, rfl, rfl⟩
    case round =>
      obtain ⟨rfl, rfl, rfl⟩ := hrel
      go_wp2_with fail
      exact bodyPost_ret (v := .tuple #[lkV b1 0 d1 b2 0 d2, .slice none 0 0, .int .i64 0]) (by simp [results, Try.results29, go_sem, s0, s1]) rfl (by rw [EV.out, EG.out, LB.out, EE.out]; exact ⟨_, none, 0, rfl, Nat.le_refl _, rowIn_nil _ _, by simp, LF.out, GZ.out⟩)
  obtain ⟨g1, k1, g2, k2, base, rfl, rfl, f1, f2, f3, f4, f5, f6, hO, hC⟩ := hF.open (by rw [L1.out]; omega) (by rw [L2.out]; omega)
  have LL1 := L1
  have LL2 := L2
  rw [LL1.out] at hO
  rw [LL2.out] at hC
  rw [LL1.out, LL2.out]
  clear LL1 LL2
  clear hg hF BR K1 p1 p2 p3 p4 p5 p6
  obtain ⟨p1, p2, p3, p4, p5, p6⟩ := BR3.out.facts
  obtain ⟨hcap1, hcap2⟩ := hO.capLe
  obtain ⟨hcap3, hcap4, -⟩ := hC.capLe
  go_upto_region 6 with fail
  have gB := @boxRes_box w w3 (.slice (some ⟨g1, 0, none⟩) nb k1) (.slice (some ⟨g2, 0, none⟩) nb k2)
  have BX := Lib.hid (@BoxRes.put _ _ _ _ (.slice (some ⟨g1, 0, none⟩) nb k1) (.slice (some ⟨g2, 0, none⟩) nb k2) BR3.out)
  have O4 := Lib.hid (hO.kept gB (by simp; omega))
  have C4 := Lib.hid (hC.kept gB (fun b hb => by obtain rfl := Option.some.inj hb; omega))
  obtain ⟨X, hX⟩ : ∃ X, X = (w3.setCell ⟨w.heap.size, 0, none⟩ (.slice (some ⟨g1, 0, none⟩) nb k1)).setCell ⟨w.heap.size, 1, none⟩ (.slice (some ⟨g2, 0, none⟩) nb k2) := ⟨_, rfl⟩
  rw [← hX] at BX O4 C4 ⊢
  have zX : w3.heap.size = X.heap.size := by rw [hX]; simp
  have I0 : Hid (GrInv w X base X.heap.size g1 k1 g2 k2 nb l.own l.q [] (.slice none 0 0)) := Lib.hid ⟨O4.out, C4.out.rdU, BX.out, World.ownsRow_nil _ _ _ _, Nat.le_refl _⟩
  have zg1 := O4.out.lt
  have zg2 := C4.out.lt
  have zb : base ≤ X.heap.size := by omega
  clear gB hO hC BR3 hX zX O4 C4 f6 p1 p2 p3 p4 p5 p6
  obtain ⟨p1, p2, p3, p4, p5, p6⟩ := BX.out.facts
  go_wp2_with fail
  clear BX p1 p2 p3 p4 p5 p6
  obtain ⟨hi, hhi⟩ : ∃ hi, X.heap.size = hi := ⟨_, rfl⟩
  have HHI := Lib.hid hhi
  rw [hhi] at zg1 zg2 zb I0
  clear hhi
  go_loopw [7, 8, 9] (fun vg i _ wr => ∃ k : Nat, k ≤ nb ∧ i = .int .i64 k ∧ GrInv w wr base hi g1 k1 g2 k2 nb (grantTo l closed k).1.own (grantTo l closed k).1.q (grantTo l closed k).2 vg) (fun _ i _ _ => nb - (intOf i).toNat)
  case atStart => exact ⟨0, by omega, rfl, I0.out⟩
  case round =>
    obtain ⟨k, hk, rfl, hI⟩ := hrel
    have I := Lib.hid hI
    obtain ⟨p1, p2, p3, p4, p5, p6⟩ := hI.2.2.1.facts
    obtain ⟨hkp, hkl1, hkl2, hkl3⟩ := grantTo_kept l closed k
    have KP := Lib.hid hkp
    clear hI hkp hkl1 hkl2 I0
    by_cases hkn : k < nb
    · obtain ⟨o, ho⟩ : ∃ o, l.own[k]? = some o := ⟨_, List.getElem?_eq_getElem (by rw [L1.out]; exact hkn)⟩
      obtain ⟨x, hx⟩ : ∃ x, l.q[k]? = some x := ⟨_, List.getElem?_eq_getElem (by rw [L2.out]; exact hkn)⟩
      obtain ⟨b, hb⟩ : ∃ b, closed[k]? = some b := ⟨_, List.getElem?_eq_getElem (by rw [LB.out]; exact hkn)⟩
      have ho' := ((KP.out k (Nat.le_refl _)).1).trans ho
      have hx' := ((KP.out k (Nat.le_refl _)).2).trans hx
      have q1 := I.out.1.cell (i := k) (v := .int .i64 o) (by simp [ints, ho'])
      have q2 := I.out.1.free k
      obtain ⟨A, cx, r1, r2, r3, r4, r5, r6, r7⟩ := I.out.2.1.at hx'
      obtain ⟨bc, oc, rfl, zbc, d3⟩ := (RowIn.kept CL.out I.out.2.2.1.2.2).bool hb
      have z1 := I.out.1.lt
      have z2 := I.out.2.1.lt
      have R6 := Lib.hid r6
      have R7 := Lib.hid r7
      have R5 := Lib.hid r5
      have SK := fun h => Lib.hid (grantTo_skip (l := l) (closed := closed) ho hx hb h)
      have HX := Lib.hid hx'
      have HOo := Lib.hid ho
      have HXx := Lib.hid hx
      have HB := Lib.hid hb
      have R1 := Lib.hid r1
      unfold maxLen at r4
      have hk' : (k : Int) < nb := by omega
      clear ho hx hb ho' hx' r5 r6 r7
      by_cases h1 : o = -1
      rotate_left
      · have S := SK (.inl h1)
        have t1 : (o == -1) = false := beq_eq_false_iff_ne.2 h1
        clear h1 SK
        go_wp2_with fail
        go_roundw
        case rel => exact ⟨k + 1, by omega, by go_num, by rw [S.out]; exact I.out⟩
        case measure => simp [intOf]; omega
      subst h1
      cases b
      rotate_left
      · have S := SK (.inr (.inl rfl))
        clear SK
        go_wp2_with fail
        go_roundw
        case rel => exact ⟨k + 1, by omega, by go_num, by rw [S.out]; exact I.out⟩
        case measure => simp [intOf]; omega
      cases x with
      | nil =>
        have S := SK (.inr (.inr rfl))
        clear SK
        simp only [List.length_nil] at r1
        go_wp2_with fail
        go_roundw
        case rel => exact ⟨k + 1, by omega, by go_num, by rw [S.out]; exact I.out⟩
        case measure => simp [intOf]; omega
      | cons r rest =>
        have S := Lib.hid (grantTo_take HOo.out HXx.out HB.out)
        clear SK
        simp only [List.length_cons] at r1 r3 R6 R1
        obtain ⟨bx, ox, rfl, hcx⟩ := R6.out.at (by omega)
        have x0 : wr.cell? ⟨bx, ox, none⟩ = some (.int .i64 r) := hcx 0 _ rfl
        have zx0 := lt_of_cell x0
        obtain ⟨rb1, rb2, rb3⟩ := R7.out _ rfl
        simp only at rb1 rb2 rb3 zx0
        have hr0 : (0 : Int) < (rest.length : Int) + 1 := by omega
        have hr1 : (1 : Int) ≤ (rest.length : Int) + 1 := by omega
        have hr2 : (rest.length : Int) + 1 ≤ cx := by omega
        have hr3 : (1 : Int) ≤ cx := by omega
        clear hcx
        have CB : Hid (wr.cell? ⟨w.heap.size, 1, none⟩ = some (.slice (some ⟨g2, 0, none⟩) nb k2)) := Lib.hid (by rw [p1]; rfl)
        go_upto_region 12 with fail
        go_cut [] (fun wx => GrInv w wx base hi g1 k1 g2 k2 nb (grantTo l closed k).1.own ((grantTo l closed k).1.q.set k rest) (grantTo l closed k).2 u7)
        case first =>
          have hw1 : wr.drew.cell? ⟨g2, k, none⟩ = some (.slice (some ⟨bx, ox, none⟩) (rest.length + 1) cx) := R1.out
          have hw2 : wr.drew.frozen? ⟨g2, k, none⟩ = false := r2
          by_cases hcx : cx = 1
          · subst hcx
            obtain rfl : rest = [] := List.eq_nil_of_length_eq_zero (by omega)
            refine wp_region_held_drew (S := fun w' => w'.cell? ⟨w.heap.size, 1, none⟩ = some (.slice (some ⟨g2, 0, none⟩) nb k2)) (by kernel_rfl) (by (try dsimp only); first | assumption | exact CB.out | exact set_keep CB.out (by simp; omega)) (fun hHeld => ?_)
            refine wpAnyH_take (i := 0) (oi := { dst := some 59, op := .fieldAddr 26 (.tmp 2) 1, type := _, pos := _, after := _, guard := none }) (v := ?_) rfl (by kernel_rfl) (by kernel_rfl) (by kernel_rfl) (fun _ _ _ h => h) (Or.inl ⟨by rfl, ?_⟩) (by assumption) ?_
            rotate_left
            · (intro w hSw; (try dsimp only at hSw); go_simp; (try with_reducible rfl))
            try simp only [Act.put, List.setIfInBounds_toArray, List.set_cons_zero, List.set_cons_succ]
            refine wpAnyH_take (i := 1) (oi := { dst := some 60, op := .load 24 (.tmp 59), type := _, pos := _, after := _, guard := none }) (v := ?_) rfl (by kernel_rfl) (by kernel_rfl) (by kernel_rfl) (fun _ _ _ h => h) (Or.inl ⟨by rfl, ?_⟩) (by assumption) ?_
            rotate_left
            · (intro w hSw; (try dsimp only at hSw); go_simp; (try with_reducible rfl))
            try simp only [Act.put, List.setIfInBounds_toArray, List.set_cons_zero, List.set_cons_succ]
            refine wpAnyH_take (i := 2) (oi := { dst := some 61, op := .move (.tmp 8), type := _, pos := _, after := _, guard := none }) (v := ?_) rfl (by kernel_rfl) (by kernel_rfl) (by kernel_rfl) (fun _ _ _ h => h) (Or.inl ⟨by rfl, ?_⟩) (by assumption) ?_
            rotate_left
            · (intro w hSw; (try dsimp only at hSw); go_simp; (try with_reducible rfl))
            try simp only [Act.put, List.setIfInBounds_toArray, List.set_cons_zero, List.set_cons_succ]
            refine wpAnyH_take (i := 3) (oi := { dst := some 62, op := .fieldAddr 26 (.tmp 2) 1, type := _, pos := _, after := _, guard := none }) (v := ?_) rfl (by kernel_rfl) (by kernel_rfl) (by kernel_rfl) (fun _ _ _ h => h) (Or.inl ⟨by rfl, ?_⟩) (by assumption) ?_
            rotate_left
            · (intro w hSw; (try dsimp only at hSw); go_simp; (try with_reducible rfl))
            try simp only [Act.put, List.setIfInBounds_toArray, List.set_cons_zero, List.set_cons_succ]
            refine wpAnyH_take (i := 4) (oi := { dst := some 63, op := .load 24 (.tmp 62), type := _, pos := _, after := _, guard := none }) (v := ?_) rfl (by kernel_rfl) (by kernel_rfl) (by kernel_rfl) (fun _ _ _ h => h) (Or.inl ⟨by rfl, ?_⟩) (by assumption) ?_
            rotate_left
            · (intro w hSw; (try dsimp only at hSw); go_simp; (try with_reducible rfl))
            try simp only [Act.put, List.setIfInBounds_toArray, List.set_cons_zero, List.set_cons_succ]
            refine wpAnyH_take (i := 5) (oi := { dst := some 64, op := .move (.tmp 8), type := _, pos := _, after := _, guard := none }) (v := ?_) rfl (by kernel_rfl) (by kernel_rfl) (by kernel_rfl) (fun _ _ _ h => h) (Or.inl ⟨by rfl, ?_⟩) (by assumption) ?_
            rotate_left
            · (intro w hSw; (try dsimp only at hSw); go_simp; (try with_reducible rfl))
            try simp only [Act.put, List.setIfInBounds_toArray, List.set_cons_zero, List.set_cons_succ]
            refine wpAnyH_take (i := 6) (oi := { dst := some 65, op := .indexAddr 24 (.tmp 63) (.tmp 64), type := _, pos := _, after := _, guard := none }) (v := ?_) rfl (by kernel_rfl) (by kernel_rfl) (by kernel_rfl) (fun _ _ _ h => h) (Or.inl ⟨by rfl, ?_⟩) (by assumption) ?_
            rotate_left
            · (intro w hSw; (try dsimp only at hSw); go_simp; (try with_reducible rfl))
            try simp only [Act.put, List.setIfInBounds_toArray, List.set_cons_zero, List.set_cons_succ]
            refine wpAnyH_ready (rs := [7]) (by kernel_rfl) (by simp) ?_
            refine AllReadyH.cons (o := _) rfl (fun K hK => ?_) AllReadyH.nil
            go_simp
            refine hK.out _ _ ?_ (fun hHeld2 => ?_)
            · ((try dsimp only); first | assumption | exact CB.out | exact set_keep CB.out (by simp; omega))
            clear hK K
            try simp only [Act.put, List.setIfInBounds_toArray, List.set_cons_zero, List.set_cons_succ]
            refine wpAnyH_take (i := 8) (oi := { dst := some 67, op := .slice 22 (.tmp 66) (some (.const (.int .i64 (1)))) none none, type := _, pos := _, after := _, guard := none }) (v := ?_) rfl (by kernel_rfl) (by kernel_rfl) (by kernel_rfl) (fun _ _ _ h => h) (Or.inl ⟨by rfl, ?_⟩) (by assumption) ?_
            rotate_left
            · (intro w hSw; (try dsimp only at hSw); go_simp; (try with_reducible rfl))
            try simp only [Act.put, List.setIfInBounds_toArray, List.set_cons_zero, List.set_cons_succ]
            refine wpAnyH_take (i := 9) (oi := { dst := some 68, op := .indexAddr 24 (.tmp 60) (.tmp 61), type := _, pos := _, after := _, guard := none }) (v := ?_) rfl (by kernel_rfl) (by kernel_rfl) (by kernel_rfl) (fun _ _ _ h => h) (Or.inl ⟨by rfl, ?_⟩) (by assumption) ?_
            rotate_left
            · (intro w hSw; (try dsimp only at hSw); go_simp; (try with_reducible rfl))
            try simp only [Act.put, List.setIfInBounds_toArray, List.set_cons_zero, List.set_cons_succ]
            refine wpAnyH_ready (rs := [10]) (by kernel_rfl) (by simp) ?_
            refine AllReadyH.cons (o := _) rfl (fun K hK => ?_) AllReadyH.nil
            go_simp
            refine hK.out _ _ ?_ (fun hHeld2 => ?_)
            · ((try dsimp only); first | assumption | exact CB.out | exact set_keep CB.out (by simp; omega))
            clear hK K
            try simp only [Act.put, List.setIfInBounds_toArray, List.set_cons_zero, List.set_cons_succ]
            refine wpAnyH_done (by kernel_rfl) ?_ _
            have I3 := Lib.hid ((I.out.kept (grown_drew (grown_refl wr none))).que (k := k) (b := bx) (off := ox) (b2 := bx) (off2 := ox) (c := 1) (c2 := 0) HX.out R1.out (by first | omega | simp) (by unfold maxLen; omega) ⟨rfl, .inl rfl⟩ (by omega) f3 (by omega))
            go_wp2_with fail
            go_meet
            exact I3.out
          · have hcx2 : ¬ cx - 1 = 0 := by omega
            refine wp_region_held_drew (S := fun w' => w'.cell? ⟨w.heap.size, 1, none⟩ = some (.slice (some ⟨g2, 0, none⟩) nb k2)) (by kernel_rfl) (by (try dsimp only); first | assumption | exact CB.out | exact set_keep CB.out (by simp; omega)) (fun hHeld => ?_)
            refine wpAnyH_take (i := 0) (oi := { dst := some 59, op := .fieldAddr 26 (.tmp 2) 1, type := _, pos := _, after := _, guard := none }) (v := ?_) rfl (by kernel_rfl) (by kernel_rfl) (by kernel_rfl) (fun _ _ _ h => h) (Or.inl ⟨by rfl, ?_⟩) (by assumption) ?_
            rotate_left
            · (intro w hSw; (try dsimp only at hSw); go_simp; (try with_reducible rfl))
            try simp only [Act.put, List.setIfInBounds_toArray, List.set_cons_zero, List.set_cons_succ]
            refine wpAnyH_take (i := 1) (oi := { dst := some 60, op := .load 24 (.tmp 59), type := _, pos := _, after := _, guard := none }) (v := ?_) rfl (by kernel_rfl) (by kernel_rfl) (by kernel_rfl) (fun _ _ _ h => h) (Or.inl ⟨by rfl, ?_⟩) (by assumption) ?_
            rotate_left
            · (intro w hSw; (try dsimp only at hSw); go_simp; (try with_reducible rfl))
            try simp only [Act.put, List.setIfInBounds_toArray, List.set_cons_zero, List.set_cons_succ]
            refine wpAnyH_take (i := 2) (oi := { dst := some 61, op := .move (.tmp 8), type := _, pos := _, after := _, guard := none }) (v := ?_) rfl (by kernel_rfl) (by kernel_rfl) (by kernel_rfl) (fun _ _ _ h => h) (Or.inl ⟨by rfl, ?_⟩) (by assumption) ?_
            rotate_left
            · (intro w hSw; (try dsimp only at hSw); go_simp; (try with_reducible rfl))
            try simp only [Act.put, List.setIfInBounds_toArray, List.set_cons_zero, List.set_cons_succ]
            refine wpAnyH_take (i := 3) (oi := { dst := some 62, op := .fieldAddr 26 (.tmp 2) 1, type := _, pos := _, after := _, guard := none }) (v := ?_) rfl (by kernel_rfl) (by kernel_rfl) (by kernel_rfl) (fun _ _ _ h => h) (Or.inl ⟨by rfl, ?_⟩) (by assumption) ?_
            rotate_left
            · (intro w hSw; (try dsimp only at hSw); go_simp; (try with_reducible rfl))
            try simp only [Act.put, List.setIfInBounds_toArray, List.set_cons_zero, List.set_cons_succ]
            refine wpAnyH_take (i := 4) (oi := { dst := some 63, op := .load 24 (.tmp 62), type := _, pos := _, after := _, guard := none }) (v := ?_) rfl (by kernel_rfl) (by kernel_rfl) (by kernel_rfl) (fun _ _ _ h => h) (Or.inl ⟨by rfl, ?_⟩) (by assumption) ?_
            rotate_left
            · (intro w hSw; (try dsimp only at hSw); go_simp; (try with_reducible rfl))
            try simp only [Act.put, List.setIfInBounds_toArray, List.set_cons_zero, List.set_cons_succ]
            refine wpAnyH_take (i := 5) (oi := { dst := some 64, op := .move (.tmp 8), type := _, pos := _, after := _, guard := none }) (v := ?_) rfl (by kernel_rfl) (by kernel_rfl) (by kernel_rfl) (fun _ _ _ h => h) (Or.inl ⟨by rfl, ?_⟩) (by assumption) ?_
            rotate_left
            · (intro w hSw; (try dsimp only at hSw); go_simp; (try with_reducible rfl))
            try simp only [Act.put, List.setIfInBounds_toArray, List.set_cons_zero, List.set_cons_succ]
            refine wpAnyH_take (i := 6) (oi := { dst := some 65, op := .indexAddr 24 (.tmp 63) (.tmp 64), type := _, pos := _, after := _, guard := none }) (v := ?_) rfl (by kernel_rfl) (by kernel_rfl) (by kernel_rfl) (fun _ _ _ h => h) (Or.inl ⟨by rfl, ?_⟩) (by assumption) ?_
            rotate_left
            · (intro w hSw; (try dsimp only at hSw); go_simp; (try with_reducible rfl))
            try simp only [Act.put, List.setIfInBounds_toArray, List.set_cons_zero, List.set_cons_succ]
            refine wpAnyH_ready (rs := [7]) (by kernel_rfl) (by simp) ?_
            refine AllReadyH.cons (o := _) rfl (fun K hK => ?_) AllReadyH.nil
            go_simp
            refine hK.out _ _ ?_ (fun hHeld2 => ?_)
            · ((try dsimp only); first | assumption | exact CB.out | exact set_keep CB.out (by simp; omega))
            clear hK K
            try simp only [Act.put, List.setIfInBounds_toArray, List.set_cons_zero, List.set_cons_succ]
            refine wpAnyH_take (i := 8) (oi := { dst := some 67, op := .slice 22 (.tmp 66) (some (.const (.int .i64 (1)))) none none, type := _, pos := _, after := _, guard := none }) (v := ?_) rfl (by kernel_rfl) (by kernel_rfl) (by kernel_rfl) (fun _ _ _ h => h) (Or.inl ⟨by rfl, ?_⟩) (by assumption) ?_
            rotate_left
            · (intro w hSw; (try dsimp only at hSw); go_simp; (try with_reducible rfl))
            try simp only [Act.put, List.setIfInBounds_toArray, List.set_cons_zero, List.set_cons_succ]
            refine wpAnyH_take (i := 9) (oi := { dst := some 68, op := .indexAddr 24 (.tmp 60) (.tmp 61), type := _, pos := _, after := _, guard := none }) (v := ?_) rfl (by kernel_rfl) (by kernel_rfl) (by kernel_rfl) (fun _ _ _ h => h) (Or.inl ⟨by rfl, ?_⟩) (by assumption) ?_
            rotate_left
            · (intro w hSw; (try dsimp only at hSw); go_simp; (try with_reducible rfl))
            try simp only [Act.put, List.setIfInBounds_toArray, List.set_cons_zero, List.set_cons_succ]
            refine wpAnyH_ready (rs := [10]) (by kernel_rfl) (by simp) ?_
            refine AllReadyH.cons (o := _) rfl (fun K hK => ?_) AllReadyH.nil
            go_simp
            refine hK.out _ _ ?_ (fun hHeld2 => ?_)
            · ((try dsimp only); first | assumption | exact CB.out | exact set_keep CB.out (by simp; omega))
            clear hK K
            try simp only [Act.put, List.setIfInBounds_toArray, List.set_cons_zero, List.set_cons_succ]
            refine wpAnyH_done (by kernel_rfl) ?_ _
            have I3 := Lib.hid ((I.out.kept (grown_drew (grown_refl wr none))).que (k := k) (b := bx) (off := ox) (b2 := bx) (off2 := ox + 1) (c := cx) (c2 := cx - 1) HX.out R1.out (by first | omega | simp) (by unfold maxLen; omega) ⟨rfl, .inr rfl⟩ (by omega) f3 (by omega))
            go_wp2_with fail
            go_meet
            exact I3.out
        case rest =>
          have I1 := Lib.hid hcut
          have JO := Lib.hid (hcut.setOwn k r (by omega) f4 f3 (by omega))
          obtain ⟨p1, p2, p3, p4, p5, p6⟩ := hcut.2.2.1.facts
          have y1 := hcut.1.cell (i := k) (v := .int .i64 (-1)) (by simp [ints, ((KP.out k (Nat.le_refl _)).1).trans HOo.out])
          have y2 := hcut.1.free k
          have y3 := hcut.1.lt
          clear I hcut CB q1 q2 r1 r2 x0 zx0 d3 zbc
          go_wp2_with (at_builtin; go_loud (refine wpList_append_in St_grant rfl (.tmp 74) (.tmp 78) rfl rfl (JO.out.2.2.2.1.alloc (.cells #[.int .i64 r, .int .i64 k] 51)) rfl (news := [.int .i64 r, .int .i64 k]) (cell_gr _ _ _ (by first | rfl | simp)) (fun h => by cases h) (flat_one rfl) ?c1 ?c2 ?c3 ?_))
          case c1 => unfold maxLen; omega
          case c2 => omega
          case c3 => have := JO.out.2.2.2.2; first | omega | (rw [World.size_alloc]; omega) | (simp; simp at this; omega)
          intro v3 x3 hown hg hloc
          clear hloc
          have I2 := Lib.hid (JO.out.app (grown_alloc (.cells #[.int .i64 r, .int .i64 k] 51) (grown_refl _ none)) hg hown (by omega) (by omega) (by omega))
          clear hown hg JO I1 p1 p2 p3 p4 p5 p6 y1 y2 y3
          go_wp2_with fail
          go_roundw
          case rel => exact ⟨k + 1, by omega, by go_num, by rw [S.out]; exact I2.out⟩
          case measure => simp [intOf]; omega
    · obtain rfl : k = nb := by omega
      clear hkn
      obtain ⟨s0, s1⟩ := two_get I.out.2.2.1.2.1 (.slice (some ⟨g1, 0, none⟩) k k1) (.slice (some ⟨g2, 0, none⟩) k k2)
      obtain ⟨hz1, hz2⟩ := I.out.2.2.1.out (.slice (some ⟨g1, 0, none⟩) k k1) (.slice (some ⟨g2, 0, none⟩) k k2)
      have GZ := Lib.hid hz1
      have O6 := Lib.hid (I.out.1.kept hz2 (by simp; omega))
      have C6 := Lib.hid (I.out.2.1.rd.kept hz2 (fun b hb => by obtain rfl := Option.some.inj hb; omega))
      have V6 := Lib.hid (I.out.2.2.2.1.kept hz2 (.inr (owns_ne I.out.2.2.2.1 (by omega))))
      obtain ⟨A7, c7, rfl, y1, y2, y3, y4⟩ := sliceIn_owns V6.out
      have Y4 := Lib.hid y4
      have YB : Hid (∀ x, A7 = some x → w.heap.size ≤ x.block) := Lib.hid (fun x hx => by subst hx; have := (V6.out.lt x.block rfl).1; omega)
      clear hz1 hz2 I y2 y3 y4
      go_wp2_with fail
      exact bodyPost_ret (v := .tuple #[lkV (some ⟨g1, 0, none⟩) k k1 (some ⟨g2, 0, none⟩) k k2, .slice A7 (grantTo l closed k).2.length c7, .int .i64 0]) (by simp [results, Try.results29, go_sem, s0, s1]) rfl (by rw [EV.out, EG.out, LB.out, EE.out]; exact ⟨_, _, _, rfl, y1, Y4.out, YB.out, fun R hR => lkV_rd (l := (grantTo l closed k).1) O6.out C6.out (w0 := w.heap.size) (by omega) (by omega) (by omega) hR, GZ.out⟩)
end Go.Proofs.Ytbpobekmbdngbaa
