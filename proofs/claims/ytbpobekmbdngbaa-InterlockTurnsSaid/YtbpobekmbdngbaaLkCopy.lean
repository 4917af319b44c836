/- The contract of the reference's Copy. -/
import Derived.Test.YtbpobekmbdngbaaLkClone
import Derived.Deep.RegionHeld3
namespace Go.Proofs.Ytbpobekmbdngbaa
open Go.RowKit
set_option linter.unusedVariables false

def HdrAt (w : World) (b3 : Nat) (vq : Value) (q : List (List Int)) (k : Nat) (hdrs : List Value) : Prop :=
  w.ownsRow (b3 + 1) 22 1 vq k hdrs ∧ ∀ (i : Nat) (xs : List Int), i < k → q[i]? = some xs → ∃ v, hdrs[i]? = some v ∧ w.ownsRow (b3 + 1) 3 1 v xs.length (ints xs) ∧ (v.ownBlock = none ∨ v.ownBlock ≠ vq.ownBlock) ∧
    ∀ (j : Nat) (u : Value), j ≠ i → hdrs[j]? = some u → v.ownBlock = none ∨ u.ownBlock ≠ v.ownBlock
theorem HdrAt.nil (w : World) (b3 : Nat) (q : List (List Int)) : HdrAt w b3 (.slice none 0 0) q 0 [] := ⟨World.ownsRow_nil _ _ _ _, fun i xs h => by omega⟩
theorem own_low {w : World} {b b' e size n : Nat} {v : Value} {xs : List Value} (h : w.ownsRow b e size v n xs) (hb : b' ≤ b) : w.ownsRow b' e size v n xs :=
  ⟨h.1, h.2.imp id fun ⟨g, cap, cur, h1, h2, h3⟩ => ⟨g, cap, cur, h1, Nat.le_trans hb h2, h3⟩⟩
theorem own_some {w : World} {b e size n m : Nat} {v : Value} {xs : List Value} (h : w.ownsRow b e size v n xs) (hv : v.ownBlock = some m) : b ≤ m ∧ m < w.heap.size := h.lt m hv
theorem HdrAt.step {w x1 x2 x3 : World} {b3 k : Nat} {vq v3 v4 u : Value} {q : List (List Int)} {hdrs : List Value} {xs : List Int} (h : HdrAt w b3 vq q k hdrs) (hx : q[k]? = some xs) (hb : b3 < w.heap.size) (g1 : w.grownBy x1 none) (h3 : x1.ownsRow w.heap.size 3 1 v3 xs.length (ints xs))
    (g2 : x1.grownBy x2 none) (g3 : x2.grownBy x3 vq.ownBlock) (h4 : x3.ownsRow (b3 + 1) 22 1 v4 (k + 1) (hdrs ++ [v3])) (hl : v4.ownBlock = vq.ownBlock ∨ v4.ownBlock = some x2.heap.size) :
    HdrAt (x3.setCell ⟨b3, 1, none⟩ u) b3 v4 q (k + 1) (hdrs ++ [v3]) := by
  obtain ⟨a1, a2⟩ := h
  have lk : hdrs.length = k := by have := a1.1; simpa using this
  have gs : x3.grownBy (x3.setCell ⟨b3, 1, none⟩ u) (some b3) := grown_set _ (grown_refl x3 _) (.inr rfl)
  have z1 := g1.size
  have z2 := g2.size
  have fin : ∀ {e n b : Nat} {v : Value} {zs : List Value}, x3.ownsRow b e 1 v n zs → b3 < b → (x3.setCell ⟨b3, 1, none⟩ u).ownsRow b e 1 v n zs := fun hv hb => hv.kept gs (.inr (owns_ne hv hb))
  have nq : v3.ownBlock = none ∨ v3.ownBlock ≠ vq.ownBlock := by
    cases hv : v3.ownBlock with
    | none => exact .inl rfl
    | some m =>
      refine .inr fun e => ?_
      have := (own_some h3 hv).1
      have := (own_some a1 e.symm).2
      omega
  have q3 := (h3.kept g2 (Classical.em _)).kept g3 nq
  refine ⟨fin h4 (by omega), fun i zs hi hz => ?_⟩
  by_cases hik : i = k
  · subst hik
    rw [hx] at hz
    obtain rfl := Option.some.inj hz
    refine ⟨v3, by rw [List.getElem?_append_right (by omega), lk]; simp, fin (own_low q3 (by omega)) (by omega), ?_, fun j y hj hy => ?_⟩
    · cases hv : v3.ownBlock with
      | none => exact .inl rfl
      | some m =>
        refine .inr fun e => ?_
        have m1 := own_some h3 hv
        rcases hl with hl | hl
        · rw [hl] at e
          have := (own_some a1 e.symm).2
          omega
        · rw [hl] at e
          have := Option.some.inj e
          omega
    · have hj2 : j < i := by
        have := (List.getElem?_eq_some_iff.1 hy).1
        simp at this; omega
      rw [List.getElem?_append_left (by omega)] at hy
      cases hv : v3.ownBlock with
      | none => exact .inl rfl
      | some m =>
        refine .inr fun e => ?_
        obtain ⟨y', e1, e2, _⟩ := a2 j (q[j]'(by have := (List.getElem?_eq_some_iff.1 hx).1; omega)) hj2 (List.getElem?_eq_getElem _)
        rw [hy] at e1
        obtain rfl := Option.some.inj e1
        have := (own_some e2 e).2
        have := (own_some h3 hv).1
        omega
  · have hik' : i < k := by omega
    obtain ⟨v, e1, e2, e3, e4⟩ := a2 i zs hik' hz
    have kv := ((e2.kept g1 (Classical.em _)).kept g2 (Classical.em _)).kept g3 e3
    refine ⟨v, by rw [List.getElem?_append_left (by omega)]; exact e1, fin kv (by omega), ?_, fun j y hj hy => ?_⟩
    · cases hv : v.ownBlock with
      | none => exact .inl rfl
      | some m =>
        refine .inr fun e => ?_
        rcases hl with hl | hl
        · rw [hl] at e
          rcases e3 with e3 | e3
          · rw [hv] at e3; cases e3
          · exact e3 (hv.trans e)
        · rw [hl] at e
          have := Option.some.inj e
          have := (own_some e2 hv).2
          omega
    · by_cases hjk : j < k
      · rw [List.getElem?_append_left (by omega)] at hy
        exact e4 j y hj hy
      · have hjk2 : j = k := by
          have := (List.getElem?_eq_some_iff.1 hy).1
          simp at this; omega
        subst hjk2
        rw [List.getElem?_append_right (by omega), lk] at hy
        obtain rfl : v3 = y := by simpa using hy
        cases hv : v.ownBlock with
        | none => exact .inl rfl
        | some m =>
          refine .inr fun e => ?_
          have := (own_some e2 hv).2
          have := (own_some h3 e).1
          omega
theorem HdrAt.queO {w : World} {b3 : Nat} {vq : Value} {q : List (List Int)} {hdrs : List Value} {w0 : Nat} (h : HdrAt w b3 vq q q.length hdrs) (hw : w0 ≤ b3) : QueO w w0 (b3 + 1) vq q := by
  obtain ⟨a1, a2⟩ := h
  rcases a1.2 with ⟨rfl, hn⟩ | ⟨g, cap, cur, rfl, hgb, hg, hc1, hc2, hcs, ht⟩
  · exact .inl ⟨rfl, List.eq_nil_of_length_eq_zero hn⟩
  · refine .inr ⟨g, cap, rfl, by omega, cur, hg, by omega, hc1, rfl, hc2, fun i xs hi => ?_⟩
    have hil := (List.getElem?_eq_some_iff.1 hi).1
    obtain ⟨v, e1, e2, e3, e4⟩ := a2 i xs hil hi
    have key : ∀ j, j < q.length → cur[j]? = hdrs[j]? := fun j hj => by
      rw [← ht, List.getElem?_take_of_lt (by omega)]; simp
    refine ⟨v, by rw [key i hil]; exact e1, e2, ?_, fun j u hj hji hu => e4 j u hji (by rw [← key j hj]; exact hu)⟩
    rcases e3 with e3 | e3
    · rw [e3]; simp
    · exact e3

/-- The loop of Copy at k. -/
def CopInv (w : World) (b3 n : Nat) (box : Array Value) (own : List Value) (q : List (List Int)) (A1 : Option Addr) (k1 k : Nat) (wr : World) : Prop :=
  ∃ vq hdrs, wr.heap[w.heap.size]? = some (.cells box 26 (0, 0)) ∧ wr.heap[w.heap.size + 1]? = some (.cells #[.slice none 0 0, .slice none 0 0] 26 (0, 0)) ∧ wr.heap[b3]? = some (.cells #[.slice A1 n k1, vq] 26 (0, 0)) ∧
    wr.ownsRow (w.heap.size + 2) 3 1 (.slice A1 n k1) n own ∧ HdrAt wr b3 vq q k hdrs ∧ w.grownBy wr none

theorem two_cells {w W : World} {p q : Addr} {u v : Value} (h : w.cell? p = some u ∧ w.cell? q = some v ∧ p.block < w.heap.size ∧ q.block < w.heap.size) (hg : w.grownBy W none) : W.cell? p = some u ∧ W.cell? q = some v :=
  ⟨(grown_cell hg h.2.2.1 (by simp)).trans h.1, (grown_cell hg h.2.2.2 (by simp)).trans h.2.1⟩
theorem cop_step {w w2 wr x1 x3 : World} {n k1 k : Nat} {box : Array Value} {own hdrs : List Value} {q : List (List Int)} {A1 : Option Addr} {vq v3 v4 : Value} {xs : List Int}
    (hbx : wr.heap[w.heap.size]? = some (.cells box 26 (0, 0))) (hrs : wr.heap[w.heap.size + 1]? = some (.cells #[.slice none 0 0, .slice none 0 0] 26 (0, 0))) (hot : wr.heap[w2.heap.size]? = some (.cells #[.slice A1 n k1, vq] 26 (0, 0)))
    (how : wr.ownsRow (w.heap.size + 2) 3 1 (.slice A1 n k1) n own) (hH : HdrAt wr w2.heap.size vq q k hdrs) (hG : w.grownBy wr none) (hGW : w2.grownBy wr none) (zb : w.heap.size < w2.heap.size) (hw2 : w.heap.size + 2 ≤ w2.heap.size) (hx : q[k]? = some xs)
    (h3 : x1.ownsRow wr.heap.size 3 1 v3 xs.length (ints xs)) (g1 : wr.grownBy x1 none) (g4 : (x1.alloc (.cells #[v3] 22)).grownBy x3 vq.ownBlock) (h4 : x3.ownsRow (w2.heap.size + 1) 22 1 v4 (k + 1) (hdrs ++ [v3]))
    (hl : v4.ownBlock = vq.ownBlock ∨ v4.ownBlock = some (x1.alloc (.cells #[v3] 22)).heap.size) (hd : ∀ b, (Value.slice A1 n k1).ownBlock = some b → b < w2.heap.size) :
    CopInv w w2.heap.size n box own q A1 k1 (k + 1) (x3.setCell ⟨w2.heap.size, 1, none⟩ v4) ∧ w2.grownBy (x3.setCell ⟨w2.heap.size, 1, none⟩ v4) none := by
  have zo := lt_of_at hot
  have hq : ∀ m, vq.ownBlock = some m → w2.heap.size + 1 ≤ m := fun m hm => (hH.1.lt m hm).1
  have gs : x3.grownBy (x3.setCell ⟨w2.heap.size, 1, none⟩ v4) (some w2.heap.size) := grown_set _ (grown_refl x3 _) (.inr rfl)
  have ga : wr.grownBy (x1.alloc (.cells #[v3] 22)) none := grown_alloc _ g1
  have put : ∀ {b : Nat} {o : Obj}, wr.heap[b]? = some o → b ≤ w2.heap.size → x3.heap[b]? = some o := fun hb hle => grown_at g4 (grown_at ga hb (by simp)) (fun e => by have := hq _ e.symm; omega)
  refine ⟨⟨v4, hdrs ++ [v3], grown_at gs (put hbx (by omega)) (by simp; omega), grown_at gs (put hrs (by omega)) (by simp; omega), ?_, ?_, hH.step hx zo g1 h3 (grown_alloc _ (grown_refl _ _)) g4 h4 hl, ?_⟩, ?_⟩
  · rw [at_set _ (put hot (Nat.le_refl _))]; rfl
  · refine ((how.kept ga (Classical.em _)).kept g4 ?_).kept gs ?_
    · cases hb : (Value.slice A1 n k1).ownBlock with
      | none => exact .inl rfl
      | some m => exact .inr fun e => by have := hq m e.symm; have := hd m hb; omega
    · cases hb : (Value.slice A1 n k1).ownBlock with
      | none => exact .inl rfl
      | some m => exact .inr fun e => by have := hd m hb; have := Option.some.inj e; omega
  · exact grown_set _ (grown_own (grown_trans hG ga) g4 (fun m hm => by have := hq m hm; omega)) (.inl (by simp; omega))
  · exact grown_set _ (grown_own (grown_trans hGW ga) g4 (fun m hm => by have := hq m hm; omega)) (.inl (by simp))

set_option maxRecDepth 100000 in
set_option maxHeartbeats 6400000 in
theorem rCopy_any (v : Value) (l : Lk) (w : World) (h : LkV none w v l) (hv : validL l = true) :
    Calls Try.prog 46 #[v] w (CloneP l w) := by
  obtain ⟨a1, n1, c1, a2, n2, c2, rfl, h⟩ := h
  obtain ⟨l1, l2, m1, m2⟩ := h.len
  have V := Lib.hid (valid_iff.1 hv)
  have L1 := Lib.hid l1
  have L2 := Lib.hid l2
  have h48 : n1 ≤ 48 := by have := V.out.le; omega
  have h12 : n2 = n1 := by have := V.out.len; omega
  subst h12
  have K := Lib.hid h
  have HC1 := Lib.hid h.2.1
  have hcc1 := h.2.2.2
  unfold maxLen at hcc1
  clear hv h l1 l2
  go_enter Try.func46, Try.ntmps46
  have g0 : w.grownBy ((w.alloc (.cells #[.slice a1 n2 c1, .slice a2 n2 c2] 26)).alloc (.cells #[.slice none 0 0, .slice none 0 0] 26)) none := grown_alloc _ (grown_alloc _ (grown_refl _ _))
  have K0 := keep g0 K
  have HB : Hid (((w.alloc (.cells #[.slice a1 n2 c1, .slice a2 n2 c2] 26)).alloc (.cells #[.slice none 0 0, .slice none 0 0] 26)).heap[w.heap.size]? = some (.cells #[.slice a1 n2 c1, .slice a2 n2 c2] 26 (0, 0)) ∧ ((w.alloc (.cells #[.slice a1 n2 c1, .slice a2 n2 c2] 26)).alloc (.cells #[.slice none 0 0, .slice none 0 0] 26)).heap[w.heap.size + 1]? = some (.cells #[.slice none 0 0, .slice none 0 0] 26 (0, 0)) ∧ w.grownBy ((w.alloc (.cells #[.slice a1 n2 c1, .slice a2 n2 c2] 26)).alloc (.cells #[.slice none 0 0, .slice none 0 0] 26)) none ∧ w.heap.size + 2 = ((w.alloc (.cells #[.slice a1 n2 c1, .slice a2 n2 c2] 26)).alloc (.cells #[.slice none 0 0, .slice none 0 0] 26)).heap.size) := Lib.hid (by
    refine ⟨at_alloc _ (at_new w _), ?_, g0, by simp⟩
    have := at_new (w.alloc (.cells #[.slice a1 n2 c1, .slice a2 n2 c2] 26)) (.cells #[.slice none 0 0, .slice none 0 0] 26)
    rw [World.size_alloc] at this
    exact this)
  clear g0
  go_wp2_with (at_builtin; refine wpList_append_in St_int rfl (.const (.slice none 0 0)) (.tmp 6) rfl rfl (World.ownsRow_nil _ (w.heap.size + 2) 3 1) rfl (news := ints l.own) K0.out.1.1.1 HC1.out (ints_one _) ?d1 ?d2 ?d3 ?_)
  case d1 => unfold maxLen; omega
  case d2 => omega
  case d3 => simp
  intro v1 w2 hown hg hloc
  clear hloc
  have O2 : Hid (w2.ownsRow (w.heap.size + 2) 3 1 v1 n2 (ints l.own)) := Lib.hid (by simpa using hown)
  have hg' := grown_own (grown_refl _ none) hg (fun g hg => by cases hg)
  obtain ⟨A1, k1, rfl, -, -, -, -⟩ := sliceIn_owns O2.out
  have G2 := Lib.hid (grown_trans HB.out.2.2.1 hg')
  have B2 := Lib.hid (grown_at hg' HB.out.1 (by simp))
  have R2 := Lib.hid (grown_at hg' HB.out.2.1 (by simp))
  have z2 := hg'.size
  rw [← HB.out.2.2.2] at z2
  have zb := lt_of_at B2.out
  have I0 : Hid (CopInv w w2.heap.size n2 #[.slice a1 n2 c1, .slice a2 n2 c2] (ints l.own) l.q A1 k1 0 (w2.alloc (.cells #[.slice A1 n2 k1, .slice none 0 0] 26))) := Lib.hid (by
    exact ⟨.slice none 0 0, [], at_alloc _ B2.out, at_alloc _ R2.out, at_new _ _, O2.out.alloc _, HdrAt.nil _ _ _, grown_alloc _ G2.out⟩)
  have GW0 : Hid (w2.grownBy (w2.alloc (.cells #[.slice A1 n2 k1, .slice none 0 0] 26)) none) := Lib.hid (grown_alloc _ (grown_refl _ _))
  have hw2 : w.heap.size + 2 ≤ w2.heap.size := z2
  have CB : Hid (w2.cell? ⟨w.heap.size, 1, none⟩ = some (.slice a2 n2 c2) ∧ w.heap.size < w2.heap.size) := Lib.hid ⟨by rw [cell_at B2.out]; rfl, lt_of_at B2.out⟩
  have GA := Lib.hid G2.out
  have D1 : Hid (∀ b, (Value.slice A1 n2 k1).ownBlock = some b → b < w2.heap.size) := Lib.hid (fun b hb => (own_some O2.out hb).2)
  clear hown hg hg' K0 O2 G2 B2 R2 HB
  go_wp2_with fail
  go_loopw [4] (fun i wr => ∃ k : Nat, k ≤ n2 ∧ i = .int .i64 k ∧ CopInv w w2.heap.size n2 #[.slice a1 n2 c1, .slice a2 n2 c2] (ints l.own) l.q A1 k1 k wr ∧ w2.grownBy wr none) (fun i _ => n2 - (intOf i).toNat)
  case atStart => exact ⟨0, by omega, rfl, I0.out, GW0.out⟩
  case round =>
    obtain ⟨k, hk, rfl, ⟨vq, hdrs, hbx, hrs, hot, how, hHA, hG⟩, hGW⟩ := hrel
    have GW := Lib.hid hGW
    have BX := Lib.hid hbx
    have RS := Lib.hid hrs
    have OT := Lib.hid hot
    have OW := Lib.hid how
    have HH := Lib.hid hHA
    have G := Lib.hid hG
    have p1 := (rules_at hbx).1
    have p2 := lt_of_at hbx
    have p3 := (rules_at hot).1
    have p4 := lt_of_at hot
    have p5 := (rules_at hot).2
    have p6 := (rules_at hrs).1
    have p7 := (rules_at hrs).2
    have p8 := lt_of_at hrs
    obtain ⟨AQ, cq, rfl, hq1, hq2, -, -⟩ := sliceIn_owns hHA.1
    unfold maxLen at hq2
    clear hbx hrs hot how hHA hG hGW I0 GW0
    by_cases hkn : k < n2
    · obtain ⟨x, hx⟩ : ∃ x, l.q[k]? = some x := ⟨_, List.getElem?_eq_getElem (by rw [L2.out]; exact hkn)⟩
      obtain ⟨b, off, A, c, rfl, _, c0, hlc, hcm, hA, hrow⟩ := K.out.1.2.at hx
      have hx8 := V.out.row hx
      have HX := Lib.hid hx
      have RW := Lib.hid hrow.1
      have HA := Lib.hid hA
      have hk' : (k : Int) < n2 := by omega
      have d1 := (grown_cell G.out (lt_of_cell c0) (by simp)).trans c0
      have d2 := lt_of_cell d1
      have hg := G.out
      have CC : Hid (w2.cell? ⟨w.heap.size, 1, none⟩ = some (.slice (some ⟨b, off, none⟩) n2 c2) ∧ w2.cell? ⟨b, off + k, none⟩ = some (.slice A x.length c) ∧ w.heap.size < w2.heap.size ∧ b < w2.heap.size) := Lib.hid ⟨CB.out.1, (grown_cell GA.out (lt_of_cell c0) (by simp)).trans c0, CB.out.2, Nat.lt_of_lt_of_le (lt_of_cell c0) GA.out.size⟩
      clear hx hrow hA c0
      go_upto_region 5 with fail
      clear d1 hg
      refine wp_region_held_drew (S := fun w' => w'.cell? ⟨w.heap.size, 1, none⟩ = some (.slice (some ⟨b, off, none⟩) n2 c2) ∧ w'.cell? ⟨b, off + k, none⟩ = some (.slice A x.length c)) (by kernel_rfl) (by (try dsimp only); refine two_cells CC.out ?_; repeat (first | assumption | exact GW.out | refine grown_drew ?_ | refine grown_alloc _ ?_ | refine grown_set _ ?_ (.inl (Nat.le_refl _)))) (fun hHeld => ?_)
      refine wpAnyH_take (i := 0) (oi := { dst := some 16, op := .fieldAddr 26 (.tmp 3) 1, type := _, pos := _, after := _, guard := none }) (v := ?_) rfl (by kernel_rfl) (by kernel_rfl) (by kernel_rfl) (fun _ _ _ h => h) (Or.inl ⟨by rfl, ?_⟩) (by assumption) ?_
      rotate_left
      · (intro w hSw; (try dsimp only at hSw); go_simp; (try with_reducible rfl))
      try simp only [Act.put, List.setIfInBounds_toArray, List.set_cons_zero, List.set_cons_succ]
      refine wpAnyH_take (i := 2) (oi := { dst := some 18, op := .fieldAddr 26 (.tmp 1) 1, type := _, pos := _, after := _, guard := none }) (v := ?_) rfl (by kernel_rfl) (by kernel_rfl) (by kernel_rfl) (fun _ _ _ h => h) (Or.inl ⟨by rfl, ?_⟩) (by assumption) ?_
      rotate_left
      · (intro w hSw; (try dsimp only at hSw); go_simp; (try with_reducible rfl))
      try simp only [Act.put, List.setIfInBounds_toArray, List.set_cons_zero, List.set_cons_succ]
      refine wpAnyH_take (i := 3) (oi := { dst := some 19, op := .load 24 (.tmp 18), type := _, pos := _, after := _, guard := none }) (v := ?_) rfl (by kernel_rfl) (by kernel_rfl) (by kernel_rfl) (fun _ _ _ h => h) (Or.inl ⟨by rfl, ?_⟩) (by assumption) ?_
      rotate_left
      · (intro w hSw; (try dsimp only at hSw); go_simp; (try with_reducible rfl))
      try simp only [Act.put, List.setIfInBounds_toArray, List.set_cons_zero, List.set_cons_succ]
      refine wpAnyH_take (i := 4) (oi := { dst := some 20, op := .move (.tmp 4), type := _, pos := _, after := _, guard := none }) (v := ?_) rfl (by kernel_rfl) (by kernel_rfl) (by kernel_rfl) (fun _ _ _ h => h) (Or.inl ⟨by rfl, ?_⟩) (by assumption) ?_
      rotate_left
      · (intro w hSw; (try dsimp only at hSw); go_simp; (try with_reducible rfl))
      try simp only [Act.put, List.setIfInBounds_toArray, List.set_cons_zero, List.set_cons_succ]
      refine wpAnyH_take (i := 5) (oi := { dst := some 21, op := .indexAddr 24 (.tmp 19) (.tmp 20), type := _, pos := _, after := _, guard := none }) (v := ?_) rfl (by kernel_rfl) (by kernel_rfl) (by kernel_rfl) (fun _ _ _ h => h) (Or.inl ⟨by rfl, ?_⟩) (by assumption) ?_
      rotate_left
      · (intro w hSw; (try dsimp only at hSw); go_simp; (try with_reducible rfl))
      try simp only [Act.put, List.setIfInBounds_toArray, List.set_cons_zero, List.set_cons_succ]
      refine wpAnyH_take (i := 6) (oi := { dst := some 22, op := .load 22 (.tmp 21), type := _, pos := _, after := _, guard := none }) (v := ?_) rfl (by kernel_rfl) (by kernel_rfl) (by kernel_rfl) (fun _ _ _ h => h) (Or.inl ⟨by rfl, ?_⟩) (by assumption) ?_
      rotate_left
      · (intro w hSw; (try dsimp only at hSw); go_simp; (try with_reducible rfl))
      try simp only [Act.put, List.setIfInBounds_toArray, List.set_cons_zero, List.set_cons_succ]
      refine wpAnyH_ready (rs := [1, 7]) (by kernel_rfl) (by simp) ?_
      refine AllReadyH.cons (o := _) rfl (fun K hK => ?_) (AllReadyH.cons (o := _) rfl (fun K hK => ?_) AllReadyH.nil)
      · skip
        go_simp
        refine hK.out _ _ ?_ (fun hHeld2 => ?_)
        · ((try dsimp only); refine two_cells CC.out ?_; repeat (first | assumption | exact GW.out | refine grown_drew ?_ | refine grown_alloc _ ?_ | refine grown_set _ ?_ (.inl (Nat.le_refl _))))
        clear hK K
        try simp only [Act.put, List.setIfInBounds_toArray, List.set_cons_zero, List.set_cons_succ]
        refine wpAnyH_ready (rs := [7]) (by kernel_rfl) (by simp) ?_
        refine AllReadyH.cons (o := _) rfl (fun K hK => ?_) AllReadyH.nil
        refine step_append_in St_int rfl (.const (.slice none 0 0)) (.tmp 22) rfl (by rfl) (World.ownsRow_nil _ wr.heap.size 3 1) (by rfl) (news := ints x) (RowIn.kept RW.out (by repeat (first | assumption | refine grown_drew ?_ | refine grown_alloc _ ?_))) HA.out (ints_one _) (by unfold maxLen; omega) (by omega) (by first | exact Nat.le_refl _ | simp) ?_; intro v3 x1 hown3 hg3 hloc3; clear hloc3; have O3 : Hid (x1.ownsRow wr.heap.size 3 1 v3 x.length (ints x)) := Lib.hid (by simpa using hown3); have g1 : wr.grownBy x1 none := grown_own (by repeat (first | assumption | exact grown_refl _ _ | refine grown_drew ?_ | refine grown_alloc _ ?_)) hg3 (fun g hg => by cases hg); have gw1 : w2.grownBy x1 none := grown_trans GW.out g1; obtain ⟨A3, k3, rfl, -, -, -, -⟩ := sliceIn_owns O3.out; have z1 := g1.size; have ot1 := grown_at g1 OT.out (by simp); have q33 := (rules_at ot1).1; have q44 := lt_of_at ot1; clear hown3 hg3
        refine hK.out _ _ ?_ (fun hHeld2 => ?_)
        · ((try dsimp only); refine two_cells CC.out ?_; repeat (first | assumption | exact GW.out | refine grown_drew ?_ | refine grown_alloc _ ?_ | refine grown_set _ ?_ (.inl (Nat.le_refl _))))
        clear hK K
        try simp only [Act.put, List.setIfInBounds_toArray, List.set_cons_zero, List.set_cons_succ]
        refine wpAnyH_ready (rs := [8]) (by kernel_rfl) (by simp) ?_
        refine AllReadyH.cons (o := _) rfl (fun K hK => ?_) AllReadyH.nil
        go_simp
        refine hK.out _ _ ?_ (fun hHeld2 => ?_)
        · ((try dsimp only); refine two_cells CC.out ?_; repeat (first | assumption | exact GW.out | refine grown_drew ?_ | refine grown_alloc _ ?_ | refine grown_set _ ?_ (.inl (Nat.le_refl _))))
        clear hK K
        try simp only [Act.put, List.setIfInBounds_toArray, List.set_cons_zero, List.set_cons_succ]
        refine wpAnyH_ready (rs := [9]) (by kernel_rfl) (by simp) ?_
        refine AllReadyH.cons (o := _) rfl (fun K hK => ?_) AllReadyH.nil
        refine step_append_in St_ints rfl (.tmp 17) (.tmp 24) rfl (by rfl) (World.ownsRow.kept HH.out.1 (by repeat (first | assumption | exact grown_refl _ _ | refine grown_drew ?_ | refine grown_alloc _ ?_)) (Classical.em _)) (by rfl) (news := [.slice A3 x.length k3]) (rowIn_block (n := 1) (size := 1) (at_new _ _) rfl (by unfold maxLen; omega)) (fun h => by cases h) (flat_one rfl) (by unfold maxLen; omega) (by omega) (by first | omega | (simp; omega)) ?_; intro v4 x3 hown4 hg4 hloc4; obtain ⟨A4, k4, rfl, -, -, -, -⟩ := sliceIn_owns hown4; have ot4 := grown_at hg4 (at_alloc (.cells #[.slice A3 x.length k3] 22) (grown_at g1 OT.out (by simp))) (fun e => by have := HH.out.1.lt _ e.symm; omega); have p33 := (rules_at ot4).1; have p44 := lt_of_at ot4; have p55 := (rules_at ot4).2; have gw3 : w2.grownBy x3 none := grown_own (grown_alloc _ gw1) hg4 (fun m hm => by have := HH.out.1.lt _ hm; omega); have O4 := Lib.hid hown4; have G4 := Lib.hid hg4; have LO4 := Lib.hid hloc4; clear hown4 hg4 hloc4 ot4
        refine hK.out _ _ ?_ (fun hHeld2 => ?_)
        · ((try dsimp only); refine two_cells CC.out ?_; repeat (first | assumption | exact GW.out | refine grown_drew ?_ | refine grown_alloc _ ?_ | refine grown_set _ ?_ (.inl (Nat.le_refl _))))
        clear hK K
        try simp only [Act.put, List.setIfInBounds_toArray, List.set_cons_zero, List.set_cons_succ]
        refine wpAnyH_ready (rs := [10]) (by kernel_rfl) (by simp) ?_
        refine AllReadyH.cons (o := _) rfl (fun K hK => ?_) AllReadyH.nil
        go_simp
        refine hK.out _ _ ?_ (fun hHeld2 => ?_)
        · ((try dsimp only); refine two_cells CC.out ?_; repeat (first | assumption | exact GW.out | refine grown_drew ?_ | refine grown_alloc _ ?_ | refine grown_set _ ?_ (.inl (Nat.le_refl _))))
        clear hK K
        try simp only [Act.put, List.setIfInBounds_toArray, List.set_cons_zero, List.set_cons_succ]
        refine wpAnyH_ready (rs := [11]) (by kernel_rfl) (by simp) ?_
        refine AllReadyH.cons (o := _) rfl (fun K hK => ?_) AllReadyH.nil
        go_simp
        refine hK.out _ _ ?_ (fun hHeld2 => ?_)
        · ((try dsimp only); refine two_cells CC.out ?_; repeat (first | assumption | exact GW.out | refine grown_drew ?_ | refine grown_alloc _ ?_ | refine grown_set _ ?_ (.inl (Nat.le_refl _))))
        clear hK K
        try simp only [Act.put, List.setIfInBounds_toArray, List.set_cons_zero, List.set_cons_succ]
        refine wpAnyH_done (by kernel_rfl) ?_ _
        have IN := Lib.hid (cop_step BX.out RS.out OT.out OW.out HH.out G.out GW.out zb hw2 HX.out O3.out g1 G4.out O4.out LO4.out D1.out)
        clear O3 O4 G4 LO4 g1 gw1 gw3 hHeld hHeld2 q33 q44 p33 p44 p55 ot1 HH OW OT RS BX G d2 p1 p2 p3 p4 p5 p6 p7 p8
        go_wp2_with fail
        go_roundw
        case rel => exact ⟨k + 1, by omega, by go_num, IN.out.1, IN.out.2⟩
        case measure => simp [intOf]; omega
      · skip
        refine step_append_in St_int rfl (.const (.slice none 0 0)) (.tmp 22) rfl (by rfl) (World.ownsRow_nil _ wr.heap.size 3 1) (by rfl) (news := ints x) (RowIn.kept RW.out (by repeat (first | assumption | refine grown_drew ?_ | refine grown_alloc _ ?_))) HA.out (ints_one _) (by unfold maxLen; omega) (by omega) (by first | exact Nat.le_refl _ | simp) ?_; intro v3 x1 hown3 hg3 hloc3; clear hloc3; have O3 : Hid (x1.ownsRow wr.heap.size 3 1 v3 x.length (ints x)) := Lib.hid (by simpa using hown3); have g1 : wr.grownBy x1 none := grown_own (by repeat (first | assumption | exact grown_refl _ _ | refine grown_drew ?_ | refine grown_alloc _ ?_)) hg3 (fun g hg => by cases hg); have gw1 : w2.grownBy x1 none := grown_trans GW.out g1; obtain ⟨A3, k3, rfl, -, -, -, -⟩ := sliceIn_owns O3.out; have z1 := g1.size; have ot1 := grown_at g1 OT.out (by simp); have q33 := (rules_at ot1).1; have q44 := lt_of_at ot1; clear hown3 hg3
        refine hK.out _ _ ?_ (fun hHeld2 => ?_)
        · ((try dsimp only); refine two_cells CC.out ?_; repeat (first | assumption | exact GW.out | refine grown_drew ?_ | refine grown_alloc _ ?_ | refine grown_set _ ?_ (.inl (Nat.le_refl _))))
        clear hK K
        try simp only [Act.put, List.setIfInBounds_toArray, List.set_cons_zero, List.set_cons_succ]
        refine wpAnyH_ready (rs := [1, 8]) (by kernel_rfl) (by simp) ?_
        refine AllReadyH.cons (o := _) rfl (fun K hK => ?_) (AllReadyH.cons (o := _) rfl (fun K hK => ?_) AllReadyH.nil)
        · skip
          go_simp
          refine hK.out _ _ ?_ (fun hHeld2 => ?_)
          · ((try dsimp only); refine two_cells CC.out ?_; repeat (first | assumption | exact GW.out | refine grown_drew ?_ | refine grown_alloc _ ?_ | refine grown_set _ ?_ (.inl (Nat.le_refl _))))
          clear hK K
          try simp only [Act.put, List.setIfInBounds_toArray, List.set_cons_zero, List.set_cons_succ]
          refine wpAnyH_ready (rs := [8]) (by kernel_rfl) (by simp) ?_
          refine AllReadyH.cons (o := _) rfl (fun K hK => ?_) AllReadyH.nil
          go_simp
          refine hK.out _ _ ?_ (fun hHeld2 => ?_)
          · ((try dsimp only); refine two_cells CC.out ?_; repeat (first | assumption | exact GW.out | refine grown_drew ?_ | refine grown_alloc _ ?_ | refine grown_set _ ?_ (.inl (Nat.le_refl _))))
          clear hK K
          try simp only [Act.put, List.setIfInBounds_toArray, List.set_cons_zero, List.set_cons_succ]
          refine wpAnyH_ready (rs := [9]) (by kernel_rfl) (by simp) ?_
          refine AllReadyH.cons (o := _) rfl (fun K hK => ?_) AllReadyH.nil
          refine step_append_in St_ints rfl (.tmp 17) (.tmp 24) rfl (by rfl) (World.ownsRow.kept HH.out.1 (by repeat (first | assumption | exact grown_refl _ _ | refine grown_drew ?_ | refine grown_alloc _ ?_)) (Classical.em _)) (by rfl) (news := [.slice A3 x.length k3]) (rowIn_block (n := 1) (size := 1) (at_new _ _) rfl (by unfold maxLen; omega)) (fun h => by cases h) (flat_one rfl) (by unfold maxLen; omega) (by omega) (by first | omega | (simp; omega)) ?_; intro v4 x3 hown4 hg4 hloc4; obtain ⟨A4, k4, rfl, -, -, -, -⟩ := sliceIn_owns hown4; have ot4 := grown_at hg4 (at_alloc (.cells #[.slice A3 x.length k3] 22) (grown_at g1 OT.out (by simp))) (fun e => by have := HH.out.1.lt _ e.symm; omega); have p33 := (rules_at ot4).1; have p44 := lt_of_at ot4; have p55 := (rules_at ot4).2; have gw3 : w2.grownBy x3 none := grown_own (grown_alloc _ gw1) hg4 (fun m hm => by have := HH.out.1.lt _ hm; omega); have O4 := Lib.hid hown4; have G4 := Lib.hid hg4; have LO4 := Lib.hid hloc4; clear hown4 hg4 hloc4 ot4
          refine hK.out _ _ ?_ (fun hHeld2 => ?_)
          · ((try dsimp only); refine two_cells CC.out ?_; repeat (first | assumption | exact GW.out | refine grown_drew ?_ | refine grown_alloc _ ?_ | refine grown_set _ ?_ (.inl (Nat.le_refl _))))
          clear hK K
          try simp only [Act.put, List.setIfInBounds_toArray, List.set_cons_zero, List.set_cons_succ]
          refine wpAnyH_ready (rs := [10]) (by kernel_rfl) (by simp) ?_
          refine AllReadyH.cons (o := _) rfl (fun K hK => ?_) AllReadyH.nil
          go_simp
          refine hK.out _ _ ?_ (fun hHeld2 => ?_)
          · ((try dsimp only); refine two_cells CC.out ?_; repeat (first | assumption | exact GW.out | refine grown_drew ?_ | refine grown_alloc _ ?_ | refine grown_set _ ?_ (.inl (Nat.le_refl _))))
          clear hK K
          try simp only [Act.put, List.setIfInBounds_toArray, List.set_cons_zero, List.set_cons_succ]
          refine wpAnyH_ready (rs := [11]) (by kernel_rfl) (by simp) ?_
          refine AllReadyH.cons (o := _) rfl (fun K hK => ?_) AllReadyH.nil
          go_simp
          refine hK.out _ _ ?_ (fun hHeld2 => ?_)
          · ((try dsimp only); refine two_cells CC.out ?_; repeat (first | assumption | exact GW.out | refine grown_drew ?_ | refine grown_alloc _ ?_ | refine grown_set _ ?_ (.inl (Nat.le_refl _))))
          clear hK K
          try simp only [Act.put, List.setIfInBounds_toArray, List.set_cons_zero, List.set_cons_succ]
          refine wpAnyH_done (by kernel_rfl) ?_ _
          have IN := Lib.hid (cop_step BX.out RS.out OT.out OW.out HH.out G.out GW.out zb hw2 HX.out O3.out g1 G4.out O4.out LO4.out D1.out)
          clear O3 O4 G4 LO4 g1 gw1 gw3 hHeld hHeld2 q33 q44 p33 p44 p55 ot1 HH OW OT RS BX G d2 p1 p2 p3 p4 p5 p6 p7 p8
          go_wp2_with fail
          go_roundw
          case rel => exact ⟨k + 1, by omega, by go_num, IN.out.1, IN.out.2⟩
          case measure => simp [intOf]; omega
        · skip
          go_simp
          refine hK.out _ _ ?_ (fun hHeld2 => ?_)
          · ((try dsimp only); refine two_cells CC.out ?_; repeat (first | assumption | exact GW.out | refine grown_drew ?_ | refine grown_alloc _ ?_ | refine grown_set _ ?_ (.inl (Nat.le_refl _))))
          clear hK K
          try simp only [Act.put, List.setIfInBounds_toArray, List.set_cons_zero, List.set_cons_succ]
          refine wpAnyH_ready (rs := [1]) (by kernel_rfl) (by simp) ?_
          refine AllReadyH.cons (o := _) rfl (fun K hK => ?_) AllReadyH.nil
          go_simp
          refine hK.out _ _ ?_ (fun hHeld2 => ?_)
          · ((try dsimp only); refine two_cells CC.out ?_; repeat (first | assumption | exact GW.out | refine grown_drew ?_ | refine grown_alloc _ ?_ | refine grown_set _ ?_ (.inl (Nat.le_refl _))))
          clear hK K
          try simp only [Act.put, List.setIfInBounds_toArray, List.set_cons_zero, List.set_cons_succ]
          refine wpAnyH_ready (rs := [9]) (by kernel_rfl) (by simp) ?_
          refine AllReadyH.cons (o := _) rfl (fun K hK => ?_) AllReadyH.nil
          refine step_append_in St_ints rfl (.tmp 17) (.tmp 24) rfl (by rfl) (World.ownsRow.kept HH.out.1 (by repeat (first | assumption | exact grown_refl _ _ | refine grown_drew ?_ | refine grown_alloc _ ?_)) (Classical.em _)) (by rfl) (news := [.slice A3 x.length k3]) (rowIn_block (n := 1) (size := 1) (at_new _ _) rfl (by unfold maxLen; omega)) (fun h => by cases h) (flat_one rfl) (by unfold maxLen; omega) (by omega) (by first | omega | (simp; omega)) ?_; intro v4 x3 hown4 hg4 hloc4; obtain ⟨A4, k4, rfl, -, -, -, -⟩ := sliceIn_owns hown4; have ot4 := grown_at hg4 (at_alloc (.cells #[.slice A3 x.length k3] 22) (grown_at g1 OT.out (by simp))) (fun e => by have := HH.out.1.lt _ e.symm; omega); have p33 := (rules_at ot4).1; have p44 := lt_of_at ot4; have p55 := (rules_at ot4).2; have gw3 : w2.grownBy x3 none := grown_own (grown_alloc _ gw1) hg4 (fun m hm => by have := HH.out.1.lt _ hm; omega); have O4 := Lib.hid hown4; have G4 := Lib.hid hg4; have LO4 := Lib.hid hloc4; clear hown4 hg4 hloc4 ot4
          refine hK.out _ _ ?_ (fun hHeld2 => ?_)
          · ((try dsimp only); refine two_cells CC.out ?_; repeat (first | assumption | exact GW.out | refine grown_drew ?_ | refine grown_alloc _ ?_ | refine grown_set _ ?_ (.inl (Nat.le_refl _))))
          clear hK K
          try simp only [Act.put, List.setIfInBounds_toArray, List.set_cons_zero, List.set_cons_succ]
          refine wpAnyH_ready (rs := [10]) (by kernel_rfl) (by simp) ?_
          refine AllReadyH.cons (o := _) rfl (fun K hK => ?_) AllReadyH.nil
          go_simp
          refine hK.out _ _ ?_ (fun hHeld2 => ?_)
          · ((try dsimp only); refine two_cells CC.out ?_; repeat (first | assumption | exact GW.out | refine grown_drew ?_ | refine grown_alloc _ ?_ | refine grown_set _ ?_ (.inl (Nat.le_refl _))))
          clear hK K
          try simp only [Act.put, List.setIfInBounds_toArray, List.set_cons_zero, List.set_cons_succ]
          refine wpAnyH_ready (rs := [11]) (by kernel_rfl) (by simp) ?_
          refine AllReadyH.cons (o := _) rfl (fun K hK => ?_) AllReadyH.nil
          go_simp
          refine hK.out _ _ ?_ (fun hHeld2 => ?_)
          · ((try dsimp only); refine two_cells CC.out ?_; repeat (first | assumption | exact GW.out | refine grown_drew ?_ | refine grown_alloc _ ?_ | refine grown_set _ ?_ (.inl (Nat.le_refl _))))
          clear hK K
          try simp only [Act.put, List.setIfInBounds_toArray, List.set_cons_zero, List.set_cons_succ]
          refine wpAnyH_done (by kernel_rfl) ?_ _
          have IN := Lib.hid (cop_step BX.out RS.out OT.out OW.out HH.out G.out GW.out zb hw2 HX.out O3.out g1 G4.out O4.out LO4.out D1.out)
          clear O3 O4 G4 LO4 g1 gw1 gw3 hHeld hHeld2 q33 q44 p33 p44 p55 ot1 HH OW OT RS BX G d2 p1 p2 p3 p4 p5 p6 p7 p8
          go_wp2_with fail
          go_roundw
          case rel => exact ⟨k + 1, by omega, by go_num, IN.out.1, IN.out.2⟩
          case measure => simp [intOf]; omega
    · obtain rfl : k = n2 := by omega
      obtain ⟨s0, s1⟩ := two_get RS.out (.slice A1 k k1) (.slice AQ k cq)
      have FF : Hid (FreshLk ((wr.setCell ⟨w.heap.size + 1, 0, none⟩ (.slice A1 k k1)).setCell ⟨w.heap.size + 1, 1, none⟩ (.slice AQ k cq)) w.heap.size (.slice A1 k k1) (.slice AQ k cq) l) := Lib.hid (by
        have gs : wr.grownBy ((wr.setCell ⟨w.heap.size + 1, 0, none⟩ (.slice A1 k k1)).setCell ⟨w.heap.size + 1, 1, none⟩ (.slice AQ k cq)) (some (w.heap.size + 1)) := grown_set _ (grown_set _ (grown_refl wr _) (.inr rfl)) (.inr rfl)
        have hk' := L2.out
        have ho := OW.out.kept gs (.inr (owns_ne OW.out (by omega)))
        have hh : HdrAt ((wr.setCell ⟨w.heap.size + 1, 0, none⟩ (.slice A1 k k1)).setCell ⟨w.heap.size + 1, 1, none⟩ (.slice AQ k cq)) w2.heap.size (.slice AQ k cq) l.q l.q.length hdrs := by
          rw [hk']
          refine ⟨HH.out.1.kept gs (.inr (owns_ne HH.out.1 (by omega))), fun i xs hi hx => ?_⟩
          obtain ⟨v, e1, e2, e3, e4⟩ := HH.out.2 i xs hi hx
          exact ⟨v, e1, e2.kept gs (.inr (owns_ne e2 (by omega))), e3, e4⟩
        have zs := gs.size
        refine ⟨w2.heap.size + 1, by rw [L1.out]; exact own_low ho (by omega), fun b hb => ?_, hh.queO (by omega), by omega, by omega⟩
        have hb' := D1.out b hb
        exact ⟨by omega, fun e => by have := (hh.1.lt b e).1; omega⟩)
      have GF := Lib.hid (grown_set (p := ⟨w.heap.size + 1, 1, none⟩) (.slice AQ k cq) (grown_set (p := ⟨w.heap.size + 1, 0, none⟩) (.slice A1 k k1) G.out (.inl (by simp))) (.inl (by simp)))
      clear HH OW OT BX RS
      go_wp2_with fail
      exact bodyPost_ret (v := .agg #[.slice A1 k k1, .slice AQ k cq]) (by simp [results, Try.results46, go_sem, s0, s1]) rfl ⟨_, _, rfl, FF.out, GF.out⟩
end Go.Proofs.Ytbpobekmbdngbaa
