/- The state of InterlockTurns, and how it is written. -/
import Derived.Test.YtbpobekmbdngbaaLkAskM
import Derived.Test.YtbpobekmbdngbaaLkTurnL
namespace Go.Proofs.Ytbpobekmbdngbaa
open Go.RowKit
set_option linter.unusedVariables false

/-- The lock l in box b4 (nothing of it up to block c), asked and owner as in s, the tape at kt. -/
def TtI (w X : World) (B T : Nat) (ad : Option Addr) (len cap : Nat) (zs : List Int) (b4 gq go baseQ c : Nat) (v1 v2 : Value) (l s : Lk) (kt : Nat) : Prop :=
  ∃ base, LkA base X (.agg #[v1, v2]) l ∧ c < base ∧ X.heap[b4]? = some (.cells #[v1, v2] 26 (0, 0)) ∧ AskM X baseQ gq s.q ∧ OwnR X go 3 3 3 1 (ints s.own) ∧ TapeAt X B T ad len cap zs kt ∧ w.grownBy X none ∧ VL l ∧ s.q.length = 3
/-- The blocks' order. -/
def TtO (w : World) (B b4 gq go baseQ : Nat) : Prop := w.heap.size ≤ B ∧ B < b4 ∧ b4 < gq ∧ gq < go ∧ go < baseQ
theorem setCell_comm {W : World} {p q : Addr} {u v : Value} (_ : True) (h : p.block ≠ q.block) : (W.setCell p u).setCell q v = (W.setCell q v).setCell p u := by
  unfold World.setCell
  simp only
  congr 1
  apply Array.ext
  · simp
  · intro i h1 h2
    simp only [Array.getElem_modify]
    by_cases e1 : p.block = i
    · by_cases e2 : q.block = i
      · exact absurd (e1.trans e2.symm) h
      · simp [e1, e2]
    · simp [e1]
section
variable {w X Y : World} {B T : Nat} {ad : Option Addr} {len cap : Nat} {zs : List Int} {b4 gq go baseQ c : Nat} {v1 v2 : Value} {l s : Lk} {kt kt' : Nat}
theorem TtI.weak {c' : Nat} (h : TtI w X B T ad len cap zs b4 gq go baseQ c v1 v2 l s kt) (hc : c' ≤ c) : TtI w X B T ad len cap zs b4 gq go baseQ c' v1 v2 l s kt := by
  obtain ⟨base, h1, h2, h3⟩ := h
  exact ⟨base, h1, by omega, h3⟩
theorem TtI.grow (h : TtI w X B T ad len cap zs b4 gq go baseQ c v1 v2 l s kt) (hg : X.grownBy Y none) : TtI w Y B T ad len cap zs b4 gq go baseQ c v1 v2 l s kt := by
  obtain ⟨base, h1, h2, h3, h4, h5, h6, h7, h8⟩ := h
  exact ⟨base, h1.kept hg (by simp), h2, grown_at hg h3 (by simp), h4.kept hg (by simp), h5.kept hg (by simp), h6.other hg, grown_trans h7 hg, h8⟩
instance : Stay none X Y (TtI w X B T ad len cap zs b4 gq go baseQ c v1 v2 l s kt) (TtI w Y B T ad len cap zs b4 gq go baseQ c v1 v2 l s kt) := ⟨fun hg h => h.grow hg⟩
theorem TtI.next (h : TtI w X B T ad len cap zs b4 gq go baseQ c v1 v2 l s kt) (o : TtO w B b4 gq go baseQ) (hc : B ≤ c) (ht : TapeAt Y B T ad len cap zs kt') (hg : X.grownBy Y (some B)) : TtI w Y B T ad len cap zs b4 gq go baseQ c v1 v2 l s kt' := by
  obtain ⟨base, h1, h2, h3, h4, h5, h6, h7, h8⟩ := h
  obtain ⟨o1, o2, o3, o4, o5⟩ := o
  exact ⟨base, h1.kept hg (fun b e => by obtain rfl := Option.some.inj e; omega), h2, grown_at hg h3 (by simp; omega), h4.kept hg (fun b e => by obtain rfl := Option.some.inj e; omega), h5.kept hg (by simp; omega), ht, grown_own h7 hg (fun b e => by obtain rfl := Option.some.inj e; exact o1), h8⟩
theorem TtI.lt (h : TtI w X B T ad len cap zs b4 gq go baseQ c v1 v2 l s kt) : go < X.heap.size := by
  obtain ⟨base, h1, h2, h3, h4, h5, h6, h7, h8⟩ := h
  exact h5.lt
/-- The lock is replaced. -/
theorem TtI.put4 {base' : Nat} {u1 u2 : Value} {l' : Lk} (h : TtI w X B T ad len cap zs b4 gq go baseQ c v1 v2 l s kt) (o : TtO w B b4 gq go baseQ) (hA : LkA base' X (.agg #[u1, u2]) l') (hb : go < base') (hv : VL l') :
    TtI w ((X.setCell ⟨b4, 0, none⟩ u1).setCell ⟨b4, 1, none⟩ u2) B T ad len cap zs b4 gq go baseQ go u1 u2 l' s kt := by
  obtain ⟨base, h1, h2, h3, h4, h5, h6, h7, h8, h9⟩ := h
  obtain ⟨o1, o2, o3, o4, o5⟩ := o
  obtain ⟨hbx, hg⟩ := box_put (v1 := u1) (v2 := u2) h3
  exact ⟨base', hA.box (by omega), hb, hbx, h4.kept hg (fun b e => by obtain rfl := Option.some.inj e; omega), h5.kept hg (by simp; omega), h6.above hg (fun b e => by obtain rfl := Option.some.inj e; omega), grown_own h7 hg (fun b e => by obtain rfl := Option.some.inj e; omega), hv, h9⟩
/-- An owner is written. -/
theorem TtI.putO {k : Nat} {x : Int} (h : TtI w X B T ad len cap zs b4 gq go baseQ go v1 v2 l s kt) (o : TtO w B b4 gq go baseQ) :
    TtI w (X.setCell ⟨go, k, none⟩ (.int .i64 x)) B T ad len cap zs b4 gq go baseQ go v1 v2 l ⟨s.own.set k x, s.q⟩ kt := by
  obtain ⟨base, h1, h2, h3, h4, h5, h6, h7, h8⟩ := h
  obtain ⟨o1, o2, o3, o4, o5⟩ := o
  have hg := grown_set (p := ⟨go, k, none⟩) (.int .i64 x) (grown_refl X (some go)) (.inr rfl)
  have h5' := h5.set (i := k) (.int .i64 x)
  rw [ints_set1] at h5'
  exact ⟨base, h1.kept hg (fun b e => by obtain rfl := Option.some.inj e; omega), h2, grown_at hg h3 (by simp; omega), h4.kept hg (fun b e => by obtain rfl := Option.some.inj e; omega), h5', h6.above hg (fun b e => by obtain rfl := Option.some.inj e; omega), grown_own h7 hg (fun b e => by obtain rfl := Option.some.inj e; omega), h8⟩
/-- A queue's header is written: a part of it, or a new one. -/
theorem TtI.putQ {X0 : World} {k : Nat} {xs ys : List Int} {v v' : Value} (h : TtI w X0 B T ad len cap zs b4 gq go baseQ go v1 v2 l s kt) (o : TtO w B b4 gq go baseQ) (g0 : X0.grownBy X none) (hx : s.q[k]? = some xs) (hv : X0.cell? ⟨gq, k, none⟩ = some v) (hq : QueN X baseQ v' ys) (hw : v'.ownBlock = v.ownBlock ∨ ∀ m, v'.ownBlock = some m → X0.heap.size ≤ m) :
    TtI w (X.setCell ⟨gq, k, none⟩ v') B T ad len cap zs b4 gq go baseQ go v1 v2 l ⟨s.own, s.q.set k ys⟩ kt := by
  have hX := h.grow g0
  obtain ⟨base0, i1, i2, i3, i4, i5, i6, i7, i8, i9⟩ := h
  obtain ⟨base, h1, h2, h3, h4, h5, h6, h7, h8, h9⟩ := hX
  obtain ⟨o1, o2, o3, o4, o5⟩ := o
  have hg := grown_set (p := ⟨gq, k, none⟩) v' (grown_refl X (some gq)) (.inr rfl)
  exact ⟨base, h1.kept hg (fun b e => by obtain rfl := Option.some.inj e; omega), h2, grown_at hg h3 (by simp; omega), i4.put hx hv g0 (.inl rfl) hq hw, h5.kept hg (by simp; omega), h6.above hg (fun b e => by obtain rfl := Option.some.inj e; omega), grown_own h7 hg (fun b e => by obtain rfl := Option.some.inj e; omega), h8, by simpa using h9⟩
/-- Ask: the lock is replaced and a queue is appended to. -/
theorem TtI.ask {Y Z x3 : World} {k : Nat} {xs : List Int} {r : Int} {v v' u1 u2 : Value} {l' : Lk} (h : TtI w X B T ad len cap zs b4 gq go baseQ c v1 v2 l s kt) (o : TtO w B b4 gq go baseQ) (hA : LkA X.heap.size Y (.agg #[u1, u2]) l') (hY : X.grownBy Y none) (hZ : Y.grownBy Z none)
    (hx : s.q[k]? = some xs) (hv : X.cell? ⟨gq, k, none⟩ = some v) (g3 : Z.grownBy x3 v.ownBlock) (hq : QueN x3 baseQ v' (xs ++ [r])) (hl : v'.ownBlock = v.ownBlock ∨ v'.ownBlock = some Z.heap.size) (hvl : VL l') :
    TtI w (((x3.setCell ⟨b4, 0, none⟩ u1).setCell ⟨b4, 1, none⟩ u2).setCell ⟨gq, k, none⟩ v') B T ad len cap zs b4 gq go baseQ go u1 u2 l' ⟨s.own, s.q.set k (xs ++ [r])⟩ kt := by
  have hgo := h.lt
  obtain ⟨base, h1, h2, h3, h4, h5, h6, h7, h8, h9⟩ := h
  obtain ⟨o1, o2, o3, o4, o5⟩ := o
  have hXZ := grown_trans hY hZ
  have hXx := grown_trans (grown_weak (r := v.ownBlock) hXZ) g3
  obtain ⟨v0, c1, c2, c3⟩ := h4.at hx
  obtain rfl : v0 = v := by rw [hv] at c1; exact (Option.some.inj c1).symm
  have hb : ∀ m, v0.ownBlock = some m → baseQ ≤ m ∧ m < X.heap.size := c3.lt
  have hbZ : ∀ m, v0.ownBlock = some m → go < m := fun m hm => by have := (hb m hm).1; omega
  have e3 := grown_at hXx h3 (fun e => by have := hbZ b4 e.symm; omega)
  obtain ⟨hbx, hg4⟩ := box_put (v1 := u1) (v2 := u2) e3
  have hgq := grown_set (p := ⟨gq, k, none⟩) v' (grown_refl ((x3.setCell ⟨b4, 0, none⟩ u1).setCell ⟨b4, 1, none⟩ u2) (some gq)) (.inr rfl)
  have A1 : LkA X.heap.size x3 (.agg #[u1, u2]) l' := (hA.kept hZ (by simp)).kept g3 (fun m hm => (hb m hm).2)
  have hsz := hXZ.size
  -- asked: put at x3, then the lock's box
  have hq2 : QueN ((x3.setCell ⟨b4, 0, none⟩ u1).setCell ⟨b4, 1, none⟩ u2) baseQ v' (xs ++ [r]) := hq.kept hg4 (by
    cases hv' : v'.ownBlock with
    | none => exact .inl rfl
    | some m =>
      have := (hq.lt m hv').1
      exact .inr (by simp; omega))
  have hAsk : AskM (((x3.setCell ⟨b4, 0, none⟩ u1).setCell ⟨b4, 1, none⟩ u2).setCell ⟨gq, k, none⟩ v') baseQ gq (s.q.set k (xs ++ [r])) := by
    -- the header first, then the box: the worlds agree on what matters
    have ha := h4.put hx hv hXx (.inr rfl) hq (hl.imp id (fun h m hm => by rw [h] at hm; have := Option.some.inj hm; omega))
    obtain ⟨cs, a1, a2, a3, a4⟩ := ha
    have hgb : (x3.setCell ⟨gq, k, none⟩ v').grownBy ((((x3.setCell ⟨gq, k, none⟩ v').setCell ⟨b4, 0, none⟩ u1).setCell ⟨b4, 1, none⟩ u2)) (some b4) := grown_set _ (grown_set _ (grown_refl _ _) (.inr rfl)) (.inr rfl)
    have ha' : AskM (((x3.setCell ⟨gq, k, none⟩ v').setCell ⟨b4, 0, none⟩ u1).setCell ⟨b4, 1, none⟩ u2) baseQ gq (s.q.set k (xs ++ [r])) := AskM.kept ⟨cs, a1, a2, a3, a4⟩ hgb (fun b e => by obtain rfl := Option.some.inj e; omega)
    rw [setCell_comm (W := x3) (p := ⟨gq, k, none⟩) (q := ⟨b4, 0, none⟩) trivial (by simp; omega), setCell_comm (W := x3.setCell ⟨b4, 0, none⟩ u1) (p := ⟨gq, k, none⟩) (q := ⟨b4, 1, none⟩) trivial (by simp; omega)] at ha'
    exact ha'
  refine ⟨X.heap.size, ((A1.box (b := b4) (by omega)).kept hgq (fun b e => by obtain rfl := Option.some.inj e; omega)), hgo, grown_at hgq hbx (by simp; omega), hAsk, ?_, ?_, ?_, hvl, by simpa using h9⟩
  · exact ((h5.kept hXx (fun e => by have := hbZ go e.symm; omega)).kept hg4 (by simp; omega)).kept hgq (by simp; omega)
  · exact ((((h6.other hXZ).above g3 (fun m hm => by have := hbZ m hm; omega)).above hg4 (fun b e => by obtain rfl := Option.some.inj e; omega))).above hgq (fun b e => by obtain rfl := Option.some.inj e; omega)
  · exact grown_own (grown_own (grown_own (grown_trans h7 hXZ) g3 (fun m hm => by have := hbZ m hm; omega)) hg4 (fun b e => by obtain rfl := Option.some.inj e; omega)) hgq (fun b e => by obtain rfl := Option.some.inj e; omega)
theorem turn_give {k : Nat} {r : Int} {rest : List Int} {v v' : Value} (o : TtO w B b4 gq go baseQ) (h : TtI w X B T ad len cap zs b4 gq go baseQ go v1 v2 l s kt) (hr : s.q[k]? = some (r :: rest)) (hv : X.cell? ⟨gq, k, none⟩ = some v) (hq : QueN X baseQ v' rest) (hw : v'.ownBlock = v.ownBlock) :
    TtI w ((X.setCell ⟨go, k, none⟩ (.int .i64 r)).setCell ⟨gq, k, none⟩ v') B T ad len cap zs b4 gq go baseQ go v1 v2 l ⟨s.own.set k r, s.q.set k rest⟩ kt := by
  have h1 := h.putO (k := k) (x := r) o
  obtain ⟨o1, o2, o3, o4, o5⟩ := id o
  refine h1.putQ o (grown_refl _ none) hr (set_keep hv (by simp; omega)) (hq.kept (r := some go) (grown_set _ (grown_refl _ _) (.inr rfl)) ?_) (.inl hw)
  cases hb : v'.ownBlock with
  | none => exact .inl rfl
  | some m =>
    have := (hq.lt m hb).1
    exact .inr (by simp; omega)
end
end Go.Proofs.Ytbpobekmbdngbaa
