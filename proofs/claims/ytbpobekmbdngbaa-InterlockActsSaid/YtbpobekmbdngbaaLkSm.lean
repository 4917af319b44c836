/- The contract of the law's same: all functions return what the reference's do, for any lock. -/
import Derived.Test.YtbpobekmbdngbaaLkMade
namespace Go.Proofs.Ytbpobekmbdngbaa
open Go.RowKit
set_option linter.unusedVariables false

def SmI (w X : World) (box : Array Value) (b9 b11 : Nat) (p q : Array Value) : Prop :=
  X.heap[w.heap.size]? = some (.cells box 26 (0, 0)) ∧ X.heap[b9]? = some (.cells p 26 (0, 0)) ∧ X.heap[b11]? = some (.cells q 26 (0, 0)) ∧ w.grownBy X none ∧ w.heap.size < b9 ∧ b9 < b11
section
variable {w X Y : World} {box p q : Array Value} {b9 b11 : Nat}
theorem SmI.kept (h : SmI w X box b9 b11 p q) (hg : X.grownBy Y none) : SmI w Y box b9 b11 p q :=
  ⟨grown_at hg h.1 (by simp), grown_at hg h.2.1 (by simp), grown_at hg h.2.2.1 (by simp), grown_trans h.2.2.2.1 hg, h.2.2.2.2⟩
instance : Stay none X Y (SmI w X box b9 b11 p q) (SmI w Y box b9 b11 p q) := ⟨fun hg h => h.kept hg⟩
theorem SmI.put9 {u0 u1 v1 v2 : Value} (h : SmI w X box b9 b11 #[u0, u1] q) : SmI w ((X.setCell ⟨b9, 0, none⟩ v1).setCell ⟨b9, 1, none⟩ v2) box b9 b11 #[v1, v2] q := by
  obtain ⟨hb, hgs⟩ := box_put (v1 := v1) (v2 := v2) h.2.1
  have := h.2.2.2.2
  exact ⟨grown_at hgs h.1 (by simp; omega), hb, grown_at hgs h.2.2.1 (by simp; omega), grown_own h.2.2.2.1 hgs (fun b e => by obtain rfl := Option.some.inj e; omega), this⟩
theorem SmI.put11 {u0 u1 v1 v2 : Value} (h : SmI w X box b9 b11 p #[u0, u1]) : SmI w ((X.setCell ⟨b11, 0, none⟩ v1).setCell ⟨b11, 1, none⟩ v2) box b9 b11 p #[v1, v2] := by
  obtain ⟨hb, hgs⟩ := box_put (v1 := v1) (v2 := v2) h.2.2.1
  have := h.2.2.2.2
  exact ⟨grown_at hgs h.1 (by simp; omega), grown_at hgs h.2.1 (by simp; omega), hb, grown_own h.2.2.2.1 hgs (fun b e => by obtain rfl := Option.some.inj e; omega), this⟩
theorem SmI.lt (h : SmI w X box b9 b11 p q) : b9 < X.heap.size ∧ b11 < X.heap.size := ⟨lt_of_at h.2.1, lt_of_at h.2.2.1⟩
end
theorem sameL_self (l : Lk) : sameL l l = true := sameL_eq rfl rfl

set_option maxRecDepth 100000 in
set_option maxHeartbeats 25600000 in
theorem lsame_any (v : Value) (l : Lk) (ac : Option Addr) (nb cb : Nat) (closed : List Bool) (r c : Int) (w : World) (h : LkV none w v l) (hc : RowIn w ac nb 1 (bools closed)) :
    Calls Try.prog 23 #[v, .slice ac nb cb, .int .i64 r, .int .i64 c] w fun e w' => e = .returned (.bool true) ∧ w.grownBy w' none := by
  obtain ⟨a1, n1, c1, a2, n2, c2, rfl, h⟩ := h
  have H := Lib.hid h
  have CLo := Lib.hid hc
  have LB := Lib.hid hc.len1b
  have B0 := Lib.hid (at_new w (.cells #[.slice a1 n1 c1, .slice a2 n2 c2] 26))
  have G0 := Lib.hid (grown_alloc (.cells #[.slice a1 n1 c1, .slice a2 n2 c2] 26) (grown_refl w none))
  clear h hc
  go_enter Try.func23, Try.ntmps23
  go_upto_region 1 with fail
  obtain ⟨X0, hX⟩ : ∃ X, X = w.alloc (.cells #[.slice a1 n1 c1, .slice a2 n2 c2] 26) := ⟨_, rfl⟩
  rw [← hX] at B0 G0 ⊢
  clear hX
  have p1 := (rules_at B0.out).1
  have p3 := lt_of_at B0.out
  go_wp2_with fail
  refine (Own_any _ l r c _ ⟨_, _, _, _, _, _, rfl, (keep G0.out H).out⟩).mono ?_
  rintro e y1 ⟨v, rfl, hL, hg⟩
  obtain ⟨e1, e2, e3, e4, e5, e6, rfl, -⟩ := hL none (by simp)
  have LA1 := Lib.hid (LkA.kept (show LkA X0.heap.size y1 (lkV e1 e2 e3 e4 e5 e6) (ownV l r c) from hL) (grown_alloc (.cells #[.slice e1 e2 e3, .slice e4 e5 e6] 26) (grown_refl y1 none)) (by simp))
  have B1 := Lib.hid (at_alloc (.cells #[.slice e1 e2 e3, .slice e4 e5 e6] 26) (grown_at hg B0.out (by simp)))
  have N1 := Lib.hid (at_new y1 (.cells #[.slice e1 e2 e3, .slice e4 e5 e6] 26))
  have G1 := Lib.hid (grown_alloc (.cells #[.slice e1 e2 e3, .slice e4 e5 e6] 26) (grown_trans G0.out hg))
  have z01 := hg.size
  clear hL hg B0 G0 p1
  go_upto_region 2 with fail
  obtain ⟨b9, hb9⟩ : ∃ b, y1.heap.size = b := ⟨_, rfl⟩
  obtain ⟨X1, hX⟩ : ∃ X, X = y1.alloc (.cells #[.slice e1 e2 e3, .slice e4 e5 e6] 26) := ⟨_, rfl⟩
  rw [← hX] at LA1 B1 N1 G1 ⊢
  rw [hb9] at N1 ⊢
  have h9 : w.heap.size < b9 := by omega
  have z1 : X0.heap.size ≤ b9 := by omega
  clear hX hb9 z01
  have p1 := (rules_at B1.out).1
  have p3' := lt_of_at B1.out
  go_wp2_with fail
  refine (rOwn_any _ l r c _ ⟨_, _, _, _, _, _, rfl, (keep G1.out H).out⟩).mono ?_
  rintro e y2 ⟨v, rfl, hL, hg⟩
  obtain ⟨f1, f2, f3, f4, f5, f6, rfl, -⟩ := hL none (by simp)
  have ga := grown_alloc (.cells #[.slice f1 f2 f3, .slice f4 f5 f6] 26) (grown_refl y2 none)
  have A2 := Lib.hid (LkA.kept (show LkA X1.heap.size y2 (lkV f1 f2 f3 f4 f5 f6) (ownV l r c) from hL) ga (by simp))
  have A1 := Lib.hid (LA1.out.kept (grown_trans hg ga) (by simp))
  have z2 := hg.size
  have h11 := lt_of_at N1.out
  have SM : Hid (SmI w (y2.alloc (.cells #[.slice f1 f2 f3, .slice f4 f5 f6] 26)) #[.slice a1 n1 c1, .slice a2 n2 c2] b9 y2.heap.size #[.slice e1 e2 e3, .slice e4 e5 e6] #[.slice f1 f2 f3, .slice f4 f5 f6]) :=
    Lib.hid ⟨grown_at (grown_trans hg ga) B1.out (by simp), grown_at (grown_trans hg ga) N1.out (by simp), at_new y2 _, grown_trans G1.out (grown_trans hg ga), h9, by omega⟩
  clear hL hg ga LA1 B1 N1 G1 p1 p3 p3'
  go_upto_region 3 with fail
  obtain ⟨b11, hb11⟩ : ∃ b, y2.heap.size = b := ⟨_, rfl⟩
  obtain ⟨X2, hX⟩ : ∃ X, X = y2.alloc (.cells #[.slice f1 f2 f3, .slice f4 f5 f6] 26) := ⟨_, rfl⟩
  rw [← hX] at SM A1 A2 ⊢
  rw [hb11] at SM ⊢
  clear hX hb11 z2 h11 z1 h9
  have w0 := after_at SM.out.1
  have w1 := after_at SM.out.2.1
  have w2 := after_at SM.out.2.2.1
  have SS : Hid (∀ x : After X2, Calls Try.prog 22 #[.agg #[.slice e1 e2 e3, .slice e4 e5 e6], .agg #[.slice f1 f2 f3, .slice f4 f5 f6]] x.w fun e w' => e = .returned (.bool true) ∧ x.w.grownBy w' none) := Lib.hid (fun x => by
    have := rSame_any (lkV e1 e2 e3 e4 e5 e6) (lkV f1 f2 f3 f4 f5 f6) _ _ x.w ((keep x.grown A1).out.lk) ((keep x.grown A2).out.lk)
    rwa [sameL_self] at this)
  have SV : Hid (∀ x : After X2, Calls Try.prog 37 #[.agg #[.slice a1 n1 c1, .slice a2 n2 c2]] x.w fun e w' => e = .returned (.bool (validL l)) ∧ x.w.grownBy w' none) := Lib.hid (fun x => Valid_any (lkV a1 n1 c1 a2 n2 c2) l x.w ⟨_, _, _, _, _, _, rfl, (keep (grown_trans SM.out.2.2.2.1 x.grown) H).out⟩)
  have SW : Hid (∀ x : After X2, Calls Try.prog 39 #[.agg #[.slice a1 n1 c1, .slice a2 n2 c2]] x.w fun e w' => e = .returned (.bool (validL l)) ∧ x.w.grownBy w' none) := Lib.hid (fun x => rValid_any (lkV a1 n1 c1 a2 n2 c2) l x.w ⟨_, _, _, _, _, _, rfl, (keep (grown_trans SM.out.2.2.2.1 x.grown) H).out⟩)
  have t1 : (ownE l r c == ownE l r c) = true := beq_self_eq_true _
  have t2 : (ownE l r c != ownE l r c) = false := by simp
  have t3 : (validL l == validL l) = true := beq_self_eq_true _
  have t4 : (validL l != validL l) = false := by simp
  refine wp_region_after (by kernel_rfl) (by kernel_rfl) (grown_refl _ _) ?_
  repeat (go_big_quiet_step ((first | (go_at_call 22; exact after_call (SS.out _)) | (go_at_call 37; exact after_call (SV.out _)) | (go_at_call 39; exact after_call (SW.out _)))))
  refine wpQuiet_nil ?_
  rintro _ ⟨x, rfl⟩
  have SM3 := Lib.hid (SM.out.kept x.grown)
  obtain ⟨X3, hX⟩ : ∃ X, x.w = X := ⟨_, rfl⟩
  rw [hX] at SM3 ⊢
  clear hX w0 w1 w2 SS SV SW t1 t2 t3 t4 SM A1 A2
  have hb3 := SM3.out.lt.2
  have p1 := (rules_at SM3.out.1).1
  have p2 := (rules_at SM3.out.2.1).1
  have p3 := lt_of_at SM3.out.1
  go_wp2_with fail
  refine (Release_any _ l c _ ⟨_, _, _, _, _, _, rfl, (keep SM3.out.2.2.2.1 H).out⟩).mono ?_
  rintro e y ⟨v, rfl, hL, hg⟩
  obtain ⟨e1_3, e2_3, e3_3, e4_3, e5_3, e6_3, rfl, -⟩ := hL none (by simp)
  have LA := Lib.hid (show LkA X3.heap.size y (lkV e1_3 e2_3 e3_3 e4_3 e5_3 e6_3) (relV l c) from hL)
  have SK := Lib.hid (SM3.out.kept hg)
  have lt := SM3.out.lt
  have q1 := (rules_at SK.out.2.1).1
  have q2 := (rules_at SK.out.2.1).2
  have q3 := lt_of_at SK.out.2.1
  obtain ⟨-, hgs⟩ := box_put (v1 := .slice e1_3 e2_3 e3_3) (v2 := .slice e4_3 e5_3 e6_3) SK.out.2.1
  have A1 := Lib.hid (LA.out.box (b := b9) (u1 := .slice e1_3 e2_3 e3_3) (u2 := .slice e4_3 e5_3 e6_3) (by omega))
  have SM4 := Lib.hid (SmI.put9 (v1 := .slice e1_3 e2_3 e3_3) (v2 := .slice e4_3 e5_3 e6_3) SK.out)
  clear hL hg hgs LA SK p1 p2 p3 lt
  go_upto_region 6 with fail
  obtain ⟨X4, hX⟩ : ∃ X, X = (y.setCell ⟨b9, 0, none⟩ (.slice e1_3 e2_3 e3_3)).setCell ⟨b9, 1, none⟩ (.slice e4_3 e5_3 e6_3) := ⟨_, rfl⟩
  rw [← hX] at SM4 A1 ⊢
  clear hX q1 q2 q3 SM3
  have p1 := (rules_at SM4.out.1).1
  have p2 := (rules_at SM4.out.2.2.1).1
  have p3 := lt_of_at SM4.out.1
  go_wp2_with fail
  refine (rRelease_any _ l c _ ⟨_, _, _, _, _, _, rfl, (keep SM4.out.2.2.2.1 H).out⟩).mono ?_
  rintro e y ⟨v, rfl, hL, hg⟩
  obtain ⟨f1_3, f2_3, f3_3, f4_3, f5_3, f6_3, rfl, -⟩ := hL none (by simp)
  have LA := Lib.hid (show LkA X4.heap.size y (lkV f1_3 f2_3 f3_3 f4_3 f5_3 f6_3) (relV l c) from hL)
  have SK := Lib.hid (SM4.out.kept hg)
  have lt := SM4.out.lt
  have q1 := (rules_at SK.out.2.2.1).1
  have q2 := (rules_at SK.out.2.2.1).2
  have q3 := lt_of_at SK.out.2.2.1
  obtain ⟨-, hgs⟩ := box_put (v1 := .slice f1_3 f2_3 f3_3) (v2 := .slice f4_3 f5_3 f6_3) SK.out.2.2.1
  have A2 := Lib.hid (LA.out.box (b := b11) (u1 := .slice f1_3 f2_3 f3_3) (u2 := .slice f4_3 f5_3 f6_3) (by omega))
  have SM5 := Lib.hid (SmI.put11 (v1 := .slice f1_3 f2_3 f3_3) (v2 := .slice f4_3 f5_3 f6_3) SK.out)
  have A1n := Lib.hid (A1.out.kept (grown_trans (grown_weak (r := some b11) hg) hgs) (fun b e => by obtain rfl := Option.some.inj e; omega))
  clear hL hg hgs LA SK p1 p2 p3 lt
  go_upto_region 7 with fail
  obtain ⟨X5, hX⟩ : ∃ X, X = (y.setCell ⟨b11, 0, none⟩ (.slice f1_3 f2_3 f3_3)).setCell ⟨b11, 1, none⟩ (.slice f4_3 f5_3 f6_3) := ⟨_, rfl⟩
  rw [← hX] at SM5 A2 A1n ⊢
  clear hX q1 q2 q3 SM4
  clear A1
  have p1 := (rules_at SM5.out.2.1).1
  have p2 := (rules_at SM5.out.2.2.1).1
  have p3 := lt_of_at SM5.out.2.1
  have p4 := lt_of_at SM5.out.2.2.1
  have t1 : (relE l c == relE l c) = true := beq_self_eq_true _
  have t2 : (relE l c != relE l c) = false := by simp
  go_wp2_with fail
  refine (rSame_any _ _ _ _ _ A1n.out.lk A2.out.lk).mono ?_
  rintro e X6 ⟨rfl, hg⟩
  rw [sameL_self]
  have SM6 := Lib.hid (SM5.out.kept hg)
  clear hg A1n A2 p1 p2 p3 p4 t1 t2 SM5
  have hb6 := SM6.out.lt.2
  have p1 := (rules_at SM6.out.1).1
  have p2 := (rules_at SM6.out.2.1).1
  have p3 := lt_of_at SM6.out.1
  go_wp2_with fail
  refine (Ask_any _ l r c _ ⟨_, _, _, _, _, _, rfl, (keep SM6.out.2.2.2.1 H).out⟩).mono ?_
  rintro e y ⟨v, rfl, hL, hg⟩
  obtain ⟨e1_6, e2_6, e3_6, e4_6, e5_6, e6_6, rfl, -⟩ := hL none (by simp)
  have LA := Lib.hid (show LkA X6.heap.size y (lkV e1_6 e2_6 e3_6 e4_6 e5_6 e6_6) (askV l r c) from hL)
  have SK := Lib.hid (SM6.out.kept hg)
  have lt := SM6.out.lt
  have q1 := (rules_at SK.out.2.1).1
  have q2 := (rules_at SK.out.2.1).2
  have q3 := lt_of_at SK.out.2.1
  obtain ⟨-, hgs⟩ := box_put (v1 := .slice e1_6 e2_6 e3_6) (v2 := .slice e4_6 e5_6 e6_6) SK.out.2.1
  have A1 := Lib.hid (LA.out.box (b := b9) (u1 := .slice e1_6 e2_6 e3_6) (u2 := .slice e4_6 e5_6 e6_6) (by omega))
  have SM7 := Lib.hid (SmI.put9 (v1 := .slice e1_6 e2_6 e3_6) (v2 := .slice e4_6 e5_6 e6_6) SK.out)
  clear hL hg hgs LA SK p1 p2 p3 lt
  go_upto_region 10 with fail
  obtain ⟨X7, hX⟩ : ∃ X, X = (y.setCell ⟨b9, 0, none⟩ (.slice e1_6 e2_6 e3_6)).setCell ⟨b9, 1, none⟩ (.slice e4_6 e5_6 e6_6) := ⟨_, rfl⟩
  rw [← hX] at SM7 A1 ⊢
  clear hX q1 q2 q3 SM6
  have p1 := (rules_at SM7.out.1).1
  have p2 := (rules_at SM7.out.2.2.1).1
  have p3 := lt_of_at SM7.out.1
  go_wp2_with fail
  refine (rAsk_any _ l r c _ ⟨_, _, _, _, _, _, rfl, (keep SM7.out.2.2.2.1 H).out⟩).mono ?_
  rintro e y ⟨v, rfl, hL, hg⟩
  obtain ⟨f1_6, f2_6, f3_6, f4_6, f5_6, f6_6, rfl, -⟩ := hL none (by simp)
  have LA := Lib.hid (show LkA X7.heap.size y (lkV f1_6 f2_6 f3_6 f4_6 f5_6 f6_6) (askV l r c) from hL)
  have SK := Lib.hid (SM7.out.kept hg)
  have lt := SM7.out.lt
  have q1 := (rules_at SK.out.2.2.1).1
  have q2 := (rules_at SK.out.2.2.1).2
  have q3 := lt_of_at SK.out.2.2.1
  obtain ⟨-, hgs⟩ := box_put (v1 := .slice f1_6 f2_6 f3_6) (v2 := .slice f4_6 f5_6 f6_6) SK.out.2.2.1
  have A2 := Lib.hid (LA.out.box (b := b11) (u1 := .slice f1_6 f2_6 f3_6) (u2 := .slice f4_6 f5_6 f6_6) (by omega))
  have SM8 := Lib.hid (SmI.put11 (v1 := .slice f1_6 f2_6 f3_6) (v2 := .slice f4_6 f5_6 f6_6) SK.out)
  have A1n := Lib.hid (A1.out.kept (grown_trans (grown_weak (r := some b11) hg) hgs) (fun b e => by obtain rfl := Option.some.inj e; omega))
  clear hL hg hgs LA SK p1 p2 p3 lt
  go_upto_region 11 with fail
  obtain ⟨X8, hX⟩ : ∃ X, X = (y.setCell ⟨b11, 0, none⟩ (.slice f1_6 f2_6 f3_6)).setCell ⟨b11, 1, none⟩ (.slice f4_6 f5_6 f6_6) := ⟨_, rfl⟩
  rw [← hX] at SM8 A2 A1n ⊢
  clear hX q1 q2 q3 SM7
  clear A1
  have p1 := (rules_at SM8.out.2.1).1
  have p2 := (rules_at SM8.out.2.2.1).1
  have p3 := lt_of_at SM8.out.2.1
  have p4 := lt_of_at SM8.out.2.2.1
  have t1 : (askE l r c == askE l r c) = true := beq_self_eq_true _
  have t2 : (askE l r c != askE l r c) = false := by simp
  go_wp2_with fail
  refine (rSame_any _ _ _ _ _ A1n.out.lk A2.out.lk).mono ?_
  rintro e X9 ⟨rfl, hg⟩
  rw [sameL_self]
  have SM9 := Lib.hid (SM8.out.kept hg)
  clear hg A1n A2 p1 p2 p3 p4 t1 t2 SM8
  have hb9 := SM9.out.lt.2
  have p1 := (rules_at SM9.out.1).1
  have p2 := (rules_at SM9.out.2.1).1
  have p3 := lt_of_at SM9.out.1
  go_wp2_with fail
  refine (Leave_any _ l r _ ⟨_, _, _, _, _, _, rfl, (keep SM9.out.2.2.2.1 H).out⟩).mono ?_
  rintro e y ⟨v, rfl, hL, hg⟩
  obtain ⟨e1_9, e2_9, e3_9, e4_9, e5_9, e6_9, rfl, -⟩ := hL none (by simp)
  have LA := Lib.hid (show LkA X9.heap.size y (lkV e1_9 e2_9 e3_9 e4_9 e5_9 e6_9) (leaveV l r) from hL)
  have SK := Lib.hid (SM9.out.kept hg)
  have lt := SM9.out.lt
  have q1 := (rules_at SK.out.2.1).1
  have q2 := (rules_at SK.out.2.1).2
  have q3 := lt_of_at SK.out.2.1
  obtain ⟨-, hgs⟩ := box_put (v1 := .slice e1_9 e2_9 e3_9) (v2 := .slice e4_9 e5_9 e6_9) SK.out.2.1
  have A1 := Lib.hid (LA.out.box (b := b9) (u1 := .slice e1_9 e2_9 e3_9) (u2 := .slice e4_9 e5_9 e6_9) (by omega))
  have SM10 := Lib.hid (SmI.put9 (v1 := .slice e1_9 e2_9 e3_9) (v2 := .slice e4_9 e5_9 e6_9) SK.out)
  clear hL hg hgs LA SK p1 p2 p3 lt
  go_upto_region 14 with fail
  obtain ⟨X10, hX⟩ : ∃ X, X = (y.setCell ⟨b9, 0, none⟩ (.slice e1_9 e2_9 e3_9)).setCell ⟨b9, 1, none⟩ (.slice e4_9 e5_9 e6_9) := ⟨_, rfl⟩
  rw [← hX] at SM10 A1 ⊢
  clear hX q1 q2 q3 SM9
  have p1 := (rules_at SM10.out.1).1
  have p2 := (rules_at SM10.out.2.2.1).1
  have p3 := lt_of_at SM10.out.1
  go_wp2_with fail
  refine (rLeave_any _ l r _ ⟨_, _, _, _, _, _, rfl, (keep SM10.out.2.2.2.1 H).out⟩).mono ?_
  rintro e y ⟨v, rfl, hL, hg⟩
  obtain ⟨f1_9, f2_9, f3_9, f4_9, f5_9, f6_9, rfl, -⟩ := hL none (by simp)
  have LA := Lib.hid (show LkA X10.heap.size y (lkV f1_9 f2_9 f3_9 f4_9 f5_9 f6_9) (leaveV l r) from hL)
  have SK := Lib.hid (SM10.out.kept hg)
  have lt := SM10.out.lt
  have q1 := (rules_at SK.out.2.2.1).1
  have q2 := (rules_at SK.out.2.2.1).2
  have q3 := lt_of_at SK.out.2.2.1
  obtain ⟨-, hgs⟩ := box_put (v1 := .slice f1_9 f2_9 f3_9) (v2 := .slice f4_9 f5_9 f6_9) SK.out.2.2.1
  have A2 := Lib.hid (LA.out.box (b := b11) (u1 := .slice f1_9 f2_9 f3_9) (u2 := .slice f4_9 f5_9 f6_9) (by omega))
  have SM11 := Lib.hid (SmI.put11 (v1 := .slice f1_9 f2_9 f3_9) (v2 := .slice f4_9 f5_9 f6_9) SK.out)
  have A1n := Lib.hid (A1.out.kept (grown_trans (grown_weak (r := some b11) hg) hgs) (fun b e => by obtain rfl := Option.some.inj e; omega))
  clear hL hg hgs LA SK p1 p2 p3 lt
  go_upto_region 15 with fail
  obtain ⟨X11, hX⟩ : ∃ X, X = (y.setCell ⟨b11, 0, none⟩ (.slice f1_9 f2_9 f3_9)).setCell ⟨b11, 1, none⟩ (.slice f4_9 f5_9 f6_9) := ⟨_, rfl⟩
  rw [← hX] at SM11 A2 A1n ⊢
  clear hX q1 q2 q3 SM10
  clear A1
  have p1 := (rules_at SM11.out.2.1).1
  have p2 := (rules_at SM11.out.2.2.1).1
  have p3 := lt_of_at SM11.out.2.1
  have p4 := lt_of_at SM11.out.2.2.1
  have t1 : (leaveE l r == leaveE l r) = true := beq_self_eq_true _
  have t2 : (leaveE l r != leaveE l r) = false := by simp
  have t3 : (leaveC l r == leaveC l r) = true := beq_self_eq_true _
  have t4 : (leaveC l r != leaveC l r) = false := by simp
  go_wp2_with fail
  refine (rSame_any _ _ _ _ _ A1n.out.lk A2.out.lk).mono ?_
  rintro e X12 ⟨rfl, hg⟩
  rw [sameL_self]
  have SM12 := Lib.hid (SM11.out.kept hg)
  clear hg A1n A2 p1 p2 p3 p4 t1 t2 SM11 t3 t4
  have hb12 := SM12.out.lt.2
  have p1 := (rules_at SM12.out.1).1
  have p2 := (rules_at SM12.out.2.1).1
  have p3 := lt_of_at SM12.out.1
  go_wp2_with fail
  refine (Grant_any _ l ac nb cb closed _ ⟨_, _, _, _, _, _, rfl, (keep SM12.out.2.2.2.1 H).out⟩ (RowIn.kept CLo.out SM12.out.2.2.2.1)).mono ?_
  rintro e y ⟨v, gA, gC, rfl, hlegA, hR, hB, hL, hg⟩
  obtain ⟨e1_12, e2_12, e3_12, e4_12, e5_12, e6_12, rfl, -⟩ := hL none (by simp)
  have LA := Lib.hid (show LkA X12.heap.size y (lkV e1_12 e2_12 e3_12 e4_12 e5_12 e6_12) (grantV l closed) from hL)
  have SK := Lib.hid (SM12.out.kept hg)
  have lt := SM12.out.lt
  have q1 := (rules_at SK.out.2.1).1
  have q2 := (rules_at SK.out.2.1).2
  have q3 := lt_of_at SK.out.2.1
  obtain ⟨-, hgs⟩ := box_put (v1 := .slice e1_12 e2_12 e3_12) (v2 := .slice e4_12 e5_12 e6_12) SK.out.2.1
  have A1 := Lib.hid (LA.out.box (b := b9) (u1 := .slice e1_12 e2_12 e3_12) (u2 := .slice e4_12 e5_12 e6_12) (by omega))
  have SM13 := Lib.hid (SmI.put9 (v1 := .slice e1_12 e2_12 e3_12) (v2 := .slice e4_12 e5_12 e6_12) SK.out)
  have RgA := Lib.hid (hR.kept_but hgs (fun x hx e => by have := hB x hx; have := Option.some.inj e; omega))
  have BgA : Hid (∀ x, gA = some x → b11 < x.block) := Lib.hid (fun x hx => by have := hB x hx; omega)
  clear hL hg hgs LA SK hR hB p1 p2 p3 lt
  go_upto_region 18 with fail
  obtain ⟨X13, hX⟩ : ∃ X, X = (y.setCell ⟨b9, 0, none⟩ (.slice e1_12 e2_12 e3_12)).setCell ⟨b9, 1, none⟩ (.slice e4_12 e5_12 e6_12) := ⟨_, rfl⟩
  rw [← hX] at SM13 A1 RgA ⊢
  clear hX q1 q2 q3 SM12
  have p1 := (rules_at SM13.out.1).1
  have p2 := (rules_at SM13.out.2.2.1).1
  have p3 := lt_of_at SM13.out.1
  go_wp2_with fail
  refine (rGrant_any _ l ac nb cb closed _ ⟨_, _, _, _, _, _, rfl, (keep SM13.out.2.2.2.1 H).out⟩ (RowIn.kept CLo.out SM13.out.2.2.2.1)).mono ?_
  rintro e y ⟨v, gB, gD, rfl, hlegB, hR, hB, hL, hg⟩
  obtain ⟨f1_12, f2_12, f3_12, f4_12, f5_12, f6_12, rfl, -⟩ := hL none (by simp)
  have LA := Lib.hid (show LkA X13.heap.size y (lkV f1_12 f2_12 f3_12 f4_12 f5_12 f6_12) (grantV l closed) from hL)
  have SK := Lib.hid (SM13.out.kept hg)
  have lt := SM13.out.lt
  have q1 := (rules_at SK.out.2.2.1).1
  have q2 := (rules_at SK.out.2.2.1).2
  have q3 := lt_of_at SK.out.2.2.1
  obtain ⟨-, hgs⟩ := box_put (v1 := .slice f1_12 f2_12 f3_12) (v2 := .slice f4_12 f5_12 f6_12) SK.out.2.2.1
  have A2 := Lib.hid (LA.out.box (b := b11) (u1 := .slice f1_12 f2_12 f3_12) (u2 := .slice f4_12 f5_12 f6_12) (by omega))
  have SM14 := Lib.hid (SmI.put11 (v1 := .slice f1_12 f2_12 f3_12) (v2 := .slice f4_12 f5_12 f6_12) SK.out)
  have A1n := Lib.hid (A1.out.kept (grown_trans (grown_weak (r := some b11) hg) hgs) (fun b e => by obtain rfl := Option.some.inj e; omega))
  have RgB := Lib.hid (hR.kept_but hgs (fun x hx e => by have := hB x hx; have := Option.some.inj e; omega))
  have RgAn := Lib.hid (RgA.out.kept_but (grown_trans (grown_weak (r := some b11) hg) hgs) (fun x hx e => by have := BgA.out x hx; have := Option.some.inj e; omega))
  clear hL hg hgs LA SK hR hB p1 p2 p3 lt
  go_upto_region 19 with fail
  obtain ⟨X14, hX⟩ : ∃ X, X = (y.setCell ⟨b11, 0, none⟩ (.slice f1_12 f2_12 f3_12)).setCell ⟨b11, 1, none⟩ (.slice f4_12 f5_12 f6_12) := ⟨_, rfl⟩
  rw [← hX] at SM14 A2 A1n RgB RgAn ⊢
  clear hX q1 q2 q3 SM13
  clear A1
  clear RgA
  have p1 := (rules_at SM14.out.2.1).1
  have p2 := (rules_at SM14.out.2.2.1).1
  have p3 := lt_of_at SM14.out.2.1
  have p4 := lt_of_at SM14.out.2.2.1
  have t1 : (grantE l closed.length == grantE l closed.length) = true := beq_self_eq_true _
  have t2 : (grantE l closed.length != grantE l closed.length) = false := by simp
  go_wp2_with fail
  refine (sameGrants_any _ _ _ _ _ _ _ _ _ RgAn.out RgB.out).mono ?_
  rintro e x0 ⟨rfl, hg⟩
  rw [decide_eq_true rfl]
  have SMg := Lib.hid (SM14.out.kept hg)
  have A1g := Lib.hid (A1n.out.kept hg (by simp))
  have A2g := Lib.hid (A2.out.kept hg (by simp))
  clear hg SM14 A1n A2 p1 p2 p3 p4 RgAn RgB
  have SM14 := SMg
  have A1n := A1g
  have A2 := A2g
  have p1 := (rules_at SM14.out.2.1).1
  have p2 := (rules_at SM14.out.2.2.1).1
  have p3 := lt_of_at SM14.out.2.1
  have p4 := lt_of_at SM14.out.2.2.1
  go_wp2_with fail
  refine (rSame_any _ _ _ _ _ A1n.out.lk A2.out.lk).mono ?_
  rintro e X15 ⟨rfl, hg⟩
  rw [sameL_self]
  have SM15 := Lib.hid (SM14.out.kept hg)
  clear hg A1n A2 p1 p2 p3 p4 t1 t2 SM14 SMg A1g A2g
  have p1 := (rules_at SM15.out.1).1
  have p3 := lt_of_at SM15.out.1
  go_wp2_with fail
  refine (Owned_any _ l r _ ⟨_, _, _, _, _, _, rfl, (keep SM15.out.2.2.2.1 H).out⟩).mono ?_
  rintro e q0 ⟨v, rfl, hO, hg⟩
  have SMq0 := Lib.hid (SM15.out.kept hg)
  obtain ⟨AP, cP, rfl, -, -, -, hR⟩ := sliceIn_owns hO
  have RP0 := Lib.hid hR
  clear hO hR
  clear hg p1 p3 SM15
  have p1 := (rules_at SMq0.out.1).1
  have p3 := lt_of_at SMq0.out.1
  go_wp2_with fail
  refine (rOwned_any _ l r _ ⟨_, _, _, _, _, _, rfl, (keep SMq0.out.2.2.2.1 H).out⟩).mono ?_
  rintro e q1 ⟨v, rfl, hO, hg⟩
  have SMq1 := Lib.hid (SMq0.out.kept hg)
  have RP1 := Lib.hid (RowIn.kept RP0.out hg)
  clear RP0
  obtain ⟨AQ, cQ, rfl, -, -, -, hR⟩ := sliceIn_owns hO
  have RQ1 := Lib.hid hR
  clear hO hR
  clear hg p1 p3 SMq0
  have p1 := (rules_at SMq1.out.1).1
  have p3 := lt_of_at SMq1.out.1
  go_wp2_with fail
  refine (Waits_any _ l r _ ⟨_, _, _, _, _, _, rfl, (keep SMq1.out.2.2.2.1 H).out⟩).mono ?_
  rintro e q2 ⟨rfl, hg⟩
  have SMq2 := Lib.hid (SMq1.out.kept hg)
  have RP2 := Lib.hid (RowIn.kept RP1.out hg)
  clear RP1
  have RQ2 := Lib.hid (RowIn.kept RQ1.out hg)
  clear RQ1
  clear hg p1 p3 SMq1
  have p1 := (rules_at SMq2.out.1).1
  have p3 := lt_of_at SMq2.out.1
  go_wp2_with fail
  refine (rWaits_any _ l r _ ⟨_, _, _, _, _, _, rfl, (keep SMq2.out.2.2.2.1 H).out⟩).mono ?_
  rintro e q3 ⟨rfl, hg⟩
  have SMq3 := Lib.hid (SMq2.out.kept hg)
  have RP3 := Lib.hid (RowIn.kept RP2.out hg)
  clear RP2
  have RQ3 := Lib.hid (RowIn.kept RQ2.out hg)
  clear RQ2
  clear hg p1 p3 SMq2
  have p1 := (rules_at SMq3.out.1).1
  have p3 := lt_of_at SMq3.out.1
  go_wp2_with fail
  refine (Chain_any _ l r _ ⟨_, _, _, _, _, _, rfl, (keep SMq3.out.2.2.2.1 H).out⟩).mono ?_
  rintro e q4 ⟨v, rfl, hO, hg⟩
  have SMq4 := Lib.hid (SMq3.out.kept hg)
  have RP4 := Lib.hid (RowIn.kept RP3.out hg)
  clear RP3
  have RQ4 := Lib.hid (RowIn.kept RQ3.out hg)
  clear RQ3
  obtain ⟨AM, cM, rfl, -, -, -, hR⟩ := sliceIn_owns hO
  have RM4 := Lib.hid hR
  clear hO hR
  clear hg p1 p3 SMq3
  have p1 := (rules_at SMq4.out.1).1
  have p3 := lt_of_at SMq4.out.1
  go_wp2_with fail
  refine (rChain_any _ l r _ ⟨_, _, _, _, _, _, rfl, (keep SMq4.out.2.2.2.1 H).out⟩).mono ?_
  rintro e q5 ⟨v, rfl, hO, hg⟩
  have SMq5 := Lib.hid (SMq4.out.kept hg)
  have RP5 := Lib.hid (RowIn.kept RP4.out hg)
  clear RP4
  have RQ5 := Lib.hid (RowIn.kept RQ4.out hg)
  clear RQ4
  have RM5 := Lib.hid (RowIn.kept RM4.out hg)
  clear RM4
  obtain ⟨AO, cO, rfl, -, -, -, hR⟩ := sliceIn_owns hO
  have RO5 := Lib.hid hR
  clear hO hR
  clear hg p1 p3 SMq4
  have t1 : (errR l r == errR l r) = true := beq_self_eq_true _
  have t2 : (waitsV l r == waitsV l r) = true := beq_self_eq_true _
  go_wp2_with fail
  refine (SameInts_any _ _ _ _ _ _ _ _ _ RP5.out RQ5.out).mono ?_
  rintro e x1 ⟨rfl, hg⟩
  rw [decide_eq_true rfl]
  have G6 := Lib.hid (grown_trans SMq5.out.2.2.2.1 hg)
  have RM6 := Lib.hid (RowIn.kept RM5.out hg)
  have RO6 := Lib.hid (RowIn.kept RO5.out hg)
  clear hg SMq5 RM5 RO5 RP5 RQ5
  go_wp2_with fail
  refine (SameInts_any _ _ _ _ _ _ _ _ _ RM6.out RO6.out).mono ?_
  rintro e x2 ⟨rfl, hg⟩
  rw [decide_eq_true rfl]
  have G7 := Lib.hid (grown_trans G6.out hg)
  clear hg
  go_wp2_with fail
  go_ret
  exact ⟨rfl, G7.out⟩
end Go.Proofs.Ytbpobekmbdngbaa
