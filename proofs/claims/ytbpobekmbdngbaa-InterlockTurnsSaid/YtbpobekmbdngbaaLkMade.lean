/- The contract of made. -/
import Derived.Test.YtbpobekmbdngbaaLkPres
import Derived.Test.YtbpobekmbdngbaaLkSame
namespace Go.Proofs.Ytbpobekmbdngbaa
open Go.RowKit
set_option linter.unusedVariables false

theorem ListsR.two {R r : Option Nat} {w W : World} {a : Option Addr} {n : Nat} {xss : List (List Int)} (h : ListsR R w a n xss) (h' : ListsR r w a n xss) (hg : w.grownBy W r) : ListsR R W a n xss := by
  obtain ⟨cs, h1, h2, h3⟩ := h
  obtain ⟨cs', k1, k2, k3⟩ := h'
  refine ⟨cs, ⟨h1.1.kept_but hg k1.2, h1.2⟩, h2, fun i xs hi => ?_⟩
  obtain ⟨A, c, g1, g2, g3, g4, g5⟩ := h3 i xs hi
  obtain ⟨A', c', f1, f2, f3, f4, f5⟩ := k3 i xs hi
  have hlt := (List.getElem?_eq_some_iff.1 g1).1
  have hn := h1.1.1
  have e : cs[i]? = cs'[i]? := by
    obtain ⟨b, off, ha, hc⟩ := h1.1.at (by omega)
    obtain ⟨b', off', ha', hc'⟩ := k1.1.at (by omega)
    rw [ha] at ha'
    obtain ⟨rfl, rfl⟩ : b = b' ∧ off = off' := by simpa using ha'
    rw [g1, f1, ← hc i _ g1, ← hc' i _ f1]
  rw [g1, f1] at e
  simp only [Option.some.injEq, Value.slice.injEq, true_and] at e
  obtain ⟨rfl, rfl⟩ := e
  exact ⟨A, c, g1, g2, g3, g4, g5.1.kept_but hg f5.2, g5.2⟩
theorem LkV.two {R r : Option Nat} {w W : World} {v : Value} {l : Lk} (h : LkV R w v l) (h' : LkV r w v l) (hg : w.grownBy W r) : LkV R W v l := by
  obtain ⟨a1, n1, c1, a2, n2, c2, rfl, ⟨h1, h2⟩, h3⟩ := h
  obtain ⟨b1, m1, d1, b2, m2, d2, he, ⟨k1, k2⟩, k3⟩ := h'
  simp only [Value.agg.injEq, Array.mk.injEq, List.cons.injEq, Value.slice.injEq, and_true] at he
  obtain ⟨⟨rfl, rfl, rfl⟩, rfl, rfl, rfl⟩ := he
  exact ⟨_, _, _, _, _, _, rfl, ⟨⟨h1.1.kept_but hg k1.2, h1.2⟩, h2.two k2 hg⟩, h3⟩
/-- A lock of which nothing lies below base. -/
def LkA (base : Nat) (w : World) (v : Value) (l : Lk) : Prop := ∀ R, (∀ b, R = some b → b < base) → LkV R w v l
theorem LkA.kept {base : Nat} {w W : World} {v : Value} {l : Lk} {r : Option Nat} (h : LkA base w v l) (hg : w.grownBy W r) (hr : ∀ b, r = some b → b < base) : LkA base W v l :=
  fun R hR => (h R hR).two (h r hr) hg
theorem LkA.lk {base : Nat} {w : World} {v : Value} {l : Lk} (h : LkA base w v l) : LkV none w v l := h none (by simp)
instance {base : Nat} {w W : World} {v : Value} {l : Lk} : Stay none w W (LkA base w v l) (LkA base W v l) := ⟨fun hg h => h.kept hg (by simp)⟩

/-- The state of made's loop. -/
def MdInv (w wr : World) (B T : Nat) (ad : Option Addr) (len cap : Nat) (zs : List Int) (b4 : Nat) (v1 v2 : Value) (l : Lk) (kt : Nat) : Prop :=
  ∃ base, LkA base wr (.agg #[v1, v2]) l ∧ wr.heap[b4]? = some (.cells #[v1, v2] 26 (0, 0)) ∧ wr.heap[w.heap.size]? = some (.cells #[.slice none 0 0, .slice none 0 0] 26 (0, 0)) ∧ TapeAt wr B T ad len cap zs kt ∧ w.grownBy wr (some B) ∧ B < w.heap.size ∧ w.heap.size < base ∧ w.heap.size < b4 ∧ VL l
theorem LkA.box {base : Nat} {w : World} {v : Value} {l : Lk} {b : Nat} {u1 u2 : Value} (h : LkA base w v l) (hb : b < base) : LkA base ((w.setCell ⟨b, 0, none⟩ u1).setCell ⟨b, 1, none⟩ u2) v l :=
  h.kept (r := some b) (grown_set _ (grown_set _ (grown_refl w _) (.inr rfl)) (.inr rfl)) (fun x hx => by obtain rfl := Option.some.inj hx; exact hb)
section
variable {w wr W : World} {B T : Nat} {ad : Option Addr} {len cap : Nat} {zs : List Int} {b4 : Nat} {v1 v2 : Value} {l : Lk} {kt kt' : Nat}
theorem MdInv.next (h : MdInv w wr B T ad len cap zs b4 v1 v2 l kt) (ht : TapeAt W B T ad len cap zs kt') (hg : wr.grownBy W (some B)) : MdInv w W B T ad len cap zs b4 v1 v2 l kt' := by
  obtain ⟨base, h1, h2, h3, h4, h5, h6, h7, h8, h9⟩ := h
  exact ⟨base, h1.kept hg (fun b hb => by obtain rfl := Option.some.inj hb; omega), grown_at hg h2 (by simp; omega), grown_at hg h3 (by simp; omega), ht, grown_trans h5 hg, h6, h7, h8, h9⟩
theorem MdInv.grow (h : MdInv w wr B T ad len cap zs b4 v1 v2 l kt) (hg : wr.grownBy W none) : MdInv w W B T ad len cap zs b4 v1 v2 l kt := by
  obtain ⟨base, h1, h2, h3, h4, h5, h6, h7, h8, h9⟩ := h
  exact ⟨base, h1.kept hg (by simp), grown_at hg h2 (by simp), grown_at hg h3 (by simp), h4.other hg, grown_trans h5 (grown_weak hg), h6, h7, h8, h9⟩
theorem MdInv.alloc (h : MdInv w wr B T ad len cap zs b4 v1 v2 l kt) (o : Obj) : MdInv w (wr.alloc o) B T ad len cap zs b4 v1 v2 l kt := h.grow (grown_alloc o (grown_refl wr none))
/-- The lock is replaced by one that was made behind b4's and B's. -/
theorem MdInv.put {base : Nat} {u1 u2 : Value} {m : Lk} (h : MdInv w wr B T ad len cap zs b4 v1 v2 l kt) (hA : LkA base wr (.agg #[u1, u2]) m) (hb : b4 < base) (hv : VL m) :
    MdInv w ((wr.setCell ⟨b4, 0, none⟩ u1).setCell ⟨b4, 1, none⟩ u2) B T ad len cap zs b4 u1 u2 m kt := by
  obtain ⟨base0, h1, h2, h3, h4, h5, h6, h7, h8, h9⟩ := h
  obtain ⟨hbx, hgs⟩ := box_put (v1 := u1) (v2 := u2) h2
  exact ⟨base, hA.kept hgs (fun b hb' => by obtain rfl := Option.some.inj hb'; exact hb), hbx, grown_at hgs h3 (by simp; omega), h4.above hgs (fun g hg => by obtain rfl := Option.some.inj hg; omega), grown_set _ (grown_set _ h5 (.inl (by simp; omega))) (.inl (by simp; omega)), h6, by omega, h8, hv⟩
end
def MadeP (B T : Nat) (ad : Option Addr) (len cap : Nat) (zs : List Int) (k : Nat) (w : World) (e : Ending) (w' : World) : Prop :=
  ∃ v l k', e = .returned v ∧ LkV (some B) w' v l ∧ VL l ∧ TapeAt w' B T ad len cap zs k' ∧ k' ≤ k + 200 ∧ w.grownBy w' (some B)

set_option maxRecDepth 100000 in
set_option maxHeartbeats 12800000 in
theorem made_any (B T : Nat) (ad : Option Addr) (len cap : Nat) (zs : List Int) (k : Nat) (w : World) (ht : TapeAt w B T ad len cap zs k) (hk : k < 9000) :
    Calls Try.prog 7 #[.pointer (some ⟨B, 0, none⟩)] w (MadeP B T ad len cap zs k w) := by
  have hBw := ht.lt
  have T0 := Lib.hid (ht.other (grown_alloc (.cells #[.slice none 0 0, .slice none 0 0] 26) (grown_refl w none)))
  have R0 := Lib.hid (at_new w (.cells #[.slice none 0 0, .slice none 0 0] 26))
  clear ht
  go_enter Try.func7, Try.ntmps7
  go_wp2_with fail
  refine (Next_in _ _ _ _ _ _ _ 6 _ T0.out (by omega) (by omega) (by omega)).mono ?_
  rintro e w1 ⟨c0, rfl, hc0, hc1, hT, hg⟩
  have T1 := Lib.hid hT
  have R1 := Lib.hid (grown_at hg R0.out (by simp; omega))
  have G1 := Lib.hid (grown_trans (grown_alloc (.cells #[.slice none 0 0, .slice none 0 0] 26) (grown_refl w (some B))) hg)
  clear hT hg T0 R0
  obtain ⟨c, rfl⟩ : ∃ c : Nat, c0 = c := ⟨c0.toNat, by omega⟩
  have u1 : IntKind.i64.wrap (1 + (c : Int)) = ((1 + c : Nat) : Int) := by rw [IntWalk.i64_in _ (by omega)]; omega
  go_wp2_with fail
  refine (rNew_any ((1 + c : Nat) : Int) _).mono ?_
  rintro e w2 ⟨v, rfl, hL, hg⟩
  have NE : Hid (newE ((1 + c : Nat) : Int) = 0) := Lib.hid (if_neg (by omega))
  have NV := Lib.hid (new_valid NE.out)
  rw [NE.out]
  obtain ⟨a1, n1, c1, a2, n2, c2, rfl, -⟩ := hL none (by simp)
  have LA : LkA w1.heap.size w2 (lkV a1 n1 c1 a2 n2 c2) (newV ((1 + c : Nat) : Int)) := hL
  have zw1 : w.heap.size < w1.heap.size := lt_of_at R1.out
  have zw2 := hg.size
  have ga := grown_alloc (.cells #[.slice a1 n1 c1, .slice a2 n2 c2] 26) (grown_refl w2 none)
  have I0 : Hid (MdInv w (w2.alloc (.cells #[.slice a1 n1 c1, .slice a2 n2 c2] 26)) B T ad len cap zs w2.heap.size (.slice a1 n1 c1) (.slice a2 n2 c2) (newV ((1 + c : Nat) : Int)) (k + 1)) := Lib.hid ⟨w1.heap.size, LA.kept ga (by simp), at_new _ _, grown_at ga (grown_at hg R1.out (by simp)) (by simp), (T1.out.other hg).other ga, grown_trans G1.out (grown_weak (grown_trans hg ga)), hBw, zw1, by omega, NV.out⟩
  obtain ⟨l0, hl0⟩ : ∃ l0, newV ((1 + c : Nat) : Int) = l0 := ⟨_, rfl⟩
  rw [hl0] at I0
  clear hL LA hg ga T1 R1 G1 NE NV hl0
  go_upto_region 3 with fail
  obtain ⟨b4, hb4⟩ : ∃ b4, w2.heap.size = b4 := ⟨_, rfl⟩
  obtain ⟨X0, hX⟩ : ∃ X, X = w2.alloc (.cells #[.slice a1 n1 c1, .slice a2 n2 c2] 26) := ⟨_, rfl⟩
  rw [← hX] at I0 ⊢
  rw [hb4] at I0 ⊢
  have hb40 : w.heap.size < b4 := by omega
  clear hX hb4 zw2
  go_wp2_with fail
  refine (Next_in _ _ _ _ _ _ _ 20 _ I0.out.choose_spec.2.2.2.1 (by omega) (by omega) (by omega)).mono ?_
  rintro e w3 ⟨m0, rfl, hm0, hm1, hT, hg⟩
  obtain ⟨m, rfl⟩ : ∃ m : Nat, m0 = m := ⟨m0.toNat, by omega⟩
  have hm20 : m < 20 := by omega
  have I1 := Lib.hid (I0.out.next hT hg)
  clear I0 hT hg
  go_wp2_with fail
  go_loopw [6, 7, 8, 9, 10] (fun i _ _ _ _ wr => ∃ (j kt : Nat) (v1 v2 : Value) (l : Lk), j ≤ m ∧ i = .int .i64 j ∧ kt ≤ k + 2 + 6 * (m - j) ∧ MdInv w wr B T ad len cap zs b4 v1 v2 l kt ∧ ∃ a1 n1 c1 a2 n2 c2, v1 = .slice a1 n1 c1 ∧ v2 = .slice a2 n2 c2) (fun i _ _ _ _ _ => (intOf i).toNat)
  case atStart => exact ⟨m, k + 2, _, _, l0, Nat.le_refl _, rfl, by omega, I1.out, _, _, _, _, _, _, rfl, rfl⟩
  case round =>
    obtain ⟨j, kt, v1, v2, l, hj, rfl, hkt, hI, a1, n1, c1, a2, n2, c2, rfl, rfl⟩ := hrel
    have I := Lib.hid hI
    clear hI I1
    by_cases hj0 : 0 < j
    rotate_left
    · obtain rfl : j = 0 := by omega
      obtain ⟨base, h1, h2, h3, h4, h5, h6, h7, h8, h9⟩ := I.out
      have p1 := (rules_at h2).1
      have p3 := lt_of_at h2
      have q1 := (rules_at h3).1
      have q2 := (rules_at h3).2
      have q3 := lt_of_at h3
      obtain ⟨hb, hgs⟩ := box_put (v1 := .slice a1 n1 c1) (v2 := .slice a2 n2 c2) h3
      obtain ⟨s0, s1⟩ := two_get h3 (.slice a1 n1 c1) (.slice a2 n2 c2)
      have F : Hid (LkV (some B) ((wr.setCell ⟨w.heap.size, 0, none⟩ (.slice a1 n1 c1)).setCell ⟨w.heap.size, 1, none⟩ (.slice a2 n2 c2)) (lkV a1 n1 c1 a2 n2 c2) l) := Lib.hid (h1.kept hgs (fun b hb => by obtain rfl := Option.some.inj hb; exact h7) (some B) (fun b hb => by obtain rfl := Option.some.inj hb; omega))
      have TT := Lib.hid (h4.above hgs (fun g hg => by obtain rfl := Option.some.inj hg; exact h6))
      have GG := Lib.hid (grown_set (p := ⟨w.heap.size, 1, none⟩) (.slice a2 n2 c2) (grown_set (p := ⟨w.heap.size, 0, none⟩) (.slice a1 n1 c1) h5 (.inl (Nat.le_refl _))) (.inl (Nat.le_refl _)))
      have VV := Lib.hid h9
      clear h1 h2 h3 h4 h5 h9 hb hgs I
      go_wp2_with fail
      exact bodyPost_ret (v := lkV a1 n1 c1 a2 n2 c2) (by simp [results, Try.results7, go_sem, s0, s1]) rfl ⟨_, l, kt, rfl, F.out, VV.out, TT.out, by omega, GG.out⟩
    have hj1 : (0 : Int) < (j : Int) := by omega
    go_wp2_with fail
    refine (Next_in _ _ _ _ _ _ _ 5 _ I.out.choose_spec.2.2.2.1 (by omega) (by omega) (by omega)).mono ?_
    rintro e w4 ⟨r, rfl, hr0, hr1, hT, hg⟩
    have I2 := Lib.hid (I.out.next hT hg)
    clear I hT hg
    go_wp2_with fail
    refine (Next_in _ _ _ _ _ _ _ ((1 + c : Nat) : Int) _ I2.out.choose_spec.2.2.2.1 (by omega) (by omega) (by omega)).mono ?_
    rintro e w5 ⟨x, rfl, hx0, hx1, hT, hg⟩
    have I3 := Lib.hid (I2.out.next hT hg)
    clear I2 hT hg
    go_upto_region 7 with fail
    have I4 := Lib.hid (I3.out.alloc (.cells #[.slice none 0 0, .slice none 0 0] 26))
    have M0 := Lib.hid (at_new w5 (.cells #[.slice none 0 0, .slice none 0 0] 26))
    have z9 : w.heap.size < w5.heap.size ∧ b4 < w5.heap.size := ⟨lt_of_at I3.out.choose_spec.2.2.1, lt_of_at I3.out.choose_spec.2.1⟩
    have G6a := Lib.hid (grown_alloc (.cells #[.slice none 0 0, .slice none 0 0] 26) (grown_refl w5 (some B)))
    go_upto_region 9 with fail
    obtain ⟨b9, hb9⟩ : ∃ b9, w5.heap.size = b9 := ⟨_, rfl⟩
    obtain ⟨X, hX⟩ : ∃ X, X = w5.alloc (.cells #[.slice none 0 0, .slice none 0 0] 26) := ⟨_, rfl⟩
    rw [← hX] at I4 M0 G6a ⊢
    have h59 : w5.heap.size ≤ b9 := by omega
    rw [hb9] at M0 z9 ⊢
    clear hX hb9
    go_wp2_with fail
    refine (Next_in _ _ _ _ _ _ _ 6 _ I4.out.choose_spec.2.2.2.1 (by omega) (by omega) (by omega)).mono ?_
    rintro e w6 ⟨s, rfl, hs0, hs1, hT, hg⟩
    have I5 := Lib.hid (I4.out.next hT hg)
    have M1 := Lib.hid (grown_at hg M0.out (by have := I4.out.choose_spec.2.2.2.2.2.1; simp; omega))
    have G6 := Lib.hid (grown_trans G6a.out hg)
    clear I4 M0 hT hg G6a
    have hBw2 := hBw
    have hs : s = 0 ∨ s = 1 ∨ s = 2 ∨ s = 3 ∨ s = 4 ∨ s = 5 := by omega
    have p1 := (rules_at I5.out.choose_spec.2.1).1
    have p3 := lt_of_at I5.out.choose_spec.2.1
    rcases hs with rfl | rfl | rfl | rfl | rfl | rfl
    · go_wp2_with fail
      refine (rOwn_any _ l r x _ I5.out.choose_spec.1.lk).mono ?_
      rintro e w7 ⟨v, rfl, hL, hg⟩
      obtain ⟨e1, e2, e3, e4, e5, e6, rfl, -⟩ := hL none (by simp)
      have LA : LkA w6.heap.size w7 (lkV e1 e2 e3 e4 e5 e6) (ownV l r x) := hL
      have I6 := Lib.hid (I5.out.grow hg)
      have M2 := Lib.hid (grown_at hg M1.out (by simp))
      have z7 := hg.size
      have z6 := lt_of_at M1.out
      have G7 := Lib.hid (grown_trans G6.out (grown_weak (r := some B) hg))
      clear hg I5 M1 p1 p3
      have r1 := (rules_at M2.out).1
      have r2 := (rules_at M2.out).2
      have r3 := lt_of_at M2.out
      obtain ⟨hbx, hgs⟩ := box_put (v1 := .slice e1 e2 e3) (v2 := .slice e4 e5 e6) M2.out
      have LB := Lib.hid (LA.box (b := b9) (u1 := .slice e1 e2 e3) (u2 := .slice e4 e5 e6) (by omega))
      have GZ := grown_set (p := ⟨b9, 1, none⟩) (.slice e4 e5 e6) (grown_set (p := ⟨b9, 0, none⟩) (.slice e1 e2 e3) G7.out (.inl h59)) (.inl h59)
      have I7 := Lib.hid (I3.out.next (I6.out.choose_spec.2.2.2.1.above hgs (fun g e => by obtain rfl := Option.some.inj e; omega)) GZ)
      have HB9 := Lib.hid hbx
      clear LA hL hbx hgs GZ
      by_cases hE : ownE l r x = 0
      · have PV := Lib.hid (own_valid hE)
        rw [hE]
        clear hE
        go_upto_region 20 with fail
        obtain ⟨Z, hZ⟩ : ∃ Z, Z = (w7.setCell ⟨b9, 0, none⟩ (.slice e1 e2 e3)).setCell ⟨b9, 1, none⟩ (.slice e4 e5 e6) := ⟨_, rfl⟩
        rw [← hZ] at LB I7 HB9 ⊢
        clear hZ r1 r2 r3
        have p1 := (rules_at I7.out.choose_spec.2.1).1
        have p2 := (rules_at I7.out.choose_spec.2.1).2
        have p3 := lt_of_at I7.out.choose_spec.2.1
        have r1 := (rules_at HB9.out).1
        have r3 := lt_of_at HB9.out
        have I8 := Lib.hid (I7.out.put LB.out (by omega) PV.out)
        clear I6 M2
        go_wp2_with fail
        go_roundw
        case rel => exact ⟨j - 1, _, _, _, _, by omega, by rw [show ((j : Int) - 1) = ((j - 1 : Nat) : Int) by omega], by omega, I8.out, _, _, _, _, _, _, rfl, rfl⟩
        case measure => simp [intOf]; omega
      · have t1 : (ownE l r x == 0) = false := beq_eq_false_iff_ne.2 hE
        clear hE
        go_wp2_with fail
        go_roundw
        case rel => exact ⟨j - 1, _, _, _, _, by omega, by rw [show ((j : Int) - 1) = ((j - 1 : Nat) : Int) by omega], by omega, I7.out, _, _, _, _, _, _, rfl, rfl⟩
        case measure => simp [intOf]; omega
    · go_wp2_with fail
      refine (rRelease_any _ l x _ I5.out.choose_spec.1.lk).mono ?_
      rintro e w7 ⟨v, rfl, hL, hg⟩
      obtain ⟨e1, e2, e3, e4, e5, e6, rfl, -⟩ := hL none (by simp)
      have LA : LkA w6.heap.size w7 (lkV e1 e2 e3 e4 e5 e6) (relV l x) := hL
      have I6 := Lib.hid (I5.out.grow hg)
      have M2 := Lib.hid (grown_at hg M1.out (by simp))
      have z7 := hg.size
      have z6 := lt_of_at M1.out
      have G7 := Lib.hid (grown_trans G6.out (grown_weak (r := some B) hg))
      clear hg I5 M1 p1 p3
      have r1 := (rules_at M2.out).1
      have r2 := (rules_at M2.out).2
      have r3 := lt_of_at M2.out
      obtain ⟨hbx, hgs⟩ := box_put (v1 := .slice e1 e2 e3) (v2 := .slice e4 e5 e6) M2.out
      have LB := Lib.hid (LA.box (b := b9) (u1 := .slice e1 e2 e3) (u2 := .slice e4 e5 e6) (by omega))
      have GZ := grown_set (p := ⟨b9, 1, none⟩) (.slice e4 e5 e6) (grown_set (p := ⟨b9, 0, none⟩) (.slice e1 e2 e3) G7.out (.inl h59)) (.inl h59)
      have I7 := Lib.hid (I3.out.next (I6.out.choose_spec.2.2.2.1.above hgs (fun g e => by obtain rfl := Option.some.inj e; omega)) GZ)
      have HB9 := Lib.hid hbx
      clear LA hL hbx hgs GZ
      by_cases hE : relE l x = 0
      · have PV := Lib.hid (rel_valid hE)
        rw [hE]
        clear hE
        go_upto_region 20 with fail
        obtain ⟨Z, hZ⟩ : ∃ Z, Z = (w7.setCell ⟨b9, 0, none⟩ (.slice e1 e2 e3)).setCell ⟨b9, 1, none⟩ (.slice e4 e5 e6) := ⟨_, rfl⟩
        rw [← hZ] at LB I7 HB9 ⊢
        clear hZ r1 r2 r3
        have p1 := (rules_at I7.out.choose_spec.2.1).1
        have p2 := (rules_at I7.out.choose_spec.2.1).2
        have p3 := lt_of_at I7.out.choose_spec.2.1
        have r1 := (rules_at HB9.out).1
        have r3 := lt_of_at HB9.out
        have I8 := Lib.hid (I7.out.put LB.out (by omega) PV.out)
        clear I6 M2
        go_wp2_with fail
        go_roundw
        case rel => exact ⟨j - 1, _, _, _, _, by omega, by rw [show ((j : Int) - 1) = ((j - 1 : Nat) : Int) by omega], by omega, I8.out, _, _, _, _, _, _, rfl, rfl⟩
        case measure => simp [intOf]; omega
      · have t1 : (relE l x == 0) = false := beq_eq_false_iff_ne.2 hE
        clear hE
        go_wp2_with fail
        go_roundw
        case rel => exact ⟨j - 1, _, _, _, _, by omega, by rw [show ((j : Int) - 1) = ((j - 1 : Nat) : Int) by omega], by omega, I7.out, _, _, _, _, _, _, rfl, rfl⟩
        case measure => simp [intOf]; omega
    · go_wp2_with fail
      refine (rAsk_any _ l r x _ I5.out.choose_spec.1.lk).mono ?_
      rintro e w7 ⟨v, rfl, hL, hg⟩
      obtain ⟨e1, e2, e3, e4, e5, e6, rfl, -⟩ := hL none (by simp)
      have LA : LkA w6.heap.size w7 (lkV e1 e2 e3 e4 e5 e6) (askV l r x) := hL
      have I6 := Lib.hid (I5.out.grow hg)
      have M2 := Lib.hid (grown_at hg M1.out (by simp))
      have z7 := hg.size
      have z6 := lt_of_at M1.out
      have G7 := Lib.hid (grown_trans G6.out (grown_weak (r := some B) hg))
      clear hg I5 M1 p1 p3
      have r1 := (rules_at M2.out).1
      have r2 := (rules_at M2.out).2
      have r3 := lt_of_at M2.out
      obtain ⟨hbx, hgs⟩ := box_put (v1 := .slice e1 e2 e3) (v2 := .slice e4 e5 e6) M2.out
      have LB := Lib.hid (LA.box (b := b9) (u1 := .slice e1 e2 e3) (u2 := .slice e4 e5 e6) (by omega))
      have GZ := grown_set (p := ⟨b9, 1, none⟩) (.slice e4 e5 e6) (grown_set (p := ⟨b9, 0, none⟩) (.slice e1 e2 e3) G7.out (.inl h59)) (.inl h59)
      have I7 := Lib.hid (I3.out.next (I6.out.choose_spec.2.2.2.1.above hgs (fun g e => by obtain rfl := Option.some.inj e; omega)) GZ)
      have HB9 := Lib.hid hbx
      clear LA hL hbx hgs GZ
      by_cases hE : askE l r x = 0
      · have PV := Lib.hid (ask_valid hE)
        rw [hE]
        clear hE
        go_upto_region 20 with fail
        obtain ⟨Z, hZ⟩ : ∃ Z, Z = (w7.setCell ⟨b9, 0, none⟩ (.slice e1 e2 e3)).setCell ⟨b9, 1, none⟩ (.slice e4 e5 e6) := ⟨_, rfl⟩
        rw [← hZ] at LB I7 HB9 ⊢
        clear hZ r1 r2 r3
        have p1 := (rules_at I7.out.choose_spec.2.1).1
        have p2 := (rules_at I7.out.choose_spec.2.1).2
        have p3 := lt_of_at I7.out.choose_spec.2.1
        have r1 := (rules_at HB9.out).1
        have r3 := lt_of_at HB9.out
        have I8 := Lib.hid (I7.out.put LB.out (by omega) PV.out)
        clear I6 M2
        go_wp2_with fail
        go_roundw
        case rel => exact ⟨j - 1, _, _, _, _, by omega, by rw [show ((j : Int) - 1) = ((j - 1 : Nat) : Int) by omega], by omega, I8.out, _, _, _, _, _, _, rfl, rfl⟩
        case measure => simp [intOf]; omega
      · have t1 : (askE l r x == 0) = false := beq_eq_false_iff_ne.2 hE
        clear hE
        go_wp2_with fail
        go_roundw
        case rel => exact ⟨j - 1, _, _, _, _, by omega, by rw [show ((j : Int) - 1) = ((j - 1 : Nat) : Int) by omega], by omega, I7.out, _, _, _, _, _, _, rfl, rfl⟩
        case measure => simp [intOf]; omega
    · go_wp2_with fail
      refine (rAsk_any _ l r x _ I5.out.choose_spec.1.lk).mono ?_
      rintro e w7 ⟨v, rfl, hL, hg⟩
      obtain ⟨e1, e2, e3, e4, e5, e6, rfl, -⟩ := hL none (by simp)
      have LA : LkA w6.heap.size w7 (lkV e1 e2 e3 e4 e5 e6) (askV l r x) := hL
      have I6 := Lib.hid (I5.out.grow hg)
      have M2 := Lib.hid (grown_at hg M1.out (by simp))
      have z7 := hg.size
      have z6 := lt_of_at M1.out
      have G7 := Lib.hid (grown_trans G6.out (grown_weak (r := some B) hg))
      clear hg I5 M1 p1 p3
      have r1 := (rules_at M2.out).1
      have r2 := (rules_at M2.out).2
      have r3 := lt_of_at M2.out
      obtain ⟨hbx, hgs⟩ := box_put (v1 := .slice e1 e2 e3) (v2 := .slice e4 e5 e6) M2.out
      have LB := Lib.hid (LA.box (b := b9) (u1 := .slice e1 e2 e3) (u2 := .slice e4 e5 e6) (by omega))
      have GZ := grown_set (p := ⟨b9, 1, none⟩) (.slice e4 e5 e6) (grown_set (p := ⟨b9, 0, none⟩) (.slice e1 e2 e3) G7.out (.inl h59)) (.inl h59)
      have I7 := Lib.hid (I3.out.next (I6.out.choose_spec.2.2.2.1.above hgs (fun g e => by obtain rfl := Option.some.inj e; omega)) GZ)
      have HB9 := Lib.hid hbx
      clear LA hL hbx hgs GZ
      by_cases hE : askE l r x = 0
      · have PV := Lib.hid (ask_valid hE)
        rw [hE]
        clear hE
        go_upto_region 20 with fail
        obtain ⟨Z, hZ⟩ : ∃ Z, Z = (w7.setCell ⟨b9, 0, none⟩ (.slice e1 e2 e3)).setCell ⟨b9, 1, none⟩ (.slice e4 e5 e6) := ⟨_, rfl⟩
        rw [← hZ] at LB I7 HB9 ⊢
        clear hZ r1 r2 r3
        have p1 := (rules_at I7.out.choose_spec.2.1).1
        have p2 := (rules_at I7.out.choose_spec.2.1).2
        have p3 := lt_of_at I7.out.choose_spec.2.1
        have r1 := (rules_at HB9.out).1
        have r3 := lt_of_at HB9.out
        have I8 := Lib.hid (I7.out.put LB.out (by omega) PV.out)
        clear I6 M2
        go_wp2_with fail
        go_roundw
        case rel => exact ⟨j - 1, _, _, _, _, by omega, by rw [show ((j : Int) - 1) = ((j - 1 : Nat) : Int) by omega], by omega, I8.out, _, _, _, _, _, _, rfl, rfl⟩
        case measure => simp [intOf]; omega
      · have t1 : (askE l r x == 0) = false := beq_eq_false_iff_ne.2 hE
        clear hE
        go_wp2_with fail
        go_roundw
        case rel => exact ⟨j - 1, _, _, _, _, by omega, by rw [show ((j : Int) - 1) = ((j - 1 : Nat) : Int) by omega], by omega, I7.out, _, _, _, _, _, _, rfl, rfl⟩
        case measure => simp [intOf]; omega
    · go_wp2_with fail
      refine (rLeave_any _ l r _ I5.out.choose_spec.1.lk).mono ?_
      rintro e w7 ⟨v, rfl, hL, hg⟩
      obtain ⟨e1, e2, e3, e4, e5, e6, rfl, -⟩ := hL none (by simp)
      have LA : LkA w6.heap.size w7 (lkV e1 e2 e3 e4 e5 e6) (leaveV l r) := hL
      have I6 := Lib.hid (I5.out.grow hg)
      have M2 := Lib.hid (grown_at hg M1.out (by simp))
      have z7 := hg.size
      have z6 := lt_of_at M1.out
      have G7 := Lib.hid (grown_trans G6.out (grown_weak (r := some B) hg))
      clear hg I5 M1 p1 p3
      have r1 := (rules_at M2.out).1
      have r2 := (rules_at M2.out).2
      have r3 := lt_of_at M2.out
      obtain ⟨hbx, hgs⟩ := box_put (v1 := .slice e1 e2 e3) (v2 := .slice e4 e5 e6) M2.out
      have LB := Lib.hid (LA.box (b := b9) (u1 := .slice e1 e2 e3) (u2 := .slice e4 e5 e6) (by omega))
      have GZ := grown_set (p := ⟨b9, 1, none⟩) (.slice e4 e5 e6) (grown_set (p := ⟨b9, 0, none⟩) (.slice e1 e2 e3) G7.out (.inl h59)) (.inl h59)
      have I7 := Lib.hid (I3.out.next (I6.out.choose_spec.2.2.2.1.above hgs (fun g e => by obtain rfl := Option.some.inj e; omega)) GZ)
      have HB9 := Lib.hid hbx
      clear LA hL hbx hgs GZ
      by_cases hE : leaveE l r = 0
      · have PV := Lib.hid (leave_valid hE)
        rw [hE]
        clear hE
        go_upto_region 20 with fail
        obtain ⟨Z, hZ⟩ : ∃ Z, Z = (w7.setCell ⟨b9, 0, none⟩ (.slice e1 e2 e3)).setCell ⟨b9, 1, none⟩ (.slice e4 e5 e6) := ⟨_, rfl⟩
        rw [← hZ] at LB I7 HB9 ⊢
        clear hZ r1 r2 r3
        have p1 := (rules_at I7.out.choose_spec.2.1).1
        have p2 := (rules_at I7.out.choose_spec.2.1).2
        have p3 := lt_of_at I7.out.choose_spec.2.1
        have r1 := (rules_at HB9.out).1
        have r3 := lt_of_at HB9.out
        have I8 := Lib.hid (I7.out.put LB.out (by omega) PV.out)
        clear I6 M2
        go_wp2_with fail
        go_roundw
        case rel => exact ⟨j - 1, _, _, _, _, by omega, by rw [show ((j : Int) - 1) = ((j - 1 : Nat) : Int) by omega], by omega, I8.out, _, _, _, _, _, _, rfl, rfl⟩
        case measure => simp [intOf]; omega
      · have t1 : (leaveE l r == 0) = false := beq_eq_false_iff_ne.2 hE
        clear hE
        go_wp2_with fail
        go_roundw
        case rel => exact ⟨j - 1, _, _, _, _, by omega, by rw [show ((j : Int) - 1) = ((j - 1 : Nat) : Int) by omega], by omega, I7.out, _, _, _, _, _, _, rfl, rfl⟩
        case measure => simp [intOf]; omega
    · have TT := Lib.hid I5.out.choose_spec.2.2.2.1
      have CB : Hid (w6.cell? ⟨b4, 0, none⟩ = some (.slice a1 n1 c1) ∧ w6.cell? ⟨b4, 1, none⟩ = some (.slice a2 n2 c2)) := Lib.hid ⟨by rw [p1]; rfl, by rw [p1]; rfl⟩
      have z69 := lt_of_at M1.out
      clear p1
      go_upto_region 10 with fail
      go_region_held3 (fun w' => w'.cell? ⟨b4, 0, none⟩ = some (.slice a1 n1 c1) ∧ w'.cell? ⟨b4, 1, none⟩ = some (.slice a2 n2 c2)) (first | exact CB.out | exact CB8.out | exact CB9.out | exact ⟨set_keep (set_keep CB9.out.1 (by simp; omega)) (by simp; omega), set_keep (set_keep CB9.out.2 (by simp; omega)) (by simp; omega)⟩) (first | (go_at_call 17; refine (Shut_any B T ad len cap zs (kt + 3) (1 + c) _ (TapeAt.other TT.out (by repeat (first | assumption | exact grown_refl _ _ | refine grown_drew ?_ | refine grown_alloc _ ?_))) (by omega) (by omega)).mono ?_; rintro e w8 ⟨gS, s, k8, rfl, hs, hO, hg0, hT8, hk8, hg8⟩; have G8 : w6.grownBy w8 (some B) := grown_trans (grown_weak (by repeat (first | assumption | exact grown_refl _ _ | refine grown_drew ?_ | refine grown_alloc _ ?_))) hg8; have I8 := Lib.hid (I5.out.next hT8 G8); have CB8 : Hid (w8.cell? ⟨b4, 0, none⟩ = some (.slice a1 n1 c1) ∧ w8.cell? ⟨b4, 1, none⟩ = some (.slice a2 n2 c2)) := Lib.hid ⟨(grown_cell G8 p3 (by simp; omega)).trans CB.out.1, (grown_cell G8 p3 (by simp; omega)).trans CB.out.2⟩; have M8 := Lib.hid (grown_at G8 M1.out (by simp; omega)); have CLS := Lib.hid hO.row; have HK8 := Lib.hid hk8; have HS8 := Lib.hid hs; have z8 := G8.size; have GG8 := Lib.hid (grown_trans G6.out G8); clear hs hO hT8 hk8 hg8 G8) | (go_at_call 29; refine (rGrant_any _ l _ (1 + c) _ s _ I8.out.choose_spec.1.lk CLS.out).mono ?_; rintro e w9 ⟨v, Ag, cg, rfl, hgl, hgr, hgb, hL, hg⟩; obtain ⟨e1, e2, e3, e4, e5, e6, rfl, -⟩ := hL none (by simp); have LA := Lib.hid (show LkA w8.heap.size w9 (lkV e1 e2 e3 e4 e5 e6) (grantV l s) from hL); have I9 := Lib.hid (I8.out.grow hg); have M9 := Lib.hid (grown_at hg M8.out (by simp)); have CB9 : Hid (w9.cell? ⟨b4, 0, none⟩ = some (.slice a1 n1 c1) ∧ w9.cell? ⟨b4, 1, none⟩ = some (.slice a2 n2 c2)) := Lib.hid ⟨(grown_cell hg (lt_of_at I8.out.choose_spec.2.1) (by simp)).trans CB8.out.1, (grown_cell hg (lt_of_at I8.out.choose_spec.2.1) (by simp)).trans CB8.out.2⟩; have z9' := hg.size; have GG9 := Lib.hid (grown_trans GG8.out (grown_weak (r := some B) hg)); have r1 := (rules_at M9.out).1; have r2 := (rules_at M9.out).2; have r3 := lt_of_at M9.out; clear hL hg hgl hgr hgb))
      all_goals
        obtain ⟨hbx, hgs⟩ := box_put (v1 := .slice e1 e2 e3) (v2 := .slice e4 e5 e6) M9.out
        have LB := Lib.hid (LA.out.box (b := b9) (u1 := .slice e1 e2 e3) (u2 := .slice e4 e5 e6) (by omega))
        have GZ := grown_set (p := ⟨b9, 1, none⟩) (.slice e4 e5 e6) (grown_set (p := ⟨b9, 0, none⟩) (.slice e1 e2 e3) GG9.out (.inl h59)) (.inl h59)
        have I7 := Lib.hid (I3.out.next (I9.out.choose_spec.2.2.2.1.above hgs (fun g e => by obtain rfl := Option.some.inj e; omega)) GZ)
        have HB9 := Lib.hid hbx
        have hk8 := HK8.out
        clear LA hbx hgs GZ
        obtain ⟨Z, hZ⟩ : ∃ Z, Z = (w9.setCell ⟨b9, 0, none⟩ (.slice e1 e2 e3)).setCell ⟨b9, 1, none⟩ (.slice e4 e5 e6) := ⟨_, rfl⟩
        rw [← hZ] at LB I7 HB9 ⊢
        clear hZ r1 r2 r3 p3
        by_cases hE : grantE l s.length = 0
        · have PV := Lib.hid (grant_valid hE)
          rw [hE]
          clear hE
          have p1 := (rules_at I7.out.choose_spec.2.1).1
          have p2 := (rules_at I7.out.choose_spec.2.1).2
          have p3 := lt_of_at I7.out.choose_spec.2.1
          have r1 := (rules_at HB9.out).1
          have r3 := lt_of_at HB9.out
          have I10 := Lib.hid (I7.out.put LB.out (by omega) PV.out)
          go_wp2_with fail
          go_roundw
          case rel => exact ⟨j - 1, _, _, _, _, by omega, by rw [show ((j : Int) - 1) = ((j - 1 : Nat) : Int) by omega], by omega, I10.out, _, _, _, _, _, _, rfl, rfl⟩
          case measure => simp [intOf]; omega
        · have t1 : (grantE l s.length == 0) = false := beq_eq_false_iff_ne.2 hE
          clear hE
          go_wp2_with fail
          go_roundw
          case rel => exact ⟨j - 1, _, _, _, _, by omega, by rw [show ((j : Int) - 1) = ((j - 1 : Nat) : Int) by omega], by omega, I7.out, _, _, _, _, _, _, rfl, rfl⟩
          case measure => simp [intOf]; omega
end Go.Proofs.Ytbpobekmbdngbaa
