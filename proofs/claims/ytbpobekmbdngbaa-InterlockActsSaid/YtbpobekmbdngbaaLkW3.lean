/- The walk of InterlockActs. -/
import Derived.Test.YtbpobekmbdngbaaLkSm
namespace Go.Proofs.Ytbpobekmbdngbaa
open Go.RowKit
set_option linter.unusedVariables false

/-- The boxes of the law, in block order. -/
def AcI (w X : World) (box : Array Value) (n0 n1 n2 : Int) (b10 b11 b13 : Nat) (m p q : Array Value) : Prop :=
  X.heap[w.heap.size]? = some (.cells box 26 (0, 0)) ∧ X.heap[w.heap.size + 1]? = some (.cells #[.int .i64 n0, .int .i64 n1, .int .i64 n2] 55 (0, 0)) ∧
    X.heap[b10]? = some (.cells m 26 (0, 0)) ∧ X.heap[b11]? = some (.cells p 26 (0, 0)) ∧ X.heap[b13]? = some (.cells q 26 (0, 0))
theorem AcI.kept {w X Y : World} {box : Array Value} {n0 n1 n2 : Int} {b10 b11 b13 B : Nat} {m p q : Array Value} (h : AcI w X box n0 n1 n2 b10 b11 b13 m p q) (hg : X.grownBy Y (some B)) (hB : w.heap.size + 1 < B ∧ B < b10 ∧ B < b11 ∧ B < b13) : AcI w Y box n0 n1 n2 b10 b11 b13 m p q :=
  ⟨grown_at hg h.1 (by simp; omega), grown_at hg h.2.1 (by simp; omega), grown_at hg h.2.2.1 (by simp; omega), grown_at hg h.2.2.2.1 (by simp; omega), grown_at hg h.2.2.2.2 (by simp; omega)⟩

set_option maxRecDepth 100000 in
set_option maxHeartbeats 12800000 in
theorem InterlockActs_walk (a0 : Option Addr) (n0 c0 : Nat) (b0 : Option Addr) (m0 d0 : Nat) (l : Lk) (a1 : Option Addr) (len1 cap1 : Nat) (l1 : List Bool) (v0 v1 v2 : Int) (a3 : Option Addr) (len3 cap3 : Nat) (z3 : List Int) (w : World)
    (w0 : LkR none w a0 n0 c0 b0 m0 d0 l) (w1 : RowIn w a1 len1 1 (bools l1)) (w3 : IsRow .i64 w a3 len3 cap3 z3) :
    Calls Try.prog 5 #[lkV a0 n0 c0 b0 m0 d0, .slice a1 len1 cap1, .agg #[.int .i64 v0, .int .i64 v1, .int .i64 v2], .slice a3 len3 cap3] w fun e w' => e = .returned (.bool true) ∧ Below w.heap.size w w' := by
  have r0 := Lib.hid w3
  have H := Lib.hid w0
  have CLo := Lib.hid w1
  have ga := grown_alloc (.cells #[.int .i64 v0, .int .i64 v1, .int .i64 v2] 55) (grown_alloc (.cells #[.slice a0 n0 c0, .slice b0 m0 d0] 26) (grown_refl w none))
  have B0 : Hid (((w.alloc (.cells #[.slice a0 n0 c0, .slice b0 m0 d0] 26)).alloc (.cells #[.int .i64 v0, .int .i64 v1, .int .i64 v2] 55)).heap[w.heap.size]? = some (.cells #[.slice a0 n0 c0, .slice b0 m0 d0] 26 (0, 0)) ∧
      ((w.alloc (.cells #[.slice a0 n0 c0, .slice b0 m0 d0] 26)).alloc (.cells #[.int .i64 v0, .int .i64 v1, .int .i64 v2] 55)).heap[w.heap.size + 1]? = some (.cells #[.int .i64 v0, .int .i64 v1, .int .i64 v2] 55 (0, 0))) := Lib.hid (by
    refine ⟨at_alloc _ (at_new w _), ?_⟩
    have := at_new (w.alloc (.cells #[.slice a0 n0 c0, .slice b0 m0 d0] 26)) (.cells #[.int .i64 v0, .int .i64 v1, .int .i64 v2] 55)
    rw [World.size_alloc] at this
    exact this)
  have G0 := Lib.hid ga
  clear w0 w1 w3 ga
  go_enter Try.func5, Try.ntmps5
  go_upto_region 1 with fail
  obtain ⟨X0, hX⟩ : ∃ X, X = (w.alloc (.cells #[.slice a0 n0 c0, .slice b0 m0 d0] 26)).alloc (.cells #[.int .i64 v0, .int .i64 v1, .int .i64 v2] 55) := ⟨_, rfl⟩
  rw [← hX] at B0 G0 ⊢
  have z0 := lt_of_at B0.out.2
  clear hX
  go_wp2_with fail
  refine (known_any _).mono ?_
  rintro e y1 ⟨rfl, hg⟩
  have B1 : Hid (y1.heap[w.heap.size]? = some (.cells #[.slice a0 n0 c0, .slice b0 m0 d0] 26 (0, 0)) ∧ y1.heap[w.heap.size + 1]? = some (.cells #[.int .i64 v0, .int .i64 v1, .int .i64 v2] 55 (0, 0))) := Lib.hid ⟨grown_at hg B0.out.1 (by simp), grown_at hg B0.out.2 (by simp)⟩
  have G1 := Lib.hid (grown_trans G0.out hg)
  have T1 := Lib.hid (tape_new r0.out G1.out 30)
  have B2 : Hid ((y1.alloc (.cells #[.slice a3 len3 cap3, .int .i64 0] 30)).heap[w.heap.size]? = some (.cells #[.slice a0 n0 c0, .slice b0 m0 d0] 26 (0, 0)) ∧ (y1.alloc (.cells #[.slice a3 len3 cap3, .int .i64 0] 30)).heap[w.heap.size + 1]? = some (.cells #[.int .i64 v0, .int .i64 v1, .int .i64 v2] 55 (0, 0))) := Lib.hid ⟨at_alloc _ B1.out.1, at_alloc _ B1.out.2⟩
  have G2 := Lib.hid (grown_alloc (.cells #[.slice a3 len3 cap3, .int .i64 0] 30) G1.out)
  have hB := lt_of_at B1.out.2
  have hBw := G1.out.size
  obtain ⟨B, hBe⟩ : ∃ B, y1.heap.size = B := ⟨_, rfl⟩
  obtain ⟨Y, hY⟩ : ∃ Y, Y = y1.alloc (.cells #[.slice a3 len3 cap3, .int .i64 0] 30) := ⟨_, rfl⟩
  rw [← hY] at T1 B2 G2
  rw [hBe] at T1 hB hBw
  clear hg B0 B1 G0 G1 r0 z0
  go_upto_region 4 with fail
  rw [← hY]
  try rw [hBe]
  clear hY hBe
  go_wp2_with fail
  refine (made_any B 30 a3 len3 cap3 _ 0 _ T1.out (by omega)).mono ?_
  rintro e y2 ⟨v, lm, kt, rfl, hL, hv, hT, hkt, hg⟩
  obtain ⟨f1, f2, f3, f4, f5, f6, rfl, hR⟩ := hL
  have V := Lib.hid hv
  have gm := grown_alloc (.cells #[.slice f1 f2 f3, .slice f4 f5 f6] 26) (grown_refl y2 (some B))
  have LM := Lib.hid (LkR.kept hR gm)
  have T2 := Lib.hid (hT.other (grown_alloc (.cells #[.slice f1 f2 f3, .slice f4 f5 f6] 26) (grown_refl y2 none)))
  have B3 : Hid ((y2.alloc (.cells #[.slice f1 f2 f3, .slice f4 f5 f6] 26)).heap[w.heap.size]? = some (.cells #[.slice a0 n0 c0, .slice b0 m0 d0] 26 (0, 0)) ∧ (y2.alloc (.cells #[.slice f1 f2 f3, .slice f4 f5 f6] 26)).heap[w.heap.size + 1]? = some (.cells #[.int .i64 v0, .int .i64 v1, .int .i64 v2] 55 (0, 0)) ∧
      (y2.alloc (.cells #[.slice f1 f2 f3, .slice f4 f5 f6] 26)).heap[y2.heap.size]? = some (.cells #[.slice f1 f2 f3, .slice f4 f5 f6] 26 (0, 0))) := Lib.hid ⟨at_alloc _ (grown_at hg B2.out.1 (by simp; omega)), at_alloc _ (grown_at hg B2.out.2 (by simp; omega)), at_new _ _⟩
  have G3 := Lib.hid (grown_own G2.out (grown_trans hg gm) (fun b e => by obtain rfl := Option.some.inj e; exact hBw))
  have hB10 := hT.lt
  obtain ⟨b10, hb10⟩ : ∃ b, y2.heap.size = b := ⟨_, rfl⟩
  obtain ⟨X1, hX⟩ : ∃ X, X = y2.alloc (.cells #[.slice f1 f2 f3, .slice f4 f5 f6] 26) := ⟨_, rfl⟩
  rw [← hX] at LM T2 B3 G3
  rw [hb10] at B3 hB10
  clear hT hg gm hR hv T1 B2 G2
  go_upto_region 5 with fail
  rw [← hX]
  try rw [hb10]
  clear hX hb10
  have p1 := (rules_at B3.out.2.1).1
  have p3 := lt_of_at B3.out.2.1
  go_wp2_with fail
  refine (New_any v2 _).mono ?_
  rintro e y3 ⟨v, rfl, hL, hg⟩
  obtain ⟨g1, g2, g3, g4, g5, g6, rfl, hR⟩ := hL none (by simp)
  have ga := grown_alloc (.cells #[.slice g1 g2 g3, .slice g4 g5 g6] 26) (grown_refl y3 none)
  have N1 := Lib.hid (LkR.kept hR ga)
  have gb := grown_trans hg ga
  have LM2 := Lib.hid (LM.out.plain.kept gb)
  have LMB := Lib.hid (LM.out.kept (grown_weak (r := some B) gb))
  have T3 := Lib.hid (T2.out.other gb)
  have B4 : Hid ((y3.alloc (.cells #[.slice g1 g2 g3, .slice g4 g5 g6] 26)).heap[w.heap.size]? = some (.cells #[.slice a0 n0 c0, .slice b0 m0 d0] 26 (0, 0)) ∧ (y3.alloc (.cells #[.slice g1 g2 g3, .slice g4 g5 g6] 26)).heap[w.heap.size + 1]? = some (.cells #[.int .i64 v0, .int .i64 v1, .int .i64 v2] 55 (0, 0)) ∧
      (y3.alloc (.cells #[.slice g1 g2 g3, .slice g4 g5 g6] 26)).heap[b10]? = some (.cells #[.slice f1 f2 f3, .slice f4 f5 f6] 26 (0, 0)) ∧ (y3.alloc (.cells #[.slice g1 g2 g3, .slice g4 g5 g6] 26)).heap[y3.heap.size]? = some (.cells #[.slice g1 g2 g3, .slice g4 g5 g6] 26 (0, 0))) := Lib.hid ⟨grown_at gb B3.out.1 (by simp), grown_at gb B3.out.2.1 (by simp), grown_at gb B3.out.2.2 (by simp), at_new _ _⟩
  have G4 := Lib.hid (grown_trans G3.out gb)
  have hb11' := hg.size
  have hb10' := lt_of_at B3.out.2.2
  obtain ⟨b11, hb11⟩ : ∃ b, y3.heap.size = b := ⟨_, rfl⟩
  obtain ⟨X2, hX⟩ : ∃ X, X = y3.alloc (.cells #[.slice g1 g2 g3, .slice g4 g5 g6] 26) := ⟨_, rfl⟩
  rw [← hX] at N1 LMB T3 B4 G4
  rw [hb11] at B4 hb11'
  clear hL hg ga gb hR T2 B3 G3 LM LM2 p1 p3
  go_upto_region 6 with fail
  rw [← hX]
  try rw [hb11]
  clear hX hb11
  have p1 := (rules_at B4.out.2.1).1
  have p3 := lt_of_at B4.out.2.1
  go_wp2_with fail
  refine (rNew_any v2 _).mono ?_
  rintro e y4 ⟨v, rfl, hL, hg⟩
  obtain ⟨h1, h2, h3, h4, h5, h6, rfl, hR⟩ := hL none (by simp)
  have ga := grown_alloc (.cells #[.slice h1 h2 h3, .slice h4 h5 h6] 26) (grown_refl y4 none)
  have N2 := Lib.hid (LkR.kept hR ga)
  have gb := grown_trans hg ga
  have N1b := Lib.hid (N1.out.kept gb)
  have LMC := Lib.hid (LMB.out.kept (grown_weak (r := some B) gb))
  have T4 := Lib.hid (T3.out.other gb)
  have AC : Hid (AcI w (y4.alloc (.cells #[.slice h1 h2 h3, .slice h4 h5 h6] 26)) #[.slice a0 n0 c0, .slice b0 m0 d0] v0 v1 v2 b10 b11 y4.heap.size #[.slice f1 f2 f3, .slice f4 f5 f6] #[.slice g1 g2 g3, .slice g4 g5 g6] #[.slice h1 h2 h3, .slice h4 h5 h6]) := Lib.hid ⟨grown_at gb B4.out.1 (by simp), grown_at gb B4.out.2.1 (by simp), grown_at gb B4.out.2.2.1 (by simp), grown_at gb B4.out.2.2.2 (by simp), at_new _ _⟩
  have G5 := Lib.hid (grown_trans G4.out gb)
  have hb13' := hg.size
  have hb11'' := lt_of_at B4.out.2.2.2
  obtain ⟨b13, hb13⟩ : ∃ b, y4.heap.size = b := ⟨_, rfl⟩
  obtain ⟨X, hX⟩ : ∃ X, X = y4.alloc (.cells #[.slice h1 h2 h3, .slice h4 h5 h6] 26) := ⟨_, rfl⟩
  rw [← hX] at N2 N1b LMC T4 AC G5
  rw [hb13] at AC hb13'
  clear hL hg ga gb hR T3 B4 G4 LMB N1 p1 p3
  go_upto_region 7 with fail
  rw [← hX]
  try rw [hb13]
  clear hX hb13
  obtain ⟨lm1, lm2, -, -⟩ := LMC.out.len
  have hf2 : f2 ≤ 48 := by have := V.out.le; omega
  have KS : Hid (∀ W, X.grownBy W (some B) → (fun w' => w'.cell? ⟨w.heap.size, 0, none⟩ = some (.slice a0 n0 c0) ∧ w'.cell? ⟨w.heap.size, 1, none⟩ = some (.slice b0 m0 d0) ∧ w'.cell? ⟨w.heap.size + 1, 0, none⟩ = some (.int .i64 v0) ∧ w'.cell? ⟨w.heap.size + 1, 1, none⟩ = some (.int .i64 v1) ∧ w'.cell? ⟨b10, 0, none⟩ = some (.slice f1 f2 f3) ∧ w'.cell? ⟨b10, 1, none⟩ = some (.slice f4 f5 f6) ∧ w'.cell? ⟨b11, 0, none⟩ = some (.slice g1 g2 g3) ∧ w'.cell? ⟨b11, 1, none⟩ = some (.slice g4 g5 g6) ∧ w'.cell? ⟨b13, 0, none⟩ = some (.slice h1 h2 h3) ∧ w'.cell? ⟨b13, 1, none⟩ = some (.slice h4 h5 h6)) W) := Lib.hid (fun W hW => by
    have h := AC.out.kept hW ⟨hB, hB10, by omega, by omega⟩
    exact ⟨by rw [cell_at h.1]; rfl, by rw [cell_at h.1]; rfl, by rw [cell_at h.2.1]; rfl, by rw [cell_at h.2.1]; rfl, by rw [cell_at h.2.2.1]; rfl, by rw [cell_at h.2.2.1]; rfl, by rw [cell_at h.2.2.2.1]; rfl, by rw [cell_at h.2.2.2.1]; rfl, by rw [cell_at h.2.2.2.2]; rfl, by rw [cell_at h.2.2.2.2]; rfl⟩)
  have KG : Hid (∀ W, X.grownBy W (some B) → w.grownBy W none) := Lib.hid (fun W hW => grown_own G5.out hW (fun b e => by obtain rfl := Option.some.inj e; exact hBw))
  have KR : Hid (∀ W, X.grownBy W (some B) → LkV none W (lkV a0 n0 c0 b0 m0 d0) l) := Lib.hid (fun W hW => ⟨_, _, _, _, _, _, rfl, H.out.kept (KG.out W hW)⟩)
  have KC : Hid (∀ W, X.grownBy W (some B) → RowIn W a1 len1 1 (bools l1)) := Lib.hid (fun W hW => RowIn.kept CLo.out (KG.out W hW))
  have KM : Hid (∀ W, X.grownBy W (some B) → LkV none W (lkV f1 f2 f3 f4 f5 f6) lm) := Lib.hid (fun W hW => ⟨_, _, _, _, _, _, rfl, (LMC.out.kept hW).plain⟩)
  have N1c := Lib.hid (N1b.out.kept (grown_drew (grown_refl X none)))
  have N2c := Lib.hid (N2.out.kept (grown_drew (grown_refl X none)))
  have TT := T4.out
  have GX : X.grownBy X.drew (some B) := grown_drew (grown_refl X (some B))
  have t1 : (newE v2 == newE v2) = true := beq_self_eq_true _
  have u1 : IntKind.i64.wrap ((f2 : Int) + 2) = (f2 : Int) + 2 := IntWalk.i64_in _ (by omega)
  clear H CLo G5 T4 LMC N1b N2 lm1 lm2
  go_region_held3 (fun w' => w'.cell? ⟨w.heap.size, 0, none⟩ = some (.slice a0 n0 c0) ∧ w'.cell? ⟨w.heap.size, 1, none⟩ = some (.slice b0 m0 d0) ∧ w'.cell? ⟨w.heap.size + 1, 0, none⟩ = some (.int .i64 v0) ∧ w'.cell? ⟨w.heap.size + 1, 1, none⟩ = some (.int .i64 v1) ∧ w'.cell? ⟨b10, 0, none⟩ = some (.slice f1 f2 f3) ∧ w'.cell? ⟨b10, 1, none⟩ = some (.slice f4 f5 f6) ∧ w'.cell? ⟨b11, 0, none⟩ = some (.slice g1 g2 g3) ∧ w'.cell? ⟨b11, 1, none⟩ = some (.slice g4 g5 g6) ∧ w'.cell? ⟨b13, 0, none⟩ = some (.slice h1 h2 h3) ∧ w'.cell? ⟨b13, 1, none⟩ = some (.slice h4 h5 h6)) (exact KS.out _ GX) (first
    | (go_at_call 22; refine (rSame_any (lkV g1 g2 g3 g4 g5 g6) (lkV h1 h2 h3 h4 h5 h6) _ _ _ ⟨_, _, _, _, _, _, rfl, N1c.out⟩ ⟨_, _, _, _, _, _, rfl, N2c.out⟩).mono ?_; rintro e x1 ⟨rfl, hg⟩; rw [sameL_self]; replace TT := TapeAt.other TT (grown_trans (grown_drew (grown_refl X none)) hg); replace GX := grown_trans GX (grown_weak (r := some B) hg); clear hg)
    | (go_at_call 23; have hSR := SR.out.1; refine (lsame_any (lkV f1 f2 f3 f4 f5 f6) lm (some ⟨gS, 0, none⟩) f2 f2 s _ _ _ (KM.out _ GX) SR.out.1).mono ?_; rintro e x6 ⟨rfl, hg⟩; replace GX := grown_trans GX (grown_weak (r := some B) hg); clear hg)
    | (go_at_call 23; refine (lsame_any (lkV a0 n0 c0 b0 m0 d0) l a1 len1 cap1 l1 v0 v1 _ (KR.out _ GX) (KC.out _ GX)).mono ?_; rintro e x2 ⟨rfl, hg⟩; replace TT := TapeAt.other TT hg; replace GX := grown_trans GX (grown_weak (r := some B) hg); clear hg)
    | (go_at_call 17; have hBl := TT.lt; refine (Shut_any B 30 a3 len3 cap3 _ kt f2 _ TT (by omega) (by omega)).mono ?_; rintro e x3 ⟨gS, s, k3, rfl, hs, hO, hgz, hT3, hk3, hg⟩; replace GX := grown_trans GX hg; have hS : RowR (some B) x3 (some ⟨gS, 0, none⟩) f2 1 (bools s) := ⟨hO.row, fun x hx => by obtain rfl := Option.some.inj hx; simp; omega⟩; have SR := Lib.hid hS; clear hs hO hg hS)
    | (go_at_call 13; refine (Next_any B 30 a3 len3 cap3 _ k3 9 _ hT3 (by omega) (by omega) (by omega)).mono ?_; rintro e x4 ⟨rfl, hT4, hg⟩; replace SR := keep hg SR; replace GX := grown_trans GX hg; clear hg hT3)
    | (go_at_call 13; refine (Next_any B 30 a3 len3 cap3 _ (k3 + 1) _ _ hT4 (by omega) (by omega) (by omega)).mono ?_; rintro e x5 ⟨rfl, hT5, hg⟩; replace SR := keep hg SR; replace GX := grown_trans GX hg; clear hg hT4))
  all_goals
    go_wp2_with fail
    go_ret
    exact ⟨rfl, grown_below (KG.out _ GX)⟩
end Go.Proofs.Ytbpobekmbdngbaa
