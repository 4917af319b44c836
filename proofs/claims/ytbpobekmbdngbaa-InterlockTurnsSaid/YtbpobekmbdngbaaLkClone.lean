/- The contract of clone. -/
import Derived.Test.YtbpobekmbdngbaaLkOwn
import Derived.Test.YtbpobekmbdngbaaLkCheck
import Derived.Deep.RegionWith
import Derived.Deep.DeepCutAuto
namespace Go.Proofs.Ytbpobekmbdngbaa
open Go.RowKit
set_option linter.unusedVariables false

theorem pig (n : Nat) (l : List Int) (h : l.Nodup) (hr : ∀ r ∈ l, 0 ≤ r ∧ r < n) : l.length ≤ n := by
  induction n generalizing l with
  | zero =>
    match l with
    | [] => exact Nat.le_refl _
    | x :: l => have := hr x (by simp); omega
  | succ n ih =>
    by_cases hn : (n : Int) ∈ l
    · have h1 := List.length_erase_of_mem hn
      have h2 := ih (l.erase (n : Int)) (h.erase _) (fun r hr' => by
        have h3 := (h.mem_erase_iff).1 hr'
        have := hr r h3.2
        have := h3.1
        omega)
      omega
    · have := ih l h (fun r hr' => by
        have := hr r hr'
        have : r ≠ n := fun e => hn (e ▸ hr')
        omega)
      omega
theorem nodup_of_flatten {q : List (List Int)} (h : q.flatten.Nodup) {x : List Int} (hx : x ∈ q) : x.Nodup := by
  induction q with
  | nil => cases hx
  | cons y q ih =>
    rw [List.flatten_cons, List.nodup_append] at h
    rcases List.mem_cons.1 hx with rfl | hx
    · exact h.1
    · exact ih h.2.1 hx
theorem VL.row {l : Lk} (h : VL l) {i : Nat} {x : List Int} (hx : l.q[i]? = some x) : x.length ≤ 8 :=
  pig 8 x (nodup_of_flatten h.nodup (List.mem_of_getElem? hx)) (fun r hr => h.rob x (List.mem_of_getElem? hx) r hr)
theorem flatL_one {hs : List Value} (h : ∀ u ∈ hs, ∃ A n c, u = .slice A n c) : ∀ u ∈ hs, u.oneCell' = true := fun u hu => by
  obtain ⟨A, n, c, rfl⟩ := h u hu
  rfl

theorem two_set {x : World} {b T : Nat} {u0 u1 v1 v2 : Value} (hb : x.heap[b]? = some (.cells #[u0, u1] T (0, 0))) : ((x.setCell ⟨b, 0, none⟩ v1).setCell ⟨b, 1, none⟩ v2).heap[b]? = some (.cells #[v1, v2] T (0, 0)) := by
  rw [at_set _ (at_set _ hb)]; rfl
theorem two_get {x : World} {b T : Nat} {u0 u1 : Value} (hb : x.heap[b]? = some (.cells #[u0, u1] T (0, 0))) (v1 v2 : Value) : ((x.setCell ⟨b, 0, none⟩ v1).setCell ⟨b, 1, none⟩ v2).cell? ⟨b, 0, none⟩ = some v1 ∧ ((x.setCell ⟨b, 0, none⟩ v1).setCell ⟨b, 1, none⟩ v2).cell? ⟨b, 1, none⟩ = some v2 :=
  ⟨by rw [cell_at (two_set hb)]; rfl, by rw [cell_at (two_set hb)]; rfl⟩
/-- What is known behind the first region of clone. -/
def CloMid (w : World) (n : Nat) (own hs : List Value) (wx : World) : Prop :=
  ∃ v1 v2, wx.heap[w.heap.size]? = some (.cells #[v1, v2] 26 (0, 0)) ∧ wx.heap[w.heap.size + 1]? = some (.cells #[.slice none 0 0, .slice none 0 0] 26 (0, 0)) ∧ wx.ownsRow (w.heap.size + 2) 3 1 v1 n own ∧ wx.ownsRow (w.heap.size + 2) 22 1 v2 n hs ∧
    (∀ b, v1.ownBlock = some b → v2.ownBlock ≠ some b) ∧ w.grownBy wx none
theorem clone_met {w W0 x : World} {v1 v2 u0 u1 : Value} {n bA bB : Nat} {xs hs : List Value} (HB : W0.heap[w.heap.size]? = some (.cells #[u0, u1] 26 (0, 0)) ∧ W0.heap[w.heap.size + 1]? = some (.cells #[.slice none 0 0, .slice none 0 0] 26 (0, 0)) ∧ w.grownBy W0 none ∧ w.heap.size + 2 = W0.heap.size)
    (g : W0.grownBy x none) (hA : x.ownsRow bA 3 1 v1 n xs) (hbA : W0.heap.size ≤ bA) (hB : x.ownsRow bB 22 1 v2 n hs) (hbB : W0.heap.size ≤ bB) (hd : ∀ b, v1.ownBlock = some b → v2.ownBlock ≠ some b) :
    CloMid w n xs hs ((x.setCell ⟨w.heap.size, 0, none⟩ v1).setCell ⟨w.heap.size, 1, none⟩ v2) := by
  obtain ⟨h1, h2, h3, h4⟩ := HB
  have gs : x.grownBy ((x.setCell ⟨w.heap.size, 0, none⟩ v1).setCell ⟨w.heap.size, 1, none⟩ v2) (some w.heap.size) := grown_set _ (grown_set _ (grown_refl x _) (.inr rfl)) (.inr rfl)
  have k1 := grown_at g h1 (by simp)
  have k2 := grown_at gs (grown_at g h2 (by simp)) (by simp)
  have low : ∀ {e n b : Nat} {u : Value} {zs : List Value}, x.ownsRow b e 1 u n zs → W0.heap.size ≤ b → ((x.setCell ⟨w.heap.size, 0, none⟩ v1).setCell ⟨w.heap.size, 1, none⟩ v2).ownsRow (w.heap.size + 2) e 1 u n zs := fun hu hb => by
    have := hu.kept gs (.inr (owns_ne hu (by omega)))
    exact ⟨this.1, this.2.imp id fun ⟨a, b, c, d, e, f⟩ => ⟨a, b, c, d, by omega, f⟩⟩
  refine ⟨v1, v2, two_set k1, k2, low hA hbA, low hB hbB, hd, ?_⟩
  have g3 := grown_trans h3 g
  exact grown_set _ (grown_set _ g3 (.inl (by simp))) (.inl (by simp))

/-- The loop of clone at k. -/
def CloInv (w : World) (base g cap n : Nat) (hs : List Value) (q : List (List Int)) (own : List Value) (A1 : Option Addr) (k1 k : Nat) (wr : World) : Prop :=
  CloAt wr base g cap n hs q k ∧ wr.ownsRow (w.heap.size + 2) 3 1 (.slice A1 n k1) n own ∧ wr.heap[w.heap.size]? = some (.cells #[.slice A1 n k1, .slice (some ⟨g, 0, none⟩) n cap] 26 (0, 0)) ∧
    wr.heap[w.heap.size + 1]? = some (.cells #[.slice none 0 0, .slice none 0 0] 26 (0, 0)) ∧ base ≤ wr.heap.size ∧ w.grownBy wr none
theorem CloInv.step {w wr x1 : World} {base g cap n k1 k : Nat} {hs own : List Value} {q : List (List Int)} {A1 : Option Addr} {xs : List Int} {v : Value} (h : CloInv w base g cap n hs q own A1 k1 k wr) (hx : q[k]? = some xs) (hg : w.heap.size + 2 ≤ g)
    (hd : ∀ b, (Value.slice A1 n k1).ownBlock = some b → b ≠ g) (gA : wr.grownBy x1 none) (ho : x1.ownsRow wr.heap.size 3 1 v xs.length (ints xs)) : CloInv w base g cap n hs q own A1 k1 (k + 1) (x1.setCell ⟨g, k, none⟩ v) := by
  obtain ⟨h1, h2, h3, h4, h5, h6⟩ := h
  have gs : x1.grownBy (x1.setCell ⟨g, k, none⟩ v) (some g) := grown_set _ (grown_refl x1 _) (.inr rfl)
  refine ⟨h1.step hx h5 gA ho, ?_, grown_at gs (grown_at gA h3 (by simp)) (by simp; omega), grown_at gs (grown_at gA h4 (by simp)) (by simp; omega), ?_, grown_set _ (grown_trans h6 gA) (.inl (by simp; omega))⟩
  · refine (h2.kept gA (Classical.em _)).kept gs ?_
    cases hb : (Value.slice A1 n k1).ownBlock with
    | none => exact .inl rfl
    | some b => exact .inr (fun e => hd b hb (Option.some.inj e))
  · have := gA.size
    have := gs.size
    omega
theorem CloInv.end {w wr : World} {base g cap n k1 : Nat} {hs : List Value} {l : Lk} {A1 : Option Addr} {u0 u1 : Value} (h : CloInv w base g cap n hs l.q (ints l.own) A1 k1 n wr) (hn : l.own.length = n) (hn2 : l.q.length = n) (hg : w.heap.size + 2 ≤ g)
    (hb : w.heap.size + 2 ≤ base) (hd : ∀ b, (Value.slice A1 n k1).ownBlock = some b → b ≠ g ∧ b < base) :
    FreshLk ((wr.setCell ⟨w.heap.size + 1, 0, none⟩ u0).setCell ⟨w.heap.size + 1, 1, none⟩ u1) w.heap.size (.slice A1 n k1) (.slice (some ⟨g, 0, none⟩) n cap) l := by
  obtain ⟨h1, h2, h3, h4, h5, h6⟩ := h
  have gs : wr.grownBy ((wr.setCell ⟨w.heap.size + 1, 0, none⟩ u0).setCell ⟨w.heap.size + 1, 1, none⟩ u1) (some (w.heap.size + 1)) := grown_set _ (grown_set _ (grown_refl wr _) (.inr rfl)) (.inr rfl)
  subst hn
  refine ⟨base, ?_, fun b hb => ⟨(hd b hb).2, fun e => (hd b hb).1 (Option.some.inj e).symm⟩, .inr ⟨g, cap, by rw [hn2], by omega, ?_⟩, by omega, ?_⟩
  · have := h2.kept gs (.inr (owns_ne h2 (by omega)))
    exact ⟨this.1, this.2.imp id fun ⟨a, b, c, d, e, f⟩ => ⟨a, b, c, d, by omega, f⟩⟩
  · rw [hn2]
    exact h1.end.kept gs (fun b hb => by obtain rfl := Option.some.inj hb; exact ⟨by omega, by omega⟩)
  · have := gs.size; omega

def CloneP (l : Lk) (w : World) (e : Ending) (w' : World) : Prop := ∃ v1 v2, e = .returned (.agg #[v1, v2]) ∧ FreshLk w' w.heap.size v1 v2 l ∧ w.grownBy w' none

set_option maxRecDepth 100000 in
set_option maxHeartbeats 6400000 in
theorem clone_any (v : Value) (l : Lk) (w : World) (h : LkV none w v l) (hv : validL l = true) :
    Calls Try.prog 35 #[v] w (CloneP l w) := by
  obtain ⟨a1, n1, c1, a2, n2, c2, rfl, h⟩ := h
  obtain ⟨l1, l2, m1, m2⟩ := h.len
  have V := Lib.hid (valid_iff.1 hv)
  have L1 := Lib.hid l1
  have L2 := Lib.hid l2
  have h48 : n1 ≤ 48 := by have := V.out.le; omega
  have h12 : n2 = n1 := by have := V.out.len; omega
  subst h12
  obtain ⟨⟨hr1, hs, hr2, hsl, hrows⟩, hc1, hc2, hb1, hb2, hb3, hb4⟩ := h
  have R1 := Lib.hid hr1.1
  have R2 := Lib.hid hr2.1
  have HSL := Lib.hid hsl
  have ROWS := Lib.hid hrows
  have ONE : Hid (∀ u ∈ hs, u.oneCell' = true) := Lib.hid (flatL_one (fun u hu => by
    obtain ⟨i, hi⟩ := List.getElem?_of_mem hu
    have hil := (List.getElem?_eq_some_iff.1 hi).1
    obtain ⟨A, c, g1, _⟩ := hrows i (l.q[i]'(by omega)) (List.getElem?_eq_getElem (by omega))
    rw [hi] at g1
    exact ⟨A, _, c, Option.some.inj g1⟩))
  have HC1 := Lib.hid hc1
  have HC2 := Lib.hid hc2
  unfold maxLen at hb2 hb4
  clear hv hr1 hr2 hsl hrows hc1 hc2 l1 l2
  go_enter Try.func35, Try.ntmps35
  go_upto_region 1 with fail
  obtain ⟨W0, hW0⟩ : ∃ W0, W0 = (w.alloc (.cells #[.slice a1 n2 c1, .slice a2 n2 c2] 26)).alloc (.cells #[.slice none 0 0, .slice none 0 0] 26) := ⟨_, rfl⟩
  rw [← hW0]
  have HB : Hid (W0.heap[w.heap.size]? = some (.cells #[.slice a1 n2 c1, .slice a2 n2 c2] 26 (0, 0)) ∧ W0.heap[w.heap.size + 1]? = some (.cells #[.slice none 0 0, .slice none 0 0] 26 (0, 0)) ∧ w.grownBy W0 none ∧ w.heap.size + 2 = W0.heap.size) := Lib.hid (by
    rw [hW0]
    refine ⟨at_alloc _ (at_new w _), ?_, grown_alloc _ (grown_alloc _ (grown_refl _ _)), by simp⟩
    have := at_new (w.alloc (.cells #[.slice a1 n2 c1, .slice a2 n2 c2] 26)) (.cells #[.slice none 0 0, .slice none 0 0] 26)
    rw [World.size_alloc] at this
    exact this)
  clear hW0
  have p1 := (rules_at HB.out.1).1
  have zs := HB.out.2.2.2
  have RA := Lib.hid (R1.out.kept HB.out.2.2.1)
  have RB := Lib.hid (R2.out.kept HB.out.2.2.1)
  go_cut [] (fun wx => CloMid w n2 (ints l.own) hs wx)
  case first =>
    go_region_with (first
      | (go_at_call 54; refine (CloneI_any a1 n2 c1 (ints l.own) _ (RowIn.kept RA.out (by repeat (first | assumption | exact grown_refl _ _ | refine grown_drew ?_ | refine grown_alloc _ ?_))) HC1.out (ints_one _) (by omega)).mono ?_; rintro e x1 ⟨v1, rfl, hown1, hg1, _⟩; obtain ⟨A1, k1, rfl, -, -, -, -⟩ := sliceIn_owns hown1; have gA : W0.grownBy x1 none := grown_trans (by repeat (first | assumption | exact grown_refl _ _ | refine grown_drew ?_ | refine grown_alloc _ ?_)) hg1; have OA := Lib.hid hown1; (try have OB2 := Lib.hid (OB.out.kept hg1 (Classical.em _))); have zA := hg1.size; have qA := (rules_at (grown_at gA HB.out.1 (by simp))).1; have qA2 := (rules_at (grown_at gA HB.out.1 (by simp))).2; have qA3 := lt_of_at (grown_at gA HB.out.1 (by simp)); clear hown1 hg1)
      | (go_at_call 55; refine (CloneL_any a2 n2 c2 hs _ (RowIn.kept RB.out (by repeat (first | assumption | exact grown_refl _ _ | refine grown_drew ?_ | refine grown_alloc _ ?_))) HC2.out ONE.out (by omega)).mono ?_; rintro e x2 ⟨v2, rfl, hown2, hg2, _⟩; obtain ⟨A2, k2, rfl, -, -, -, -⟩ := sliceIn_owns hown2; have gB : W0.grownBy x2 none := grown_trans (by repeat (first | assumption | exact grown_refl _ _ | refine grown_drew ?_ | refine grown_alloc _ ?_)) hg2; have OB := Lib.hid hown2; (try have OA2 := Lib.hid (OA.out.kept hg2 (Classical.em _))); have zB := hg2.size; have qB := (rules_at (grown_at gB HB.out.1 (by simp))).1; have qB2 := (rules_at (grown_at gB HB.out.1 (by simp))).2; have qB3 := lt_of_at (grown_at gB HB.out.1 (by simp)); clear hown2 hg2))
    all_goals
      go_wp2_with fail
      go_meet
      have zd : W0.drew.heap.size = W0.heap.size := rfl
      first
        | exact clone_met HB.out gB OA2.out (by omega) OB.out (by omega) (fun b hb e => by have := OA.out.lt b hb; have := OB.out.lt b e; omega)
        | exact clone_met HB.out gA OA.out (by omega) OB2.out (by omega) (fun b hb e => by have := OA.out.lt b hb; have := OB.out.lt b e; omega)
  case rest =>
    obtain ⟨v1, v2, hb0, hb1', ho1, ho2, hd, hg⟩ := hcut
    have B0 := Lib.hid hb0
    have B1 := Lib.hid hb1'
    have O1 := Lib.hid ho1
    have D := Lib.hid hd
    have G := Lib.hid hg
    have zG := hg.size
    have p2 := (rules_at hb0).1
    have p3 := (rules_at hb0).2
    have p4 := lt_of_at hb0
    obtain ⟨A1, k1, rfl, -, -, -, -⟩ := sliceIn_owns ho1
    rcases ho2.2 with ⟨rfl, hn0⟩ | ⟨g, cap, cur, rfl, hgb, hgc, hcap1, hcap2, hcs, htk⟩
    · subst hn0
      have hq : l.q = [] := List.eq_nil_of_length_eq_zero L2.out
      have BR := Lib.hid hb1'
      have r1 := (rules_at hb1').1
      have r2 := (rules_at hb1').2
      have r3 := lt_of_at hb1'
      have FF : ∀ u0 u1, Hid (FreshLk ((wc.setCell ⟨w.heap.size + 1, 0, none⟩ u0).setCell ⟨w.heap.size + 1, 1, none⟩ u1) w.heap.size (.slice A1 0 k1) (.slice none 0 0) l) := fun u0 u1 => Lib.hid (by
        have gs : wc.grownBy ((wc.setCell ⟨w.heap.size + 1, 0, none⟩ u0).setCell ⟨w.heap.size + 1, 1, none⟩ u1) (some (w.heap.size + 1)) := grown_set _ (grown_set _ (grown_refl wc _) (.inr rfl)) (.inr rfl)
        refine ⟨wc.heap.size, ?_, fun b hb => ⟨(O1.out.lt b hb).2, by simp [Value.ownBlock]⟩, .inl ⟨rfl, hq⟩, by omega, gs.size⟩
        have := O1.out.kept gs (.inr (owns_ne O1.out (by omega)))
        rw [L1.out]
        exact ⟨this.1, this.2.imp id fun ⟨a, b, c, d, e, f⟩ => ⟨a, b, c, d, by omega, f⟩⟩)
      clear hb0 hb1' ho1 ho2 hd hg p1 RA RB HB zs
      go_wp2_with fail
      go_loopw [15] (fun i wr => i = .int .i64 0 ∧ wr = wc) (fun _ _ => 0)
      case atStart => exact ⟨rfl, rfl⟩
      case round =>
        obtain ⟨rfl, rfl⟩ := hrel
        obtain ⟨s0, s1⟩ := two_get BR.out (.slice A1 0 k1) (.slice none 0 0)
        go_wp2_with fail
        exact bodyPost_ret (v := .agg #[.slice A1 0 k1, .slice none 0 0]) (by simp [results, Try.results35, go_sem, s0, s1]) rfl ⟨_, _, rfl, (FF _ _).out, grown_set _ (grown_set _ G.out (.inl (by simp))) (.inl (by simp))⟩
    · have OQ : Hid (OwnR wc g cap n2 22 1 hs) := Lib.hid ⟨cur, hgc, hcap1, hcap2, hcs, htk⟩
      have C0 : Hid (CloAt wc wc.heap.size g cap n2 hs l.q 0) := Lib.hid (CloAt.begin OQ.out L2.out (lt_of_at hgc))
      have zg := lt_of_at hgc
      unfold maxLen at hcap2
      clear hb0 hb1' ho1 ho2 hd hg hgc hcs htk p1 RA RB HB zs
      go_wp2_with fail
      have I0 : Hid (CloInv w wc.heap.size g cap n2 hs l.q (ints l.own) A1 k1 0 wc) := Lib.hid ⟨C0.out, O1.out, B0.out, B1.out, Nat.le_refl _, G.out⟩
      have hw2 : w.heap.size + 2 ≤ wc.heap.size := by omega
      have DD : Hid (∀ b, (Value.slice A1 n2 k1).ownBlock = some b → b ≠ g ∧ b < wc.heap.size) := Lib.hid (fun b hb => ⟨fun e => D.out b hb (by rw [e]; rfl), (O1.out.lt b hb).2⟩)
      clear C0 O1 B0 B1 G OQ D p2 p3 p4
      go_loopw [15] (fun i wr => ∃ k : Nat, k ≤ n2 ∧ i = .int .i64 k ∧ CloInv w wc.heap.size g cap n2 hs l.q (ints l.own) A1 k1 k wr) (fun i _ => n2 - (intOf i).toNat)
      case atStart => exact ⟨0, by omega, rfl, I0.out⟩
      case round =>
        obtain ⟨k, hk, rfl, hI⟩ := hrel
        have I := Lib.hid hI
        have C := Lib.hid hI.1
        have BB := Lib.hid hI.2.2.1
        have hg := hI.2.2.2.2.2
        have p2 := (rules_at hI.2.2.1).1
        have p4 := lt_of_at hI.2.2.1
        clear hI I0
        by_cases hkn : k < n2
        · obtain ⟨x, hx⟩ : ∃ x, l.q[k]? = some x := ⟨_, List.getElem?_eq_getElem (by rw [L2.out]; exact hkn)⟩
          obtain ⟨A, c, g1, hlc, hcm, hA, hrow⟩ := ROWS.out k x hx
          have hx8 := V.out.row hx
          have HX := Lib.hid hx
          have RW := Lib.hid hrow.1
          have HA := Lib.hid hA
          have hk' : (k : Int) < n2 := by omega
          have d1 : wr.cell? ⟨g, k, none⟩ = some (.slice A x.length c) := by rw [(C.out.at (Nat.le_refl _) hkn).1, g1]
          have d2 := lt_of_cell d1
          unfold maxLen at hcm
          have HD := Lib.hid d1
          clear hx hrow hA
          go_upto_region 5 with fail
          go_region_with (go_at_call 54; refine (CloneI_any A x.length c (ints x) _ (RowIn.kept RW.out (by repeat (first | assumption | refine grown_drew ?_ | refine grown_alloc _ ?_))) HA.out (ints_one _) (by omega)).mono ?_; rintro e x1 ⟨v3, rfl, hown1, hg1, _⟩; obtain ⟨A3, k3, rfl, -, -, -, -⟩ := sliceIn_owns hown1; have gA : wr.grownBy x1 none := grown_trans (by repeat (first | assumption | exact grown_refl _ _ | refine grown_drew ?_ | refine grown_alloc _ ?_)) hg1; have OA := Lib.hid hown1; have zA := hg1.size; have dd := grown_cell gA d2 (by simp); rw [HD.out] at dd; have qA := (rules_at (grown_at gA BB.out (by simp))).1; have qA2 := (keep gA C).out.at (Nat.le_refl k) hkn; have qA3 := lt_of_at (grown_at gA BB.out (by simp)); have qA4 := qA2.2; have qA5 := lt_of_cell dd; clear hown1 hg1 qA2)
          all_goals
            go_wp2_with fail
            go_roundw
            case rel => exact ⟨k + 1, by omega, by go_num, I.out.step HX.out hgb (fun b hb => (DD.out b hb).1) gA OA.out⟩
            case measure => simp [intOf]; omega
        · obtain rfl : k = n2 := by omega
          have r1 := (rules_at I.out.2.2.2.1).1
          have r2 := (rules_at I.out.2.2.2.1).2
          have r3 := lt_of_at I.out.2.2.2.1
          have GF := Lib.hid hg
          have FF := fun u0 u1 => Lib.hid (I.out.end (u0 := u0) (u1 := u1) L1.out L2.out hgb hw2 DD.out)
          clear hg
          obtain ⟨s0, s1⟩ := two_get I.out.2.2.2.1 (.slice A1 k k1) (.slice (some ⟨g, 0, none⟩) k cap)
          go_wp2_with fail
          exact bodyPost_ret (v := .agg #[.slice A1 k k1, .slice (some ⟨g, 0, none⟩) k cap]) (by simp [results, Try.results35, go_sem, s0, s1]) rfl ⟨_, _, rfl, (FF _ _).out, grown_set _ (grown_set _ GF.out (.inl (by simp))) (.inl (by simp))⟩
end Go.Proofs.Ytbpobekmbdngbaa
