/- The walk of ReachShuts. -/
import Derived.Test.YtidilepbepkpiaaReW1
import Derived.Test.YtidilepbepkpiaaReWo
namespace Go.Proofs.Ytidilepbepkpiaa
open Go.RowKit
set_option linter.unusedVariables false

theorem reach_more {g : Gr} {s m : List Bool} (h : ∀ x : Nat, isOpen m x → isOpen s x) {v x : Nat} (k : Reach g m v x) : Reach g s v x := by
  induction k with
  | base ho => exact .base (h _ ho)
  | step _ e ho ih => exact .step ih e (h _ ho)
theorem open_set {s : List Bool} {i x : Nat} (h : isOpen (s.set i true) x) : isOpen s x := by
  unfold isOpen at h ⊢
  by_cases e : i = x
  · subst e
    rw [List.getElem?_set] at h
    simp at h
  · rwa [List.getElem?_set_ne e] at h
theorem open_none {n x : Nat} (h : x < n) : isOpen (List.replicate n false) x := by unfold isOpen; simp [h]
theorem reach_without {g : Gr} {s : List Bool} {n v x : Nat} (hs : s.length = n) (hv : isOpen s v) : Reach (without g s) (List.replicate n false) v x ↔ Reach g s v x := by
  have lt : ∀ {y : Nat}, isOpen s y → y < n := fun h => by
    have := (List.getElem?_eq_some_iff.1 h).1
    omega
  constructor
  · intro h
    induction h with
    | base _ => exact .base hv
    | step _ e _ ih =>
      have := without_edge.1 e
      exact .step ih this.1 this.2.2
  · intro h
    induction h with
    | base ho => exact .base (open_none (lt ho))
    | step k e ho ih => exact .step ih (without_edge.2 ⟨e, k.opens.2, ho⟩) (open_none (lt ho))
theorem bool_at' {L : List Bool} {n i : Nat} (hl : L.length = n) (hi : i < n) : ∃ q, L[i]? = some q := ⟨_, List.getElem?_eq_getElem (by omega)⟩
theorem bool_cell {w : World} {b o n : Nat} {L : List Bool} (h : RowIn w (some ⟨b, o, none⟩) n 1 (bools L)) {i : Nat} {q : Bool} (hq : L[i]? = some q) : w.cell? ⟨b, o + i, none⟩ = some (.bool q) ∧ b < w.heap.size := by
  obtain ⟨b', o', he, z, d⟩ := h.bool hq
  obtain ⟨rfl, rfl⟩ : b = b' ∧ o = o' := by simpa using he
  exact ⟨d, z⟩

set_option maxRecDepth 100000 in
set_option maxHeartbeats 6400000 in
theorem ReachShuts_walk (a0 : Option Addr) (len0 cap0 : Nat) (z0 : List Int) (w : World) (w0 : IsRow .i64 w a0 len0 cap0 z0) :
    Calls Try.prog 7 #[.slice a0 len0 cap0] w fun e w' => e = .returned (.bool true) ∧ Below w.heap.size w w' := by
  obtain ⟨ib, hi, hz0, hz1, hz2⟩ := info_parts Try.info_bool
  have hib := Lib.hid hi
  have hib0 := Lib.hid hz0
  have hib1 := Lib.hid hz1
  have hib2 := Lib.hid hz2
  clear hi hz0 hz1 hz2
  have r0 := Lib.hid w0
  clear w0
  go_enter Try.func7, Try.ntmps7
  go_wp2_with fail
  refine (known_any _).mono ?_
  rintro e w1 ⟨rfl, hg1⟩
  go_wp2_with fail
  refine (Graph_any w1.heap.size 26 a0 len0 cap0 _ 0 8 _ (tape_new r0.out hg1 _) (by omega) (by omega)).mono ?_
  rintro e w2 ⟨b, n, g, k2, rfl, hn8, hv, hO, hT, hk2, hg2⟩
  have V := Lib.hid hv
  have T2 := Lib.hid hT
  have H2 : Hid (ListsR (some w1.heap.size) w2 (some ⟨b, 0, none⟩) n g) := Lib.hid (hO.lists (fun b hb => by obtain rfl := Option.some.inj hb; simp))
  have G2 : Hid (w.grownBy w2 none) := Lib.hid (grown_own (grown_alloc _ hg1) hg2 (fun g hg => by obtain rfl := Option.some.inj hg; exact hg1.size))
  have z1 := hg1.size
  clear hv hO hT hg2 hg1 r0
  rcases Nat.eq_zero_or_pos n with rfl | hn0
  · go_wp2_with fail
    go_ret
    exact ⟨rfl, grown_below G2.out⟩
  have hn0' : ¬ (n : Int) = 0 := by omega
  go_wp2_with fail
  refine (Shut_any w1.heap.size 26 a0 len0 cap0 _ k2 n _ T2.out (by omega) (by omega)).mono ?_
  rintro e w3 ⟨gs, s, k3, rfl, hs, hO, hz, hT, hk3, hg3⟩
  have T3 := Lib.hid hT
  have z2 := T2.out.lt
  have K3 : Hid (ListsR (some w1.heap.size) w3 (some ⟨b, 0, none⟩) n g ∧ RowR (some w1.heap.size) w3 (some ⟨gs, 0, none⟩) n 1 (bools s)) := Lib.hid ⟨(keep hg3 H2).out, hO.row, fun x hx => by obtain rfl := Option.some.inj hx; simp; omega⟩
  have G3 : Hid (w.grownBy w3 none) := Lib.hid (grown_own G2.out hg3 (fun g hg => by obtain rfl := Option.some.inj hg; exact z1))
  have LS := Lib.hid hs
  have L := Lib.hid K3.out.1.len.1
  clear hs hO hz hT hg3 H2 G2 T2
  go_wp2_with (at_builtin; refine wpList_append_in St_bool rfl (.const (.slice none 0 0)) (.tmp 31) rfl rfl (World.ownsRow_nil _ w3.heap.size _ _) rfl K3.out.2.1 (fun h => by cases h) (bools_one _) ?c1 ?c2 ?c3 ?_)
  case c1 => unfold maxLen; omega
  case c2 => omega
  case c3 => omega
  intro v' w4 hown hg4 hloc
  clear hloc
  obtain ⟨gm, cm, rfl, hgm, hOm⟩ := ownR_of_owns hown hn0
  have z3 := T3.out.lt
  have K4 : Hid (OwnO (some w1.heap.size) w4 gm cm n 4 1 (bools s)) := Lib.hid ⟨hOm, by simp; omega⟩
  have G4 : Hid (w.grownBy w4 none) := Lib.hid (grown_trans G3.out hg4)
  have T4 := Lib.hid (T3.out.other hg4)
  have hcm := hOm.capLe.1
  have G34 : Hid (w3.grownBy w4 (some w1.heap.size)) := Lib.hid (grown_weak hg4)
  clear hown hg4 hOm G3 T3
  go_wp2_with fail
  refine (Next_in _ _ _ _ _ _ _ n _ T4.out (by omega) (by omega) (by omega)).mono ?_
  rintro e w5 ⟨y, rfl, y0, y1, hT5, hg5⟩
  obtain ⟨y, rfl⟩ : ∃ k : Nat, y = k := ⟨y.toNat, by omega⟩
  have hyn : y < n := by omega
  have K5 := keep hg5 K4
  have T5 := Lib.hid hT5
  have G5 : Hid (w.grownBy w5 none) := Lib.hid (grown_own G4.out hg5 (fun g hg => by obtain rfl := Option.some.inj hg; exact z1))
  obtain ⟨sy, hsy⟩ := bool_at' LS.out hyn
  have q1 := K5.out.1.cell (i := y) (v := .bool sy) (by simp [bools, hsy])
  have q2 := K5.out.1.free y
  have z5 := K5.out.1.lt
  have zB5 := T5.out.lt
  have K6 : Hid (RowR (some w1.heap.size) (w5.setCell ⟨gm, y, none⟩ (.bool true)) (some ⟨gm, 0, none⟩) n 1 (bools (s.set y true)) ∧ ListsR (some w1.heap.size) (w5.setCell ⟨gm, y, none⟩ (.bool true)) (some ⟨b, 0, none⟩) n g ∧ RowR (some w1.heap.size) (w5.setCell ⟨gm, y, none⟩ (.bool true)) (some ⟨gs, 0, none⟩) n 1 (bools s)) :=
    Lib.hid ⟨⟨by rw [← bools_set]; exact (K5.out.1.set (.bool true)).row, fun x hx => by obtain rfl := Option.some.inj hx; exact K5.out.2⟩, (keep (grown_set (p := ⟨gm, y, none⟩) (.bool true) (grown_trans G34.out hg5) (.inl hgm)) K3).out⟩
  have T6 := Lib.hid (T5.out.set (p := ⟨gm, y, none⟩) (by show w1.heap.size < gm; omega) (.bool true))
  have G6 : Hid (w.grownBy (w5.setCell ⟨gm, y, none⟩ (.bool true)) none) := Lib.hid (grown_set (.bool true) G5.out (.inl (by show w.heap.size ≤ gm; omega)))
  have hyn' : (y : Int) < n := by omega
  clear K5 T5 G5 G34 K3 K4 hg5 hT5 G4 T4 hsy
  go_wp2_with fail
  refine (Next_in _ _ _ _ _ _ _ n _ T6.out (by omega) (by omega) (by omega)).mono ?_
  rintro e w7 ⟨v, rfl, v0, v1, hT7, hg7⟩
  obtain ⟨v, rfl⟩ : ∃ k : Nat, v = k := ⟨v.toNat, by omega⟩
  have hvn : v < n := by omega
  have K6' := keep hg7 K6
  have K7 : Hid (RowIn w7 (some ⟨gm, 0, none⟩) n 1 (bools (s.set y true)) ∧ ListsR none w7 (some ⟨b, 0, none⟩) n g ∧ RowIn w7 (some ⟨gs, 0, none⟩) n 1 (bools s) ∧ w.grownBy w7 none) := Lib.hid ⟨K6'.out.1.1, K6'.out.2.1.plain, K6'.out.2.2.1, grown_own G6.out hg7 (fun g hg => by obtain rfl := Option.some.inj hg; exact z1)⟩
  clear K6 K6' T6 G6 hT7 hg7 q1 q2 z5 zB5 z2 z3 hgm
  go_wp2_with fail
  refine (From_ok _ n n g _ n s v _ K7.out.2.1 K7.out.2.2.1 V.out hvn).mono ?_
  rintro e w8 ⟨A1, c1, X1, rfl, f1, f2, f3, lx, hx, rx, hg8⟩
  have K8 := Lib.hid (And.intro (rx none (by simp)).1 (keep hg8 K7).out)
  have HX1 := Lib.hid hx
  have LX1 := Lib.hid lx
  clear lx hx rx hg8 K7
  go_wp2_with fail
  refine (From_ok _ n n g _ cm (s.set y true) v _ K8.out.2.2.1 K8.out.2.1 V.out hvn).mono ?_
  rintro e w9 ⟨A2, c2, X2, rfl, f1', f2', f3', lx, hx, rx, hg9⟩
  have K9 := Lib.hid (And.intro (rx none (by simp)).1 (keep hg9 K8).out)
  have HX2 := Lib.hid hx
  have LX2 := Lib.hid lx
  clear lx hx rx hg9 K8
  go_wp2_with fail
  refine (Without_ok _ n n g _ n s _ K9.out.2.2.2.1 K9.out.2.2.2.2.1 V.out).mono ?_
  rintro e w10 ⟨ra, rn, rc, rfl, f1'', f2'', f3'', hR, hg10⟩
  have R10 := hR none (by simp)
  obtain rfl : rn = n := by have := R10.len.1; rw [without_len] at this; have := L.out; omega
  have K10 := Lib.hid (And.intro R10 (keep hg10 K9).out)
  clear hR R10 hg10 K9
  go_wp2_with (at_make; refine wpList_make_full _ rfl _ _ 29 rfl w10.heap.size 4 ib _ 1 Try.underlying29 hib.out hib0.out hib1.out .i64 .i64 _ _ rn rfl rfl (by omega) (by omega) (by rw [hib2.out]; omega) (by unfold maxLen; omega) (by omega) ?_)
  intro W11 hC hg11
  rw [made_falses] at hC
  obtain ⟨hO, _⟩ := ownR_of_slice hC
  have K11 := Lib.hid (And.intro hO.row (keep hg11 K10).out)
  clear hC hO hg11 hib hib0 hib1 hib2 K10
  go_wp2_with fail
  refine (From_ok ra rn rc (without g s) _ rn (List.replicate rn false) v _ K11.out.2.1 K11.out.1 (without_valid V.out) hvn).mono ?_
  rintro e w12 ⟨A3, c3, X3, rfl, e1, e2, e3, lx, hx, rx, hg12⟩
  have K12 := Lib.hid (And.intro (rx none (by simp)).1 (keep hg12 K11).out)
  have HX3 := Lib.hid hx
  have LX3 := Lib.hid lx
  clear lx hx rx hg12 K11
  go_wp2_with fail
  go_loopw [16] (fun i wr => ∃ k : Nat, k ≤ rn ∧ i = .int .i64 k ∧ (RowIn wr A3 rn 1 (bools X3) ∧ RowIn wr A2 rn 1 (bools X2) ∧ RowIn wr A1 rn 1 (bools X1) ∧ RowIn wr (some ⟨gs, 0, none⟩) rn 1 (bools s) ∧ w.grownBy wr none)) (fun i _ => rn - (intOf i).toNat)
  case atStart => exact ⟨0, by omega, rfl, K12.out.1, K12.out.2.2.2.1, K12.out.2.2.2.2.1, K12.out.2.2.2.2.2.2.2⟩
  case round =>
    obtain ⟨k, hk, rfl, hK⟩ := hrel
    have K := Lib.hid hK
    clear hK K12
    by_cases hkn : k < rn
    · obtain ⟨a, ha⟩ := bool_at' LX1.out hkn
      obtain ⟨b', hb⟩ := bool_at' LX2.out hkn
      obtain ⟨c, hc⟩ := bool_at' LX3.out hkn
      obtain ⟨sv, hsv⟩ := bool_at' LS.out hvn
      obtain ⟨sk, hsk⟩ := bool_at' LS.out hkn
      have UP : Hid (b' = true → a = true) := Lib.hid (by
        rintro rfl
        have := (HX1.out k).2 (reach_more (fun x => open_set) ((HX2.out k).1 hb))
        rw [ha] at this
        exact Option.some.inj this)
      have EQ : Hid (sv = false → sk = false → a = c) := Lib.hid (by
        rintro rfl _
        exact same_marks ha hc (HX1.out k) ((HX3.out k).trans (reach_without LS.out hsv)))
      obtain ⟨b3, o3, rfl, z3, dc⟩ := K.out.1.bool hc
      obtain ⟨b2, o2, rfl, z2, db⟩ := K.out.2.1.bool hb
      obtain ⟨b1, o1, rfl, z1', da⟩ := K.out.2.2.1.bool ha
      obtain ⟨dv, _⟩ := bool_cell K.out.2.2.2.1 hsv
      obtain ⟨dk, _⟩ := bool_cell K.out.2.2.2.1 hsk
      simp only [Nat.zero_add] at dv dk
      have hk' : (k : Int) < rn := by omega
      clear ha hb hc hsv hsk
      cases b'
      · clear UP
        cases sv
        · cases sk
          · obtain rfl := EQ.out rfl rfl
            clear EQ
            go_wp2_with fail
            go_quiet (fail)
            clear da db dc dv dk
            go_wp2_with fail
            go_roundw
            case rel => exact ⟨k + 1, by omega, by go_num, (keep (grown_draw _ (grown_refl wr none)) K).out⟩
            case measure => simp [intOf]; omega
          · clear EQ
            go_wp2_with fail
            go_quiet (fail)
            clear da db dc dv dk
            go_wp2_with fail
            go_roundw
            case rel => exact ⟨k + 1, by omega, by go_num, (keep (grown_draw _ (grown_refl wr none)) K).out⟩
            case measure => simp [intOf]; omega
        · clear EQ
          go_wp2_with fail
          go_quiet (fail)
          clear da db dc dv dk
          go_wp2_with fail
          go_roundw
          case rel => exact ⟨k + 1, by omega, by go_num, (keep (grown_draw _ (grown_refl wr none)) K).out⟩
          case measure => simp [intOf]; omega
      · obtain rfl := UP.out rfl
        clear UP
        cases sv
        · cases sk
          · obtain rfl := EQ.out rfl rfl
            clear EQ
            go_wp2_with fail
            go_quiet (fail)
            clear da db dc dv dk
            go_wp2_with fail
            go_roundw
            case rel => exact ⟨k + 1, by omega, by go_num, (keep (grown_draw _ (grown_refl wr none)) K).out⟩
            case measure => simp [intOf]; omega
          · clear EQ
            go_wp2_with fail
            go_quiet (fail)
            clear da db dc dv dk
            go_wp2_with fail
            go_roundw
            case rel => exact ⟨k + 1, by omega, by go_num, (keep (grown_draw _ (grown_refl wr none)) K).out⟩
            case measure => simp [intOf]; omega
        · clear EQ
          go_wp2_with fail
          go_quiet (fail)
          clear da db dc dv dk
          go_wp2_with fail
          go_roundw
          case rel => exact ⟨k + 1, by omega, by go_num, (keep (grown_draw _ (grown_refl wr none)) K).out⟩
          case measure => simp [intOf]; omega
    · obtain rfl : k = rn := by omega
      clear hkn
      go_wp2_with fail
      go_ret
      exact ⟨rfl, grown_below K.out.2.2.2.2⟩
end Go.Proofs.Ytidilepbepkpiaa
