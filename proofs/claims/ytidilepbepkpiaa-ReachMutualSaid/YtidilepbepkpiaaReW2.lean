/- The walk of ReachMutual. -/
import Derived.Test.YtidilepbepkpiaaReW1
namespace Go.Proofs.Ytidilepbepkpiaa
open Go.RowKit
set_option linter.unusedVariables false

def allB (s a b : List Bool) (k : Nat) : Bool := (List.range k).all fun x => s.getD x false || (a.getD x false && b.getD x false)
theorem allB_succ {s a b : List Bool} {k : Nat} {p q r : Bool} (hs : s[k]? = some p) (ha : a[k]? = some q) (hb : b[k]? = some r) : allB s a b (k + 1) = (allB s a b k && (p || (q && r))) := by
  simp [allB, List.range_succ, List.getD_eq_getElem?_getD, hs, ha, hb]
theorem getD_true {l : List Bool} {x : Nat} : l.getD x false = true ↔ l[x]? = some true := by
  rw [List.getD_eq_getElem?_getD]
  cases h : l[x]? with
  | none => simp
  | some b => simp
theorem allB_mut {g : Gr} {s a b : List Bool} {p n : Nat} (hp : isOpen s p) (hs : s.length = n) (ha : ∀ x : Nat, a[x]? = some true ↔ Reach g s p x) (hb : ∀ x : Nat, b[x]? = some true ↔ Reach g s x p) : allB s a b n = true ↔ Mut g s := by
  unfold allB
  rw [List.all_eq_true]
  constructor
  · intro h
    refine mut_yes hp (fun w hw => ?_)
    have hl := (List.getElem?_eq_some_iff.1 hw).1
    have := h w (List.mem_range.2 (by omega))
    rw [Bool.or_eq_true, Bool.and_eq_true, getD_true, getD_true, getD_true] at this
    rcases this with h1 | h1
    · rw [isOpen] at hw; rw [hw] at h1; cases h1
    · exact ⟨(ha w).1 h1.1, (hb w).1 h1.2⟩
  · rintro ⟨u, hu, hall⟩ x hx
    have hxl : x < s.length := by rw [hs]; exact List.mem_range.1 hx
    rw [Bool.or_eq_true, Bool.and_eq_true, getD_true, getD_true, getD_true]
    cases e : s[x]? with
    | none => rw [List.getElem?_eq_getElem hxl] at e; cases e
    | some c =>
      cases c
      · right
        exact ⟨(ha x).2 ((hall p hp).2.trans (hall x e).1), (hb x).2 ((hall x e).2.trans (hall p hp).1)⟩
      · left; rfl

set_option maxRecDepth 100000 in
set_option maxHeartbeats 3200000 in
theorem ReachMutual_walk (a0 : Option Addr) (len0 cap0 : Nat) (z0 : List Int) (w : World) (w0 : IsRow .i64 w a0 len0 cap0 z0) :
    Calls Try.prog 5 #[.slice a0 len0 cap0] w fun e w' => e = .returned (.bool true) ∧ Below w.heap.size w w' := by
  have r0 := Lib.hid w0
  clear w0
  go_enter Try.func5, Try.ntmps5
  go_wp2_with fail
  refine (known_any _).mono ?_
  rintro e w1 ⟨rfl, hg1⟩
  go_wp2_with fail
  refine (Graph_any w1.heap.size 26 a0 len0 cap0 _ 0 6 _ (tape_new r0.out hg1 _) (by omega) (by omega)).mono ?_
  rintro e w2 ⟨b, n, g, k2, rfl, hn8, hv, hO, hT, hk2, hg2⟩
  have V := Lib.hid hv
  have T2 := Lib.hid hT
  have H2 : Hid (ListsR (some w1.heap.size) w2 (some ⟨b, 0, none⟩) n g) := Lib.hid (hO.lists (fun b hb => by obtain rfl := Option.some.inj hb; simp))
  have G2 : Hid (w.grownBy w2 none) := Lib.hid (grown_own (grown_alloc _ hg1) hg2 (fun g hg => by obtain rfl := Option.some.inj hg; exact hg1.size))
  have z1 := hg1.size
  clear hv hO hT hg2 hg1 r0
  go_wp2_with fail
  refine (Shut_any w1.heap.size 26 a0 len0 cap0 _ k2 n _ T2.out (by omega) (by omega)).mono ?_
  rintro e w3 ⟨gs, s, k3, rfl, hs, hO, hz, hT, hk3, hg3⟩
  have K3 : Hid (ListsR none w3 (some ⟨b, 0, none⟩) n g ∧ RowIn w3 (some ⟨gs, 0, none⟩) n 1 (bools s) ∧ w.grownBy w3 none) := Lib.hid ⟨(keep hg3 H2).out.plain, hO.row, grown_own G2.out hg3 (fun g hg => by obtain rfl := Option.some.inj hg; exact z1)⟩
  have LS := Lib.hid hs
  have L := Lib.hid K3.out.1.len.1
  clear hs hO hz hT hg3 H2 G2 T2 z1 hk2 hk3
  go_wp2_with fail
  refine (Mutual_ok _ n n g _ n s _ K3.out.1 K3.out.2.1 V.out).mono ?_
  rintro e w4 ⟨ok, rfl, hok, hg4⟩
  have OK := Lib.hid hok
  have K4 := keep hg4 K3
  clear hok hg4 K3
  go_wp2_with fail
  refine (Reverse_ok _ n n g _ K4.out.1 V.out).mono ?_
  rintro e w5 ⟨ra, rn, rc, rfl, f1, f2, f3, hR, hg5⟩
  have R5 := hR none (by simp)
  obtain rfl : rn = n := by have := R5.len.1; rw [rev_len] at this; have := L.out; omega
  have K5 := Lib.hid (And.intro R5 (keep hg5 K4).out)
  clear hR R5 hg5 K4
  go_wp2_with fail
  go_loopw [10, 11] (fun f i wr => ∃ k : Nat, k ≤ rn ∧ i = .int .i64 ((k : Int) - 1) ∧ ((f = .int .i64 (-1) ∧ ∀ x : Nat, k ≤ x → x < rn → s[x]? = some true) ∨ ∃ p : Nat, f = .int .i64 p ∧ p < rn ∧ s[p]? = some false) ∧ (ListsR none wr ra rn (rev g) ∧ ListsR none wr (some ⟨b, 0, none⟩) rn g ∧ RowIn wr (some ⟨gs, 0, none⟩) rn 1 (bools s) ∧ w.grownBy wr none)) (fun _ i _ => (intOf i + 1).toNat)
  case atStart => exact ⟨rn, Nat.le_refl _, rfl, .inl ⟨rfl, fun x h1 h2 => by omega⟩, K5.out⟩
  case round =>
    obtain ⟨k, hk, rfl, hF, hK⟩ := hrel
    have K := Lib.hid hK
    have F := Lib.hid hF
    clear hK hF K5
    rcases Nat.eq_zero_or_pos k with rfl | hkp
    · have h01 : ((0 : Nat) : Int) - 1 = -1 := rfl
      rw [h01]
      rcases F.out with ⟨rfl, hall⟩ | ⟨p, rfl, hpn, hp⟩
      · have NO : Hid (ok = false) := Lib.hid (by
          cases ok
          · rfl
          · exact absurd (OK.out.1 rfl) (mut_none (by rw [LS.out]; exact fun x hx => hall x (by omega) hx)))
        obtain rfl := NO.out
        clear F hall h01 NO
        go_wp2_with fail
        go_ret
        exact ⟨rfl, grown_below K.out.2.2.2⟩
      · have HP := Lib.hid hp
        have hp' : (p : Int) < rn := by omega
        clear F hp h01
        go_wp2_with fail
        refine (From_ok _ rn rn g _ rn s p _ K.out.2.1 K.out.2.2.1 V.out hpn).mono ?_
        rintro e w7 ⟨A, c, X, rfl, e1, e2, e3, lx, hx, rx, hg7⟩
        have X7 := Lib.hid (rx none (by simp)).1
        have K7 := Lib.hid (And.intro X7.out (keep hg7 K).out)
        have HX := Lib.hid hx
        have LX := Lib.hid lx
        clear lx hx rx hg7 K X7
        go_wp2_with fail
        refine (From_ok ra rn rc (rev g) _ rn s p _ K7.out.2.1 K7.out.2.2.2.1 (rev_valid V.out) hpn).mono ?_
        rintro e w8 ⟨A2, c2, Y, rfl, e1', e2', e3', ly, hy, ry, hg8⟩
        have Y8 := Lib.hid (ry none (by simp)).1
        have K8 := Lib.hid (And.intro Y8.out (keep hg8 K7).out)
        have HY : Hid (∀ x : Nat, Y[x]? = some true ↔ Reach g s x p) := Lib.hid (fun x => (hy x).trans (reach_rev V.out))
        have LY := Lib.hid ly
        clear ly hy ry hg8 K7 Y8
        go_wp2_with fail
        go_loopw [16, 17] (fun al i wr => ∃ k : Nat, k ≤ rn ∧ i = .int .i64 k ∧ al = .bool (allB s X Y k) ∧ (RowIn wr A2 rn 1 (bools Y) ∧ RowIn wr A rn 1 (bools X) ∧ ListsR none wr ra rn (rev g) ∧ ListsR none wr (some ⟨b, 0, none⟩) rn g ∧ RowIn wr (some ⟨gs, 0, none⟩) rn 1 (bools s) ∧ w.grownBy wr none)) (fun _ i _ => rn - (intOf i).toNat)
        case atStart => exact ⟨0, by omega, rfl, rfl, K8.out⟩
        case round =>
          obtain ⟨k, hk, rfl, rfl, hK⟩ := hrel
          have K := Lib.hid hK
          clear hK K8
          by_cases hkn : k < rn
          · obtain ⟨p1, hp1⟩ : ∃ c, s[k]? = some c := ⟨_, List.getElem?_eq_getElem (by rw [LS.out]; exact hkn)⟩
            obtain ⟨p2, hp2⟩ : ∃ c, X[k]? = some c := ⟨_, List.getElem?_eq_getElem (by rw [LX.out]; exact hkn)⟩
            obtain ⟨p3, hp3⟩ : ∃ c, Y[k]? = some c := ⟨_, List.getElem?_eq_getElem (by rw [LY.out]; exact hkn)⟩
            have SU := Lib.hid (allB_succ hp1 hp2 hp3)
            obtain ⟨b1, o1, he, zb1, d1⟩ := K.out.2.2.2.2.1.bool hp1
            obtain ⟨rfl, rfl⟩ : gs = b1 ∧ 0 = o1 := by simpa using he
            simp only [Nat.zero_add] at d1
            obtain ⟨b2, o2, rfl, zb2, d2⟩ := K.out.2.1.bool hp2
            obtain ⟨b3, o3, rfl, zb3, d3⟩ := K.out.1.bool hp3
            have hk' : (k : Int) < rn := by omega
            clear hp1 hp2 hp3 he
            obtain ⟨al, hal⟩ : ∃ al, al = allB s X Y k := ⟨_, rfl⟩
            rw [← hal]
            rw [← hal] at SU
            clear hal
            cases al
            · go_wp2_with fail
              go_roundw
              case rel => exact ⟨k + 1, by omega, by go_num, by rw [SU.out]; rfl, K.out⟩
              case measure => simp [intOf]; omega
            · cases p1
              · cases p2
                · go_wp2_with fail
                  go_roundw
                  case rel => exact ⟨k + 1, by omega, by go_num, by rw [SU.out]; rfl, K.out⟩
                  case measure => simp [intOf]; omega
                · go_wp2_with fail
                  go_roundw
                  case rel => exact ⟨k + 1, by omega, by go_num, by rw [SU.out]; rfl, K.out⟩
                  case measure => simp [intOf]; omega
              · go_wp2_with fail
                go_roundw
                case rel => exact ⟨k + 1, by omega, by go_num, by rw [SU.out]; rfl, K.out⟩
                case measure => simp [intOf]; omega
          · obtain rfl : k = rn := by omega
            obtain ⟨al, hal⟩ : ∃ al, al = allB s X Y k := ⟨_, rfl⟩
            have EQ : ok = al := by
              have h1 := OK.out
              have h2 := allB_mut (g := g) HP.out LS.out HX.out HY.out
              rw [← hal] at h2
              cases ok <;> cases al <;> simp_all
            rw [← hal]
            clear hal hkn
            subst EQ
            have t1 : (ok == ok) = true := by simp
            go_wp2_with fail
            go_ret
            exact ⟨rfl, grown_below K.out.2.2.2.2.2⟩
    · obtain ⟨j, rfl⟩ : ∃ j, k = j + 1 := ⟨k - 1, by omega⟩
      have hjn : j < rn := by omega
      obtain ⟨sj, hsj⟩ : ∃ c, s[j]? = some c := ⟨_, List.getElem?_eq_getElem (by rw [LS.out]; exact hjn)⟩
      obtain ⟨b1, o1, he, zb1, d1⟩ := K.out.2.2.1.bool hsj
      obtain ⟨rfl, rfl⟩ : gs = b1 ∧ 0 = o1 := by simpa using he
      have SJ := Lib.hid hsj
      have hj' : (j : Int) < rn := by omega
      have hjj : ((j + 1 : Nat) : Int) - 1 = (j : Int) := by omega
      rw [hjj]
      simp only [Nat.zero_add] at d1
      clear hsj he hjj
      cases sj
      · clear F
        go_wp2_with fail
        go_roundw
        case rel => exact ⟨j, by omega, by go_num, .inr ⟨j, rfl, hjn, SJ.out⟩, K.out⟩
        case measure => simp [intOf]
      · go_wp2_with fail
        go_roundw
        case rel => exact ⟨j, by omega, by go_num, F.out.imp (fun h => ⟨h.1, fun x h1 h2 => by
          by_cases e : x = j
          · rw [e]; exact SJ.out
          · exact h.2 x (by omega) h2⟩) id, K.out⟩
        case measure => simp [intOf]
end Go.Proofs.Ytidilepbepkpiaa
