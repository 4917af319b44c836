/- The contract of the reference's Mutual. -/
import Derived.Test.YtidilepbepkpiaaReRef2
namespace Go.Proofs.Ytidilepbepkpiaa
open Go.RowKit
set_option linter.unusedVariables false

/-- The first k vertices are done: cnt of them are open, and each of those reaches all that are open. -/
def MutUp (g : Gr) (s : List Bool) (k cnt : Nat) : Prop := cnt ≤ k ∧ (0 < cnt ↔ ∃ x : Nat, x < k ∧ isOpen s x) ∧ ∀ x : Nat, x < k → isOpen s x → ∀ y : Nat, isOpen s y → Reach g s x y
theorem mutUp_zero (g : Gr) (s : List Bool) : MutUp g s 0 0 := ⟨Nat.le_refl _, by simp, fun x hx => by omega⟩
theorem MutUp.shut {g : Gr} {s : List Bool} {k cnt : Nat} (h : MutUp g s k cnt) (hs : s[k]? = some true) : MutUp g s (k + 1) cnt := by
  have no : ¬ isOpen s k := fun e => by rw [isOpen, hs] at e; cases e
  refine ⟨by have := h.1; omega, h.2.1.trans ⟨fun ⟨x, hx, ho⟩ => ⟨x, by omega, ho⟩, fun ⟨x, hx, ho⟩ => ⟨x, ?_, ho⟩⟩, fun x hx ho => h.2.2 x ?_ ho⟩
  · by_cases e : x = k
    · subst e; exact absurd ho no
    · omega
  · by_cases e : x = k
    · subst e; exact absurd ho no
    · omega
theorem MutUp.open {g : Gr} {s : List Bool} {k cnt : Nat} (h : MutUp g s k cnt) (hs : s[k]? = some false) (ha : ∀ y : Nat, isOpen s y → Reach g s k y) : MutUp g s (k + 1) (cnt + 1) := by
  refine ⟨by have := h.1; omega, ⟨fun _ => ⟨k, by omega, hs⟩, fun _ => by omega⟩, fun x hx ho => ?_⟩
  by_cases e : x = k
  · subst e; exact ha
  · exact h.2.2 x (by omega) ho
theorem MutUp.end {g : Gr} {s : List Bool} {n cnt : Nat} (h : MutUp g s n cnt) (hs : s.length = n) : 0 < cnt ↔ Mut g s := by
  rw [h.2.1]
  constructor
  · rintro ⟨v, hv, ho⟩
    refine mut_yes ho (fun w hw => ?_)
    have hl := (List.getElem?_eq_some_iff.1 hw).1
    exact ⟨h.2.2 v hv ho w hw, h.2.2 w (by omega) hw v ho⟩
  · rintro ⟨v, ho, _⟩
    have hl := (List.getElem?_eq_some_iff.1 ho).1
    exact ⟨v, by omega, ho⟩

set_option maxHeartbeats 3200000 in
theorem rMutual_ok (a : Option Addr) (n cap : Nat) (g : Gr) (a1 : Option Addr) (c1 : Nat) (s : List Bool) (w : World) (h : ListsR none w a n g) (hs : RowIn w a1 n 1 (bools s)) (hv : validB g = true) :
    Calls Try.prog 21 #[.slice a n cap, .slice a1 n c1] w (MutP g s w) := by
  have L := Lib.hid h.len.1
  have LS := Lib.hid hs.len1b
  have K0 : Hid (ListsR none w a n g ∧ RowIn w a1 n 1 (bools s) ∧ w.grownBy w none) := Lib.hid ⟨h, hs, grown_refl _ _⟩
  have V := Lib.hid hv
  have hn24 : n ≤ 24 := by have := (valid_iff.1 hv).1; have := L.out; omega
  have C0 : Hid (chkM g n = 0) := Lib.hid (by simp [chkM, hv, L.out])
  clear h hs hv
  go_enter Try.func21, Try.ntmps21
  go_wp2_with fail
  refine (rCheck_any a n cap g _ _ _ _ K0.out.1).mono ?_
  rw [C0.out]
  rintro e w1 ⟨rfl, rfl⟩
  go_wp2_with fail
  go_loopw [7, 8, 9, 10] (fun c i _ _ wr => ∃ k cnt : Nat, k ≤ n ∧ i = .int .i64 k ∧ c = .int .i64 cnt ∧ MutUp g s k cnt ∧ (ListsR none wr a n g ∧ RowIn wr a1 n 1 (bools s) ∧ w1.grownBy wr none)) (fun _ i _ _ _ => n - (intOf i).toNat)
  case atStart => exact ⟨0, 0, by omega, rfl, rfl, mutUp_zero _ _, K0.out⟩
  case round =>
    obtain ⟨k, cnt, hk, rfl, rfl, hU, hK⟩ := hrel
    have U := Lib.hid hU
    have K := Lib.hid hK
    have hcnt := hU.1
    clear hU hK K0
    by_cases hkn : k < n
    · obtain ⟨sk, hsk⟩ : ∃ q, s[k]? = some q := ⟨_, List.getElem?_eq_getElem (by rw [LS.out]; exact hkn)⟩
      obtain ⟨b1, o1, rfl, zb1, d1⟩ := K.out.2.1.bool hsk
      have SK := Lib.hid hsk
      have hk' : (k : Int) < n := by omega
      clear hsk
      cases sk
      · go_wp2_with fail
        refine (rReach_any a n cap g _ c1 s k _ K.out.1 K.out.2.1 V.out hkn).mono ?_
        rintro e w2 ⟨A, c, X, rfl, f1, f2, f3, lx, hx, rx, hg⟩
        have LX := Lib.hid lx
        have HX := Lib.hid hx
        have K2 := Lib.hid (And.intro rx (keep hg K).out)
        clear lx hx rx hg K d1 zb1
        go_wp2_with fail
        go_loopw [10] (fun i wr => ∃ j : Nat, j ≤ n ∧ i = .int .i64 j ∧ (∀ y : Nat, y < j → isOpen s y → Reach g s k y) ∧ wr = w2) (fun i _ => n - (intOf i).toNat)
        case atStart => exact ⟨0, by omega, rfl, by omega, rfl⟩
        case round =>
          obtain ⟨j, hj, rfl, hA, rfl⟩ := hrel
          have AA := Lib.hid hA
          clear hA
          by_cases hjn : j < n
          · obtain ⟨sj, hsj⟩ : ∃ q, s[j]? = some q := ⟨_, List.getElem?_eq_getElem (by rw [LS.out]; exact hjn)⟩
            obtain ⟨xj, hxj⟩ : ∃ q, X[j]? = some q := ⟨_, List.getElem?_eq_getElem (by rw [LX.out]; exact hjn)⟩
            obtain ⟨b1', o1', he, zb1', d1⟩ := K2.out.2.2.1.bool hsj
            obtain ⟨rfl, rfl⟩ : b1 = b1' ∧ o1 = o1' := by simpa using he
            obtain ⟨b2, o2, rfl, zb2, d2⟩ := K2.out.1.bool hxj
            have hj' : (j : Int) < n := by omega
            have up : Hid ((isOpen s j → xj = true) → ∀ y : Nat, y < j + 1 → isOpen s y → Reach g s k y) := Lib.hid (fun ho y hy hoy => by
              by_cases e : y = j
              · subst e
                have := ho hoy
                rw [this] at hxj
                exact (HX.out y).1 hxj
              · exact AA.out y (by omega) hoy)
            have no : Hid (sj = false → xj = false → ¬ Mut g s) := Lib.hid (by
              rintro rfl rfl
              exact mut_no SK.out hsj (fun hr => by have := (HX.out j).2 hr.1; rw [hxj] at this; cases this))
            have SJ := Lib.hid hsj
            clear hsj hxj he
            cases sj
            · cases xj
              · have NO := Lib.hid (no.out rfl rfl)
                clear no up
                go_wp2_with fail
                exact bodyPost_ret (v := .tuple #[.bool false, .int .i64 0]) (by simp [results, Try.results21, go_sem]) rfl ⟨false, rfl, by simp [NO.out], K2.out.2.2.2⟩
              · go_wp2_with fail
                go_roundw
                case rel => exact ⟨j + 1, by omega, by go_num, up.out (fun _ => rfl), trivial⟩
                case measure => simp [intOf]; omega
            · go_wp2_with fail
              go_roundw
              case rel => exact ⟨j + 1, by omega, by go_num, up.out (fun h => by unfold isOpen at h; rw [SJ.out] at h; cases h), trivial⟩
              case measure => simp [intOf]; omega
          · obtain rfl : n = j := by omega
            have U2 := Lib.hid (U.out.open SK.out (fun y hy => AA.out y (by have := (List.getElem?_eq_some_iff.1 hy).1; rw [LS.out] at this; exact this) hy))
            clear hjn
            go_wp2_with fail
            go_roundw
            case rel => exact ⟨k + 1, cnt + 1, by omega, by go_num, by go_num, U2.out, K2.out.2⟩
            case measure => simp [intOf]; omega
      · have U2 := Lib.hid (U.out.shut SK.out)
        go_wp2_with fail
        go_roundw
        case rel => exact ⟨k + 1, cnt, by omega, by go_num, rfl, U2.out, K.out⟩
        case measure => simp [intOf]; omega
    · obtain rfl : n = k := by omega
      have E := Lib.hid (U.out.end LS.out)
      clear hkn U
      rcases Nat.eq_zero_or_pos cnt with rfl | hp
      · go_wp2_with fail
        exact bodyPost_ret (v := .tuple #[.bool false, .int .i64 0]) (by simp [results, Try.results21, go_sem]) rfl ⟨false, rfl, by rw [← E.out]; simp, K.out.2.2⟩
      · have hp' : (0 : Int) < cnt := by omega
        go_wp2_with fail
        exact bodyPost_ret (v := .tuple #[.bool true, .int .i64 0]) (by simp [results, Try.results21, go_sem]) rfl ⟨true, rfl, by rw [← E.out]; simp [hp], K.out.2.2⟩
end Go.Proofs.Ytidilepbepkpiaa
