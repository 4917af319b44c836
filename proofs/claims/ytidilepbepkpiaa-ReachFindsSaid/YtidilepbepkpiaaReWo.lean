/- The contract of Without. -/
import Derived.Test.YtidilepbepkpiaaReMade2
namespace Go.Proofs.Ytidilepbepkpiaa
open Go.RowKit
set_option linter.unusedVariables false

def wthA (g : Gr) (k j v : Nat) : List Int := if v < k then adj g v else if v = k then (adj g v).take j else []
def wthL (g : Gr) (s : List Bool) (k j : Nat) : Gr := (List.range g.length).map fun v => (wthA g k j v).filter (keepE s v)
theorem wthL_len (g : Gr) (s : List Bool) (k j : Nat) : (wthL g s k j).length = g.length := by simp [wthL]
theorem wthL_at {g : Gr} {s : List Bool} {k j v : Nat} (h : v < g.length) : (wthL g s k j)[v]? = some ((wthA g k j v).filter (keepE s v)) := by simp [wthL, h]
theorem wthL_zero (g : Gr) (s : List Bool) : wthL g s 0 0 = List.replicate g.length [] := by
  apply List.ext_getElem?
  intro i
  by_cases h : i < g.length
  · rw [wthL_at h]
    have : wthA g 0 0 i = [] := by unfold wthA; simp
    simp [h, this]
  · rw [List.getElem?_eq_none (by rw [wthL_len]; omega), List.getElem?_eq_none (by simp; omega)]
theorem wthL_next {g : Gr} {s : List Bool} {k j : Nat} (h : (adj g k).length ≤ j) : wthL g s k j = wthL g s (k + 1) 0 := by
  unfold wthL
  refine List.map_congr_left fun v _ => ?_
  congr 1
  unfold wthA
  by_cases h1 : v < k
  · rw [if_pos h1, if_pos (by omega)]
  · by_cases h2 : v = k
    · subst h2
      rw [if_neg h1, if_pos rfl, if_pos (by omega), List.take_of_length_le h]
    · rw [if_neg h1, if_neg h2, if_neg (by omega)]
      split <;> simp
theorem wthL_end (g : Gr) (s : List Bool) : wthL g s g.length 0 = without g s := by
  unfold wthL without
  refine List.map_congr_left fun v hv => ?_
  unfold wthA
  rw [if_pos (List.mem_range.1 hv)]
theorem wthA_self (g : Gr) (k j : Nat) : wthA g k j k = (adj g k).take j := by unfold wthA; simp
theorem wthA_other {g : Gr} {k j j' v : Nat} (h : v ≠ k) : wthA g k j v = wthA g k j' v := by unfold wthA; simp [h]
theorem filter_at {l : List Int} {j : Nat} {x : Int} (hx : l[j]? = some x) (f : Int → Bool) : (l.take (j + 1)).filter f = (l.take j).filter f ++ (if f x then [x] else []) := by
  rw [List.take_add_one, hx, List.filter_append]
  simp only [Option.toList_some, List.filter_cons, List.filter_nil]
theorem wthL_skip {g : Gr} {s : List Bool} {k j : Nat} {x : Int} (hx : (adj g k)[j]? = some x) (hf : keepE s k x = false) : wthL g s k (j + 1) = wthL g s k j := by
  unfold wthL
  refine List.map_congr_left fun v _ => ?_
  by_cases e : v = k
  · subst e
    rw [wthA_self, wthA_self, filter_at hx, hf]; simp
  · rw [wthA_other e]
theorem wthL_set {g : Gr} {s : List Bool} {k j : Nat} {x : Int} (hk : k < g.length) (hx : (adj g k)[j]? = some x) (hf : keepE s k x = true) : (wthL g s k j).set k ((wthA g k j k).filter (keepE s k) ++ [x]) = wthL g s k (j + 1) := by
  apply List.ext_getElem?
  intro i
  by_cases hi : i < g.length
  · rw [wthL_at hi]
    by_cases e : k = i
    · subst e
      rw [List.getElem?_set_self (by rw [wthL_len]; exact hk), wthA_self, wthA_self, filter_at hx, hf]; rfl
    · rw [List.getElem?_set_ne e, wthL_at hi, wthA_other (Ne.symm e)]
  · rw [List.getElem?_eq_none (by rw [List.length_set, wthL_len]; omega), List.getElem?_eq_none (by rw [wthL_len]; omega)]
theorem wthA_len {g : Gr} {s : List Bool} {k j : Nat} : ((wthA g k j k).filter (keepE s k)).length ≤ (adj g k).length := by
  rw [wthA_self]
  refine Nat.le_trans (List.length_filter_le _ _) ?_
  simp; omega
theorem keepE_at {s : List Bool} {k y : Nat} {p q : Bool} (hp : s[k]? = some p) (hq : s[y]? = some q) : keepE s k (y : Int) = (!p && !q) := by
  unfold keepE
  have : (y : Int).toNat = y := by omega
  rw [this, hp, hq]
  cases p <;> cases q <;> rfl

set_option maxHeartbeats 3200000 in
theorem Without_ok (a : Option Addr) (n cap : Nat) (g : Gr) (a1 : Option Addr) (c1 : Nat) (s : List Bool) (w : World) (h : ListsR none w a n g) (hs : RowIn w a1 n 1 (bools s)) (hv : validB g = true) :
    Calls Try.prog 22 #[.slice a n cap, .slice a1 n c1] w (GivesL w (without g s) 0) := by
  obtain ⟨hl, hm⟩ := h.len
  have H := Lib.hid h
  have S0 := Lib.hid hs
  have LS := Lib.hid hs.len1b
  have L := Lib.hid hl
  have HV := Lib.hid hv
  have hn24 : n ≤ 24 := by have := (valid_iff.1 hv).1; omega
  obtain ⟨ib, hi, hz0, hz1, hz2⟩ := info_parts Try.info_ints
  have hib := Lib.hid hi
  have hib0 := Lib.hid hz0
  have hib1 := Lib.hid hz1
  have hib2 := Lib.hid hz2
  clear h hl hv hs hi hz0 hz1 hz2 hm
  go_enter Try.func22, Try.ntmps22
  go_wp2_with fail
  refine (Valid_any a n cap g _ H.out).mono ?_
  rw [HV.out]
  rintro e w1 ⟨rfl, rfl⟩
  go_wp2_with (at_make; refine wpList_make_full _ rfl _ _ 27 rfl w1.heap.size 22 ib _ 1 Try.underlying27 hib.out hib0.out hib1.out .i64 .i64 _ _ n rfl rfl (by omega) (by omega) (by rw [hib2.out]; omega) (by unfold maxLen; omega) (by omega) ?_)
  intro W2 hC hg2
  rw [made_nils] at hC
  have OL : Hid (OwnL W2 w1.heap.size w1.heap.size n (wthL g s 0 0) ∧ w1.grownBy W2 none) := ⟨by rw [wthL_zero, L.out]; exact ownL_made hC rfl (by unfold maxLen; omega), hg2⟩
  clear hC hg2 hib hib0 hib1 hib2
  go_wp2_with fail
  go_loopw [7, 8, 26] (fun _ _ i wr => ∃ k : Nat, k ≤ n ∧ i = .int .i64 k ∧ OwnL wr w1.heap.size w1.heap.size n (wthL g s k 0) ∧ w1.grownBy wr none) (fun _ _ i _ => n - (intOf i).toNat)
  case atStart => exact ⟨0, by omega, rfl, OL.out⟩
  case round =>
    obtain ⟨k, hk, rfl, hO, hG⟩ := hrel
    have K := Lib.hid (And.intro hO hG)
    clear hO hG OL
    by_cases hkn : k < n
    · obtain ⟨l, hl⟩ : ∃ l, g[k]? = some l := ⟨_, List.getElem?_eq_getElem (by rw [L.out]; exact hkn)⟩
      have AD := Lib.hid (adj_at hl)
      obtain ⟨b, off, A, c, rfl, zb1, c1, hlc, hcm, hA, hrow⟩ := H.out.at hl
      have RW := Lib.hid hrow.1
      have c0 := (grown_cell K.out.2 (lt_of_cell c1) (by simp)).trans c1
      have zb := Nat.lt_of_lt_of_le zb1 K.out.2.size
      have okl := (valid_iff.1 HV.out).2 k (by rw [L.out]; exact hkn)
      rw [AD.out] at okl
      have MEM := Lib.hid (okB_mem okl)
      obtain ⟨sk, hsk⟩ : ∃ q, s[k]? = some q := ⟨_, List.getElem?_eq_getElem (by rw [LS.out]; exact hkn)⟩
      obtain ⟨b1, o1, rfl, zs, _⟩ := S0.out.bool hsk
      have SK := Lib.hid hsk
      have hk' : (k : Int) < n := by omega
      have hl24 : l.length ≤ 24 := by have := okB_len okl; rw [L.out] at this; omega
      unfold maxLen at hcm
      clear hl hrow okl c1 hsk
      go_wp2_with fail
      go_loopw [10, 33] (fun _ i wq => ∃ j : Nat, j ≤ l.length ∧ i = .int .i64 j ∧ OwnL wq w1.heap.size w1.heap.size n (wthL g s k j) ∧ w1.grownBy wq none) (fun _ i _ => l.length - (intOf i).toNat)
      case atStart => exact ⟨0, by omega, rfl, K.out.1, K.out.2⟩
      case round =>
        obtain ⟨j, hj, rfl, hO, hG⟩ := hrel
        have O := Lib.hid hO
        have G := Lib.hid hG
        clear hO hG K c0
        by_cases hjl : j < l.length
        · obtain ⟨x, hx⟩ : ∃ x, l[j]? = some x := ⟨_, List.getElem?_eq_getElem hjl⟩
          obtain ⟨m1, m2, m3⟩ := MEM.out x (List.mem_of_getElem? hx)
          rw [L.out] at m2
          obtain ⟨y, rfl⟩ : ∃ y : Nat, x = y := ⟨x.toNat, by omega⟩
          have hyn : y < n := by omega
          obtain ⟨bb, oo, rfl, zbb, d0⟩ := (RowIn.kept RW.out G.out).int hx
          obtain ⟨sy, hsy⟩ : ∃ q, s[y]? = some q := ⟨_, List.getElem?_eq_getElem (by rw [LS.out]; exact hyn)⟩
          obtain ⟨b1', o1', he, zs', ds⟩ := (RowIn.kept S0.out G.out).bool SK.out
          obtain ⟨rfl, rfl⟩ : b1 = b1' ∧ o1 = o1' := by simpa using he
          obtain ⟨b1', o1', he, _, dy⟩ := (RowIn.kept S0.out G.out).bool hsy
          obtain ⟨rfl, rfl⟩ : b1 = b1' ∧ o1 = o1' := by simpa using he
          have KE := Lib.hid (keepE_at SK.out hsy)
          have HX : Hid ((adj g k)[j]? = some (y : Int)) := Lib.hid (by rw [AD.out]; exact hx)
          have hj' : (j : Int) < (l.length : Int) := by omega
          have hy' : (y : Int) < n := by omega
          clear hx hsy he
          cases sk
          · cases sy
            · obtain ⟨v, q1, q2, hown, hvg⟩ := O.out.at (wthL_at (s := s) (k := k) (j := j) (v := k) (by rw [L.out]; exact hkn))
              have hrl : ((wthA g k j k).filter (keepE s k)).length ≤ 24 := Nat.le_trans wthA_len (by rw [AD.out]; exact hl24)
              have ST := Lib.hid (wthL_set (s := s) (by rw [L.out]; exact hkn) HX.out KE.out)
              have AT := Lib.hid (wthL_at (g := g) (s := s) (k := k) (j := j) (v := k) (by rw [L.out]; exact hkn))
              obtain ⟨row, hrw⟩ : ∃ row, row = (wthA g k j k).filter (keepE s k) := ⟨_, rfl⟩
              rw [← hrw] at hown hrl ST AT
              have Q1 := Lib.hid q1
              have OV := Lib.hid hown
              have zg := O.out.lt
              have zs := G.out.size
              have HVG := Lib.hid hvg
              obtain ⟨csO, hB, _⟩ := O.out
              have HB := Lib.hid hB
              clear hB hown q2 hvg hrw KE
              go_wp2_with (at_builtin; refine wpList_append_in St_int rfl (.tmp 54) (.tmp 56) rfl rfl (OV.out.alloc (.cells #[.int .i64 y] 3)) rfl (cell_one _ _ rfl) (fun h => by cases h) (flat_one rfl) ?c1 ?c2 ?c3 ?_)
              case c1 => unfold maxLen; omega
              case c2 => omega
              case c3 => first | omega | (simp; omega)
              intro v' w3 hown3 hg3 hloc
              obtain ⟨A3, c3, rfl, _, _, _, _⟩ := sliceIn_owns hown3
              have g3 : wr.grownBy w3 v.ownBlock := grown_trans (grown_alloc _ (grown_refl wr _)) hg3
              have O3 := Lib.hid (O.out.put (i := k) (ys := row ++ [(y : Int)]) AT.out Q1.out g3 (.inr rfl) (by rw [List.length_append, ints_snoc]; exact hown3) (hloc.imp id (fun h m hm => by rw [h] at hm; simp at hm; omega)))
              have G3 : Hid (w1.grownBy (w3.setCell ⟨w1.heap.size, k, none⟩ _) none) := Lib.hid (grown_set (.slice A3 (row.length + 1) c3) (grown_own G.out g3 (fun m hm => (OV.out.lt m hm).1)) (.inl (by simp)))
              have HC3 := Lib.hid (grown_at g3 HB.out (fun e => HVG.out e.symm))
              have q3 := (rules_at HC3.out).1
              have q4 := (rules_at HC3.out).2
              have z3 := lt_of_at HC3.out
              clear hown3 hg3 hloc g3 q1 OV O Q1 G AT
              rw [ST.out] at O3
              go_wp2_with fail
              go_roundw
              case rel => exact ⟨j + 1, by omega, by go_num, O3.out, G3.out⟩
              case measure => simp [intOf]; omega
            · have O2 : Hid (OwnL wr w1.heap.size w1.heap.size n (wthL g s k (j + 1))) := Lib.hid (by rw [wthL_skip HX.out KE.out]; exact O.out)
              clear O KE
              go_wp2_with fail
              go_roundw
              case rel => exact ⟨j + 1, by omega, by go_num, O2.out, G.out⟩
              case measure => simp [intOf]; omega
          · have O2 : Hid (OwnL wr w1.heap.size w1.heap.size n (wthL g s k (j + 1))) := Lib.hid (by rw [wthL_skip HX.out KE.out]; exact O.out)
            clear O KE
            go_wp2_with fail
            go_roundw
            case rel => exact ⟨j + 1, by omega, by go_num, O2.out, G.out⟩
            case measure => simp [intOf]; omega
        · obtain rfl : j = l.length := by omega
          rw [wthL_next (by rw [AD.out]; exact Nat.le_refl _)] at O
          clear hjl
          go_wp2_with fail
          go_roundw
          case rel => exact ⟨k + 1, by omega, by go_num, O.out, G.out⟩
          case measure => simp [intOf]; omega
    · obtain rfl : k = n := by omega
      have KO := K.out.1
      rw [← L.out, wthL_end, L.out] at KO
      have O := Lib.hid KO
      have G := Lib.hid K.out.2
      clear hkn K KO
      go_wp2_with fail
      refine bodyPost_ret (v := .tuple #[.slice (some ⟨w1.heap.size, 0, none⟩) k k, .int .i64 0]) (by simp [results, Try.results22, go_sem]) rfl ⟨_, _, _, rfl, Nat.le_refl _, by unfold maxLen; omega, (fun h => by cases h), (fun R hR => O.out.lists hR), G.out⟩
end Go.Proofs.Ytidilepbepkpiaa
