/- The contracts of the reference's Check and Reach. -/
import Derived.Test.YtidilepbepkpiaaQue
import Derived.Test.YtidilepbepkpiaaReMut
namespace Go.Proofs.Ytidilepbepkpiaa
open Go.RowKit
set_option linter.unusedVariables false

def chkM (g : Gr) (m : Nat) : Int := if validB g = false then 20 else if (m : Int) ≠ g.length then 19 else 0
theorem rCheck_any (a : Option Addr) (n cap : Nat) (g : Gr) (a1 : Option Addr) (m c1 : Nat) (w : World) (h : ListsR none w a n g) :
    Calls Try.prog 30 #[.slice a n cap, .slice a1 m c1] w (fun e w' => e = .returned (.int .i64 (chkM g m)) ∧ w' = w) := by
  have L := Lib.hid h.len.1
  have H := Lib.hid h
  clear h
  go_enter Try.func30, Try.ntmps30
  go_wp2_with fail
  refine (rValid_any a n cap g _ H.out).mono ?_
  rintro e w1 ⟨rfl, rfl⟩
  cases hv : validB g
  · go_wp2_with fail
    exact bodyPost_ret (v := .int .i64 20) (by simp [results, Try.results30, go_sem]) rfl ⟨by simp [chkM, hv], rfl⟩
  · by_cases h1 : (m : Int) = n
    · go_wp2_with fail
      exact bodyPost_ret (v := .int .i64 0) (by simp [results, Try.results30, go_sem]) rfl ⟨by simp [chkM, hv, L.out]; omega, rfl⟩
    · go_wp2_with fail
      exact bodyPost_ret (v := .int .i64 19) (by simp [results, Try.results30, go_sem]) rfl ⟨by simp [chkM, hv, L.out]; omega, rfl⟩

theorem ownR_whole {w : World} {g n : Nat} {e : TypeId} {xs : List Value} (h : OwnR w g n n e 1 xs) : w.heap[g]? = some (.cells xs.toArray e (0, 0)) := by
  obtain ⟨cur, h1, h2, h3, h4, h5⟩ := h
  rw [Nat.mul_one] at h4 h5
  rw [List.take_of_length_le (by simp [h4])] at h5
  rw [h1, ← h5]
/-- What Reach returns. -/
def RReachP (g : Gr) (s : List Bool) (n v : Nat) (w : World) (e : Ending) (w' : World) : Prop :=
  ∃ A c L, e = .returned (.slice A n c) ∧ n ≤ c ∧ c ≤ maxLen ∧ (A = none → c = 0) ∧ L.length = n ∧ (∀ x : Nat, L[x]? = some true ↔ Reach g s v x) ∧ RowIn w' A n 1 (bools L) ∧ w.grownBy w' none
def RAt (g : Gr) (s : List Bool) (n v base : Nat) (o : Value) (wr : World) : Prop := ∃ (m : List Bool) (S : List Int) (gs off cs : Nat), o = .slice (some ⟨gs, off, none⟩) S.length cs ∧ m.length = n ∧ Srch g s v m S ∧
  Que wr (base + 1) o S.length S ∧ wr.heap[base]? = some (.cells (bools m).toArray 4 (0, 0)) ∧ unmarked m + S.length ≤ n
def RIn (g : Gr) (s : List Bool) (n v u j base D : Nat) (o : Value) (wr : World) : Prop := ∃ (m : List Bool) (S : List Int) (gs off cs : Nat), o = .slice (some ⟨gs, off, none⟩) S.length cs ∧ m.length = n ∧ SrchIn g s v u j m S ∧
  Que wr (base + 1) o S.length S ∧ wr.heap[base]? = some (.cells (bools m).toArray 4 (0, 0)) ∧ unmarked m + S.length ≤ D
theorem Que.shape {w : World} {base : Nat} {v : Value} {n : Nat} {xs : List Int} (h : Que w base v n xs) : ∃ g off cap, v = .slice (some ⟨g, off, none⟩) n cap ∧ n ≤ cap ∧ cap ≤ 9223372036854775807 ∧ g < w.heap.size := by
  obtain ⟨g, off, cap, cur, h1, h2, h3, h4, h5, _⟩ := h
  unfold maxLen at h5
  exact ⟨g, off, cap, h1, h4, by omega, lt_of_at h3⟩

set_option maxHeartbeats 3200000 in
theorem rReach_any (a : Option Addr) (n cap : Nat) (g : Gr) (a1 : Option Addr) (c1 : Nat) (s : List Bool) (v : Nat) (w : World) (h : ListsR none w a n g) (hs : RowIn w a1 n 1 (bools s)) (hv : validB g = true) (hvn : v < n) :
    Calls Try.prog 31 #[.slice a n cap, .slice a1 n c1, .int .i64 v] w (RReachP g s n v w) := by
  have H := Lib.hid h
  have S0 := Lib.hid hs
  have LS := Lib.hid hs.len1b
  have L := Lib.hid h.len.1
  have V := Lib.hid hv
  have hn24 : n ≤ 24 := by have := (valid_iff.1 hv).1; have := L.out; omega
  obtain ⟨sv, hsv⟩ : ∃ b, s[v]? = some b := ⟨_, List.getElem?_eq_getElem (by rw [hs.len1b]; exact hvn)⟩
  obtain ⟨b1, o1, rfl, zb1, d1⟩ := hs.bool hsv
  have SV := Lib.hid hsv
  have hvn' : (v : Int) < n := by omega
  obtain ⟨ib, hi, hz0, hz1, hz2⟩ := info_parts Try.info_bool
  have hib := Lib.hid hi
  have hib0 := Lib.hid hz0
  have hib1 := Lib.hid hz1
  have hib2 := Lib.hid hz2
  clear h hs hv hsv hi hz0 hz1 hz2
  go_enter Try.func31, Try.ntmps31
  go_wp2_with (at_make; refine wpList_make_full _ rfl _ _ 29 rfl w.heap.size 4 ib _ 1 Try.underlying29 hib.out hib0.out hib1.out .i64 .i64 _ _ n rfl rfl (by omega) (by omega) (by rw [hib2.out]; omega) (by unfold maxLen; omega) (by omega) ?_)
  intro W2 hC hg2
  rw [made_falses] at hC
  obtain ⟨hO, _⟩ := ownR_of_slice hC
  have M2 := Lib.hid (ownR_whole hO)
  have G2 := Lib.hid hg2
  have d2 := (grown_cell hg2 zb1 (by simp)).trans d1
  have zb2 := Nat.lt_of_lt_of_le zb1 hg2.size
  clear hC hg2 hO hib hib0 hib1 hib2 d1
  cases sv
  · have hq0 : (bools (List.replicate n false))[v]? = some (.bool false) := by unfold bools; rw [List.map_replicate, List.getElem?_replicate, if_pos hvn]
    have q1 : W2.cell? ⟨w.heap.size, v, none⟩ = some (.bool false) := by rw [cell_at M2.out]; simpa using hq0
    have q2 : W2.frozen? ⟨w.heap.size, v, none⟩ = false := free_at M2.out
    have z2 := lt_of_at M2.out
    have B1 := at_set (j := v) (.bool true) M2.out
    rw [bools_arr_set] at B1
    have B2 := Lib.hid (at_alloc (.cells #[.int .i64 v] 3) B1)
    have B4 := Lib.hid (grown_alloc (.cells #[.int .i64 v] 3) (grown_set (p := ⟨w.heap.size, v, none⟩) (.bool true) G2.out (.inl (Nat.le_refl _))))
    have B5 := Lib.hid (Que.lit (W2.setCell ⟨w.heap.size, v, none⟩ (.bool true)) (w.heap.size + 1) v (by simp; omega))
    have I0 := Lib.hid (Srch.begin (g := g) (N := n) SV.out hvn)
    clear hq0 B1
    go_wp2_with fail
    go_loopw [8, 9, 10, 11] (fun o _ _ _ wr => RAt g s n v w.heap.size o wr ∧ w.grownBy wr none) (fun o _ _ _ wr => falses wr w.heap.size + sliceLen o)
    case atStart => exact ⟨⟨_, _, _, _, _, rfl, by simp, I0.out, by simpa using B5.out, B2.out, by have := unmarked_begin hvn; simp only [List.length_singleton]; omega⟩, B4.out⟩
    case round =>
      obtain ⟨⟨m, S, gs, off, cs, rfl, hmn, hI, hO, hB, hle⟩, hG⟩ := hrel
      have O := Lib.hid hO
      have I := Lib.hid hI
      have MB := Lib.hid hB
      have G := Lib.hid hG
      have zG := hG.size
      obtain ⟨hcs1, hcs2⟩ : S.length ≤ cs ∧ cs ≤ 9223372036854775807 := by
        obtain ⟨_, _, _, he, k1, k2, _⟩ := hO.shape
        obtain ⟨_, rfl⟩ : _ ∧ cs = _ := by simpa using he
        exact ⟨k1, k2⟩
      have hzb := lt_of_at hB
      clear hO hI hB hG B2 B4 B5 I0 q1 q2 z2
      rcases S with _ | ⟨x, S'⟩
      · have FI := Lib.hid (I.out.final V.out)
        have hrow := Lib.hid (rowIn_block (n := n) (size := 1) MB.out (by simp [bools, hmn]) (by unfold maxLen; omega))
        go_wp2_with fail
        exact bodyPost_ret (v := .slice (some ⟨w.heap.size, 0, none⟩) n n) (by simp [results, Try.results31, go_sem]) rfl ⟨_, _, m, rfl, Nat.le_refl _, by unfold maxLen; omega, (fun h => by cases h), hmn, FI.out, by simpa using hrow.out, G.out⟩
      · obtain ⟨u, rfl, hmu⟩ := I.out.todo x (by simp)
        have hu := (reach_lt (by rw [LS.out, L.out]) (I.out.sound u hmu)).2
        rw [L.out] at hu
        obtain ⟨l, hl⟩ : ∃ l, g[u]? = some l := ⟨_, List.getElem?_eq_getElem (by rw [L.out]; exact hu)⟩
        have AD := Lib.hid (adj_at hl)
        obtain ⟨b, ofb, A, c, rfl, zb, c0, hlc, hcm, hA, hrow⟩ := H.out.at hl
        have RW := Lib.hid hrow.1
        have C0 := Lib.hid c0
        have e0 := O.out.head
        have zgs := lt_of_cell e0
        have IP := Lib.hid I.out.first
        have MEM := Lib.hid (okB_mem ((valid_iff.1 V.out).2 u (by rw [L.out]; exact hu)))
        have hu' : (u : Int) < n := by omega
        have hD : unmarked m + S'.length + 1 = falses wr w.heap.size + (S'.length + 1) := by rw [falses_at MB.out]; omega
        have HD := Lib.hid hD
        have hle2 : unmarked m + S'.length + 1 ≤ n := by rw [List.length_cons] at hle; omega
        unfold maxLen at hcm
        simp only at zgs
        rw [List.length_cons] at hcs1 O ⊢
        clear hl hrow hmu I hD hle
        have hl1 : 1 ≤ S'.length + 1 := by omega
        have hl2 : (1 : Int) ≤ (S'.length : Int) + 1 := by omega
        have hl3 : 0 < S'.length + 1 := by omega
        by_cases hc1 : cs = 1
        · subst hc1
          obtain ⟨hs0, hs1, hq⟩ := O.out.tail1
          obtain rfl := hs1
          have OP := Lib.hid hq
          clear O hs0 hq
          simp only [List.length_nil, Nat.zero_add, Nat.add_zero] at *
          go_wp2_with fail
          go_loopw [8, 10, 11] (fun o i _ wq => (∃ j : Nat, j ≤ l.length ∧ i = .int .i64 j ∧ RIn g s n v u j w.heap.size (unmarked m + 0) o wq) ∧ w.grownBy wq none) (fun _ i _ _ => l.length - (intOf i).toNat)
          case atStart => exact ⟨⟨0, by omega, rfl, m, [], gs, off, 0, rfl, hmn, IP.out, OP.out, MB.out, Nat.le_refl _⟩, G.out⟩
          case round =>
            clear OP IP MB G e0 zG
            obtain ⟨⟨j, hj, rfl, m, S, gs, off, cs, rfl, hmn, hI, hO, hB, hle⟩, hG⟩ := hrel
            have O := Lib.hid hO
            have I := Lib.hid hI
            have MB := Lib.hid hB
            have G := Lib.hid hG
            have zG := hG.size
            obtain ⟨hcs1, hcs2⟩ : S.length ≤ cs ∧ cs ≤ 9223372036854775807 := by
              obtain ⟨_, _, _, he, k1, k2, _⟩ := hO.shape
              obtain ⟨_, rfl⟩ : _ ∧ cs = _ := by simpa using he
              exact ⟨k1, k2⟩
            have hzb := lt_of_at hB
            have c0 := (grown_cell hG zb (by simp)).trans C0.out
            have zb' := Nat.lt_of_lt_of_le zb zG
            clear hO hI hB hG
            by_cases hjl : j < l.length
            · obtain ⟨x, hx⟩ : ∃ x, l[j]? = some x := ⟨_, List.getElem?_eq_getElem hjl⟩
              obtain ⟨m1, m2, m3⟩ := MEM.out x (by rw [AD.out]; exact List.mem_of_getElem? hx)
              rw [L.out] at m2
              obtain ⟨y, rfl⟩ : ∃ y : Nat, x = y := ⟨x.toNat, by omega⟩
              have hyn : y < n := by omega
              obtain ⟨bb, oo, rfl, zbb, d0⟩ := (RowIn.kept RW.out G.out).int hx
              obtain ⟨sy, hsy⟩ : ∃ b, s[y]? = some b := ⟨_, List.getElem?_eq_getElem (by rw [LS.out]; exact hyn)⟩
              obtain ⟨b1', o1', he, zb1'', d3⟩ := (RowIn.kept S0.out G.out).bool hsy
              obtain ⟨rfl, rfl⟩ : b1 = b1' ∧ o1 = o1' := by simpa using he
              obtain ⟨my, hmy⟩ : ∃ b, m[y]? = some b := ⟨_, List.getElem?_eq_getElem (by rw [hmn]; exact hyn)⟩
              have q1 : wr.cell? ⟨w.heap.size, y, none⟩ = some (.bool my) := by rw [cell_at MB.out]; simp [bools, hmy]
              have q2 : wr.frozen? ⟨w.heap.size, y, none⟩ = false := free_at MB.out
              have HX : Hid ((adj g u)[j]? = some (y : Int)) := Lib.hid (by rw [AD.out]; exact hx)
              have HS := Lib.hid hsy
              have HM := Lib.hid hmy
              have hj' : (j : Int) < (l.length : Int) := by omega
              have hyi2 : (y : Int) < n := by omega
              clear hx hsy hmy he
              cases sy
              · cases my
                · have O1 := Lib.hid ((O.out.kept (grown_set (p := ⟨w.heap.size, y, none⟩) (.bool true) (grown_refl wr (some w.heap.size)) (.inr rfl)) (fun b hb => by obtain rfl := Option.some.inj hb; omega)).kept (grown_alloc (.cells #[.int .i64 y] 3) (grown_refl _ none)) (by simp))
                  have MB1 := Lib.hid (at_set (j := y) (.bool true) MB.out)
                  have G1 := Lib.hid (grown_set (p := ⟨w.heap.size, y, none⟩) (.bool true) G.out (.inl (Nat.le_refl _)))
                  have zz : (wr.setCell ⟨w.heap.size, y, none⟩ (.bool true)).heap.size = wr.heap.size := by simp
                  have hum := unmarked_set HM.out
                  have hSl : S.length + 1 ≤ 24 := by omega
                  rw [bools_arr_set] at MB1
                  have HC : Hid (((wr.setCell ⟨w.heap.size, y, none⟩ (.bool true)).alloc (.cells #[.int .i64 y] 3)).cell? ((⟨wr.heap.size, 0, none⟩ : Addr).add 0) = some (.int .i64 y)) := Lib.hid (by
                    rw [Addr.add_lit, cell_at (by rw [← zz]; exact at_new _ _)]; rfl)
                  clear O MB G
                  go_wp2_with (at_builtin; refine wpList_append_que rfl (.tmp 64) (.tmp 66) rfl rfl O1.out rfl HC.out (by omega) (by simp; omega) ?_)
                  intro v' w3 hown3 hg3
                  obtain ⟨g3, of3, cp3, rfl, _, _, _⟩ := hown3.shape
                  have NB : ∀ b, b < w.heap.size + 1 → some b ≠ (Value.slice (some ⟨gs, off, none⟩) S.length cs).ownBlock := fun b hb e => by have := (O1.out.lt b e.symm).1; omega
                  have MB3 := Lib.hid (grown_at hg3 (at_alloc (.cells #[.int .i64 y] 3) MB1.out) (NB _ (by omega)))
                  have G3 := Lib.hid (grown_own (grown_alloc (.cells #[.int .i64 y] 3) G1.out) hg3 (fun g hg => by have := (O1.out.lt g hg).1; omega))
                  have O3 := Lib.hid hown3
                  have I3 := Lib.hid (I.out.mark (S' := S ++ [(y : Int)]) HX.out HS.out HM.out (fun z => by simp))
                  clear hown3 hg3 O1 MB1 G1 NB I zz q1 q2 HC c0
                  go_wp2_with fail
                  go_roundw
                  case rel => exact ⟨⟨j + 1, by omega, by go_num, m.set y true, S ++ [(y : Int)], g3, of3, cp3, by simp, by simpa using hmn, I3.out, by simpa using O3.out, MB3.out, by simp; omega⟩, G3.out⟩
                  case measure => simp [intOf]; omega
                · have I1 := Lib.hid (I.out.skip HX.out (.inr HM.out))
                  clear I
                  go_wp2_with fail
                  go_roundw
                  case rel => exact ⟨⟨j + 1, by omega, by go_num, m, S, gs, off, cs, rfl, hmn, I1.out, O.out, MB.out, hle⟩, G.out⟩
                  case measure => simp [intOf]; omega
              · have I1 := Lib.hid (I.out.skip HX.out (.inl (fun h => by unfold isOpen at h; rw [HS.out] at h; cases h)))
                clear I
                go_wp2_with fail
                go_roundw
                case rel => exact ⟨⟨j + 1, by omega, by go_num, m, S, gs, off, cs, rfl, hmn, I1.out, O.out, MB.out, hle⟩, G.out⟩
                case measure => simp [intOf]; omega
            · obtain rfl : j = l.length := by omega
              have ID := Lib.hid (I.out.done (by rw [AD.out]; exact Nat.le_refl _))
              clear hjl I
              go_wp2_with fail
              go_roundw
              case rel => exact ⟨⟨m, S, gs, off, cs, rfl, hmn, ID.out, O.out, MB.out, by omega⟩, G.out⟩
              case measure => rw [falses_at MB.out]; simp only [sliceLen] at HD ⊢; have := HD.out; omega
        · have OP := Lib.hid (O.out.tail hc1)
          have hc2 : 1 ≤ cs := by omega
          have hc3 : (1 : Int) ≤ cs := by omega
          have hc4 : (S'.length : Int) + 1 ≤ cs := by omega
          have hc5 : ¬ (cs : Int) = 1 := by omega
          clear O
          go_wp2_with fail
          go_loopw [8, 10, 11] (fun o i _ wq => (∃ j : Nat, j ≤ l.length ∧ i = .int .i64 j ∧ RIn g s n v u j w.heap.size (unmarked m + S'.length) o wq) ∧ w.grownBy wq none) (fun _ i _ _ => l.length - (intOf i).toNat)
          case atStart => exact ⟨⟨0, by omega, rfl, m, S', gs, off + 1, cs - 1, rfl, hmn, IP.out, OP.out, MB.out, Nat.le_refl _⟩, G.out⟩
          case round =>
            clear OP IP MB G e0 zG
            obtain ⟨⟨j, hj, rfl, m, S, gs, off, cs, rfl, hmn, hI, hO, hB, hle⟩, hG⟩ := hrel
            have O := Lib.hid hO
            have I := Lib.hid hI
            have MB := Lib.hid hB
            have G := Lib.hid hG
            have zG := hG.size
            obtain ⟨hcs1, hcs2⟩ : S.length ≤ cs ∧ cs ≤ 9223372036854775807 := by
              obtain ⟨_, _, _, he, k1, k2, _⟩ := hO.shape
              obtain ⟨_, rfl⟩ : _ ∧ cs = _ := by simpa using he
              exact ⟨k1, k2⟩
            have hzb := lt_of_at hB
            have c0 := (grown_cell hG zb (by simp)).trans C0.out
            have zb' := Nat.lt_of_lt_of_le zb zG
            clear hO hI hB hG
            by_cases hjl : j < l.length
            · obtain ⟨x, hx⟩ : ∃ x, l[j]? = some x := ⟨_, List.getElem?_eq_getElem hjl⟩
              obtain ⟨m1, m2, m3⟩ := MEM.out x (by rw [AD.out]; exact List.mem_of_getElem? hx)
              rw [L.out] at m2
              obtain ⟨y, rfl⟩ : ∃ y : Nat, x = y := ⟨x.toNat, by omega⟩
              have hyn : y < n := by omega
              obtain ⟨bb, oo, rfl, zbb, d0⟩ := (RowIn.kept RW.out G.out).int hx
              obtain ⟨sy, hsy⟩ : ∃ b, s[y]? = some b := ⟨_, List.getElem?_eq_getElem (by rw [LS.out]; exact hyn)⟩
              obtain ⟨b1', o1', he, zb1'', d3⟩ := (RowIn.kept S0.out G.out).bool hsy
              obtain ⟨rfl, rfl⟩ : b1 = b1' ∧ o1 = o1' := by simpa using he
              obtain ⟨my, hmy⟩ : ∃ b, m[y]? = some b := ⟨_, List.getElem?_eq_getElem (by rw [hmn]; exact hyn)⟩
              have q1 : wr.cell? ⟨w.heap.size, y, none⟩ = some (.bool my) := by rw [cell_at MB.out]; simp [bools, hmy]
              have q2 : wr.frozen? ⟨w.heap.size, y, none⟩ = false := free_at MB.out
              have HX : Hid ((adj g u)[j]? = some (y : Int)) := Lib.hid (by rw [AD.out]; exact hx)
              have HS := Lib.hid hsy
              have HM := Lib.hid hmy
              have hj' : (j : Int) < (l.length : Int) := by omega
              have hyi2 : (y : Int) < n := by omega
              clear hx hsy hmy he
              cases sy
              · cases my
                · have O1 := Lib.hid ((O.out.kept (grown_set (p := ⟨w.heap.size, y, none⟩) (.bool true) (grown_refl wr (some w.heap.size)) (.inr rfl)) (fun b hb => by obtain rfl := Option.some.inj hb; omega)).kept (grown_alloc (.cells #[.int .i64 y] 3) (grown_refl _ none)) (by simp))
                  have MB1 := Lib.hid (at_set (j := y) (.bool true) MB.out)
                  have G1 := Lib.hid (grown_set (p := ⟨w.heap.size, y, none⟩) (.bool true) G.out (.inl (Nat.le_refl _)))
                  have zz : (wr.setCell ⟨w.heap.size, y, none⟩ (.bool true)).heap.size = wr.heap.size := by simp
                  have hum := unmarked_set HM.out
                  have hSl : S.length + 1 ≤ 24 := by omega
                  rw [bools_arr_set] at MB1
                  have HC : Hid (((wr.setCell ⟨w.heap.size, y, none⟩ (.bool true)).alloc (.cells #[.int .i64 y] 3)).cell? ((⟨wr.heap.size, 0, none⟩ : Addr).add 0) = some (.int .i64 y)) := Lib.hid (by
                    rw [Addr.add_lit, cell_at (by rw [← zz]; exact at_new _ _)]; rfl)
                  clear O MB G
                  go_wp2_with (at_builtin; refine wpList_append_que rfl (.tmp 64) (.tmp 66) rfl rfl O1.out rfl HC.out (by omega) (by simp; omega) ?_)
                  intro v' w3 hown3 hg3
                  obtain ⟨g3, of3, cp3, rfl, _, _, _⟩ := hown3.shape
                  have NB : ∀ b, b < w.heap.size + 1 → some b ≠ (Value.slice (some ⟨gs, off, none⟩) S.length cs).ownBlock := fun b hb e => by have := (O1.out.lt b e.symm).1; omega
                  have MB3 := Lib.hid (grown_at hg3 (at_alloc (.cells #[.int .i64 y] 3) MB1.out) (NB _ (by omega)))
                  have G3 := Lib.hid (grown_own (grown_alloc (.cells #[.int .i64 y] 3) G1.out) hg3 (fun g hg => by have := (O1.out.lt g hg).1; omega))
                  have O3 := Lib.hid hown3
                  have I3 := Lib.hid (I.out.mark (S' := S ++ [(y : Int)]) HX.out HS.out HM.out (fun z => by simp))
                  clear hown3 hg3 O1 MB1 G1 NB I zz q1 q2 HC c0
                  go_wp2_with fail
                  go_roundw
                  case rel => exact ⟨⟨j + 1, by omega, by go_num, m.set y true, S ++ [(y : Int)], g3, of3, cp3, by simp, by simpa using hmn, I3.out, by simpa using O3.out, MB3.out, by simp; omega⟩, G3.out⟩
                  case measure => simp [intOf]; omega
                · have I1 := Lib.hid (I.out.skip HX.out (.inr HM.out))
                  clear I
                  go_wp2_with fail
                  go_roundw
                  case rel => exact ⟨⟨j + 1, by omega, by go_num, m, S, gs, off, cs, rfl, hmn, I1.out, O.out, MB.out, hle⟩, G.out⟩
                  case measure => simp [intOf]; omega
              · have I1 := Lib.hid (I.out.skip HX.out (.inl (fun h => by unfold isOpen at h; rw [HS.out] at h; cases h)))
                clear I
                go_wp2_with fail
                go_roundw
                case rel => exact ⟨⟨j + 1, by omega, by go_num, m, S, gs, off, cs, rfl, hmn, I1.out, O.out, MB.out, hle⟩, G.out⟩
                case measure => simp [intOf]; omega
            · obtain rfl : j = l.length := by omega
              have ID := Lib.hid (I.out.done (by rw [AD.out]; exact Nat.le_refl _))
              clear hjl I
              go_wp2_with fail
              go_roundw
              case rel => exact ⟨⟨m, S, gs, off, cs, rfl, hmn, ID.out, O.out, MB.out, by omega⟩, G.out⟩
              case measure => rw [falses_at MB.out]; simp only [sliceLen] at HD ⊢; have := HD.out; omega
  · have hrow := Lib.hid (rowIn_block (n := n) (size := 1) M2.out (by simp [bools]) (by unfold maxLen; omega))
    have N := Lib.hid (none_marked (g := g) (s := s) (v := v) (N := n) (fun h => by unfold isOpen at h; rw [SV.out] at h; cases h))
    go_wp2_with fail
    exact bodyPost_ret (v := .slice (some ⟨w.heap.size, 0, none⟩) n n) (by simp [results, Try.results31, go_sem]) rfl ⟨_, _, _, rfl, Nat.le_refl _, by unfold maxLen; omega, (fun h => by cases h), by simp, N.out, by simpa using hrow.out, G2.out⟩
end Go.Proofs.Ytidilepbepkpiaa
