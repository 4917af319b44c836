/- The walk of ArbiterFair (under way). -/
import Derived.Test.YtfdnbkclpnaijaaArAdd
import Derived.Test.YtfdnbkclpnaijaaArLaw
import Derived.Test.YtfdnbkclpnaijaaArKnown
import Derived.Test.YtfdnbkclpnaijaaMade
namespace Go.Proofs.Ytfdnbkclpnaijaa
open Go.RowKit
set_option linter.unusedVariables false

/-- q holds the tasks ts, in memory behind block O. -/
def QAt (O : Nat) (w : World) (q : Value) (ts : List Tk) : Prop := ∃ a cap, q = .slice a ts.length cap ∧ RowIn w a ts.length 5 (flat ts) ∧ (a = none → cap = 0) ∧ ts.length ≤ cap ∧ cap ≤ maxLen ∧ ∀ x, a = some x → O < x.block
theorem QAt.kept {O : Nat} {w W : World} {q : Value} {ts : List Tk} {r : Option Nat} (h : QAt O w q ts) (hg : w.grownBy W r) (hr : ∀ b, r = some b → b ≤ O) : QAt O W q ts := by
  obtain ⟨a, cap, h1, h2, h3, h4, h5, h6⟩ := h
  exact ⟨a, cap, h1, h2.kept_but hg (fun x hx e => by have := h6 x hx; have := hr _ e.symm; omega), h3, h4, h5, h6⟩
theorem qAt_owns {O n : Nat} {w : World} {base : Nat} {v : Value} {ts : List Tk} (h : w.ownsRow base 31 5 v n (flat ts)) (hn : ts.length = n) (hO : O < base) : QAt O w v ts := by
  subst hn
  rcases h.2 with ⟨rfl, h0⟩ | ⟨g, cap, cur, rfl, hb, hg, h1, h2, h3, h4⟩
  · obtain ⟨a, c, he, _, _, hr⟩ := rowIn_owns h
    rw [h0] at hr he
    exact ⟨none, 0, by rw [h0], by rw [h0]; exact ⟨by have := h.1; rw [h0] at this; exact this, Nat.zero_le _, .inl rfl⟩, fun _ => rfl, by omega, Nat.zero_le _, fun x hx => by cases hx⟩
  · obtain ⟨a, c, he, _, _, hr⟩ := rowIn_owns h
    obtain ⟨rfl, rfl⟩ : some ⟨g, 0, none⟩ = a ∧ cap = c := by simpa using he
    exact ⟨_, _, rfl, hr, (fun h => by cases h), h1, h2, fun x hx => by obtain rfl := Option.some.inj hx; show O < g; omega⟩
theorem Try.info_int : (Try.prog.info? 3).map (fun i => (i.zero, i.size, i.bytes)) = some (some (.int .i64 0), 1, 8) := by kernel_rfl
theorem Try.info_bool : (Try.prog.info? 4).map (fun i => (i.zero, i.size, i.bytes)) = some (some (.bool false), 1, 1) := by kernel_rfl
theorem St_bool : SliceT Try.prog 32 4 (.bool false) 1 1 := .mk' Try.underlying32 Try.info_bool rfl (by decide)

theorem ownR_of_slice {w : World} {base e size n c g : Nat} {xs : List Value} (h : w.ownsRow base e size (.slice (some ⟨g, 0, none⟩) n c) n xs) : OwnR w g c n e size xs ∧ base ≤ g := by
  rcases h.2 with ⟨h1, _⟩ | ⟨g', cap, cur, hv, hb, hg, h1, h2, h3, h4⟩
  · cases h1
  · simp only [Value.slice.injEq, Option.some.injEq, Addr.mk.injEq, and_true, true_and] at hv
    obtain ⟨rfl, rfl⟩ := hv
    exact ⟨⟨cur, hg, h1, h2, h3, h4⟩, hb⟩
theorem ownR_whole {w : World} {g n : Nat} {e : TypeId} {xs : List Value} (h : OwnR w g n n e 1 xs) : w.heap[g]? = some (.cells xs.toArray e (0, 0)) := by
  obtain ⟨cur, h1, h2, h3, h4, h5⟩ := h
  rw [Nat.mul_one] at h4 h5
  rw [List.take_of_length_le (by simp [h4])] at h5
  rw [h1, ← h5]
theorem made_zeros (n : Nat) : (madeCells #[Value.int .i64 0] n).toList = ints (List.replicate n 0) := by
  unfold ints
  rw [List.map_replicate]
  apply List.ext_getElem?
  intro j
  simp only [madeCells, List.getElem?_replicate]
  by_cases h : j < n
  · simp only [h, if_pos]; simp [h, Nat.mod_one]
  · simp [h]
theorem ints_set (l : List Int) (i : Nat) (x : Int) : ((ints l).toArray).setIfInBounds i (.int .i64 x) = (ints (l.set i x)).toArray := by
  simp [ints, List.map_set]

theorem rowIn_owns_far {w : World} {base e size n : Nat} {v : Value} {xs : List Value} (h : w.ownsRow base e size v n xs) : ∃ a cap, v = .slice a n cap ∧ n ≤ cap ∧ cap ≤ maxLen ∧ RowIn w a n size xs ∧ ∀ x, a = some x → base ≤ x.block := by
  obtain ⟨a, cap, he, h1, h2, h3⟩ := rowIn_owns h
  refine ⟨a, cap, he, h1, h2, h3, fun x hx => ?_⟩
  subst he hx
  rcases h.2 with ⟨h, _⟩ | ⟨g, cap', cur, h, hb, _⟩
  · cases h
  · simp only [Value.slice.injEq, Option.some.injEq] at h
    rw [h.1]; exact hb
theorem startTs_len {ts : List Tk} {k : Nat} {r : Int} (h : k < ts.length) : (startTs ts k r).length = ts.length := by
  unfold startTs
  rw [List.getElem?_eq_getElem h]
  simp [bump]
  omega
theorem addE_len {ts : List Tk} {limit : Int} (h : addE ts limit = 0) (h32 : ts.length ≤ 32) : ts.length < 32 := by
  unfold addE at h
  split at h
  · cases h
  · split at h
    · cases h
    · split at h
      · cases h
      · omega
/-- The state at the head of the loop: B is the tape's block, O that of the counts. -/
def FairAt (B O : Nat) (ad : Option Addr) (len cap : Nat) (zs : List Int) (m : Int) (k : Nat) (q : Value) (w : World) : Prop :=
  ∃ (ts : List Tk) (os : List Int) (kt : Nat), QAt O w q ts ∧ w.heap[O]? = some (.cells (ints os).toArray 3 (0, 0)) ∧ FairQ m ts os ∧ kt ≤ 40 * k ∧ TapeAt w B 28 ad len cap zs kt

set_option maxRecDepth 100000 in
set_option maxHeartbeats 6400000 in
theorem ArbiterFair_walk (a0 : Option Addr) (len0 cap0 : Nat) (z0 : List Int) (a1 : Int) (w : World)
    (w0 : IsRow .i64 w a0 len0 cap0 z0) (w1 : (Lit.int .i64 a1).wf = true) :
    Calls Try.prog 4 #[.slice a0 len0 cap0, .int .i64 a1] w fun e w' => e = .returned (.bool true) ∧ Below w.heap.size w w' := by
  have r0 := Lib.hid w0
  obtain ⟨ba, bb⟩ := wf_i64 w1
  obtain ⟨i0, hi, hz0, hz1, hz2⟩ := info_parts Try.info_int
  have hib := Lib.hid hi
  have hib0 := Lib.hid hz0
  have hib1 := Lib.hid hz1
  have hib2 := Lib.hid hz2
  obtain ⟨m, hm, hm5⟩ : ∃ m : Int, m = cut a1 5 ∧ 0 ≤ m ∧ m < 5 := ⟨_, rfl, cut_in a1 5 (by omega)⟩
  have Hm := Lib.hid hm
  obtain ⟨m0, m5⟩ := hm5
  clear w0 w1 hi hz0 hz1 hz2 hm
  go_enter Try.func4, Try.ntmps4
  go_wp2_with fail
  refine (known_any _).mono ?_
  rintro e w1 ⟨rfl, hg1⟩
  have T1 := Lib.hid (tape_new r0.out hg1 28)
  have G1 : Hid (w.grownBy (w1.alloc (.cells #[.slice a0 len0 cap0, .int .i64 0] 28)) none) := Lib.hid (grown_alloc _ hg1)
  have z1 := hg1.size
  clear hg1 r0
  go_wp2_with fail
  refine (Cut_any _ _ _ ba bb (by omega) (by omega)).mono ?_
  rintro e w' ⟨rfl, rfl⟩
  rw [← Hm.out]
  go_wp2_with (at_make; refine wpList_make_full _ rfl _ _ 22 rfl (w1.heap.size + 1) 3 i0 _ 1 Try.underlying22 hib.out hib0.out hib1.out .i64 .i64 _ _ 32 rfl rfl (by omega) (by omega) (by rw [hib2.out]; omega) (by unfold maxLen; omega) (by simp) ?_)
  intro W2 hC hg2
  rw [made_zeros] at hC
  obtain ⟨hO, _⟩ := ownR_of_slice hC
  have F0 : Hid (FairAt w1.heap.size (w1.heap.size + 1) a0 len0 cap0 (z0.take len0) m 0 (.slice none 0 0) W2 ∧ w.grownBy W2 none) := Lib.hid ⟨⟨[], List.replicate 32 0, 0, ⟨none, 0, rfl, ⟨rfl, Nat.zero_le _, .inl rfl⟩, fun _ => rfl, Nat.le_refl _, Nat.zero_le _, fun x hx => by cases hx⟩, ownR_whole hO, FairQ.begin m, by omega, T1.out.other hg2⟩, grown_trans G1.out hg2⟩
  clear hC hO hg2 T1 G1 hib hib0 hib1 hib2
  go_wp2_with fail
  go_loopw [7, 9] (fun q i wr => ∃ k : Nat, k ≤ 30 ∧ i = .int .i64 k ∧ FairAt w1.heap.size (w1.heap.size + 1) a0 len0 cap0 (z0.take len0) m k q wr ∧ w.grownBy wr none) (fun _ i _ => 30 - (intOf i).toNat)
  case atStart => exact ⟨0, by omega, rfl, F0.out.1, F0.out.2⟩
  case round =>
    obtain ⟨k, hk, rfl, ⟨ts, os, kt, ⟨a, cap, rfl, hR, hN, hc1, hc2, hb⟩, hB, hF, hkt, hT⟩, hG⟩ := hrel
    have KR : Hid (RowIn wr a ts.length 5 (flat ts)) := Lib.hid hR
    have KB := Lib.hid hB
    have KF := Lib.hid hF
    have KT := Lib.hid hT
    have KG := Lib.hid hG
    have KN := Lib.hid hN
    have Kb := Lib.hid hb
    have zO := lt_of_at hB
    have h32 := hF.len
    unfold maxLen at hc2
    clear hR hB hF hT hG hN hb F0
    by_cases hk30 : k < 30
    · have hk' : (k : Int) < 30 := by omega
      go_wp2_with fail
      refine (Next_in _ _ _ _ _ _ _ 2 _ KT.out (by omega) (by omega) (by omega)).mono ?_
      rintro e w3 ⟨x, rfl, x0, x1, hT3, hg3⟩
      have R3 : Hid (RowIn w3 a ts.length 5 (flat ts)) := Lib.hid (KR.out.kept_but hg3 (fun x hx e => by have := Kb.out x hx; have := Option.some.inj e; omega))
      have B3 := Lib.hid (grown_at hg3 KB.out (by simp))
      have T3 := Lib.hid hT3
      have G3 : Hid (w.grownBy w3 none) := Lib.hid (grown_own KG.out hg3 (fun g hg => by obtain rfl := Option.some.inj hg; exact z1))
      have zO3 := Nat.lt_of_lt_of_le zO hg3.size
      clear KR KB KT KG hT3 hg3
      by_cases hx : x = 0
      · subst hx
        go_wp2_with fail
        refine (AddP_any a ts.length cap ts 5 0 0 _ R3.out rfl KN.out).mono ?_
        rintro e w4 ⟨hg4, hP⟩
        have R4 := keep hg4 R3
        have B4 := keep hg4 B3
        have T4 := Lib.hid (T3.out.other hg4)
        have G4 := keep hg4 G3
        have z4 := hg4.size
        by_cases hE : addE ts 5 = 0
        · rw [if_pos hE] at hP
          obtain ⟨v, rfl, hown⟩ := hP
          have hl32 : ts.length < 32 := addE_len hE h32
          have FA := Lib.hid (KF.out.add hl32 m0)
          have QA := Lib.hid (qAt_owns (O := w1.heap.size + 1) hown (by simp) zO3)
          obtain ⟨a', cap', rfl, _, _, _, _, _⟩ := id QA.out
          simp only [List.length_append, List.length_singleton] at QA ⊢
          clear hown hg4 hE R3 B3 T3 G3 R4
          go_wp2_with fail
          go_roundw
          case rel => exact ⟨k + 1, by omega, by go_num, ⟨_, os, kt + 1, QA.out, B4.out, FA.out, by omega, T4.out⟩, G4.out⟩
          case measure => simp [intOf]; omega
        · rw [if_neg hE] at hP
          subst hP
          have hE' : (addE ts 5 == 0) = false := by simpa using hE
          clear hg4 R3 B3 T3 G3
          go_wp2_with fail
          go_roundw
          case rel => exact ⟨k + 1, by omega, by go_num, ⟨ts, os, kt + 1, ⟨a, cap, rfl, R4.out, KN.out, hc1, by unfold maxLen; omega, Kb.out⟩, B4.out, KF.out, by omega, T4.out⟩, G4.out⟩
          case measure => simp [intOf]; omega
      · have hx1 : x = 1 := by omega
        subst hx1
        clear hx
        go_wp2_with fail
        go_loopw [13, 14] (fun c i wr2 => ∃ (j : Nat) (cs : List Bool), i = .int .i64 j ∧ j ≤ ts.length ∧ cs.length = j ∧ wr2.ownsRow w3.heap.size 4 1 c j (bools cs) ∧ TapeAt wr2 w1.heap.size 28 a0 len0 cap0 (z0.take len0) (kt + 1 + j) ∧ w3.grownBy wr2 (some w1.heap.size)) (fun _ i _ => ts.length - (intOf i).toNat)
        case atStart => exact ⟨0, [], rfl, Nat.zero_le _, rfl, World.ownsRow_nil _ _ _ _, T3.out, grown_refl _ _⟩
        case round =>
          obtain ⟨j, cs, rfl, hj, hcs, hown, htj, hgj⟩ := hrel
          have OJ := Lib.hid hown
          have TJ := Lib.hid htj
          have GJ := Lib.hid hgj
          have zj := hgj.size
          clear hown htj hgj
          by_cases hjl : j < ts.length
          · have hjl' : (j : Int) < ts.length := by omega
            go_wp2_with fail
            refine (Next_in _ _ _ _ _ _ _ 3 _ TJ.out (by omega) (by omega) (by omega)).mono ?_
            rintro e w5 ⟨y, rfl, y0, y1, hT5, hg5⟩
            have O5 := Lib.hid (OJ.out.kept hg5 (.inr (owns_not OJ.out (by omega))))
            have T5 := Lib.hid hT5
            have G5 := Lib.hid (grown_trans GJ.out hg5)
            have z5 := hg5.size
            clear hT5 hg5
            go_wp2_with (at_builtin; refine wpList_append_in St_bool rfl (.tmp 62) (.tmp 66) rfl rfl (O5.out.alloc (.cells #[.bool (decide (0 < y))] 4)) rfl (news := bools [decide (0 < y)]) (rowIn_block (n := 1) (size := 1) (at_new _ _) rfl (by unfold maxLen; omega)) (fun h => by cases h) (bools_one _) ?c1 ?c2 ?c3 ?_)
            case c1 => unfold maxLen; omega
            case c2 => omega
            case c3 => first | omega | (simp; omega)
            intro v' w6 hown6 hg6 hloc
            clear hloc
            have O6 : Hid (w6.ownsRow w3.heap.size 4 1 v' (j + 1) (bools (cs ++ [decide (0 < y)]))) := Lib.hid (by unfold bools at hown6 ⊢; rw [List.map_append]; exact hown6)
            have T6 := Lib.hid ((T5.out.above (grown_alloc (.cells #[.bool (decide (0 < y))] 4) (grown_refl w5 none)) (by simp)).above hg6 (fun g hg => by have := (O5.out.lt g hg).1; omega))
            have G6 := Lib.hid (grown_tape (grown_alloc (.cells #[.bool (decide (0 < y))] 4) G5.out) hg6 (fun g hg => by have := (O5.out.lt g hg); omega))
            clear hown6 hg6 O5 T5 G5 OJ TJ GJ
            go_wp2_with fail
            go_roundw
            case rel => exact ⟨j + 1, _, by go_num, by omega, by simp [hcs], O6.out, T6.out, G6.out⟩
            case measure => simp [intOf]; omega
          · obtain rfl : j = ts.length := by omega
            obtain ⟨ac, capc, rfl, hcc, hcm, hrow, hfar⟩ := rowIn_owns_far OJ.out
            have FAR := Lib.hid hfar
            clear hfar
            have C6 : Hid (RowIn wr ac ts.length 1 (bools cs)) := Lib.hid hrow
            have R6 : Hid (RowIn wr a ts.length 5 (flat ts)) := Lib.hid (R3.out.kept_but GJ.out (fun x hx e => by have := Kb.out x hx; have := Option.some.inj e; omega))
            have B6 := Lib.hid (grown_at GJ.out B3.out (by simp))
            have G6 : Hid (w.grownBy wr none) := Lib.hid (grown_own G3.out GJ.out (fun g hg => by obtain rfl := Option.some.inj hg; exact z1))
            have HCS := Lib.hid hcs
            clear hrow R3 B3 T3 G3 OJ GJ hcs
            go_wp2_with fail
            refine (ChooseP_ok a ts.length cap ts ac capc cs m _ R6.out rfl (KF.out.valid (by omega)) C6.out (by omega) (by omega)).mono ?_
            rintro e w7 ⟨rfl, hg7⟩
            have R7 := keep hg7 R6
            have C7 := keep hg7 C6
            have B7 := keep hg7 B6
            have T7 := Lib.hid (TJ.out.other hg7)
            have G7 := keep hg7 G6
            have z7 := hg7.size
            clear R6 C6 B6 TJ G6 hg7
            rcases nextI_spec (ag := m) 0 HCS.out with hn | ⟨c, t0, hn, ht0, hc0, hs0, hlt⟩
            · rw [hn]
              clear hn
              go_wp2_with fail
              go_roundw
              case rel => exact ⟨k + 1, by omega, by go_num, ⟨ts, os, kt + 1 + ts.length, ⟨a, cap, rfl, R7.out, KN.out, hc1, by unfold maxLen; omega, Kb.out⟩, B7.out, KF.out, by omega, T7.out⟩, G7.out⟩
              case measure => simp [intOf]; omega
            · rw [hn, Nat.zero_add]
              clear hn
              have hct : c < ts.length := (List.getElem?_eq_some_iff.1 ht0).1
              have HT0 := Lib.hid ht0
              have HLT := Lib.hid hlt
              have hci : (c : Int) < ts.length := by omega
              have hcf : decide ((c : Int) < 0) = false := by simp
              have hcg : decide ((c : Int) ≥ (ts.length : Int)) = false := by simp; omega
              obtain ⟨bc, oc, rfl, hbc, cc⟩ := C7.out.bool hc0
              obtain ⟨b, off, rfl, c0, c1, c2, c3, c4⟩ := task_at R7.out ht0
              rw [hs0] at c2
              clear ht0 hlt hc0
              go_wp2_with fail
              clear cc c0 c1 c2 c3 c4
              go_loopw [17] (fun i wr2 => ∃ (j : Nat) (os' : List Int), i = .int .i64 j ∧ j ≤ c ∧ wr2.heap[w1.heap.size + 1]? = some (.cells (ints os').toArray 3 (0, 0)) ∧ BumpO ts os j os' ∧ w7.grownBy wr2 (some (w1.heap.size + 1))) (fun i _ => c - (intOf i).toNat)
              case atStart => exact ⟨0, os, rfl, Nat.zero_le _, B7.out, BumpO.zero KF.out.os32, grown_refl _ _⟩
              case round =>
                obtain ⟨j, os', rfl, hj, hB, hM, hg⟩ := hrel
                have B8 := Lib.hid hB
                have M8 := Lib.hid hM
                have G8 := Lib.hid hg
                have z8 := hg.size
                have R8 : Hid (RowIn wr (some ⟨b, off, none⟩) ts.length 5 (flat ts)) := Lib.hid (R7.out.kept_but hg (fun x hx e => by have := Kb.out x hx; have := Option.some.inj e; omega))
                have H32 := Lib.hid hM.1
                clear hB hM hg
                by_cases hjc : j < c
                · have hjci : (j : Int) < (c : Int) := by omega
                  have hjn : (j : Int) < (ts.length : Int) := by omega
                  obtain ⟨t, ht⟩ : ∃ t, ts[j]? = some t := ⟨_, List.getElem?_eq_getElem (by omega)⟩
                  obtain ⟨b', off', he, d0, d1, d2, d3, d4⟩ := task_at R8.out ht
                  obtain ⟨rfl, rfl⟩ : b = b' ∧ off = off' := by simpa using he
                  obtain ⟨f1, f2, f3, f4, f5, f6⟩ := KF.out.each j t ht
                  have hos : os'[j]? = some t.over := by
                    have := M8.out.2 j _ f6
                    rwa [if_neg (by omega)] at this
                  have HOS := Lib.hid hos
                  have q1 : wr.cell? ⟨w1.heap.size + 1, j, none⟩ = some (.int .i64 t.over) := by
                    rw [cell_at B8.out]
                    simp [ints, hos]
                  have q2 : wr.frozen? ⟨w1.heap.size + 1, j, none⟩ = false := free_at B8.out
                  have hos' : j < os'.length := (List.getElem?_eq_some_iff.1 hos).1
                  have HT := Lib.hid ht
                  clear ht hos he
                  by_cases h0 : t.state = 0
                  · obtain ⟨hcf, hov⟩ := HLT.out j t hjc HT.out h0
                    have hq : Hid (isQ ts j = true) := Lib.hid (by unfold isQ; rw [HT.out]; simp [h0])
                    have C8 : Hid (RowIn wr (some ⟨bc, oc, none⟩) ts.length 1 (bools cs)) := Lib.hid (C7.out.kept_but G8.out (fun x hx e => by have := FAR.out x hx; have := Option.some.inj e; omega))
                    obtain ⟨bc', oc', he', hbc', cc⟩ := C8.out.bool hcf
                    obtain ⟨rfl, rfl⟩ : bc = bc' ∧ oc = oc' := by simpa using he'
                    have hov' : decide (t.over + 1 > m) = false := by simp; omega
                    have BN : Hid ((wr.setCell ⟨w1.heap.size + 1, j, none⟩ (.int .i64 (t.over + 1))).heap[w1.heap.size + 1]? = some (.cells (ints (os'.set j (t.over + 1))).toArray 3 (0, 0))) := Lib.hid (by rw [at_set _ B8.out, ints_set])
                    have MN := Lib.hid (M8.out.up hq.out f6)
                    have GN := Lib.hid (grown_set (p := ⟨w1.heap.size + 1, j, none⟩) (.int .i64 (t.over + 1)) G8.out (.inr rfl))
                    rw [h0] at d2
                    clear hcf he' h0
                    go_wp2_with fail
                    go_roundw
                    case rel => exact ⟨j + 1, _, by go_num, by omega, BN.out, MN.out, GN.out⟩
                    case measure => simp [intOf]; omega
                  · have h0b : (t.state == 0) = false := by simpa using h0
                    have hq : Hid (isQ ts j = false) := Lib.hid (by unfold isQ; rw [HT.out]; simp [h0])
                    have MN := Lib.hid (M8.out.skip hq.out)
                    clear h0
                    go_wp2_with fail
                    go_roundw
                    case rel => exact ⟨j + 1, _, by go_num, by omega, B8.out, MN.out, G8.out⟩
                    case measure => simp [intOf]; omega
                · obtain rfl : j = c := by omega
                  have hsl : Hid ((startTs ts j 0).length = ts.length) := Lib.hid (startTs_len (by omega))
                  have FS := Lib.hid (KF.out.start HT0.out hs0 (fun i t hi h1 h2 => (HLT.out i t hi h1 h2).2) M8.out)
                  have TT := Lib.hid (T7.out.above G8.out (fun g hg => by obtain rfl := Option.some.inj hg; omega))
                  have GG : Hid (w.grownBy wr none) := Lib.hid (grown_own G7.out G8.out (fun g hg => by obtain rfl := Option.some.inj hg; omega))
                  clear B7 T7 G7 G8 M8 R7 C7
                  go_wp2_with fail
                  refine (StartP_ok (some ⟨b, off, none⟩) ts.length cap ts j t0 0 _ R8.out rfl (KF.out.valid (by omega)) HT0.out hs0 (by omega) (by omega)).mono ?_
                  rintro e w9 ⟨g, cp, rfl, hgb, hOT, hg9⟩
                  have B9 := keep hg9 B8
                  have T9 := Lib.hid (TT.out.other hg9)
                  have G9 := keep hg9 GG
                  have OT := Lib.hid hOT
                  have z9 := hg9.size
                  have hgl := hOT.lt
                  obtain ⟨_, _, hcp1, hcp2, _⟩ := id hOT
                  unfold maxLen at hcp2
                  clear hg9 hOT B8 TT GG R8
                  go_wp2_with fail
                  go_loopw [20] (fun i wr2 => ∃ y : Nat, i = .int .i64 y ∧ y ≤ ts.length ∧ w9.grownBy wr2 none) (fun i _ => ts.length - (intOf i).toNat)
                  case atStart => exact ⟨0, rfl, Nat.zero_le _, grown_refl _ _⟩
                  case round =>
                    obtain ⟨y, rfl, hy, hgy⟩ := hrel
                    have OY : Hid (OwnT wr g cp ts.length (startTs ts j 0)) := Lib.hid (OT.out.kept hgy (by simp))
                    have BY := keep hgy B9
                    have TY := Lib.hid (T9.out.other hgy)
                    have GY := keep hgy G9
                    have hgl' := OY.out.lt
                    have zY := hgy.size
                    have YY := Lib.hid hgy
                    clear hgy OT B9 T9 G9
                    by_cases hyn : y < ts.length
                    · have hyi : (y : Int) < (ts.length : Int) := by omega
                      obtain ⟨u, hu⟩ : ∃ u, (startTs ts j 0)[y]? = some u := ⟨_, List.getElem?_eq_getElem (by rw [hsl.out]; exact hyn)⟩
                      obtain ⟨b', off', he, d0, d1, d2, d3, d4⟩ := task_at OY.out.row hu
                      obtain ⟨rfl, rfl⟩ : g = b' ∧ 0 = off' := by simpa using he
                      simp only [Nat.zero_add] at d0 d1 d2 d3 d4
                      have hos := (FS.out.each y u hu).2.2.2.2.2
                      have q1 : wr.cell? ⟨w1.heap.size + 1, y, none⟩ = some (.int .i64 u.over) := by
                        rw [cell_at BY.out]
                        simp [ints, hos]
                      have h32' := FS.out.os32
                      clear hos hu he
                      go_wp2_with fail
                      go_quiet (fail)
                      go_wp2_with fail
                      go_roundw
                      case rel => exact ⟨y + 1, by go_num, by omega, grown_draw _ YY.out⟩
                      case measure => simp [intOf]; omega
                    · obtain rfl : y = ts.length := by omega
                      go_wp2_with fail
                      go_roundw
                      case rel => exact ⟨k + 1, by omega, by go_num, ⟨startTs ts j 0, os', kt + 1 + ts.length, ⟨some ⟨g, 0, none⟩, cp, by rw [hsl.out], by rw [hsl.out]; exact OY.out.row, (fun h => by cases h), by rw [hsl.out]; exact hcp1, by unfold maxLen; exact hcp2, fun x hx => by obtain rfl := Option.some.inj hx; show w1.heap.size + 1 < g; omega⟩, BY.out, FS.out, by omega, TY.out⟩, GY.out⟩
                      case measure => simp [intOf]; omega
    · obtain rfl : k = 30 := by omega
      go_wp2_with fail
      go_ret
      exact ⟨rfl, grown_below KG.out⟩
end Go.Proofs.Ytfdnbkclpnaijaa
