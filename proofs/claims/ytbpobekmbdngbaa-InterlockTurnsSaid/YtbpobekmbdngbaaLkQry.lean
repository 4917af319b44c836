/- The contracts of Owned, Waits, Chain (program and reference). -/
import Derived.Test.YtbpobekmbdngbaaLkOps
namespace Go.Proofs.Ytbpobekmbdngbaa
open Go.RowKit
set_option linter.unusedVariables false

theorem cell_one {W : World} (x : Value) (T : TypeId) {m : Nat} (hm : m = W.heap.size) : RowIn (W.alloc (.cells #[x] T)) (some ⟨m, 0, none⟩) 1 1 [x] := by
  subst hm
  exact rowIn_block (n := 1) (size := 1) (at_new W _) rfl (by unfold maxLen; omega)
/-- A list of numbers of the call's own and an error are returned. -/
def GiveI (xs : List Int) (err : Int) (w : World) (e : Ending) (w' : World) : Prop := ∃ v, e = .returned (.tuple #[v, .int .i64 err]) ∧ w'.ownsRow w.heap.size 3 1 v xs.length (ints xs) ∧ w.grownBy w' none
theorem errR_zero {l : Lk} {r : Int} (h : errR l r = 0) : VL l ∧ 0 ≤ r ∧ r < 8 := by
  unfold errR at h
  split at h
  · cases h
  · split at h
    · cases h
    · rename_i h1 h2
      exact ⟨valid_iff.1 (by simpa using h1), by omega, by omega⟩
def ownedV (l : Lk) (r : Int) : List Int := if errR l r = 0 then ownedTo l r l.own.length else []
def waitsV (l : Lk) (r : Int) : Int := if errR l r = 0 then waitsL l r else 0
def chainV (l : Lk) (r : Int) : List Int := if errR l r = 0 then chainL l r else []
theorem ownedTo_succ {l : Lk} {r : Int} {k : Nat} {o : Int} (h : l.own[k]? = some o) : ownedTo l r (k + 1) = if o = r then ownedTo l r k ++ [(k : Int)] else ownedTo l r k := by
  have e := oAt_of h
  unfold ownedTo
  rw [List.range_succ, List.filter_append, List.map_append]
  by_cases ho : o = r
  · simp [e, ho]
  · simp [e, ho]
theorem ownedTo_le (l : Lk) (r : Int) (k : Nat) : (ownedTo l r k).length ≤ k := by
  unfold ownedTo
  rw [List.length_map]
  exact Nat.le_trans (List.length_filter_le _ _) (by simp)
/-- A chain under way. -/
structure ChInv (l : Lk) (robot : Int) (r : Int) (out : List Int) : Prop where
  go : chainL l robot = chainGo l robot (9 - out.length) r out
  nodup : out.Nodup
  rob : ∀ x ∈ out, 0 ≤ x ∧ x < 8
theorem ChInv.start (l : Lk) (r : Int) : ChInv l r r [] := ⟨rfl, List.nodup_nil, by simp⟩
theorem ChInv.le {l : Lk} {robot r : Int} {out : List Int} (h : ChInv l robot r out) : out.length ≤ 8 := pig 8 out h.nodup h.rob
theorem ChInv.stop {l : Lk} {robot r : Int} {out : List Int} (h : ChInv l robot r out) (hs : waitsL l r < 0 ∨ oAt l (waitsL l r).toNat = -1 ∨ oAt l (waitsL l r).toNat = robot ∨ oAt l (waitsL l r).toNat ∈ out) : chainL l robot = out := by
  have hl := h.le
  obtain ⟨m, hm⟩ : ∃ m, 9 - out.length = m + 1 := ⟨8 - out.length, by omega⟩
  rw [h.go, hm, chainGo]
  by_cases h1 : waitsL l r < 0
  · rw [if_pos h1]
  · rw [if_neg h1, if_pos (hs.resolve_left h1)]
theorem ChInv.next {l : Lk} {robot r o : Int} {out : List Int} (h : ChInv l robot r out) (h1 : ¬ waitsL l r < 0) (ho : oAt l (waitsL l r).toNat = o) (h2 : o ≠ -1) (h3 : o ≠ robot) (h4 : o ∉ out) (hb : -1 ≤ o ∧ o < 8) : ChInv l robot o (out ++ [o]) := by
  have hl := h.le
  have hnd : (out ++ [o]).Nodup := by
    rw [List.nodup_append]
    exact ⟨h.nodup, by simp, fun a ha b hb e => h4 (by simp at hb; rw [← hb, ← e]; exact ha)⟩
  refine ⟨?_, hnd, fun x hx => ?_⟩
  · obtain ⟨m, hm⟩ : ∃ m, 9 - out.length = m + 1 := ⟨8 - out.length, by omega⟩
    rw [h.go, hm, chainGo, if_neg h1, ho, if_neg (fun hh => hh.elim h2 (fun hh => hh.elim h3 h4)), List.length_append]
    congr 1
    simp; omega
  · rcases List.mem_append.1 hx with hx | hx
    · exact h.rob x hx
    · simp at hx; subst hx; omega

def sliceLen : Value → Nat
  | .slice _ n _ => n
  | _ => 0
theorem rowIn_of_owns {w : World} {base e size n c : Nat} {A : Option Addr} {xs : List Value} (h : w.ownsRow base e size (.slice A n c) n xs) : RowIn w A n size xs := by
  obtain ⟨a, cap, he, _, _, hr⟩ := rowIn_owns h
  simp only [Value.slice.injEq, true_and] at he
  rw [he.1]; exact hr

set_option maxRecDepth 100000 in
set_option maxHeartbeats 6400000 in
theorem Owned_any (v : Value) (l : Lk) (r : Int) (w : World) (h : LkV none w v l) :
    Calls Try.prog 41 #[v, .int .i64 r] w (GiveI (ownedV l r) (errR l r) w) := by
  obtain ⟨a1, n1, c1, a2, n2, c2, rfl, h⟩ := h
  obtain ⟨l1, l2, m1, m2⟩ := h.len
  have L1 := Lib.hid l1
  have L2 := Lib.hid l2
  have H := Lib.hid h
  have K0 := keep (grown_alloc (.cells #[.slice a1 n1 c1, .slice a2 n2 c2] 26) (grown_refl w none)) H
  have B0 := Lib.hid (at_new w (.cells #[.slice a1 n1 c1, .slice a2 n2 c2] 26))
  clear h l1 l2
  go_enter Try.func41, Try.ntmps41
  go_wp2_with fail
  refine (checkRobot_any _ l r _ ⟨a1, n1, c1, a2, n2, c2, rfl, K0.out⟩).mono ?_
  rintro e w1 ⟨rfl, hg⟩
  have K1 := keep hg K0
  have B1 := keep hg B0
  have G := Lib.hid (grown_trans (grown_alloc (.cells #[.slice a1 n1 c1, .slice a2 n2 c2] 26) (grown_refl w none)) hg)
  clear hg K0 B0
  by_cases hE : errR l r = 0
  rotate_left
  · have EV : Hid (ownedV l r = []) := Lib.hid (by unfold ownedV; rw [if_neg hE])
    have t1 : (errR l r == 0) = false := beq_eq_false_iff_ne.2 hE
    have t2 : (errR l r != 0) = true := by simp [bne, t1]
    clear hE
    go_wp2_with fail
    go_ret2
    rw [EV.out]
    exact ⟨_, rfl, World.ownsRow_nil _ _ _ _, G.out⟩
  obtain ⟨hv, hr1, hr2⟩ := errR_zero hE
  have VL0 := Lib.hid hv
  have h12 : n2 = n1 := by have := VL0.out.len; rw [L1.out, L2.out] at this; omega
  subst h12
  have hn48 : n2 ≤ 48 := by have := VL0.out.le; rw [L1.out] at this; omega
  have p1 := (rules_at B1.out).1
  have zb := lt_of_at B1.out
  have EV : Hid (ownedV l r = ownedTo l r n2) := Lib.hid (by unfold ownedV; rw [if_pos hE, L1.out])
  have E0 := Lib.hid hE
  rw [hE]
  clear hE hv
  go_wp2_with fail
  clear p1 zb
  go_loopw [7, 8, 9, 19] (fun v _ _ i wr => ∃ k : Nat, k ≤ n2 ∧ i = .int .i64 k ∧ wr.heap[w.heap.size]? = some (.cells #[.slice a1 n2 c1, .slice a2 n2 c2] 26 (0, 0)) ∧ w.grownBy wr none ∧ wr.ownsRow (w.heap.size + 1) 3 1 v (ownedTo l r k).length (ints (ownedTo l r k))) (fun _ _ _ i _ => n2 - (intOf i).toNat)
  case atStart => exact ⟨0, by omega, rfl, B1.out, G.out, World.ownsRow_nil _ _ _ _⟩
  case round =>
    obtain ⟨k, hk, rfl, hB, hG, hO⟩ := hrel
    have B := Lib.hid hB
    have GG := Lib.hid hG
    have O := Lib.hid hO
    have p1 := (rules_at hB).1
    have zb := lt_of_at hB
    clear hB hO hG K1 B1 G
    by_cases hkn : k < n2
    · obtain ⟨o, ho⟩ : ∃ o, l.own[k]? = some o := ⟨_, List.getElem?_eq_getElem (by rw [L1.out]; exact hkn)⟩
      obtain ⟨b1, o1, rfl, zb1, d1⟩ := (keep GG.out H).out.1.1.1.int ho
      have HO := Lib.hid (ownedTo_succ (r := r) ho)
      have hk' : (k : Int) < n2 := by omega
      have hle := ownedTo_le l r k
      clear ho
      by_cases hor : o = r
      · have t1 : (o == r) = true := beq_iff_eq.2 hor
        have HO2 : Hid (ownedTo l r (k + 1) = ownedTo l r k ++ [(k : Int)]) := Lib.hid (by rw [HO.out, if_pos hor])
        subst hor
        go_wp2_with (at_builtin; refine wpList_append_in St_int rfl (.tmp 27) (.tmp 29) rfl rfl (O.out.alloc (.cells #[.int .i64 k] 3)) rfl (cell_one _ _ rfl) (fun h => by cases h) (flat_one rfl) ?c1 ?c2 ?c3 ?_)
        case c1 => unfold maxLen; omega
        case c2 => omega
        case c3 => first | omega | (simp; omega)
        intro v3 w3 hown hg hloc
        clear hloc
        have G3 := Lib.hid (grown_own (grown_alloc (.cells #[.int .i64 k] 3) GG.out) hg (fun m hm => by have := (O.out.lt m hm).1; omega))
        have B3 := Lib.hid (grown_at hg (at_alloc (.cells #[.int .i64 k] 3) B.out) (fun e => by have := (O.out.lt _ e.symm).1; omega))
        have O3 : Hid (w3.ownsRow (w.heap.size + 1) 3 1 v3 (ownedTo l o (k + 1)).length (ints (ownedTo l o (k + 1)))) := Lib.hid (by rw [HO2.out, List.length_append, ← ints_snoc]; exact hown)
        clear hown hg O B GG d1 p1
        go_wp2_with fail
        go_roundw
        case rel => exact ⟨k + 1, by omega, by go_num, B3.out, G3.out, O3.out⟩
        case measure => simp [intOf]; omega
      · have t1 : (o == r) = false := beq_eq_false_iff_ne.2 hor
        have O2 : Hid (wr.ownsRow (w.heap.size + 1) 3 1 u7 (ownedTo l r (k + 1)).length (ints (ownedTo l r (k + 1)))) := Lib.hid (by rw [HO.out, if_neg hor]; exact O.out)
        go_wp2_with fail
        go_roundw
        case rel => exact ⟨k + 1, by omega, by go_num, B.out, GG.out, O2.out⟩
        case measure => simp [intOf]; omega
    · obtain rfl : k = n2 := by omega
      clear hkn
      go_wp2_with fail
      go_ret2
      exact ⟨_, by rw [E0.out]; rfl, by rw [EV.out]; exact own_low O.out (by omega), GG.out⟩

set_option maxRecDepth 100000 in
set_option maxHeartbeats 6400000 in
theorem rOwned_any (v : Value) (l : Lk) (r : Int) (w : World) (h : LkV none w v l) :
    Calls Try.prog 42 #[v, .int .i64 r] w (GiveI (ownedV l r) (errR l r) w) := by
  obtain ⟨a1, n1, c1, a2, n2, c2, rfl, h⟩ := h
  obtain ⟨l1, l2, m1, m2⟩ := h.len
  have L1 := Lib.hid l1
  have L2 := Lib.hid l2
  have H := Lib.hid h
  have K0 := keep (grown_alloc (.cells #[.slice a1 n1 c1, .slice a2 n2 c2] 26) (grown_refl w none)) H
  have B0 := Lib.hid (at_new w (.cells #[.slice a1 n1 c1, .slice a2 n2 c2] 26))
  clear h l1 l2
  go_enter Try.func42, Try.ntmps42
  go_wp2_with fail
  refine (robotOnly_any _ l r _ ⟨a1, n1, c1, a2, n2, c2, rfl, K0.out⟩).mono ?_
  rintro e w1 ⟨rfl, hg⟩
  have K1 := keep hg K0
  have B1 := keep hg B0
  have G := Lib.hid (grown_trans (grown_alloc (.cells #[.slice a1 n1 c1, .slice a2 n2 c2] 26) (grown_refl w none)) hg)
  clear hg K0 B0
  by_cases hE : errR l r = 0
  rotate_left
  · have EV : Hid (ownedV l r = []) := Lib.hid (by unfold ownedV; rw [if_neg hE])
    have t1 : (errR l r == 0) = false := beq_eq_false_iff_ne.2 hE
    have t2 : (errR l r != 0) = true := by simp [bne, t1]
    clear hE
    go_wp2_with fail
    go_ret2
    rw [EV.out]
    exact ⟨_, rfl, World.ownsRow_nil _ _ _ _, G.out⟩
  obtain ⟨hv, hr1, hr2⟩ := errR_zero hE
  have VL0 := Lib.hid hv
  have h12 : n2 = n1 := by have := VL0.out.len; rw [L1.out, L2.out] at this; omega
  subst h12
  have hn48 : n2 ≤ 48 := by have := VL0.out.le; rw [L1.out] at this; omega
  have p1 := (rules_at B1.out).1
  have zb := lt_of_at B1.out
  have EV : Hid (ownedV l r = ownedTo l r n2) := Lib.hid (by unfold ownedV; rw [if_pos hE, L1.out])
  have E0 := Lib.hid hE
  rw [hE]
  clear hE hv
  go_wp2_with fail
  clear p1 zb
  go_loopw [7, 8] (fun v i wr => ∃ k : Nat, k ≤ n2 ∧ i = .int .i64 k ∧ wr.heap[w.heap.size]? = some (.cells #[.slice a1 n2 c1, .slice a2 n2 c2] 26 (0, 0)) ∧ w.grownBy wr none ∧ wr.ownsRow (w.heap.size + 1) 3 1 v (ownedTo l r k).length (ints (ownedTo l r k))) (fun _ i _ => n2 - (intOf i).toNat)
  case atStart => exact ⟨0, by omega, rfl, B1.out, G.out, World.ownsRow_nil _ _ _ _⟩
  case round =>
    obtain ⟨k, hk, rfl, hB, hG, hO⟩ := hrel
    have B := Lib.hid hB
    have GG := Lib.hid hG
    have O := Lib.hid hO
    have p1 := (rules_at hB).1
    have zb := lt_of_at hB
    clear hB hO hG K1 B1 G
    by_cases hkn : k < n2
    · obtain ⟨o, ho⟩ : ∃ o, l.own[k]? = some o := ⟨_, List.getElem?_eq_getElem (by rw [L1.out]; exact hkn)⟩
      obtain ⟨b1, o1, rfl, zb1, d1⟩ := (keep GG.out H).out.1.1.1.int ho
      have HO := Lib.hid (ownedTo_succ (r := r) ho)
      have hk' : (k : Int) < n2 := by omega
      have hle := ownedTo_le l r k
      clear ho
      by_cases hor : o = r
      · have t1 : (o == r) = true := beq_iff_eq.2 hor
        have HO2 : Hid (ownedTo l r (k + 1) = ownedTo l r k ++ [(k : Int)]) := Lib.hid (by rw [HO.out, if_pos hor])
        subst hor
        go_wp2_with (at_builtin; refine wpList_append_in St_int rfl (.tmp 29) (.tmp 31) rfl rfl (O.out.alloc (.cells #[.int .i64 k] 3)) rfl (cell_one _ _ rfl) (fun h => by cases h) (flat_one rfl) ?c1 ?c2 ?c3 ?_)
        case c1 => unfold maxLen; omega
        case c2 => omega
        case c3 => first | omega | (simp; omega)
        intro v3 w3 hown hg hloc
        clear hloc
        have G3 := Lib.hid (grown_own (grown_alloc (.cells #[.int .i64 k] 3) GG.out) hg (fun m hm => by have := (O.out.lt m hm).1; omega))
        have B3 := Lib.hid (grown_at hg (at_alloc (.cells #[.int .i64 k] 3) B.out) (fun e => by have := (O.out.lt _ e.symm).1; omega))
        have O3 : Hid (w3.ownsRow (w.heap.size + 1) 3 1 v3 (ownedTo l o (k + 1)).length (ints (ownedTo l o (k + 1)))) := Lib.hid (by rw [HO2.out, List.length_append, ← ints_snoc]; exact hown)
        clear hown hg O B GG d1 p1
        go_wp2_with fail
        go_roundw
        case rel => exact ⟨k + 1, by omega, by go_num, B3.out, G3.out, O3.out⟩
        case measure => simp [intOf]; omega
      · have t1 : (o == r) = false := beq_eq_false_iff_ne.2 hor
        have O2 : Hid (wr.ownsRow (w.heap.size + 1) 3 1 u7 (ownedTo l r (k + 1)).length (ints (ownedTo l r (k + 1)))) := Lib.hid (by rw [HO.out, if_neg hor]; exact O.out)
        go_wp2_with fail
        go_roundw
        case rel => exact ⟨k + 1, by omega, by go_num, B.out, GG.out, O2.out⟩
        case measure => simp [intOf]; omega
    · obtain rfl : k = n2 := by omega
      clear hkn
      go_wp2_with fail
      go_ret2
      exact ⟨_, by rw [E0.out]; rfl, by rw [EV.out]; exact own_low O.out (by omega), GG.out⟩

set_option maxRecDepth 100000 in
set_option maxHeartbeats 6400000 in
theorem Waits_any (v : Value) (l : Lk) (r : Int) (w : World) (h : LkV none w v l) :
    Calls Try.prog 10 #[v, .int .i64 r] w (fun e w' => e = .returned (.tuple #[.int .i64 (waitsV l r), .int .i64 (errR l r)]) ∧ w.grownBy w' none) := by
  obtain ⟨a1, n1, c1, a2, n2, c2, rfl, h⟩ := h
  obtain ⟨l1, l2, m1, m2⟩ := h.len
  have L1 := Lib.hid l1
  have L2 := Lib.hid l2
  have H := Lib.hid h
  have K0 := keep (grown_alloc (.cells #[.slice a1 n1 c1, .slice a2 n2 c2] 26) (grown_refl w none)) H
  have B0 := Lib.hid (at_new w (.cells #[.slice a1 n1 c1, .slice a2 n2 c2] 26))
  clear h l1 l2
  go_enter Try.func10, Try.ntmps10
  go_wp2_with fail
  refine (checkRobot_any _ l r _ ⟨a1, n1, c1, a2, n2, c2, rfl, K0.out⟩).mono ?_
  rintro e w1 ⟨rfl, hg⟩
  have K1 := keep hg K0
  have B1 := keep hg B0
  have G := Lib.hid (grown_trans (grown_alloc (.cells #[.slice a1 n1 c1, .slice a2 n2 c2] 26) (grown_refl w none)) hg)
  clear hg K0 B0
  by_cases hE : errR l r = 0
  rotate_left
  · have EV : Hid (waitsV l r = 0) := Lib.hid (by unfold waitsV; rw [if_neg hE])
    have t1 : (errR l r == 0) = false := beq_eq_false_iff_ne.2 hE
    have t2 : (errR l r != 0) = true := by simp [bne, t1]
    clear hE
    go_wp2_with fail
    go_ret2
    exact ⟨by rw [EV.out]; rfl, G.out⟩
  obtain ⟨hv, hr1, hr2⟩ := errR_zero hE
  have VL0 := Lib.hid hv
  have h12 : n2 = n1 := by have := VL0.out.len; rw [L1.out, L2.out] at this; omega
  subst h12
  have hn48 : n2 ≤ 48 := by have := VL0.out.le; rw [L1.out] at this; omega
  have p1 := (rules_at B1.out).1
  have zb := lt_of_at B1.out
  have EV : Hid (waitsV l r = waitsL l r) := Lib.hid (by unfold waitsV; rw [if_pos hE])
  have E0 := Lib.hid hE
  rw [hE]
  clear hE hv
  go_wp2_with fail
  refine (waits_any _ l r _ ⟨_, _, _, _, _, _, rfl, K1.out⟩).mono ?_
  rintro e w2 ⟨rfl, hg⟩
  have G2 := Lib.hid (grown_trans G.out hg)
  clear hg
  go_wp2_with fail
  go_ret2
  exact ⟨by rw [EV.out, E0.out]; rfl, G2.out⟩

set_option maxRecDepth 100000 in
set_option maxHeartbeats 6400000 in
theorem rWaits_any (v : Value) (l : Lk) (r : Int) (w : World) (h : LkV none w v l) :
    Calls Try.prog 43 #[v, .int .i64 r] w (fun e w' => e = .returned (.tuple #[.int .i64 (waitsV l r), .int .i64 (errR l r)]) ∧ w.grownBy w' none) := by
  obtain ⟨a1, n1, c1, a2, n2, c2, rfl, h⟩ := h
  obtain ⟨l1, l2, m1, m2⟩ := h.len
  have L1 := Lib.hid l1
  have L2 := Lib.hid l2
  have H := Lib.hid h
  have K0 := keep (grown_alloc (.cells #[.slice a1 n1 c1, .slice a2 n2 c2] 26) (grown_refl w none)) H
  have B0 := Lib.hid (at_new w (.cells #[.slice a1 n1 c1, .slice a2 n2 c2] 26))
  clear h l1 l2
  go_enter Try.func43, Try.ntmps43
  go_wp2_with fail
  refine (robotOnly_any _ l r _ ⟨a1, n1, c1, a2, n2, c2, rfl, K0.out⟩).mono ?_
  rintro e w1 ⟨rfl, hg⟩
  have K1 := keep hg K0
  have B1 := keep hg B0
  have G := Lib.hid (grown_trans (grown_alloc (.cells #[.slice a1 n1 c1, .slice a2 n2 c2] 26) (grown_refl w none)) hg)
  clear hg K0 B0
  by_cases hE : errR l r = 0
  rotate_left
  · have EV : Hid (waitsV l r = 0) := Lib.hid (by unfold waitsV; rw [if_neg hE])
    have t1 : (errR l r == 0) = false := beq_eq_false_iff_ne.2 hE
    have t2 : (errR l r != 0) = true := by simp [bne, t1]
    clear hE
    go_wp2_with fail
    go_ret2
    exact ⟨by rw [EV.out]; rfl, G.out⟩
  obtain ⟨hv, hr1, hr2⟩ := errR_zero hE
  have VL0 := Lib.hid hv
  have h12 : n2 = n1 := by have := VL0.out.len; rw [L1.out, L2.out] at this; omega
  subst h12
  have hn48 : n2 ≤ 48 := by have := VL0.out.le; rw [L1.out] at this; omega
  have p1 := (rules_at B1.out).1
  have zb := lt_of_at B1.out
  have EV : Hid (waitsV l r = waitsL l r) := Lib.hid (by unfold waitsV; rw [if_pos hE])
  have E0 := Lib.hid hE
  rw [hE]
  clear hE hv
  go_wp2_with fail
  refine (rAt_any _ l r _ ⟨_, _, _, _, _, _, rfl, K1.out⟩).mono ?_
  rintro e w2 ⟨rfl, hg⟩
  have G2 := Lib.hid (grown_trans G.out hg)
  clear hg
  go_wp2_with fail
  go_ret2
  exact ⟨by rw [EV.out, E0.out]; rfl, G2.out⟩

set_option maxRecDepth 100000 in
set_option maxHeartbeats 6400000 in
theorem Chain_any (v : Value) (l : Lk) (r : Int) (w : World) (h : LkV none w v l) :
    Calls Try.prog 9 #[v, .int .i64 r] w (GiveI (chainV l r) (errR l r) w) := by
  obtain ⟨a1, n1, c1, a2, n2, c2, rfl, h⟩ := h
  obtain ⟨l1, l2, m1, m2⟩ := h.len
  have L1 := Lib.hid l1
  have L2 := Lib.hid l2
  have H := Lib.hid h
  have K0 := keep (grown_alloc (.cells #[.slice a1 n1 c1, .slice a2 n2 c2] 26) (grown_refl w none)) H
  have B0 := Lib.hid (at_new w (.cells #[.slice a1 n1 c1, .slice a2 n2 c2] 26))
  clear h l1 l2
  go_enter Try.func9, Try.ntmps9
  go_wp2_with fail
  refine (checkRobot_any _ l r _ ⟨a1, n1, c1, a2, n2, c2, rfl, K0.out⟩).mono ?_
  rintro e w1 ⟨rfl, hg⟩
  have K1 := keep hg K0
  have B1 := keep hg B0
  have G := Lib.hid (grown_trans (grown_alloc (.cells #[.slice a1 n1 c1, .slice a2 n2 c2] 26) (grown_refl w none)) hg)
  clear hg K0 B0
  by_cases hE : errR l r = 0
  rotate_left
  · have EV : Hid (chainV l r = []) := Lib.hid (by unfold chainV; rw [if_neg hE])
    have t1 : (errR l r == 0) = false := beq_eq_false_iff_ne.2 hE
    have t2 : (errR l r != 0) = true := by simp [bne, t1]
    clear hE
    go_wp2_with fail
    go_ret2
    rw [EV.out]
    exact ⟨_, rfl, World.ownsRow_nil _ _ _ _, G.out⟩
  obtain ⟨hv, hr1, hr2⟩ := errR_zero hE
  have VL0 := Lib.hid hv
  have h12 : n2 = n1 := by have := VL0.out.len; rw [L1.out, L2.out] at this; omega
  subst h12
  have hn48 : n2 ≤ 48 := by have := VL0.out.le; rw [L1.out] at this; omega
  have p1 := (rules_at B1.out).1
  have zb := lt_of_at B1.out
  have EV : Hid (chainV l r = chainL l r) := Lib.hid (by unfold chainV; rw [if_pos hE])
  have E0 := Lib.hid hE
  rw [hE]
  clear hE hv
  go_wp2_with fail
  clear p1 zb
  go_loopw [7, 8] (fun v i wr => ∃ (s : Int) (out : List Int), i = .int .i64 s ∧ ChInv l r s out ∧ wr.heap[w.heap.size]? = some (.cells #[.slice a1 n2 c1, .slice a2 n2 c2] 26 (0, 0)) ∧ w.grownBy wr none ∧ wr.ownsRow (w.heap.size + 1) 3 1 v out.length (ints out)) (fun v _ _ => 9 - sliceLen v)
  case atStart => exact ⟨r, [], rfl, ChInv.start l r, B1.out, G.out, World.ownsRow_nil _ _ _ _⟩
  case round =>
    obtain ⟨s, out, rfl, hI, hB, hG, hO⟩ := hrel
    have I := Lib.hid hI
    have B := Lib.hid hB
    have GG := Lib.hid hG
    have O := Lib.hid hO
    have p1 := (rules_at hB).1
    have zb := lt_of_at hB
    have KK := keep hG H
    have hle := hI.le
    obtain ⟨A7, k7, rfl, e1, e2, e3, -⟩ := sliceIn_owns hO
    clear hB hO hG hI K1 B1 G
    go_wp2_with fail
    refine (waits_any _ l s _ ⟨_, _, _, _, _, _, rfl, KK.out⟩).mono ?_
    rintro e w2 ⟨rfl, hg⟩
    have B2 := keep hg B
    have G2 := Lib.hid (grown_trans GG.out hg)
    have O2 := Lib.hid (O.out.kept hg (Classical.em _))
    have K2 := keep hg KK
    clear hg B GG O KK p1 zb
    have B := B2
    have GG := G2
    have O := O2
    have p1 := (rules_at B.out).1
    have zb := lt_of_at B.out
    clear B2 G2 O2
    rcases waits_spec l s with ⟨hw, -⟩ | ⟨k, x, hw, hx, -⟩
    · have ST := Lib.hid (I.out.stop (.inl (by rw [hw]; decide)))
      rw [hw]
      clear hw
      go_wp2_with fail
      go_ret2
      exact ⟨_, by rw [E0.out]; rfl, by rw [EV.out, ST.out]; exact own_low O.out (by omega), GG.out⟩
    have hkl : k < n2 := by have := (List.getElem?_eq_some_iff.1 hx).1; rw [L2.out] at this; exact this
    obtain ⟨o, ho⟩ : ∃ o, l.own[k]? = some o := ⟨_, List.getElem?_eq_getElem (by rw [L1.out]; exact hkl)⟩
    obtain ⟨b1, o1, rfl, zb1, d1⟩ := K2.out.1.1.1.int ho
    have hoA : oAt l (waitsL l s).toNat = o := by rw [hw, Int.toNat_natCast]; exact oAt_of ho
    have hob := VL0.out.own o (List.mem_of_getElem? ho)
    have hk' : (k : Int) < n2 := by omega
    have hk0 : decide ((k : Int) < 0) = false := by simp
    have NW : Hid (¬ waitsL l s < 0) := Lib.hid (by rw [hw]; omega)
    have OA := Lib.hid hoA
    rw [hw]
    clear hw hx ho hoA
    by_cases h1 : o = -1
    · have ST := Lib.hid (I.out.stop (.inr (.inl (OA.out.trans h1))))
      subst h1
      go_wp2_with fail
      go_ret2
      exact ⟨_, by rw [E0.out]; rfl, by rw [EV.out, ST.out]; exact own_low O.out (by omega), GG.out⟩
    have t1 : (o == -1) = false := beq_eq_false_iff_ne.2 h1
    by_cases h2 : o = r
    · have ST := Lib.hid (I.out.stop (.inr (.inr (.inl (OA.out.trans h2)))))
      have t2 : (o == r) = true := beq_iff_eq.2 h2
      clear h1 h2
      go_wp2_with fail
      go_ret2
      exact ⟨_, by rw [E0.out]; rfl, by rw [EV.out, ST.out]; exact own_low O.out (by omega), GG.out⟩
    have t2 : (o == r) = false := beq_eq_false_iff_ne.2 h2
    have N1 := Lib.hid h1
    have N2 := Lib.hid h2
    clear h1 h2
    go_wp2_with fail
    refine (Contains_any A7 out.length k7 out o _ (rowIn_of_owns O.out)).mono ?_
    rintro e w3 ⟨rfl, rfl⟩
    by_cases h3 : o ∈ out
    · have ST := Lib.hid (I.out.stop (.inr (.inr (.inr (by rw [OA.out]; exact h3)))))
      rw [decide_eq_true h3]
      clear h3
      go_wp2_with fail
      go_ret2
      exact ⟨_, by rw [E0.out]; rfl, by rw [EV.out, ST.out]; exact own_low O.out (by omega), GG.out⟩
    have I2 := Lib.hid (I.out.next (by have := NW.out; omega) OA.out N1.out N2.out h3 hob)
    rw [decide_eq_false h3]
    clear h3 I
    go_wp2_with (at_builtin; refine wpList_append_in St_int rfl (.tmp 55) (.tmp 61) rfl rfl (O.out.alloc (.cells #[.int .i64 o] 3)) rfl (cell_one _ _ rfl) (fun h => by cases h) (flat_one rfl) ?c1 ?c2 ?c3 ?_)
    case c1 => unfold maxLen; omega
    case c2 => omega
    case c3 => first | omega | (simp; omega)
    intro v4 w4 hown hg hloc
    clear hloc
    have G4 := Lib.hid (grown_own (grown_alloc (.cells #[.int .i64 o] 3) GG.out) hg (fun m hm => by have := (O.out.lt m hm).1; omega))
    have B4 := Lib.hid (grown_at hg (at_alloc (.cells #[.int .i64 o] 3) B.out) (fun e => by have := (O.out.lt _ e.symm).1; omega))
    obtain ⟨g4, k4, rfl, e4, hO4⟩ := ownR_of_owns hown (by omega)
    have q4 := hO4.cell (i := out.length) (v := .int .i64 o) (by rw [List.getElem?_append_right (by rw [ints_len]; exact Nat.le_refl _), ints_len, Nat.sub_self]; rfl)
    have q5 := hO4.lt
    have q6 := hO4.capLe.1
    have q7 := hO4.capLe.2
    have O4 : Hid (w4.ownsRow (w.heap.size + 1) 3 1 (.slice (some ⟨g4, 0, none⟩) (out.length + 1) k4) (out ++ [o]).length (ints (out ++ [o]))) := Lib.hid (by rw [List.length_append, ← ints_snoc]; exact hown)
    have u1 : IntKind.i64.wrap ((out.length : Int) + 1 - 1) = (out.length : Int) := by rw [IntWalk.i64_in _ (by omega)]; omega
    clear hown hg hO4 O B GG d1 p1
    go_wp2_with fail
    go_roundw
    case rel => exact ⟨o, out ++ [o], rfl, I2.out, B4.out, G4.out, by simpa using O4.out⟩
    case measure => simp [sliceLen]; omega

set_option maxRecDepth 100000 in
set_option maxHeartbeats 6400000 in
theorem rChain_any (v : Value) (l : Lk) (r : Int) (w : World) (h : LkV none w v l) :
    Calls Try.prog 44 #[v, .int .i64 r] w (GiveI (chainV l r) (errR l r) w) := by
  obtain ⟨a1, n1, c1, a2, n2, c2, rfl, h⟩ := h
  obtain ⟨l1, l2, m1, m2⟩ := h.len
  have L1 := Lib.hid l1
  have L2 := Lib.hid l2
  have H := Lib.hid h
  have K0 := keep (grown_alloc (.cells #[.slice a1 n1 c1, .slice a2 n2 c2] 26) (grown_refl w none)) H
  have B0 := Lib.hid (at_new w (.cells #[.slice a1 n1 c1, .slice a2 n2 c2] 26))
  clear h l1 l2
  go_enter Try.func44, Try.ntmps44
  go_wp2_with fail
  refine (robotOnly_any _ l r _ ⟨a1, n1, c1, a2, n2, c2, rfl, K0.out⟩).mono ?_
  rintro e w1 ⟨rfl, hg⟩
  have K1 := keep hg K0
  have B1 := keep hg B0
  have G := Lib.hid (grown_trans (grown_alloc (.cells #[.slice a1 n1 c1, .slice a2 n2 c2] 26) (grown_refl w none)) hg)
  clear hg K0 B0
  by_cases hE : errR l r = 0
  rotate_left
  · have EV : Hid (chainV l r = []) := Lib.hid (by unfold chainV; rw [if_neg hE])
    have t1 : (errR l r == 0) = false := beq_eq_false_iff_ne.2 hE
    have t2 : (errR l r != 0) = true := by simp [bne, t1]
    clear hE
    go_wp2_with fail
    go_ret2
    rw [EV.out]
    exact ⟨_, rfl, World.ownsRow_nil _ _ _ _, G.out⟩
  obtain ⟨hv, hr1, hr2⟩ := errR_zero hE
  have VL0 := Lib.hid hv
  have h12 : n2 = n1 := by have := VL0.out.len; rw [L1.out, L2.out] at this; omega
  subst h12
  have hn48 : n2 ≤ 48 := by have := VL0.out.le; rw [L1.out] at this; omega
  have p1 := (rules_at B1.out).1
  have zb := lt_of_at B1.out
  have EV : Hid (chainV l r = chainL l r) := Lib.hid (by unfold chainV; rw [if_pos hE])
  have E0 := Lib.hid hE
  rw [hE]
  clear hE hv
  go_wp2_with fail
  clear p1 zb
  go_loopw [7, 8] (fun v i wr => ∃ (s : Int) (out : List Int), i = .int .i64 s ∧ ChInv l r s out ∧ wr.heap[w.heap.size]? = some (.cells #[.slice a1 n2 c1, .slice a2 n2 c2] 26 (0, 0)) ∧ w.grownBy wr none ∧ wr.ownsRow (w.heap.size + 1) 3 1 v out.length (ints out)) (fun v _ _ => 9 - sliceLen v)
  case atStart => exact ⟨r, [], rfl, ChInv.start l r, B1.out, G.out, World.ownsRow_nil _ _ _ _⟩
  case round =>
    obtain ⟨s, out, rfl, hI, hB, hG, hO⟩ := hrel
    have I := Lib.hid hI
    have B := Lib.hid hB
    have GG := Lib.hid hG
    have O := Lib.hid hO
    have p1 := (rules_at hB).1
    have zb := lt_of_at hB
    have KK := keep hG H
    have hle := hI.le
    obtain ⟨A7, k7, rfl, e1, e2, e3, -⟩ := sliceIn_owns hO
    clear hB hO hG hI K1 B1 G
    go_wp2_with fail
    refine (rAt_any _ l s _ ⟨_, _, _, _, _, _, rfl, KK.out⟩).mono ?_
    rintro e w2 ⟨rfl, hg⟩
    have B2 := keep hg B
    have G2 := Lib.hid (grown_trans GG.out hg)
    have O2 := Lib.hid (O.out.kept hg (Classical.em _))
    have K2 := keep hg KK
    clear hg B GG O KK p1 zb
    have B := B2
    have GG := G2
    have O := O2
    have p1 := (rules_at B.out).1
    have zb := lt_of_at B.out
    clear B2 G2 O2
    rcases waits_spec l s with ⟨hw, -⟩ | ⟨k, x, hw, hx, -⟩
    · have ST := Lib.hid (I.out.stop (.inl (by rw [hw]; decide)))
      rw [hw]
      clear hw
      go_wp2_with fail
      go_ret2
      exact ⟨_, by rw [E0.out]; rfl, by rw [EV.out, ST.out]; exact own_low O.out (by omega), GG.out⟩
    have hkl : k < n2 := by have := (List.getElem?_eq_some_iff.1 hx).1; rw [L2.out] at this; exact this
    obtain ⟨o, ho⟩ : ∃ o, l.own[k]? = some o := ⟨_, List.getElem?_eq_getElem (by rw [L1.out]; exact hkl)⟩
    obtain ⟨b1, o1, rfl, zb1, d1⟩ := K2.out.1.1.1.int ho
    have hoA : oAt l (waitsL l s).toNat = o := by rw [hw, Int.toNat_natCast]; exact oAt_of ho
    have hob := VL0.out.own o (List.mem_of_getElem? ho)
    have hk' : (k : Int) < n2 := by omega
    have hk0 : decide ((k : Int) < 0) = false := by simp
    have NW : Hid (¬ waitsL l s < 0) := Lib.hid (by rw [hw]; omega)
    have OA := Lib.hid hoA
    rw [hw]
    clear hw hx ho hoA
    by_cases h1 : o = -1
    · have ST := Lib.hid (I.out.stop (.inr (.inl (OA.out.trans h1))))
      subst h1
      go_wp2_with fail
      go_ret2
      exact ⟨_, by rw [E0.out]; rfl, by rw [EV.out, ST.out]; exact own_low O.out (by omega), GG.out⟩
    have t1 : (o == -1) = false := beq_eq_false_iff_ne.2 h1
    by_cases h2 : o = r
    · have ST := Lib.hid (I.out.stop (.inr (.inr (.inl (OA.out.trans h2)))))
      have t2 : (o == r) = true := beq_iff_eq.2 h2
      clear h1 h2
      go_wp2_with fail
      go_ret2
      exact ⟨_, by rw [E0.out]; rfl, by rw [EV.out, ST.out]; exact own_low O.out (by omega), GG.out⟩
    have t2 : (o == r) = false := beq_eq_false_iff_ne.2 h2
    have N1 := Lib.hid h1
    have N2 := Lib.hid h2
    clear h1 h2
    go_wp2_with fail
    refine (Has_any A7 out.length k7 out o _ (rowIn_of_owns O.out)).mono ?_
    rintro e w3 ⟨rfl, rfl⟩
    by_cases h3 : o ∈ out
    · have ST := Lib.hid (I.out.stop (.inr (.inr (.inr (by rw [OA.out]; exact h3)))))
      rw [decide_eq_true h3]
      clear h3
      go_wp2_with fail
      go_ret2
      exact ⟨_, by rw [E0.out]; rfl, by rw [EV.out, ST.out]; exact own_low O.out (by omega), GG.out⟩
    have I2 := Lib.hid (I.out.next (by have := NW.out; omega) OA.out N1.out N2.out h3 hob)
    rw [decide_eq_false h3]
    clear h3 I
    go_wp2_with (at_builtin; refine wpList_append_in St_int rfl (.tmp 54) (.tmp 56) rfl rfl (O.out.alloc (.cells #[.int .i64 o] 3)) rfl (cell_one _ _ rfl) (fun h => by cases h) (flat_one rfl) ?c1 ?c2 ?c3 ?_)
    case c1 => unfold maxLen; omega
    case c2 => omega
    case c3 => first | omega | (simp; omega)
    intro v4 w4 hown hg hloc
    clear hloc
    have G4 := Lib.hid (grown_own (grown_alloc (.cells #[.int .i64 o] 3) GG.out) hg (fun m hm => by have := (O.out.lt m hm).1; omega))
    have B4 := Lib.hid (grown_at hg (at_alloc (.cells #[.int .i64 o] 3) B.out) (fun e => by have := (O.out.lt _ e.symm).1; omega))
    obtain ⟨g4, k4, rfl, e4, hO4⟩ := ownR_of_owns hown (by omega)
    have q4 := hO4.cell (i := out.length) (v := .int .i64 o) (by rw [List.getElem?_append_right (by rw [ints_len]; exact Nat.le_refl _), ints_len, Nat.sub_self]; rfl)
    have q5 := hO4.lt
    have q6 := hO4.capLe.1
    have q7 := hO4.capLe.2
    have O4 : Hid (w4.ownsRow (w.heap.size + 1) 3 1 (.slice (some ⟨g4, 0, none⟩) (out.length + 1) k4) (out ++ [o]).length (ints (out ++ [o]))) := Lib.hid (by rw [List.length_append, ← ints_snoc]; exact hown)
    have u1 : IntKind.i64.wrap ((out.length : Int) + 1 - 1) = (out.length : Int) := by rw [IntWalk.i64_in _ (by omega)]; omega
    clear hown hg hO4 O B GG d1 p1
    go_wp2_with fail
    go_roundw
    case rel => exact ⟨o, out ++ [o], rfl, I2.out, B4.out, G4.out, by simpa using O4.out⟩
    case measure => simp [sliceLen]; omega
end Go.Proofs.Ytbpobekmbdngbaa
