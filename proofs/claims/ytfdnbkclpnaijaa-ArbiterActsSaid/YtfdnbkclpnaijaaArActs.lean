/- The walk of ArbiterActs. -/
import Derived.Test.YtfdnbkclpnaijaaArRef3
import Derived.Test.YtfdnbkclpnaijaaArKnown
import Derived.Test.YtfdnbkclpnaijaaMade
namespace Go.Proofs.Ytfdnbkclpnaijaa
open Go.RowKit
set_option linter.unusedVariables false

theorem Try.info_bool : (Try.prog.info? 4).map (fun i => (i.zero, i.size, i.bytes)) = some (some (.bool false), 1, 1) := by kernel_rfl
theorem St_bool : SliceT Try.prog 32 4 (.bool false) 1 1 := .mk' Try.underlying32 Try.info_bool rfl (by decide)
/-- The slice v holds the tasks l. -/
def TLst (W : World) (v : Value) (l : List Tk) : Prop := ∃ A n c, v = .slice A n c ∧ RowIn W A n 5 (flat l)
instance {W W' : World} {v : Value} {l : List Tk} : Stay none W W' (TLst W v l) (TLst W' v l) := ⟨fun hg ⟨A, n, c, h, k⟩ => ⟨A, n, c, h, k.kept hg⟩⟩
instance {w W : World} {B T : Nat} {ad : Option Addr} {len cap : Nat} {zs : List Int} {k : Nat} : Stay none w W (TapeAt w B T ad len cap zs k) (TapeAt W B T ad len cap zs k) := ⟨fun hg h => h.other hg⟩
theorem tLst_nil (W : World) : TLst W (.slice none 0 0) [] := ⟨none, 0, 0, rfl, by simp [flat], Nat.zero_le _, .inl rfl⟩
theorem tLst_owns {W : World} {base n : Nat} {v : Value} {l : List Tk} (h : W.ownsRow base 31 5 v n (flat l)) : TLst W v l := by
  obtain ⟨a, c, he, _, _, hr⟩ := rowIn_owns h
  exact ⟨a, n, c, he, hr⟩
theorem row_of_owns {W : World} {base e s n m c : Nat} {a : Option Addr} {xs : List Value} (h : W.ownsRow base e s (.slice a m c) n xs) : RowIn W a n s xs ∧ (a = none → c = 0) ∧ m = n ∧ n ≤ c ∧ c ≤ maxLen := by
  obtain ⟨A, c', he, h1, h2, h3, h4⟩ := sliceIn_owns h
  simp only [Value.slice.injEq] at he
  obtain ⟨rfl, rfl, rfl⟩ := he
  exact ⟨h4, h3, rfl, h1, h2⟩
open Classical in
theorem Same_tasks {W : World} {u v : Value} {l : List Tk} (hu : TLst W u l) (hv : TLst W v l) : Calls Try.prog 16 #[u, v] W fun e w' => e = .returned (.bool true) ∧ W.grownBy w' none := by
  obtain ⟨A, n, c, rfl, h⟩ := hu
  obtain ⟨B, m, d, rfl, k⟩ := hv
  have := Same23_any A B n m c d l l W h k
  rwa [decide_eq_true rfl] at this
def PairA (x : List Tk) (y err : Int) (w : World) (e : Ending) (w' : World) : Prop := ∃ v, e = .returned (.tuple #[v, .int .i64 y, .int .i64 err]) ∧ TLst w' v x ∧ w.grownBy w' none
def PairS (x : List Tk) (err : Int) (w : World) (e : Ending) (w' : World) : Prop := ∃ v, e = .returned (.tuple #[v, .int .i64 err]) ∧ TLst w' v x ∧ w.grownBy w' none
def addT (ts : List Tk) (l p d : Int) : List Tk := if addE ts l = 0 then ts ++ [⟨p, d, 0, -1, 0⟩] else []
def addN (ts : List Tk) (l : Int) : Int := if addE ts l = 0 then (ts.length : Nat) else 0
theorem addP_pair {ts : List Tk} {l p d : Int} {w w' : World} {e : Ending} (h : AddP ts l p d w e w') : PairA (addT ts l p d) (addN ts l) (addE ts l) w e w' := by
  obtain ⟨hg, h⟩ := h
  unfold addT addN
  by_cases h0 : addE ts l = 0
  · rw [if_pos h0] at h
    obtain ⟨v, he, ho⟩ := h
    rw [if_pos h0, if_pos h0, h0]
    exact ⟨v, he, tLst_owns ho, hg⟩
  · rw [if_neg h0] at h
    rw [if_neg h0, if_neg h0]
    exact ⟨_, h, tLst_nil _, hg⟩
def stT (ts : List Tk) (k r : Int) : List Tk := if startE ts k r = 0 then startTs ts k.toNat r else []
theorem startR_pair {ts : List Tk} {k r : Int} {w w' : World} {e : Ending} (h : StartR ts k r w e w') : PairS (stT ts k r) (startE ts k r) w e w' := by
  obtain ⟨hg, h⟩ := h
  unfold stT
  by_cases h0 : startE ts k r = 0
  · rw [if_pos h0] at h
    obtain ⟨v, he, ho⟩ := h
    rw [if_pos h0, h0]
    exact ⟨v, he, tLst_owns ho, hg⟩
  · rw [if_neg h0] at h
    rw [if_neg h0]
    exact ⟨_, h, tLst_nil _, hg⟩

def queV (ts : List Tk) : Int := if validB ts then (countB ts : Int) else 0
def queE (ts : List Tk) : Int := if validB ts then 0 else 20
theorem Queued_p (a : Option Addr) (n cap : Nat) (ts : List Tk) (w : World) (h : RowIn w a n 5 (flat ts)) (hn : ts.length = n) :
    Calls Try.prog 13 #[.slice a n cap] w fun e w' => e = .returned (.tuple #[.int .i64 (queV ts), .int .i64 (queE ts)]) ∧ w.grownBy w' none := QueuedP a n cap ts w h hn
theorem Queued_r (a : Option Addr) (n cap : Nat) (ts : List Tk) (w : World) (h : RowIn w a n 5 (flat ts)) (hn : ts.length = n) :
    Calls Try.prog 14 #[.slice a n cap] w fun e w' => e = .returned (.tuple #[.int .i64 (queV ts), .int .i64 (queE ts)]) ∧ w.grownBy w' none := QueuedR a n cap ts w h hn
theorem tape_re {w W W' : World} {B T : Nat} {ad : Option Addr} {len cap : Nat} {z : List Int} {k : Nat} (h : TapeAt W B T ad len cap (z.take len) k) (hr : IsRow .i64 w ad len cap z) (hg : w.grownBy W' none) (hb : W'.heap[B]? = W.heap[B]?) (hB : w.heap.size ≤ B) :
    TapeAt W' B T ad len cap (z.take len) k := by
  refine ⟨hb.trans h.blk, h.len, fun i hi => ?_, h.bd, h.small⟩
  obtain ⟨b, off, e, hlt, hc⟩ := (tape_new hr (grown_refl w none) T).cells i hi
  rw [World.cell?_alloc_lt _ _ _ (by simpa using hlt)] at hc
  exact ⟨b, off, e, by omega, (grown_cell hg (by simpa using hlt) (by simp)).trans hc⟩
abbrev vObj (v0 v1 v2 v3 : Int) : Obj := .cells #[.int .i64 v0, .int .i64 v1, .int .i64 v2, .int .i64 v3] 42 (0, 0)
abbrev set4 (s : World) (V : Nat) (x0 x1 x2 x3 : Int) : World := (((s.setCell ⟨V, 0, none⟩ (.int .i64 x0)).setCell ⟨V, 1, none⟩ (.int .i64 x1)).setCell ⟨V, 2, none⟩ (.int .i64 x2)).setCell ⟨V, 3, none⟩ (.int .i64 x3)
theorem set4_at {s : World} {V : Nat} {v0 v1 v2 v3 : Int} (hb : s.heap[V]? = some (vObj v0 v1 v2 v3)) (x0 x1 x2 x3 : Int) : (set4 s V x0 x1 x2 x3).heap[V]? = some (vObj x0 x1 x2 x3) := by
  rw [at_set _ (at_set _ (at_set _ (at_set _ hb)))]; rfl
theorem set4_grown (s : World) (V : Nat) (x0 x1 x2 x3 : Int) : s.grownBy (set4 s V x0 x1 x2 x3) (some V) :=
  grown_set _ (grown_set _ (grown_set _ (grown_set _ (grown_refl s _) (.inr rfl)) (.inr rfl)) (.inr rfl)) (.inr rfl)
/-- A list of tasks, truth values and four numbers, however they came. -/
def InT (V : Nat) (W : World) (r c : Value) : Prop := ∃ (a : Option Addr) (n cp : Nat) (ts : List Tk) (ac : Option Addr) (m cc : Nat) (cs : List Bool) (v0 v1 v2 v3 : Int), r = .slice a n cp ∧ c = .slice ac m cc ∧ RowIn W a n 5 (flat ts) ∧ (a = none → cp = 0) ∧ RowIn W ac m 1 (bools cs) ∧
  W.heap[V]? = some (vObj v0 v1 v2 v3)

set_option maxRecDepth 100000 in
set_option maxHeartbeats 12800000 in
theorem ArbiterActs_walk (a0 : Option Addr) (len0 cap0 : Nat) (l0 : List Tk) (a1 : Option Addr) (len1 cap1 : Nat) (l1 : List Bool) (n0 n1 n2 n3 : Int) (a3 : Option Addr) (len3 cap3 : Nat) (z3 : List Int) (w : World)
    (w0 : RowIn w a0 len0 5 (flat l0)) (w0' : a0 = none → cap0 = 0) (w1 : RowIn w a1 len1 1 (bools l1)) (w3 : IsRow .i64 w a3 len3 cap3 z3) :
    Calls Try.prog 5 #[.slice a0 len0 cap0, .slice a1 len1 cap1, .agg #[.int .i64 n0, .int .i64 n1, .int .i64 n2, .int .i64 n3], .slice a3 len3 cap3] w fun e w' => e = .returned (.bool true) ∧ Below w.heap.size w w' := by
  have K0 : Hid (RowIn w a0 len0 5 (flat l0) ∧ RowIn w a1 len1 1 (bools l1)) := Lib.hid ⟨w0, w1⟩
  have HC0 := Lib.hid w0'
  have r0 := Lib.hid w3
  clear w0 w0' w1 w3
  go_enter Try.func5, Try.ntmps5
  go_wp2_with fail
  refine (known_any _).mono ?_
  rintro e w1 ⟨rfl, hg1⟩
  have ga : w.grownBy w1 none := grown_trans (grown_alloc _ (grown_refl w none)) hg1
  have T1 := Lib.hid (tape_new r0.out ga 28)
  have V1 : Hid ((w1.alloc (.cells #[.slice a3 len3 cap3, .int .i64 0] 28)).heap[w.heap.size]? = some (vObj n0 n1 n2 n3)) := Lib.hid (at_alloc _ (grown_at hg1 (at_new w _) (by simp)))
  have g2 : w.grownBy (w1.alloc (.cells #[.slice a3 len3 cap3, .int .i64 0] 28)) none := grown_alloc _ ga
  have K1 := keep g2 K0
  have G1 := Lib.hid g2
  have z1 : w.heap.size < w1.heap.size := by have := hg1.size; simp at this; omega
  clear hg1 g2 K0 ga
  go_wp2_with fail
  go_loopw [0, 1, 10] (fun r c i wr => ∃ k : Nat, k ≤ 2 ∧ i = .int .i64 k ∧ InT w.heap.size wr r c ∧ (∃ kt : Nat, kt ≤ 300 * k ∧ TapeAt wr w1.heap.size 28 a3 len3 cap3 (z3.take len3) kt) ∧ w.grownBy wr none) (fun _ _ i _ => 2 - (intOf i).toNat)
  case atStart => exact ⟨0, by omega, rfl, ⟨a0, len0, cap0, l0, a1, len1, cap1, l1, n0, n1, n2, n3, rfl, rfl, K1.out.1, HC0.out, K1.out.2, V1.out⟩, ⟨0, by omega, T1.out⟩, G1.out⟩
  case round =>
    obtain ⟨k, hk, rfl, ⟨a, n, cp, ts, ac, m, cc, cs, v0, v1, v2, v3, rfl, rfl, hI1, hI2, hI3, hI4⟩, ⟨kt, hkt, hT⟩, hG⟩ := hrel
    have K : Hid (RowIn wr a n 5 (flat ts) ∧ RowIn wr ac m 1 (bools cs) ∧ wr.heap[w.heap.size]? = some (vObj v0 v1 v2 v3) ∧ TapeAt wr w1.heap.size 28 a3 len3 cap3 (z3.take len3) kt ∧ w.grownBy wr none) := Lib.hid ⟨hI1, hI3, hI4, hT, hG⟩
    have HC := Lib.hid hI2
    have hmm := hI3.2.1
    have hnm := hI1.2.1
    unfold maxLen at hmm hnm
    clear hI1 hI2 hI3 hI4 hT hG K1 T1 G1 V1 HC0
    rcases (by omega : k = 0 ∨ k = 1 ∨ k = 2) with rfl | rfl | rfl
    · skip
      have L := Lib.hid (tk_len K.out.1)
      go_wp2_with fail
      refine (Queued_p a n cp ts _ K.out.1 L.out).mono ?_
      rintro e x1 ⟨rfl, hg⟩
      have K1 := keep hg K
      clear hg K
      go_wp2_with fail
      refine (Queued_r a n cp ts _ K1.out.1 L.out).mono ?_
      rintro e x2 ⟨rfl, hg⟩
      have K2 := keep hg K1
      clear hg K1
      have q1 := (rules_at K2.out.2.2.1).1
      have q2 := (rules_at K2.out.2.2.1).2
      have q3 := lt_of_at K2.out.2.2.1
      go_wp2_with fail
      refine (AddP_any a n cp ts v0 v2 v3 _ K2.out.1 L.out HC.out).mono ?_
      intro e x3 hP
      obtain ⟨u3, rfl, hu, hg⟩ := addP_pair hP
      have K3 := Lib.hid (And.intro hu (keep hg K2).out)
      clear hu hg K2 hP q1 q2 q3
      have q1 := (rules_at K3.out.2.2.2.1).1
      have q2 := (rules_at K3.out.2.2.2.1).2
      have q3 := lt_of_at K3.out.2.2.2.1
      go_wp2_with fail
      refine (rAdd_any a n cp ts v0 v2 v3 _ K3.out.2.1 L.out HC.out).mono ?_
      intro e x4 hP
      obtain ⟨u4, rfl, hu, hg⟩ := addP_pair hP
      have K4 := Lib.hid (And.intro hu (keep hg K3).out)
      clear hu hg K3 hP q1 q2 q3
      go_wp2_with fail
      refine (Same_tasks K4.out.2.1 K4.out.1).mono ?_
      rintro e x5 ⟨rfl, hg⟩
      have K5 := Lib.hid (keep hg K4).out.2.2
      clear hg K4
      have q1 := (rules_at K5.out.2.2.1).1
      have q2 := (rules_at K5.out.2.2.1).2
      have q3 := lt_of_at K5.out.2.2.1
      go_wp2_with fail
      refine (Choose_all a n cp ts ac m cc cs v1 _ K5.out.1 K5.out.2.1).mono ?_
      rintro e x6 ⟨rfl, hg⟩
      have K6 := keep hg K5
      clear hg K5 q1 q2 q3
      have q1 := (rules_at K6.out.2.2.1).1
      have q2 := (rules_at K6.out.2.2.1).2
      have q3 := lt_of_at K6.out.2.2.1
      go_wp2_with fail
      refine (rChoose_all a n cp ts ac m cc cs v1 _ K6.out.1 K6.out.2.1).mono ?_
      rintro e x7 ⟨rfl, hg⟩
      have K7 := keep hg K6
      clear hg K6 q1 q2 q3
      have q1 := (rules_at K7.out.2.2.1).1
      have q2 := (rules_at K7.out.2.2.1).2
      have q3 := lt_of_at K7.out.2.2.1
      go_wp2_with fail
      refine (Start_all a n cp ts v2 v3 _ K7.out.1).mono ?_
      intro e x8 hP
      obtain ⟨u5, rfl, hu, hg⟩ := startR_pair hP
      have K8 := Lib.hid (And.intro hu (keep hg K7).out)
      clear hu hg K7 hP q1 q2 q3
      have q1 := (rules_at K8.out.2.2.2.1).1
      have q2 := (rules_at K8.out.2.2.2.1).2
      have q3 := lt_of_at K8.out.2.2.2.1
      go_wp2_with fail
      refine (rStart_all a n cp ts v2 v3 _ K8.out.2.1 HC.out).mono ?_
      intro e x9 hP
      obtain ⟨u6, rfl, hu, hg⟩ := startR_pair hP
      have K9 := Lib.hid (And.intro hu (keep hg K8).out)
      clear hu hg K8 hP q1 q2 q3
      go_wp2_with fail
      refine (Same_tasks K9.out.2.1 K9.out.1).mono ?_
      rintro e x10 ⟨rfl, hg⟩
      have K10 := Lib.hid (keep hg K9).out.2.2
      clear hg K9
      go_wp2_with fail
      go_roundw
      case rel => exact ⟨1, by omega, by go_num, ⟨a, n, cp, ts, ac, m, cc, cs, v0, v1, v2, v3, rfl, rfl, K10.out.1, HC.out, K10.out.2.1, K10.out.2.2.1⟩, ⟨_, by omega, K10.out.2.2.2.1⟩, K10.out.2.2.2.2⟩
      case measure => simp [intOf]
    · go_wp2_with fail
      refine (made_any w1.heap.size 28 a3 len3 cap3 _ kt _ K.out.2.2.2.1 (by omega)).mono ?_
      rintro e y2 ⟨rv, nr, tr, k2, rfl, hown, hts, hn7, hok, hT, hk2, hg2⟩
      obtain ⟨ar, cr, rfl, -, -, -, -⟩ := sliceIn_owns hown
      have T2 := Lib.hid hT
      have O2 := Lib.hid hown
      have V2 := Lib.hid (grown_at hg2 K.out.2.2.1 (by simp; omega))
      have zB := K.out.2.2.2.1.lt
      have zV := lt_of_at K.out.2.2.1
      have G2 : Hid (w.grownBy y2 none) := Lib.hid (grown_own K.out.2.2.2.2 hg2 (fun g hg => by obtain rfl := Option.some.inj hg; omega))
      have z2 := hg2.size
      have LT := Lib.hid hts
      clear hown hts hok hT hg2 K HC
      go_wp2_with fail
      go_loopw [1, 11] (fun c i wr2 => ∃ (j : Nat) (cs : List Bool), i = .int .i64 j ∧ j ≤ nr ∧ cs.length = j ∧ wr2.ownsRow y2.heap.size 4 1 c j (bools cs) ∧ TapeAt wr2 w1.heap.size 28 a3 len3 cap3 (z3.take len3) (k2 + j) ∧ y2.grownBy wr2 (some w1.heap.size)) (fun _ i _ => nr - (intOf i).toNat)
      case atStart => exact ⟨0, [], rfl, Nat.zero_le _, rfl, World.ownsRow_nil _ _ _ _, T2.out, grown_refl _ _⟩
      case round =>
        obtain ⟨j, cs, rfl, hj, hcs, hown, htj, hgj⟩ := hrel
        have OJ := Lib.hid hown
        have TJ := Lib.hid htj
        have GJ := Lib.hid hgj
        have zj := hgj.size
        clear hown htj hgj
        by_cases hjl : j < nr
        · have hjl' : (j : Int) < nr := by omega
          go_wp2_with fail
          refine (Next_in _ _ _ _ _ _ _ 2 _ TJ.out (by omega) (by omega) (by omega)).mono ?_
          rintro e w5 ⟨y, rfl, y0, y1, hT5, hg5⟩
          have O5 := Lib.hid (OJ.out.kept hg5 (.inr (owns_not OJ.out (by omega))))
          have T5 := Lib.hid hT5
          have G5 := Lib.hid (grown_trans GJ.out hg5)
          have z5 := hg5.size
          clear hT5 hg5
          go_wp2_with (at_builtin; refine wpList_append_in St_bool rfl (.tmp 45) (.tmp 49) rfl rfl (O5.out.alloc (.cells #[.bool (y == 0)] 4)) rfl (news := bools [y == 0]) (rowIn_block (n := 1) (size := 1) (at_new _ _) rfl (by unfold maxLen; omega)) (fun h => by cases h) (bools_one _) ?c1 ?c2 ?c3 ?_)
          case c1 => unfold maxLen; omega
          case c2 => omega
          case c3 => first | omega | (simp; omega)
          intro v' w6 hown6 hg6 hloc
          clear hloc
          have O6 : Hid (w6.ownsRow y2.heap.size 4 1 v' (j + 1) (bools (cs ++ [y == 0]))) := Lib.hid (by unfold bools at hown6 ⊢; rw [List.map_append]; exact hown6)
          have T6 := Lib.hid ((T5.out.above (grown_alloc (.cells #[.bool (y == 0)] 4) (grown_refl w5 none)) (by simp)).above hg6 (fun g hg => by have := (O5.out.lt g hg).1; omega))
          have G6 := Lib.hid (grown_tape (grown_alloc (.cells #[.bool (y == 0)] 4) G5.out) hg6 (fun g hg => by have := (O5.out.lt g hg); omega))
          clear hown6 hg6 O5 T5 G5 OJ TJ GJ
          go_wp2_with fail
          go_roundw
          case rel => exact ⟨j + 1, _, by go_num, by omega, by simp [hcs], O6.out, T6.out, G6.out⟩
          case measure => simp [intOf]; omega
        · obtain rfl : j = nr := by omega
          obtain ⟨ac, capc, rfl, hcc, hcm, hrow⟩ := rowIn_owns OJ.out
          have HCS := Lib.hid hcs
          have O3 := Lib.hid (O2.out.kept GJ.out (.inr (owns_not O2.out zB)))
          have V3 := Lib.hid (grown_at GJ.out V2.out (by simp; omega))
          have G3 : Hid (w.grownBy wr none) := Lib.hid (grown_own G2.out GJ.out (fun g hg => by obtain rfl := Option.some.inj hg; omega))
          clear hrow hcs T2 O2 V2 G2 GJ
          go_wp2_with fail
          refine (Next_in _ _ _ _ _ _ _ 10 _ TJ.out (by omega) (by omega) (by omega)).mono ?_
          rintro e s1 ⟨p1, rfl, pa1, pb1, hT, hg⟩
          have T1' := Lib.hid hT
          have O1' := Lib.hid (O3.out.kept hg (.inr (owns_not O3.out zB)))
          have C1' := Lib.hid (OJ.out.kept hg (.inr (owns_not OJ.out (by omega))))
          have V1' := Lib.hid (grown_at hg V3.out (by simp; omega))
          have G1' : Hid (w.grownBy s1 none) := Lib.hid (grown_own G3.out hg (fun g hg => by obtain rfl := Option.some.inj hg; omega))
          clear hT hg TJ O3 OJ V3 G3
          go_wp2_with fail
          refine (Next_in _ _ _ _ _ _ _ 6 _ T1'.out (by omega) (by omega) (by omega)).mono ?_
          rintro e s2 ⟨p2, rfl, pa2, pb2, hT, hg⟩
          have T2' := Lib.hid hT
          have O2' := Lib.hid (O1'.out.kept hg (.inr (owns_not O1'.out zB)))
          have C2' := Lib.hid (C1'.out.kept hg (.inr (owns_not C1'.out (by omega))))
          have V2' := Lib.hid (grown_at hg V1'.out (by simp; omega))
          have G2' : Hid (w.grownBy s2 none) := Lib.hid (grown_own G1'.out hg (fun g hg => by obtain rfl := Option.some.inj hg; omega))
          clear hT hg T1' O1' C1' V1' G1'
          go_wp2_with fail
          refine (Next_in _ _ _ _ _ _ _ _ _ T2'.out (by omega) (by omega) (by omega)).mono ?_
          rintro e s3 ⟨p3, rfl, pa3, pb3, hT, hg⟩
          have T3' := Lib.hid hT
          have O3' := Lib.hid (O2'.out.kept hg (.inr (owns_not O2'.out zB)))
          have C3' := Lib.hid (C2'.out.kept hg (.inr (owns_not C2'.out (by omega))))
          have V3' := Lib.hid (grown_at hg V2'.out (by simp; omega))
          have G3' : Hid (w.grownBy s3 none) := Lib.hid (grown_own G2'.out hg (fun g hg => by obtain rfl := Option.some.inj hg; omega))
          clear hT hg T2' O2' C2' V2' G2'
          go_wp2_with fail
          refine (Next_in _ _ _ _ _ _ _ 10 _ T3'.out (by omega) (by omega) (by omega)).mono ?_
          rintro e s4 ⟨p4, rfl, pa4, pb4, hT, hg⟩
          have T4' := Lib.hid hT
          have O4' := Lib.hid (O3'.out.kept hg (.inr (owns_not O3'.out zB)))
          have C4' := Lib.hid (C3'.out.kept hg (.inr (owns_not C3'.out (by omega))))
          have V4' := Lib.hid (grown_at hg V3'.out (by simp; omega))
          have G4' : Hid (w.grownBy s4 none) := Lib.hid (grown_own G3'.out hg (fun g hg => by obtain rfl := Option.some.inj hg; omega))
          clear hT hg T3' O3' C3' V3' G3'
          have q1 := (rules_at V4'.out).1
          have q2 := (rules_at V4'.out).2
          have q3 := lt_of_at V4'.out
          have q0 : s4.cell? ⟨w.heap.size, 0, none⟩ = some (.int .i64 v0) := by rw [q1]; rfl
          have q01 : s4.cell? ⟨w.heap.size, 1, none⟩ = some (.int .i64 v1) := by rw [q1]; rfl
          have q02 : s4.cell? ⟨w.heap.size, 2, none⟩ = some (.int .i64 v2) := by rw [q1]; rfl
          have q03 : s4.cell? ⟨w.heap.size, 3, none⟩ = some (.int .i64 v3) := by rw [q1]; rfl
          clear q1
          have gS := set4_grown s4 w.heap.size (p1 - 1) (p2 - 1) (p3 - 1) (p4 - 1)
          have hR := row_of_owns (O4'.out.kept gS (.inr (owns_not O4'.out zV)))
          have hC := row_of_owns (C4'.out.kept gS (.inr (owns_not C4'.out (by omega))))
          have GS : Hid (w.grownBy (set4 s4 w.heap.size (p1 - 1) (p2 - 1) (p3 - 1) (p4 - 1)) none) := Lib.hid (grown_own G4'.out gS (fun g hg => by obtain rfl := Option.some.inj hg; omega))
          have KS : Hid (RowIn (set4 s4 w.heap.size (p1 - 1) (p2 - 1) (p3 - 1) (p4 - 1)) ar j 5 (flat tr) ∧ RowIn (set4 s4 w.heap.size (p1 - 1) (p2 - 1) (p3 - 1) (p4 - 1)) ac j 1 (bools cs) ∧ (set4 s4 w.heap.size (p1 - 1) (p2 - 1) (p3 - 1) (p4 - 1)).heap[w.heap.size]? = some (vObj (p1 - 1) (p2 - 1) (p3 - 1) (p4 - 1)) ∧ TapeAt (set4 s4 w.heap.size (p1 - 1) (p2 - 1) (p3 - 1) (p4 - 1)) w1.heap.size 28 a3 len3 cap3 (z3.take len3) (k2 + j + 1 + 1 + 1 + 1) ∧ w.grownBy (set4 s4 w.heap.size (p1 - 1) (p2 - 1) (p3 - 1) (p4 - 1)) none) :=
            Lib.hid ⟨hR.1, hC.1, set4_at V4'.out _ _ _ _, tape_re T4'.out r0.out GS.out (gS.block _ T4'.out.lt (by simp; omega)) (by omega), GS.out⟩
          have HCS' : Hid (ar = none → cr = 0) := Lib.hid hR.2.1
          clear hR hC gS GS T4' O4' C4' V4' G4'
          have L := Lib.hid (tk_len KS.out.1)
          go_wp2_with fail
          refine (Queued_p ar j cr tr _ KS.out.1 L.out).mono ?_
          rintro e x1 ⟨rfl, hg⟩
          have K1 := keep hg KS
          clear hg KS
          go_wp2_with fail
          refine (Queued_r ar j cr tr _ K1.out.1 L.out).mono ?_
          rintro e x2 ⟨rfl, hg⟩
          have K2 := keep hg K1
          clear hg K1
          have q1 := (rules_at K2.out.2.2.1).1
          have q2 := (rules_at K2.out.2.2.1).2
          have q3 := lt_of_at K2.out.2.2.1
          go_wp2_with fail
          refine (AddP_any ar j cr tr (p1 - 1) (p3 - 1) (p4 - 1) _ K2.out.1 L.out HCS'.out).mono ?_
          intro e x3 hP
          obtain ⟨u3, rfl, hu, hg⟩ := addP_pair hP
          have K3 := Lib.hid (And.intro hu (keep hg K2).out)
          clear hu hg K2 hP q1 q2 q3
          have q1 := (rules_at K3.out.2.2.2.1).1
          have q2 := (rules_at K3.out.2.2.2.1).2
          have q3 := lt_of_at K3.out.2.2.2.1
          go_wp2_with fail
          refine (rAdd_any ar j cr tr (p1 - 1) (p3 - 1) (p4 - 1) _ K3.out.2.1 L.out HCS'.out).mono ?_
          intro e x4 hP
          obtain ⟨u4, rfl, hu, hg⟩ := addP_pair hP
          have K4 := Lib.hid (And.intro hu (keep hg K3).out)
          clear hu hg K3 hP q1 q2 q3
          go_wp2_with fail
          refine (Same_tasks K4.out.2.1 K4.out.1).mono ?_
          rintro e x5 ⟨rfl, hg⟩
          have K5 := Lib.hid (keep hg K4).out.2.2
          clear hg K4
          have q1 := (rules_at K5.out.2.2.1).1
          have q2 := (rules_at K5.out.2.2.1).2
          have q3 := lt_of_at K5.out.2.2.1
          go_wp2_with fail
          refine (Choose_all ar j cr tr ac j capc cs (p2 - 1) _ K5.out.1 K5.out.2.1).mono ?_
          rintro e x6 ⟨rfl, hg⟩
          have K6 := keep hg K5
          clear hg K5 q1 q2 q3
          have q1 := (rules_at K6.out.2.2.1).1
          have q2 := (rules_at K6.out.2.2.1).2
          have q3 := lt_of_at K6.out.2.2.1
          go_wp2_with fail
          refine (rChoose_all ar j cr tr ac j capc cs (p2 - 1) _ K6.out.1 K6.out.2.1).mono ?_
          rintro e x7 ⟨rfl, hg⟩
          have K7 := keep hg K6
          clear hg K6 q1 q2 q3
          have q1 := (rules_at K7.out.2.2.1).1
          have q2 := (rules_at K7.out.2.2.1).2
          have q3 := lt_of_at K7.out.2.2.1
          go_wp2_with fail
          refine (Start_all ar j cr tr (p3 - 1) (p4 - 1) _ K7.out.1).mono ?_
          intro e x8 hP
          obtain ⟨u5, rfl, hu, hg⟩ := startR_pair hP
          have K8 := Lib.hid (And.intro hu (keep hg K7).out)
          clear hu hg K7 hP q1 q2 q3
          have q1 := (rules_at K8.out.2.2.2.1).1
          have q2 := (rules_at K8.out.2.2.2.1).2
          have q3 := lt_of_at K8.out.2.2.2.1
          go_wp2_with fail
          refine (rStart_all ar j cr tr (p3 - 1) (p4 - 1) _ K8.out.2.1 HCS'.out).mono ?_
          intro e x9 hP
          obtain ⟨u6, rfl, hu, hg⟩ := startR_pair hP
          have K9 := Lib.hid (And.intro hu (keep hg K8).out)
          clear hu hg K8 hP q1 q2 q3
          go_wp2_with fail
          refine (Same_tasks K9.out.2.1 K9.out.1).mono ?_
          rintro e x10 ⟨rfl, hg⟩
          have K10 := Lib.hid (keep hg K9).out.2.2
          clear hg K9
          go_wp2_with fail
          go_roundw
          case rel => exact ⟨2, by omega, by go_num, ⟨ar, j, cr, tr, ac, j, capc, cs, p1 - 1, p2 - 1, p3 - 1, p4 - 1, rfl, rfl, K10.out.1, HCS'.out, K10.out.2.1, K10.out.2.2.1⟩, ⟨_, by omega, K10.out.2.2.2.1⟩, K10.out.2.2.2.2⟩
          case measure => simp [intOf]
    · skip
      go_wp2_with fail
      go_ret
      exact ⟨rfl, grown_below K.out.2.2.2.2⟩
end Go.Proofs.Ytfdnbkclpnaijaa
