/- The contracts of bits.Mul, slices.Repeat, New (program and reference). -/
import Derived.Test.YtbpobekmbdngbaaLkOps
import Derived.Lib.Mul64
import Derived.Laws.Bits64b
import Derived.Laws.CopyOwn
namespace Go.Proofs.Ytbpobekmbdngbaa
open Go.RowKit Go.Lib
set_option linter.unusedVariables false

namespace M64
theorem maskN (a : Nat) (ha : a < 18446744073709551616) : bits .and .u64 (a : Int) 4294967295 = ((a % 4294967296 : Nat) : Int) := by
  have h := bits_and_u64_nat a 4294967295 ha (by omega)
  have e : a &&& 4294967295 = a % 4294967296 := Nat.and_two_pow_sub_one_eq_mod a 32
  rw [e] at h
  exact h
end M64
set_option maxHeartbeats 1600000 in
theorem Mul64_small (n : Nat) (hn : n < 1000) (w : World) :
    Calls Try.prog 57 #[.int .u64 1, .int .u64 n] w fun e w' => e = .returned (.tuple #[.int .u64 0, .int .u64 n]) ∧ w' = w := by
  have e1 : bits .and .u64 (1 : Int) 4294967295 = 1 := M64.maskN 1 (by omega)
  have e0 : bits .and .u64 (0 : Int) 4294967295 = 0 := M64.maskN 0 (by omega)
  have e2 : bits .and .u64 (n : Int) 4294967295 = n := by rw [M64.maskN n (by omega)]; omega
  have e3 : (n : Int) / 4294967296 = 0 := by omega
  have e4 : (1 : Int) / 4294967296 = 0 := by omega
  have e5 : IntKind.u64.wrap (n : Int) = n := by rw [IntKind.wrap_u64]; omega
  have e6 : IntKind.u64.wrap (0 : Int) = 0 := by rw [IntKind.wrap_u64]; omega
  go_enter Try.func57, Try.ntmps57
  go_wp2
  go_ret2
  exact ⟨rfl, rfl⟩

set_option maxHeartbeats 1600000 in
theorem Mul_small (n : Nat) (hn : n < 1000) (w : World) :
    Calls Try.prog 53 #[.int .u64 1, .int .u64 n] w fun e w' => e = .returned (.tuple #[.int .u64 0, .int .u64 n]) ∧ w' = w := by
  go_enter Try.func53, Try.ntmps53
  go_wp2_with (go_at_call 57; refine (Mul64_small n hn _).mono ?_; rintro e w' ⟨rfl, rfl⟩)
  go_ret2
  exact ⟨rfl, rfl⟩

/-! ### slices.Repeat -/
def fillL (n k : Nat) : List Value := List.replicate k (.int .i64 (-1)) ++ List.replicate (n - k) (.int .i64 0)
theorem fill_len {n k : Nat} (h : k ≤ n) : (fillL n k).length = n := by simp [fillL]; omega
theorem fill_splice {n k c : Nat} (h : k + c ≤ n) : splice (fillL n k) k (List.replicate c (.int .i64 (-1))) = fillL n (k + c) := by
  unfold splice fillL
  rw [List.length_replicate, List.take_append_of_le_length (by simp), List.take_of_length_le (by simp), List.drop_append, List.drop_of_length_le (by simp), List.nil_append, List.length_replicate, List.drop_replicate, ← List.append_assoc, List.replicate_append_replicate]
  congr 2
  omega
theorem fill_at {n k j : Nat} (h : j < k) : (fillL n k)[j]? = some (.int .i64 (-1)) := by
  unfold fillL
  rw [List.getElem?_append_left (by simpa using h), List.getElem?_replicate, if_pos h]
theorem ownR_full {w : World} {g n : Nat} {e : TypeId} {xs : List Value} (h : OwnR w g n n e 1 xs) : w.heap[g]? = some (.cells xs.toArray e (0, 0)) := by
  obtain ⟨cur, h1, h2, h3, h4, h5⟩ := h
  rw [List.take_of_length_le (by rw [Array.length_toList]; omega)] at h5
  rw [h1, ← h5]
theorem ownR_of_full {w : World} {g n : Nat} {e : TypeId} {xs : List Value} (h : w.heap[g]? = some (.cells xs.toArray e (0, 0))) (hn : xs.length = n) (hm : n ≤ maxLen) : OwnR w g n n e 1 xs :=
  ⟨_, h, Nat.le_refl _, hm, by simp [hn], by simp [← hn]⟩
theorem ownR_of_slice {w : World} {base e size n c g : Nat} {xs : List Value} (h : w.ownsRow base e size (.slice (some ⟨g, 0, none⟩) n c) n xs) : OwnR w g c n e size xs ∧ base ≤ g := by
  rcases h.2 with ⟨h1, _⟩ | ⟨g', cap, cur, hv, hb, hg, h1, h2, h3, h4⟩
  · cases h1
  · simp only [Value.slice.injEq, Option.some.injEq, Addr.mk.injEq, and_true, true_and] at hv
    obtain ⟨rfl, rfl⟩ := hv
    exact ⟨⟨cur, hg, h1, h2, h3, h4⟩, hb⟩
theorem made_zeros (n : Nat) : (madeCells #[Value.int .i64 0] n).toList = fillL n 0 := by
  unfold fillL
  rw [List.replicate_zero, List.nil_append, Nat.sub_zero]
  apply List.ext_getElem?
  intro j
  simp only [madeCells, List.getElem?_replicate]
  by_cases h : j < n
  · simp only [h, if_pos]; simp [h, Nat.mod_one]
  · simp [h]
theorem fill_all (n : Nat) : fillL n n = ints (List.replicate n (-1)) := by simp [fillL, ints]
theorem rep_one {c : Nat} : ∀ u ∈ List.replicate c (Value.int .i64 (-1)), u.oneCell' = true := fun u hu => by rw [List.eq_of_mem_replicate hu]; rfl

set_option maxRecDepth 100000 in
set_option maxHeartbeats 3200000 in
theorem Repeat_any (b off c n : Nat) (w : World) (hb : w.cell? ⟨b, off, none⟩ = some (.int .i64 (-1))) (hn : n ≤ 48) :
    Calls Try.prog 33 #[.slice (some ⟨b, off, none⟩) 1 c, .int .i64 n] w fun e w' => e = .returned (.slice (some ⟨w.heap.size, 0, none⟩) n n) ∧ OwnR w' w.heap.size n n 3 1 (ints (List.replicate n (-1))) ∧ w.grownBy w' none := by
  obtain ⟨ii, hi, hz0, hz1, hz2⟩ := info_parts Try.info_int
  have hib := Lib.hid hi
  have hib0 := Lib.hid hz0
  have hib1 := Lib.hid hz1
  have hib2 := Lib.hid hz2
  have HB := Lib.hid hb
  have hsz : Hid ((Try.prog.info? 3).map (·.size) = some 1) := Lib.hid (by rw [hi]; simp [hz1])
  clear hi hz0 hz1 hz2 hb
  go_enter Try.func33, Try.ntmps33
  have d1 : decide ((n : Int) < 0) = false := by simp
  have d2 : decide ((9223372036854775807 : Int) < n) = false := by simp; omega
  go_wp2_with (first | (go_at_call 53; refine (Mul_small n (by omega) _).mono ?_; rintro e w' ⟨rfl, rfl⟩) | (at_make; refine wpList_make_full _ rfl _ _ 22 rfl w'.heap.size 3 ii _ 1 Try.underlying22 hib.out hib0.out hib1.out .i64 .i64 _ _ n rfl rfl (by omega) (by omega) (by rw [hib2.out]; omega) (by unfold maxLen; omega) (by omega) ?_))
  intro W2 hC hg2
  rw [made_zeros] at hC
  obtain ⟨hO, _⟩ := ownR_of_slice hC
  have hF := ownR_full hO
  have B2 := Lib.hid (grown_below hg2)
  have HB2 := Lib.hid ((grown_cell hg2 (lt_of_cell HB.out) (by simp)).trans HB.out)
  clear hC hg2 hO hib hib0 hib1 hib2
  by_cases hn0 : n = 0
  · subst hn0
    go_wp2_with (refine wpList_copy_nothing rfl (.tmp 31) (.tmp 32) 22 22 rfl 3 Try.underlying22 hsz.out _ _ _ _ _ _ rfl rfl rfl ?_)
    go_wp2_with fail
    go_loopw [8] (fun i wr => i = .int .i64 0 ∧ wr = W2) (fun _ _ => 0)
    case atStart => exact ⟨rfl, rfl⟩
    case round =>
      obtain ⟨rfl, rfl⟩ := hrel
      go_wp2_with fail
      go_ret
      exact ⟨rfl, by rw [← fill_all]; exact ownR_of_full (n := 0) hF rfl (by unfold maxLen; omega), below_grown B2.out⟩
  · have hn1 : (0 : Int) < n := by omega
    go_wp2_with (refine wpList_copy_splice rfl (.tmp 31) (.tmp 32) 22 22 rfl 3 Try.underlying22 hsz.out _ _ _ _ _ _ rfl rfl w'.heap.size 0 (fillL n 0) 3 hF (List.replicate 1 (.int .i64 (-1))) ?c1 (fun _ => ⟨rfl, _, rfl, ?c2⟩) ?c3 rep_one w'.heap.size w' B2.out (Nat.le_refl _) ?_)
    case c1 => show 1 = Nat.min 1 n; exact (Nat.min_eq_left (by omega)).symm
    case c2 =>
      intro j v hj
      match j, hj with
      | 0, hj => obtain rfl : Value.int .i64 (-1) = v := by simpa using hj
                 exact HB2.out
      | j + 1, hj => simp at hj
    case c3 => rw [fill_len (Nat.zero_le _)]; simp; omega
    intro W3 hF3 B3
    have e3 := fill_splice (n := n) (k := 0) (c := 1) (by omega)
    have F3 : Hid (W3.heap[w'.heap.size]? = some (.cells (fillL n 1).toArray 3 (0, 0))) := Lib.hid (by rw [← e3]; exact hF3.out)
    have BB3 := Lib.hid B3
    clear hF3 e3 hF B2 HB2 HB B3
    go_wp2_with fail
    go_loopw [8] (fun i wr => ∃ k : Nat, 0 < k ∧ k ≤ n ∧ i = .int .i64 k ∧ wr.heap[w'.heap.size]? = some (.cells (fillL n k).toArray 3 (0, 0)) ∧ Below w'.heap.size w' wr) (fun i _ => n - (intOf i).toNat)
    case atStart => exact ⟨1, by omega, by omega, rfl, F3.out, BB3.out⟩
    case round =>
      obtain ⟨k, hk0, hk, rfl, hF, hB⟩ := hrel
      have F := Lib.hid hF
      have B := Lib.hid hB
      clear F3 BB3 hF hB
      by_cases hkn : k < n
      · have hk1 : (k : Int) < n := by omega
        have hk2 : (0 : Int) ≤ k := by omega
        have hk3 : (k : Int) ≤ n := by omega
        have hnk : ¬ n = k := by omega
        go_upto_region 9 with fail
        obtain ⟨m, hm, hm0, hmn, hmk⟩ : ∃ m, min k (n - k) = m ∧ 0 < m ∧ k + m ≤ n ∧ m ≤ k := ⟨_, rfl, by omega, by omega, by omega⟩
        have REP : Hid (∀ (j : Nat) (v : Value), (List.replicate m (Value.int .i64 (-1)))[j]? = some v → ∀ wx : World, wx.heap[w'.heap.size]? = some (.cells (fillL n k).toArray 3 (0, 0)) → wx.cell? ((⟨w'.heap.size, 0, none⟩ : Addr).add j) = some v) := Lib.hid (by
          intro j v hj wx hx
          obtain ⟨hjl, hjv⟩ := List.getElem?_eq_some_iff.1 hj
          simp at hjl hjv
          subst hjv
          rw [Addr.add_lit, Nat.zero_add, cell_at hx]
          exact (by simpa using fill_at (n := n) (k := k) (by omega)))
        have FIT : Hid (k + (List.replicate m (Value.int .i64 (-1))).length ≤ (fillL n k).length) := Lib.hid (by rw [fill_len hk]; simp; omega)
        have MIN : Hid ((List.replicate m (Value.int .i64 (-1))).length = Nat.min k (n - k)) := Lib.hid (by rw [List.length_replicate]; exact hm.symm)
        have BD : Hid (Below w'.heap.size w' wr.drew) := Lib.hid (grown_below (grown_drew (below_grown B.out)))
        have SPL : Hid (splice (fillL n k) k (List.replicate m (Value.int .i64 (-1))) = fillL n (k + m)) := Lib.hid (fill_splice (by omega))
        go_region_held3 (fun _ => True) (trivial) ((refine step_copy_splice rfl (.tmp 41) (.tmp 44) 22 22 rfl 3 Try.underlying22 hsz.out (some ⟨w'.heap.size, k, none⟩) (some ⟨w'.heap.size, 0, none⟩) (n - k) (n - k) k n (by rfl) (by rfl) w'.heap.size k (fillL n k) 3 (show wr.drew.heap[w'.heap.size]? = _ from F.out) (List.replicate m (.int .i64 (-1))) MIN.out (fun _ => ⟨rfl, _, rfl, fun j v hj => REP.out j v hj wr.drew F.out⟩) FIT.out rep_one w'.heap.size w' BD.out (Nat.le_refl _) ?_; intro w4 hg4 hb4; rw [SPL.out] at hg4))
        have wr1 : IntKind.i64.wrap ((k : Int) + (m : Int)) = ((k + m : Nat) : Int) := by rw [Int.natCast_add]; exact IntWalk.i64_in _ (by omega)
        rw [wr1]
        clear wr1
        go_wp2_with fail
        go_roundw
        case rel => exact ⟨k + m, by omega, hmn, rfl, hg4.out, hb4⟩
        case measure => simp [intOf]; omega
      · obtain rfl : k = n := by omega
        go_wp2_with fail
        go_ret
        exact ⟨rfl, by rw [← fill_all]; exact ownR_of_full F.out (fill_len (Nat.le_refl _)) (by unfold maxLen; omega), below_grown B.out⟩

/-! ### New -/
def newE (c : Int) : Int := if c < 0 ∨ 48 < c then 19 else 0
def newL (c : Int) : Lk := ⟨List.replicate c.toNat (-1), List.replicate c.toNat []⟩
def newV (c : Int) : Lk := if newE c = 0 then newL c else zeroL

theorem step_make_full {P : Program} {w : World} {ops : Array Oper} {o : Oper} {a : Act} {K : Act → World → Prop} {Q : Exit → Act → World → Prop} {E : Prop}
    (hg : o.guard = none) (l c : Operand) (t : TypeId) (hop : o.op = Op.makeSlice t l c)
    (base : Nat) (e : TypeId) (i : TypeInfo) (z : Value) (size : Nat) (h1 : P.underlying t = some (.slice e)) (h2 : P.info? e = some i) (h3 : i.zero = some z) (h4 : i.size = size)
    (kl kc : IntKind) (n : Nat) (hl : a.eval l = .int kl (n : Int)) (hc : a.eval c = .int kc (n : Int)) (b2 : i.bytes * n ≤ 281474976710656) (b3 : n ≤ maxLen) (b4 : base ≤ w.heap.size)
    (hK : ∀ w', w'.ownsRow base e size (.slice (some ⟨w.heap.size, 0, none⟩) n n) n (madeCells z.cells (n * size)).toList → w.grownBy w' none → K (a.put o.dst (.slice (some ⟨w.heap.size, 0, none⟩) n n)) w') :
    if Region.wanted o (yielded ops a.tmps) = true then Oper.wp P o a w K Q else E := by
  have hw : Region.wanted o (yielded ops a.tmps) = true := by simp [Region.wanted, hg]
  rw [if_pos hw]
  obtain ⟨w', hrun, r1, r2⟩ := run_make_full (P := P) w base t e i z size h1 h2 h3 h4 kl kc n b2 b3 b4
  unfold Oper.wp
  simp [execOp, hop, hl, hc, hrun, Result.andThen]
  exact hK w' r1 r2
theorem alloc_hide {K : Act → World → Prop} {a : Act} {w : World} {o : Obj} (h : ∀ X, X = w.alloc o → K a X) : K a (w.alloc o) := h _ rfl
theorem alloc_hide_d {K : Act → World → Prop} {a : Act} {w : World} {o : Obj} (h : ∀ X, X = w.drew.alloc o → K a X) : K a (w.alloc o).drew := h _ rfl
theorem grown_hide {X w : World} {o : Obj} (h : X = w.alloc o) : w.grownBy X none := by rw [h]; exact grown_alloc _ (grown_refl _ _)
theorem at_hide {X w : World} {o : Obj} (h : X = w.alloc o) : X.heap[w.heap.size]? = some o := by rw [h]; exact at_new _ _
theorem nils_own {w : World} {g n : Nat} (h : OwnR w g n n 22 1 (List.replicate n (.slice none 0 0))) (hm : n ≤ maxLen) : OwnC w w.heap.size g n n (List.replicate n []) := by
  have h1 := ownR_full h
  refine ⟨_, h1, by simp, Nat.le_refl _, by simp, hm, fun i xs hi => ?_⟩
  rw [List.getElem?_replicate] at hi
  split at hi
  · obtain rfl := Option.some.inj hi
    have hin : i < n := by assumption
    exact ⟨.slice none 0 0, by simp [hin], World.ownsRow_nil _ _ _ _, by simp [Value.ownBlock], fun j u _ _ _ => .inl rfl⟩
  · cases hi
theorem new_met {w X : World} {g1 g2 n : Nat} {u0 u1 : Value} (hb : X.heap[w.heap.size]? = some (.cells #[u0, u1] 26 (0, 0))) (h1 : OwnR X g1 n n 3 1 (ints (List.replicate n (-1)))) (h2 : OwnR X g2 n n 22 1 (List.replicate n (.slice none 0 0))) (hg : w.grownBy X none) (k1 : w.heap.size < g1) (k2 : w.heap.size < g2) (hm : n ≤ 48) :
    (∀ R, (∀ b, R = some b → b < w.heap.size) → LkV R ((X.setCell ⟨w.heap.size, 0, none⟩ (.slice (some ⟨g1, 0, none⟩) n n)).setCell ⟨w.heap.size, 1, none⟩ (.slice (some ⟨g2, 0, none⟩) n n)) (lkV (some ⟨g1, 0, none⟩) n n (some ⟨g2, 0, none⟩) n n) (newL n)) ∧
    w.grownBy ((X.setCell ⟨w.heap.size, 0, none⟩ (.slice (some ⟨g1, 0, none⟩) n n)).setCell ⟨w.heap.size, 1, none⟩ (.slice (some ⟨g2, 0, none⟩) n n)) none ∧
    ((X.setCell ⟨w.heap.size, 0, none⟩ (.slice (some ⟨g1, 0, none⟩) n n)).setCell ⟨w.heap.size, 1, none⟩ (.slice (some ⟨g2, 0, none⟩) n n)).cell? ⟨w.heap.size, 0, none⟩ = some (.slice (some ⟨g1, 0, none⟩) n n) ∧
    ((X.setCell ⟨w.heap.size, 0, none⟩ (.slice (some ⟨g1, 0, none⟩) n n)).setCell ⟨w.heap.size, 1, none⟩ (.slice (some ⟨g2, 0, none⟩) n n)).cell? ⟨w.heap.size, 1, none⟩ = some (.slice (some ⟨g2, 0, none⟩) n n) ∧
    (X.setCell ⟨w.heap.size, 0, none⟩ (.slice (some ⟨g1, 0, none⟩) n n)).cell? ⟨w.heap.size, 0, none⟩ = some (.slice (some ⟨g1, 0, none⟩) n n) := by
  have gs : X.grownBy ((X.setCell ⟨w.heap.size, 0, none⟩ (.slice (some ⟨g1, 0, none⟩) n n)).setCell ⟨w.heap.size, 1, none⟩ (.slice (some ⟨g2, 0, none⟩) n n)) (some w.heap.size) := grown_set _ (grown_set _ (grown_refl X _) (.inr rfl)) (.inr rfl)
  have hX := hg.size
  have hm' : n ≤ maxLen := by unfold maxLen; omega
  refine ⟨fun R hR => ?_, grown_own hg gs (fun b hb => by obtain rfl := Option.some.inj hb; exact Nat.le_refl _), (two_get hb _ _).1, (two_get hb _ _).2, by rw [cell_at (at_set _ hb)]; rfl⟩
  exact lkV_own (l := newL n) (w0 := w.heap.size) (h1.kept gs (by simp; omega)) ((nils_own h2 hm').kept gs (fun b hb => by obtain rfl := Option.some.inj hb; have := h2.lt; omega)) (by omega) (by omega) hX hR

set_option maxRecDepth 100000 in
set_option maxHeartbeats 6400000 in
theorem New_any (c : Int) (w : World) : Calls Try.prog 12 #[.int .i64 c] w (GiveLk (newV c) (newE c) w) := by
  have B0 := Lib.hid (at_new w (.cells #[.slice none 0 0, .slice none 0 0] 26))
  by_cases h1 : c < 0 ∨ 48 < c
  · have EE : Hid (newE c = 19) := Lib.hid (if_pos h1)
    have EV : Hid (newV c = zeroL) := Lib.hid (by unfold newV; rw [if_neg (by rw [EE.out]; decide)])
    have s0 := (rules_at B0.out).1
    have GZ : Hid (w.grownBy (w.alloc (.cells #[.slice none 0 0, .slice none 0 0] 26)) none) := Lib.hid (grown_alloc _ (grown_refl _ _))
    rcases h1 with h1 | h1
    · have t1 : decide (c < 0) = true := by simpa using h1
      clear h1
      go_enter Try.func12, Try.ntmps12
      go_wp2_with fail
      exact bodyPost_ret (v := .tuple #[lkV none 0 0 none 0 0, .int .i64 19]) (by simp [results, Try.results12, go_sem, s0]) rfl (by rw [EV.out, EE.out]; exact ⟨_, rfl, fun R _ => lkV_zero R _, GZ.out⟩)
    · have t1 : decide (c < 0) = false := by simp; omega
      have t2 : decide (48 < c) = true := by simpa using h1
      clear h1
      go_enter Try.func12, Try.ntmps12
      go_wp2_with fail
      exact bodyPost_ret (v := .tuple #[lkV none 0 0 none 0 0, .int .i64 19]) (by simp [results, Try.results12, go_sem, s0]) rfl (by rw [EV.out, EE.out]; exact ⟨_, rfl, fun R _ => lkV_zero R _, GZ.out⟩)
  · obtain ⟨n, rfl⟩ : ∃ n : Nat, c = n := ⟨c.toNat, by omega⟩
    have hn : n ≤ 48 := by omega
    have EE : Hid (newE n = 0) := Lib.hid (if_neg h1)
    have EV : Hid (newV n = newL n) := Lib.hid (by unfold newV; rw [if_pos EE.out])
    have t1 : decide ((n : Int) < 0) = false := by simp
    have t2 : decide ((48 : Int) < n) = false := by simp; omega
    clear h1
    obtain ⟨ii, hi, hz0, hz1, hz2⟩ := info_parts Try.info_ints
    have hib := Lib.hid hi
    have hib0 := Lib.hid hz0
    have hib1 := Lib.hid hz1
    have hib2 : Hid (ii.bytes * n ≤ 281474976710656) := Lib.hid (by rw [hz2]; omega)
    have hnm : n ≤ maxLen := by unfold maxLen; omega
    clear hi hz0 hz1 hz2
    go_enter Try.func12, Try.ntmps12
    go_upto_region 3 with fail
    obtain ⟨W0, hW0⟩ : ∃ W0, W0 = w.alloc (.cells #[.slice none 0 0, .slice none 0 0] 26) := ⟨_, rfl⟩
    rw [← hW0] at B0 ⊢
    have G0 : Hid (w.grownBy W0 none) := Lib.hid (by rw [hW0]; exact grown_alloc _ (grown_refl _ _))
    have z0 : w.heap.size < W0.heap.size := by rw [hW0]; simp
    have hb0 := B0.out
    have EA : Hid ((W0.alloc (.cells #[.int .i64 (-1)] 3)).drew.heap.size = W0.heap.size + 1) := Lib.hid (World.size_alloc ..)
    have ED : Hid (W0.drew.heap.size = W0.heap.size) := Lib.hid rfl
    clear hW0
    refine wp_region_held_drew (S := fun _ => True) (by kernel_rfl) (by (try dsimp only); all_goals trivial) (fun hHeld => ?_)
    refine wpAnyH_take (i := 1) (oi := { dst := some 12, op := .move (.tmp 0), type := _, pos := _, after := _, guard := none }) (v := ?_) rfl (by kernel_rfl) (by kernel_rfl) (by kernel_rfl) (fun _ _ _ h => h) (Or.inl ⟨by rfl, ?_⟩) (by assumption) ?_
    rotate_left
    · (intro w hSw; (try dsimp only at hSw); go_simp; (try with_reducible rfl))
    try simp only [Act.put, List.setIfInBounds_toArray, List.set_cons_zero, List.set_cons_succ]
    refine wpAnyH_take (i := 3) (oi := { dst := some 14, op := .move (.tmp 0), type := _, pos := _, after := _, guard := none }) (v := ?_) rfl (by kernel_rfl) (by kernel_rfl) (by kernel_rfl) (fun _ _ _ h => h) (Or.inl ⟨by rfl, ?_⟩) (by assumption) ?_
    rotate_left
    · (intro w hSw; (try dsimp only at hSw); go_simp; (try with_reducible rfl))
    try simp only [Act.put, List.setIfInBounds_toArray, List.set_cons_zero, List.set_cons_succ]
    refine wpAnyH_ready (rs := [0, 4]) (by kernel_rfl) (by simp) ?_
    refine AllReadyH.cons (o := _) rfl (fun K hK => ?_) (AllReadyH.cons (o := _) rfl (fun K hK => ?_) AllReadyH.nil)
    · skip
      go_simp
      refine hK.out _ _ ?_ (fun hHeld2 => ?_)
      · ((try dsimp only); all_goals trivial)
      clear hK K
      try simp only [Act.put, List.setIfInBounds_toArray, List.set_cons_zero, List.set_cons_succ]
      refine wpAnyH_ready (rs := [2, 4]) (by kernel_rfl) (by simp) ?_
      refine AllReadyH.cons (o := _) rfl (fun K hK => ?_) (AllReadyH.cons (o := _) rfl (fun K hK => ?_) AllReadyH.nil)
      · skip
        (go_simp; go_at_call 33; refine (Repeat_any _ 0 1 n _ (by first | exact cell_at (at_new _ _) | exact (grown_cell hgM (by simp) (by simp)).trans (cell_at (at_new _ _))) hn).mono ?_; rintro e W2 ⟨rfl, hO1, hgR⟩; have rb2 := grown_at hgR (o := .cells #[.slice none 0 0, .slice none 0 0] 26 (0, 0)) (b := w.heap.size) (by repeat (first | assumption | refine at_alloc _ ?_)) (by simp); have q1 := (rules_at rb2).1; have q2 := (rules_at rb2).2; have q3 := lt_of_at rb2; (first | have hCM2 := hCM.kept hgR (by simp) | have hCM2 := hCM.kept (grown_trans (grown_alloc _ (grown_refl _ _)) hgR) (by simp) | skip); (try rw [EA.out] at hO1); (try rw [World.size_alloc] at hO1); (try go_wp2_with fail))
        refine hK.out _ _ ?_ (fun hHeld2 => ?_)
        · ((try dsimp only); all_goals trivial)
        clear hK K
        try simp only [Act.put, List.setIfInBounds_toArray, List.set_cons_zero, List.set_cons_succ]
        refine wpAnyH_ready (rs := [4]) (by kernel_rfl) (by simp) ?_
        refine AllReadyH.cons (o := _) rfl (fun K hK => ?_) AllReadyH.nil
        (refine step_make_full rfl (.tmp 14) (.tmp 14) 24 rfl w.heap.size 22 ii _ 1 Try.underlying24 hib.out hib0.out hib1.out .i64 .i64 n (by rfl) (by rfl) hib2.out hnm (by first | omega | (simp; omega)) ?_; intro WM hCM0 hgM; obtain ⟨hCM, -⟩ := ownR_of_slice hCM0; rw [show madeCells (Value.slice none 0 0).cells (n * 1) = madeCells #[.slice none 0 0] n by rw [Nat.mul_one]; rfl, made_nils] at hCM; (try rw [EA.out] at hCM); (try rw [ED.out] at hCM); clear hCM0; have rbM := grown_at hgM (o := .cells #[.slice none 0 0, .slice none 0 0] 26 (0, 0)) (b := w.heap.size) (by repeat (first | assumption | refine at_alloc _ ?_)) (by simp); have q1 := (rules_at rbM).1; have q2 := (rules_at rbM).2; have q3 := lt_of_at rbM; (try have hO2 := hO1.kept hgM (by simp)))
        refine hK.out _ _ ?_ (fun hHeld2 => ?_)
        · ((try dsimp only); all_goals trivial)
        clear hK K
        try simp only [Act.put, List.setIfInBounds_toArray, List.set_cons_zero, List.set_cons_succ]
        refine wpAnyH_ready (rs := [5]) (by kernel_rfl) (by simp) ?_
        refine AllReadyH.cons (o := _) rfl (fun K hK => ?_) AllReadyH.nil
        go_simp
        refine hK.out _ _ ?_ (fun hHeld2 => ?_)
        · ((try dsimp only); all_goals trivial)
        clear hK K
        try simp only [Act.put, List.setIfInBounds_toArray, List.set_cons_zero, List.set_cons_succ]
        refine wpAnyH_ready (rs := [6]) (by kernel_rfl) (by simp) ?_
        refine AllReadyH.cons (o := _) rfl (fun K hK => ?_) AllReadyH.nil
        go_simp
        refine hK.out _ _ ?_ (fun hHeld2 => ?_)
        · ((try dsimp only); all_goals trivial)
        clear hK K
        try simp only [Act.put, List.setIfInBounds_toArray, List.set_cons_zero, List.set_cons_succ]
        refine wpAnyH_ready (rs := [7]) (by kernel_rfl) (by simp) ?_
        refine AllReadyH.cons (o := _) rfl (fun K hK => ?_) AllReadyH.nil
        go_simp
        refine hK.out _ _ ?_ (fun hHeld2 => ?_)
        · ((try dsimp only); all_goals trivial)
        clear hK K
        try simp only [Act.put, List.setIfInBounds_toArray, List.set_cons_zero, List.set_cons_succ]
        refine wpAnyH_done (by kernel_rfl) ?_ _
        have zW := (show W0.heap.size ≤ W0.drew.heap.size from Nat.le_refl _)
        first
          | (have FX := (new_met rbM hO2 hCM (grown_trans (grown_trans G0.out (grown_trans (by repeat (first | exact grown_refl _ _ | refine grown_drew ?_ | refine grown_alloc _ ?_)) hgR)) hgM) (by first | omega | (simp; omega)) (by first | omega | (simp; omega)) hn))
          | (have FX := (new_met rb2 hO1 hCM2 (grown_trans G0.out (grown_trans (grown_trans (by repeat (first | exact grown_refl _ _ | refine grown_drew ?_ | refine grown_alloc _ ?_)) hgM) (grown_trans (by repeat (first | exact grown_refl _ _ | refine grown_drew ?_ | refine grown_alloc _ ?_)) hgR))) (by first | omega | (simp; omega)) (by first | omega | (simp; omega)) hn))
        obtain ⟨f1, f2, s0, s1, s2⟩ := FX
        have F := Lib.hid f1
        have FG := Lib.hid f2
        clear f1 f2
        go_wp2_with fail
        exact bodyPost_ret (v := .tuple #[lkV _ n n _ n n, .int .i64 0]) (by simp [results, Try.results12, go_sem, s0, s1, s2]; first | exact ⟨rfl, rfl⟩ | rfl) rfl (by rw [EV.out, EE.out]; exact ⟨_, rfl, F.out, FG.out⟩)
      · skip
        (refine step_make_full rfl (.tmp 14) (.tmp 14) 24 rfl w.heap.size 22 ii _ 1 Try.underlying24 hib.out hib0.out hib1.out .i64 .i64 n (by rfl) (by rfl) hib2.out hnm (by first | omega | (simp; omega)) ?_; intro WM hCM0 hgM; obtain ⟨hCM, -⟩ := ownR_of_slice hCM0; rw [show madeCells (Value.slice none 0 0).cells (n * 1) = madeCells #[.slice none 0 0] n by rw [Nat.mul_one]; rfl, made_nils] at hCM; (try rw [EA.out] at hCM); (try rw [ED.out] at hCM); clear hCM0; have rbM := grown_at hgM (o := .cells #[.slice none 0 0, .slice none 0 0] 26 (0, 0)) (b := w.heap.size) (by repeat (first | assumption | refine at_alloc _ ?_)) (by simp); have q1 := (rules_at rbM).1; have q2 := (rules_at rbM).2; have q3 := lt_of_at rbM; (try have hO2 := hO1.kept hgM (by simp)))
        refine hK.out _ _ ?_ (fun hHeld2 => ?_)
        · ((try dsimp only); all_goals trivial)
        clear hK K
        try simp only [Act.put, List.setIfInBounds_toArray, List.set_cons_zero, List.set_cons_succ]
        refine wpAnyH_ready (rs := [2]) (by kernel_rfl) (by simp) ?_
        refine AllReadyH.cons (o := _) rfl (fun K hK => ?_) AllReadyH.nil
        (go_simp; go_at_call 33; refine (Repeat_any _ 0 1 n _ (by first | exact cell_at (at_new _ _) | exact (grown_cell hgM (by simp) (by simp)).trans (cell_at (at_new _ _))) hn).mono ?_; rintro e W2 ⟨rfl, hO1, hgR⟩; have rb2 := grown_at hgR (o := .cells #[.slice none 0 0, .slice none 0 0] 26 (0, 0)) (b := w.heap.size) (by repeat (first | assumption | refine at_alloc _ ?_)) (by simp); have q1 := (rules_at rb2).1; have q2 := (rules_at rb2).2; have q3 := lt_of_at rb2; (first | have hCM2 := hCM.kept hgR (by simp) | have hCM2 := hCM.kept (grown_trans (grown_alloc _ (grown_refl _ _)) hgR) (by simp) | skip); (try rw [EA.out] at hO1); (try rw [World.size_alloc] at hO1); (try go_wp2_with fail))
        refine hK.out _ _ ?_ (fun hHeld2 => ?_)
        · ((try dsimp only); all_goals trivial)
        clear hK K
        try simp only [Act.put, List.setIfInBounds_toArray, List.set_cons_zero, List.set_cons_succ]
        refine wpAnyH_ready (rs := [5]) (by kernel_rfl) (by simp) ?_
        refine AllReadyH.cons (o := _) rfl (fun K hK => ?_) AllReadyH.nil
        go_simp
        refine hK.out _ _ ?_ (fun hHeld2 => ?_)
        · ((try dsimp only); all_goals trivial)
        clear hK K
        try simp only [Act.put, List.setIfInBounds_toArray, List.set_cons_zero, List.set_cons_succ]
        refine wpAnyH_ready (rs := [6]) (by kernel_rfl) (by simp) ?_
        refine AllReadyH.cons (o := _) rfl (fun K hK => ?_) AllReadyH.nil
        go_simp
        refine hK.out _ _ ?_ (fun hHeld2 => ?_)
        · ((try dsimp only); all_goals trivial)
        clear hK K
        try simp only [Act.put, List.setIfInBounds_toArray, List.set_cons_zero, List.set_cons_succ]
        refine wpAnyH_ready (rs := [7]) (by kernel_rfl) (by simp) ?_
        refine AllReadyH.cons (o := _) rfl (fun K hK => ?_) AllReadyH.nil
        go_simp
        refine hK.out _ _ ?_ (fun hHeld2 => ?_)
        · ((try dsimp only); all_goals trivial)
        clear hK K
        try simp only [Act.put, List.setIfInBounds_toArray, List.set_cons_zero, List.set_cons_succ]
        refine wpAnyH_done (by kernel_rfl) ?_ _
        have zW := (show W0.heap.size ≤ W0.drew.heap.size from Nat.le_refl _)
        first
          | (have FX := (new_met rbM hO2 hCM (grown_trans (grown_trans G0.out (grown_trans (by repeat (first | exact grown_refl _ _ | refine grown_drew ?_ | refine grown_alloc _ ?_)) hgR)) hgM) (by first | omega | (simp; omega)) (by first | omega | (simp; omega)) hn))
          | (have FX := (new_met rb2 hO1 hCM2 (grown_trans G0.out (grown_trans (grown_trans (by repeat (first | exact grown_refl _ _ | refine grown_drew ?_ | refine grown_alloc _ ?_)) hgM) (grown_trans (by repeat (first | exact grown_refl _ _ | refine grown_drew ?_ | refine grown_alloc _ ?_)) hgR))) (by first | omega | (simp; omega)) (by first | omega | (simp; omega)) hn))
        obtain ⟨f1, f2, s0, s1, s2⟩ := FX
        have F := Lib.hid f1
        have FG := Lib.hid f2
        clear f1 f2
        go_wp2_with fail
        exact bodyPost_ret (v := .tuple #[lkV _ n n _ n n, .int .i64 0]) (by simp [results, Try.results12, go_sem, s0, s1, s2]; first | exact ⟨rfl, rfl⟩ | rfl) rfl (by rw [EV.out, EE.out]; exact ⟨_, rfl, F.out, FG.out⟩)
    · skip
      (refine step_make_full rfl (.tmp 14) (.tmp 14) 24 rfl w.heap.size 22 ii _ 1 Try.underlying24 hib.out hib0.out hib1.out .i64 .i64 n (by rfl) (by rfl) hib2.out hnm (by first | omega | (simp; omega)) ?_; intro WM hCM0 hgM; obtain ⟨hCM, -⟩ := ownR_of_slice hCM0; rw [show madeCells (Value.slice none 0 0).cells (n * 1) = madeCells #[.slice none 0 0] n by rw [Nat.mul_one]; rfl, made_nils] at hCM; (try rw [EA.out] at hCM); (try rw [ED.out] at hCM); clear hCM0; have rbM := grown_at hgM (o := .cells #[.slice none 0 0, .slice none 0 0] 26 (0, 0)) (b := w.heap.size) (by repeat (first | assumption | refine at_alloc _ ?_)) (by simp); have q1 := (rules_at rbM).1; have q2 := (rules_at rbM).2; have q3 := lt_of_at rbM; (try have hO2 := hO1.kept hgM (by simp)))
      refine hK.out _ _ ?_ (fun hHeld2 => ?_)
      · ((try dsimp only); all_goals trivial)
      clear hK K
      try simp only [Act.put, List.setIfInBounds_toArray, List.set_cons_zero, List.set_cons_succ]
      refine wpAnyH_ready (rs := [0]) (by kernel_rfl) (by simp) ?_
      refine AllReadyH.cons (o := _) rfl (fun K hK => ?_) AllReadyH.nil
      go_simp
      refine hK.out _ _ ?_ (fun hHeld2 => ?_)
      · ((try dsimp only); all_goals trivial)
      clear hK K
      try simp only [Act.put, List.setIfInBounds_toArray, List.set_cons_zero, List.set_cons_succ]
      refine wpAnyH_ready (rs := [2]) (by kernel_rfl) (by simp) ?_
      refine AllReadyH.cons (o := _) rfl (fun K hK => ?_) AllReadyH.nil
      (go_simp; go_at_call 33; refine (Repeat_any _ 0 1 n _ (by first | exact cell_at (at_new _ _) | exact (grown_cell hgM (by simp) (by simp)).trans (cell_at (at_new _ _))) hn).mono ?_; rintro e W2 ⟨rfl, hO1, hgR⟩; have rb2 := grown_at hgR (o := .cells #[.slice none 0 0, .slice none 0 0] 26 (0, 0)) (b := w.heap.size) (by repeat (first | assumption | refine at_alloc _ ?_)) (by simp); have q1 := (rules_at rb2).1; have q2 := (rules_at rb2).2; have q3 := lt_of_at rb2; (first | have hCM2 := hCM.kept hgR (by simp) | have hCM2 := hCM.kept (grown_trans (grown_alloc _ (grown_refl _ _)) hgR) (by simp) | skip); (try rw [EA.out] at hO1); (try rw [World.size_alloc] at hO1); (try go_wp2_with fail))
      refine hK.out _ _ ?_ (fun hHeld2 => ?_)
      · ((try dsimp only); all_goals trivial)
      clear hK K
      try simp only [Act.put, List.setIfInBounds_toArray, List.set_cons_zero, List.set_cons_succ]
      refine wpAnyH_ready (rs := [5]) (by kernel_rfl) (by simp) ?_
      refine AllReadyH.cons (o := _) rfl (fun K hK => ?_) AllReadyH.nil
      go_simp
      refine hK.out _ _ ?_ (fun hHeld2 => ?_)
      · ((try dsimp only); all_goals trivial)
      clear hK K
      try simp only [Act.put, List.setIfInBounds_toArray, List.set_cons_zero, List.set_cons_succ]
      refine wpAnyH_ready (rs := [6]) (by kernel_rfl) (by simp) ?_
      refine AllReadyH.cons (o := _) rfl (fun K hK => ?_) AllReadyH.nil
      go_simp
      refine hK.out _ _ ?_ (fun hHeld2 => ?_)
      · ((try dsimp only); all_goals trivial)
      clear hK K
      try simp only [Act.put, List.setIfInBounds_toArray, List.set_cons_zero, List.set_cons_succ]
      refine wpAnyH_ready (rs := [7]) (by kernel_rfl) (by simp) ?_
      refine AllReadyH.cons (o := _) rfl (fun K hK => ?_) AllReadyH.nil
      go_simp
      refine hK.out _ _ ?_ (fun hHeld2 => ?_)
      · ((try dsimp only); all_goals trivial)
      clear hK K
      try simp only [Act.put, List.setIfInBounds_toArray, List.set_cons_zero, List.set_cons_succ]
      refine wpAnyH_done (by kernel_rfl) ?_ _
      have zW := (show W0.heap.size ≤ W0.drew.heap.size from Nat.le_refl _)
      first
        | (have FX := (new_met rbM hO2 hCM (grown_trans (grown_trans G0.out (grown_trans (by repeat (first | exact grown_refl _ _ | refine grown_drew ?_ | refine grown_alloc _ ?_)) hgR)) hgM) (by first | omega | (simp; omega)) (by first | omega | (simp; omega)) hn))
        | (have FX := (new_met rb2 hO1 hCM2 (grown_trans G0.out (grown_trans (grown_trans (by repeat (first | exact grown_refl _ _ | refine grown_drew ?_ | refine grown_alloc _ ?_)) hgM) (grown_trans (by repeat (first | exact grown_refl _ _ | refine grown_drew ?_ | refine grown_alloc _ ?_)) hgR))) (by first | omega | (simp; omega)) (by first | omega | (simp; omega)) hn))
      obtain ⟨f1, f2, s0, s1, s2⟩ := FX
      have F := Lib.hid f1
      have FG := Lib.hid f2
      clear f1 f2
      go_wp2_with fail
      exact bodyPost_ret (v := .tuple #[lkV _ n n _ n n, .int .i64 0]) (by simp [results, Try.results12, go_sem, s0, s1, s2]; first | exact ⟨rfl, rfl⟩ | rfl) rfl (by rw [EV.out, EE.out]; exact ⟨_, rfl, F.out, FG.out⟩)

theorem fill_set {n k : Nat} (h : k < n) : (fillL n k).set k (.int .i64 (-1)) = fillL n (k + 1) := by
  have := fill_splice (n := n) (k := k) (c := 1) (by omega)
  rw [← this]
  unfold splice
  rw [List.set_eq_take_append_cons_drop, if_pos (by rw [fill_len (by omega)]; exact h)]
  rfl

theorem drew_size (w : World) : w.drew.heap.size = w.heap.size := rfl
def NewMid (w : World) (n : Nat) (p : Value) (wx : World) : Prop := ∃ g1 g2 b4, p = .pointer (some ⟨b4, 0, none⟩) ∧ wx.heap[w.heap.size]? = some (.cells #[.slice none 0 0, .slice none 0 0] 26 (0, 0)) ∧ wx.heap[b4]? = some (.cells #[.slice (some ⟨g1, 0, none⟩) n n, .slice (some ⟨g2, 0, none⟩) n n] 26 (0, 0)) ∧ OwnR wx g1 n n 3 1 (fillL n 0) ∧ OwnR wx g2 n n 22 1 (List.replicate n (.slice none 0 0)) ∧ g1 ≠ b4 ∧ g1 ≠ g2 ∧ w.heap.size < g1 ∧ w.heap.size < g2 ∧ w.heap.size < b4 ∧ w.grownBy wx none
theorem new_cut {w X : World} {g1 g2 b4 n : Nat} {u0 u1 : Value} (hb : X.heap[w.heap.size]? = some (.cells #[.slice none 0 0, .slice none 0 0] 26 (0, 0))) (hbx : X.heap[b4]? = some (.cells #[u0, u1] 26 (0, 0)))
    (h1 : OwnR X g1 n n 3 1 (fillL n 0)) (h2 : OwnR X g2 n n 22 1 (List.replicate n (.slice none 0 0))) (G : w.grownBy X none) (e1 : g1 ≠ b4) (e2 : g2 ≠ b4) (e3 : g1 ≠ g2) (l1 : w.heap.size < g1) (l2 : w.heap.size < g2) (l3 : w.heap.size < b4) :
    NewMid w n (.pointer (some ⟨b4, 0, none⟩)) ((X.setCell ⟨b4, 0, none⟩ (.slice (some ⟨g1, 0, none⟩) n n)).setCell ⟨b4, 1, none⟩ (.slice (some ⟨g2, 0, none⟩) n n)) := by
  have gs : X.grownBy ((X.setCell ⟨b4, 0, none⟩ (.slice (some ⟨g1, 0, none⟩) n n)).setCell ⟨b4, 1, none⟩ (.slice (some ⟨g2, 0, none⟩) n n)) (some b4) := grown_set _ (grown_set _ (grown_refl X _) (.inr rfl)) (.inr rfl)
  exact ⟨g1, g2, b4, rfl, grown_at gs hb (by simp; omega), two_set hbx, h1.kept gs (by simp; exact e1), h2.kept gs (by simp; exact e2), e1, e3, l1, l2, l3, grown_own G gs (fun b hb => by obtain rfl := Option.some.inj hb; omega)⟩

set_option maxRecDepth 100000 in
set_option maxHeartbeats 6400000 in
theorem rNew_any (c : Int) (w : World) : Calls Try.prog 21 #[.int .i64 c] w (GiveLk (newV c) (newE c) w) := by
  have B0 := Lib.hid (at_new w (.cells #[.slice none 0 0, .slice none 0 0] 26))
  by_cases h1 : c < 0 ∨ 48 < c
  · have EE : Hid (newE c = 19) := Lib.hid (if_pos h1)
    have EV : Hid (newV c = zeroL) := Lib.hid (by unfold newV; rw [if_neg (by rw [EE.out]; decide)])
    have s0 := (rules_at B0.out).1
    have GZ : Hid (w.grownBy (w.alloc (.cells #[.slice none 0 0, .slice none 0 0] 26)) none) := Lib.hid (grown_alloc _ (grown_refl _ _))
    rcases h1 with h1 | h1
    · have t1 : decide (c < 0) = true := by simpa using h1
      clear h1
      go_enter Try.func21, Try.ntmps21
      go_wp2_with fail
      exact bodyPost_ret (v := .tuple #[lkV none 0 0 none 0 0, .int .i64 19]) (by simp [results, Try.results21, go_sem, s0]) rfl (by rw [EV.out, EE.out]; exact ⟨_, rfl, fun R _ => lkV_zero R _, GZ.out⟩)
    · have t1 : decide (c < 0) = false := by simp; omega
      have t2 : decide (48 < c) = true := by simpa using h1
      clear h1
      go_enter Try.func21, Try.ntmps21
      go_wp2_with fail
      exact bodyPost_ret (v := .tuple #[lkV none 0 0 none 0 0, .int .i64 19]) (by simp [results, Try.results21, go_sem, s0]) rfl (by rw [EV.out, EE.out]; exact ⟨_, rfl, fun R _ => lkV_zero R _, GZ.out⟩)
  · obtain ⟨n, rfl⟩ : ∃ n : Nat, c = n := ⟨c.toNat, by omega⟩
    have hn : n ≤ 48 := by omega
    have EE : Hid (newE n = 0) := Lib.hid (if_neg h1)
    have EV : Hid (newV n = newL n) := Lib.hid (by unfold newV; rw [if_pos EE.out])
    have t1 : decide ((n : Int) < 0) = false := by simp
    have t2 : decide ((48 : Int) < n) = false := by simp; omega
    clear h1
    obtain ⟨ii, hi, hz0, hz1, hz2⟩ := info_parts Try.info_ints
    have hib := Lib.hid hi
    have hib0 := Lib.hid hz0
    have hib1 := Lib.hid hz1
    have hib2 : Hid (ii.bytes * n ≤ 281474976710656) := Lib.hid (by rw [hz2]; omega)
    clear hi hz0 hz1 hz2
    obtain ⟨ij, hi, hz0, hz1, hz2⟩ := info_parts Try.info_int
    have hjb := Lib.hid hi
    have hjb0 := Lib.hid hz0
    have hjb1 := Lib.hid hz1
    have hjb2 : Hid (ij.bytes * n ≤ 281474976710656) := Lib.hid (by rw [hz2]; omega)
    have hnm : n ≤ maxLen := by unfold maxLen; omega
    clear hi hz0 hz1 hz2
    go_enter Try.func21, Try.ntmps21
    go_upto_region 3 with fail
    obtain ⟨W0, hW0⟩ : ∃ W0, W0 = w.alloc (.cells #[.slice none 0 0, .slice none 0 0] 26) := ⟨_, rfl⟩
    rw [← hW0] at B0 ⊢
    have G0 : Hid (w.grownBy W0 none) := Lib.hid (by rw [hW0]; exact grown_alloc _ (grown_refl _ _))
    have z0 : w.heap.size < W0.heap.size := by rw [hW0]; simp
    have hb := B0.out
    have G := grown_drew G0.out
    clear hW0
    go_cut [4] (fun p wx => NewMid w n p wx)
    case first =>
      refine wp_region_held_drew (S := fun _ => True) (by kernel_rfl) (by (try dsimp only); all_goals trivial) (fun hHeld => ?_)
      refine wpAnyH_take (i := 0) (oi := { dst := some 13, op := .move (.tmp 0), type := _, pos := _, after := _, guard := none }) (v := ?_) rfl (by kernel_rfl) (by kernel_rfl) (by kernel_rfl) (fun _ _ _ h => h) (Or.inl ⟨by rfl, ?_⟩) (by assumption) ?_
      rotate_left
      · (intro w hSw; (try dsimp only at hSw); go_simp; (try with_reducible rfl))
      try simp only [Act.put, List.setIfInBounds_toArray, List.set_cons_zero, List.set_cons_succ]
      refine wpAnyH_take (i := 2) (oi := { dst := some 15, op := .move (.tmp 0), type := _, pos := _, after := _, guard := none }) (v := ?_) rfl (by kernel_rfl) (by kernel_rfl) (by kernel_rfl) (fun _ _ _ h => h) (Or.inl ⟨by rfl, ?_⟩) (by assumption) ?_
      rotate_left
      · (intro w hSw; (try dsimp only at hSw); go_simp; (try with_reducible rfl))
      try simp only [Act.put, List.setIfInBounds_toArray, List.set_cons_zero, List.set_cons_succ]
      refine wpAnyH_ready (rs := [1, 3, 5]) (by kernel_rfl) (by simp) ?_
      refine AllReadyH.cons (o := _) rfl (fun K hK => ?_) (AllReadyH.cons (o := _) rfl (fun K hK => ?_) (AllReadyH.cons (o := _) rfl (fun K hK => ?_) AllReadyH.nil))
      · skip
        (refine step_make_full rfl (.tmp 13) (.tmp 13) 22 rfl w.heap.size 3 ij _ 1 Try.underlying22 hjb.out hjb0.out hjb1.out .i64 .i64 n (by rfl) (by rfl) hjb2.out hnm (by have := G.size; omega) ?_; intro WA hCA0 hgA; (try replace hb := grown_at hgA hb (by simp)); (try replace hCA := hCA.kept hgA (by simp)); (try replace hCB := hCB.kept hgA (by simp)); (try replace hbx := grown_at hgA hbx (by simp)); replace G := grown_trans G hgA; obtain ⟨hCA, -⟩ := ownR_of_slice hCA0; rw [show madeCells (Value.int .i64 0).cells (n * 1) = madeCells #[.int .i64 0] n by rw [Nat.mul_one]; rfl, made_zeros] at hCA; clear hCA0; (try simp only [drew_size, World.size_alloc] at hCA); have zA := G.size; have lA := hCA.lt)
        refine hK.out _ _ ?_ (fun hHeld2 => ?_)
        · ((try dsimp only); all_goals trivial)
        clear hK K
        try simp only [Act.put, List.setIfInBounds_toArray, List.set_cons_zero, List.set_cons_succ]
        refine wpAnyH_ready (rs := [3, 5]) (by kernel_rfl) (by simp) ?_
        refine AllReadyH.cons (o := _) rfl (fun K hK => ?_) (AllReadyH.cons (o := _) rfl (fun K hK => ?_) AllReadyH.nil)
        · skip
          (refine step_make_full rfl (.tmp 15) (.tmp 15) 24 rfl w.heap.size 22 ii _ 1 Try.underlying24 hib.out hib0.out hib1.out .i64 .i64 n (by rfl) (by rfl) hib2.out hnm (by have := G.size; omega) ?_; intro WB hCB0 hgB; (try replace hb := grown_at hgB hb (by simp)); (try replace hCA := hCA.kept hgB (by simp)); (try replace hCB := hCB.kept hgB (by simp)); (try replace hbx := grown_at hgB hbx (by simp)); replace G := grown_trans G hgB; obtain ⟨hCB, -⟩ := ownR_of_slice hCB0; rw [show madeCells (Value.slice none 0 0).cells (n * 1) = madeCells #[.slice none 0 0] n by rw [Nat.mul_one]; rfl, made_nils] at hCB; clear hCB0; (try simp only [drew_size, World.size_alloc] at hCB); have zB := G.size; have lB := hCB.lt)
          refine hK.out _ _ ?_ (fun hHeld2 => ?_)
          · ((try dsimp only); all_goals trivial)
          clear hK K
          try simp only [Act.put, List.setIfInBounds_toArray, List.set_cons_zero, List.set_cons_succ]
          refine wpAnyH_take (i := 4) (oi := { dst := some 17, op := .build 26 #[(0, (.tmp 14)), (1, (.tmp 16))], type := _, pos := _, after := _, guard := none }) (v := ?_) rfl (by kernel_rfl) (by kernel_rfl) (by kernel_rfl) (fun _ _ _ h => h) (Or.inl ⟨by rfl, ?_⟩) (by assumption) ?_
          rotate_left
          · (intro w hSw; (try dsimp only at hSw); go_simp; (try with_reducible rfl))
          try simp only [Act.put, List.setIfInBounds_toArray, List.set_cons_zero, List.set_cons_succ]
          refine wpAnyH_ready (rs := [5]) (by kernel_rfl) (by simp) ?_
          refine AllReadyH.cons (o := _) rfl (fun K hK => ?_) AllReadyH.nil
          (go_simp; (first | refine alloc_hide (K := K) (fun X hX => ?_) | refine alloc_hide_d (K := K) (fun X hX => ?_)); have gx := grown_hide hX; (try replace hb := grown_at gx hb (by simp)); (try replace hCA := hCA.kept gx (by simp)); (try replace hCB := hCB.kept gx (by simp)); (try replace hbx := grown_at gx hbx (by simp)); replace G := grown_trans G gx; have hbx := at_hide hX; clear hX; (try simp only [drew_size, World.size_alloc] at hbx); have zX := G.size; have lX := lt_of_at hbx)
          refine hK.out _ _ ?_ (fun hHeld2 => ?_)
          · ((try dsimp only); all_goals trivial)
          clear hK K
          try simp only [Act.put, List.setIfInBounds_toArray, List.set_cons_zero, List.set_cons_succ]
          refine wpAnyH_ready (rs := [6]) (by kernel_rfl) (by simp) ?_
          refine AllReadyH.cons (o := _) rfl (fun K hK => ?_) AllReadyH.nil
          (have p1 := (rules_at hbx).1; have p2 := (rules_at hbx).2; have p3 := lt_of_at hbx; go_simp; clear p1 p2 p3)
          refine hK.out _ _ ?_ (fun hHeld2 => ?_)
          · ((try dsimp only); all_goals trivial)
          clear hK K
          try simp only [Act.put, List.setIfInBounds_toArray, List.set_cons_zero, List.set_cons_succ]
          refine wpAnyH_done (by kernel_rfl) ?_ _
          have NC := Lib.hid (new_cut hb hbx hCA hCB G (by omega) (by omega) (by omega) (by omega) (by omega) (by omega))
          go_wp2_with fail
          go_meet
          exact NC.out
        · skip
          (go_simp; (first | refine alloc_hide (K := K) (fun X hX => ?_) | refine alloc_hide_d (K := K) (fun X hX => ?_)); have gx := grown_hide hX; (try replace hb := grown_at gx hb (by simp)); (try replace hCA := hCA.kept gx (by simp)); (try replace hCB := hCB.kept gx (by simp)); (try replace hbx := grown_at gx hbx (by simp)); replace G := grown_trans G gx; have hbx := at_hide hX; clear hX; (try simp only [drew_size, World.size_alloc] at hbx); have zX := G.size; have lX := lt_of_at hbx)
          refine hK.out _ _ ?_ (fun hHeld2 => ?_)
          · ((try dsimp only); all_goals trivial)
          clear hK K
          try simp only [Act.put, List.setIfInBounds_toArray, List.set_cons_zero, List.set_cons_succ]
          refine wpAnyH_ready (rs := [3]) (by kernel_rfl) (by simp) ?_
          refine AllReadyH.cons (o := _) rfl (fun K hK => ?_) AllReadyH.nil
          (refine step_make_full rfl (.tmp 15) (.tmp 15) 24 rfl w.heap.size 22 ii _ 1 Try.underlying24 hib.out hib0.out hib1.out .i64 .i64 n (by rfl) (by rfl) hib2.out hnm (by have := G.size; omega) ?_; intro WB hCB0 hgB; (try replace hb := grown_at hgB hb (by simp)); (try replace hCA := hCA.kept hgB (by simp)); (try replace hCB := hCB.kept hgB (by simp)); (try replace hbx := grown_at hgB hbx (by simp)); replace G := grown_trans G hgB; obtain ⟨hCB, -⟩ := ownR_of_slice hCB0; rw [show madeCells (Value.slice none 0 0).cells (n * 1) = madeCells #[.slice none 0 0] n by rw [Nat.mul_one]; rfl, made_nils] at hCB; clear hCB0; (try simp only [drew_size, World.size_alloc] at hCB); have zB := G.size; have lB := hCB.lt)
          refine hK.out _ _ ?_ (fun hHeld2 => ?_)
          · ((try dsimp only); all_goals trivial)
          clear hK K
          try simp only [Act.put, List.setIfInBounds_toArray, List.set_cons_zero, List.set_cons_succ]
          refine wpAnyH_take (i := 4) (oi := { dst := some 17, op := .build 26 #[(0, (.tmp 14)), (1, (.tmp 16))], type := _, pos := _, after := _, guard := none }) (v := ?_) rfl (by kernel_rfl) (by kernel_rfl) (by kernel_rfl) (fun _ _ _ h => h) (Or.inl ⟨by rfl, ?_⟩) (by assumption) ?_
          rotate_left
          · (intro w hSw; (try dsimp only at hSw); go_simp; (try with_reducible rfl))
          try simp only [Act.put, List.setIfInBounds_toArray, List.set_cons_zero, List.set_cons_succ]
          refine wpAnyH_ready (rs := [6]) (by kernel_rfl) (by simp) ?_
          refine AllReadyH.cons (o := _) rfl (fun K hK => ?_) AllReadyH.nil
          (have p1 := (rules_at hbx).1; have p2 := (rules_at hbx).2; have p3 := lt_of_at hbx; go_simp; clear p1 p2 p3)
          refine hK.out _ _ ?_ (fun hHeld2 => ?_)
          · ((try dsimp only); all_goals trivial)
          clear hK K
          try simp only [Act.put, List.setIfInBounds_toArray, List.set_cons_zero, List.set_cons_succ]
          refine wpAnyH_done (by kernel_rfl) ?_ _
          have NC := Lib.hid (new_cut hb hbx hCA hCB G (by omega) (by omega) (by omega) (by omega) (by omega) (by omega))
          go_wp2_with fail
          go_meet
          exact NC.out
      · skip
        (refine step_make_full rfl (.tmp 15) (.tmp 15) 24 rfl w.heap.size 22 ii _ 1 Try.underlying24 hib.out hib0.out hib1.out .i64 .i64 n (by rfl) (by rfl) hib2.out hnm (by have := G.size; omega) ?_; intro WB hCB0 hgB; (try replace hb := grown_at hgB hb (by simp)); (try replace hCA := hCA.kept hgB (by simp)); (try replace hCB := hCB.kept hgB (by simp)); (try replace hbx := grown_at hgB hbx (by simp)); replace G := grown_trans G hgB; obtain ⟨hCB, -⟩ := ownR_of_slice hCB0; rw [show madeCells (Value.slice none 0 0).cells (n * 1) = madeCells #[.slice none 0 0] n by rw [Nat.mul_one]; rfl, made_nils] at hCB; clear hCB0; (try simp only [drew_size, World.size_alloc] at hCB); have zB := G.size; have lB := hCB.lt)
        refine hK.out _ _ ?_ (fun hHeld2 => ?_)
        · ((try dsimp only); all_goals trivial)
        clear hK K
        try simp only [Act.put, List.setIfInBounds_toArray, List.set_cons_zero, List.set_cons_succ]
        refine wpAnyH_ready (rs := [1, 5]) (by kernel_rfl) (by simp) ?_
        refine AllReadyH.cons (o := _) rfl (fun K hK => ?_) (AllReadyH.cons (o := _) rfl (fun K hK => ?_) AllReadyH.nil)
        · skip
          (refine step_make_full rfl (.tmp 13) (.tmp 13) 22 rfl w.heap.size 3 ij _ 1 Try.underlying22 hjb.out hjb0.out hjb1.out .i64 .i64 n (by rfl) (by rfl) hjb2.out hnm (by have := G.size; omega) ?_; intro WA hCA0 hgA; (try replace hb := grown_at hgA hb (by simp)); (try replace hCA := hCA.kept hgA (by simp)); (try replace hCB := hCB.kept hgA (by simp)); (try replace hbx := grown_at hgA hbx (by simp)); replace G := grown_trans G hgA; obtain ⟨hCA, -⟩ := ownR_of_slice hCA0; rw [show madeCells (Value.int .i64 0).cells (n * 1) = madeCells #[.int .i64 0] n by rw [Nat.mul_one]; rfl, made_zeros] at hCA; clear hCA0; (try simp only [drew_size, World.size_alloc] at hCA); have zA := G.size; have lA := hCA.lt)
          refine hK.out _ _ ?_ (fun hHeld2 => ?_)
          · ((try dsimp only); all_goals trivial)
          clear hK K
          try simp only [Act.put, List.setIfInBounds_toArray, List.set_cons_zero, List.set_cons_succ]
          refine wpAnyH_take (i := 4) (oi := { dst := some 17, op := .build 26 #[(0, (.tmp 14)), (1, (.tmp 16))], type := _, pos := _, after := _, guard := none }) (v := ?_) rfl (by kernel_rfl) (by kernel_rfl) (by kernel_rfl) (fun _ _ _ h => h) (Or.inl ⟨by rfl, ?_⟩) (by assumption) ?_
          rotate_left
          · (intro w hSw; (try dsimp only at hSw); go_simp; (try with_reducible rfl))
          try simp only [Act.put, List.setIfInBounds_toArray, List.set_cons_zero, List.set_cons_succ]
          refine wpAnyH_ready (rs := [5]) (by kernel_rfl) (by simp) ?_
          refine AllReadyH.cons (o := _) rfl (fun K hK => ?_) AllReadyH.nil
          (go_simp; (first | refine alloc_hide (K := K) (fun X hX => ?_) | refine alloc_hide_d (K := K) (fun X hX => ?_)); have gx := grown_hide hX; (try replace hb := grown_at gx hb (by simp)); (try replace hCA := hCA.kept gx (by simp)); (try replace hCB := hCB.kept gx (by simp)); (try replace hbx := grown_at gx hbx (by simp)); replace G := grown_trans G gx; have hbx := at_hide hX; clear hX; (try simp only [drew_size, World.size_alloc] at hbx); have zX := G.size; have lX := lt_of_at hbx)
          refine hK.out _ _ ?_ (fun hHeld2 => ?_)
          · ((try dsimp only); all_goals trivial)
          clear hK K
          try simp only [Act.put, List.setIfInBounds_toArray, List.set_cons_zero, List.set_cons_succ]
          refine wpAnyH_ready (rs := [6]) (by kernel_rfl) (by simp) ?_
          refine AllReadyH.cons (o := _) rfl (fun K hK => ?_) AllReadyH.nil
          (have p1 := (rules_at hbx).1; have p2 := (rules_at hbx).2; have p3 := lt_of_at hbx; go_simp; clear p1 p2 p3)
          refine hK.out _ _ ?_ (fun hHeld2 => ?_)
          · ((try dsimp only); all_goals trivial)
          clear hK K
          try simp only [Act.put, List.setIfInBounds_toArray, List.set_cons_zero, List.set_cons_succ]
          refine wpAnyH_done (by kernel_rfl) ?_ _
          have NC := Lib.hid (new_cut hb hbx hCA hCB G (by omega) (by omega) (by omega) (by omega) (by omega) (by omega))
          go_wp2_with fail
          go_meet
          exact NC.out
        · skip
          (go_simp; (first | refine alloc_hide (K := K) (fun X hX => ?_) | refine alloc_hide_d (K := K) (fun X hX => ?_)); have gx := grown_hide hX; (try replace hb := grown_at gx hb (by simp)); (try replace hCA := hCA.kept gx (by simp)); (try replace hCB := hCB.kept gx (by simp)); (try replace hbx := grown_at gx hbx (by simp)); replace G := grown_trans G gx; have hbx := at_hide hX; clear hX; (try simp only [drew_size, World.size_alloc] at hbx); have zX := G.size; have lX := lt_of_at hbx)
          refine hK.out _ _ ?_ (fun hHeld2 => ?_)
          · ((try dsimp only); all_goals trivial)
          clear hK K
          try simp only [Act.put, List.setIfInBounds_toArray, List.set_cons_zero, List.set_cons_succ]
          refine wpAnyH_ready (rs := [1]) (by kernel_rfl) (by simp) ?_
          refine AllReadyH.cons (o := _) rfl (fun K hK => ?_) AllReadyH.nil
          (refine step_make_full rfl (.tmp 13) (.tmp 13) 22 rfl w.heap.size 3 ij _ 1 Try.underlying22 hjb.out hjb0.out hjb1.out .i64 .i64 n (by rfl) (by rfl) hjb2.out hnm (by have := G.size; omega) ?_; intro WA hCA0 hgA; (try replace hb := grown_at hgA hb (by simp)); (try replace hCA := hCA.kept hgA (by simp)); (try replace hCB := hCB.kept hgA (by simp)); (try replace hbx := grown_at hgA hbx (by simp)); replace G := grown_trans G hgA; obtain ⟨hCA, -⟩ := ownR_of_slice hCA0; rw [show madeCells (Value.int .i64 0).cells (n * 1) = madeCells #[.int .i64 0] n by rw [Nat.mul_one]; rfl, made_zeros] at hCA; clear hCA0; (try simp only [drew_size, World.size_alloc] at hCA); have zA := G.size; have lA := hCA.lt)
          refine hK.out _ _ ?_ (fun hHeld2 => ?_)
          · ((try dsimp only); all_goals trivial)
          clear hK K
          try simp only [Act.put, List.setIfInBounds_toArray, List.set_cons_zero, List.set_cons_succ]
          refine wpAnyH_take (i := 4) (oi := { dst := some 17, op := .build 26 #[(0, (.tmp 14)), (1, (.tmp 16))], type := _, pos := _, after := _, guard := none }) (v := ?_) rfl (by kernel_rfl) (by kernel_rfl) (by kernel_rfl) (fun _ _ _ h => h) (Or.inl ⟨by rfl, ?_⟩) (by assumption) ?_
          rotate_left
          · (intro w hSw; (try dsimp only at hSw); go_simp; (try with_reducible rfl))
          try simp only [Act.put, List.setIfInBounds_toArray, List.set_cons_zero, List.set_cons_succ]
          refine wpAnyH_ready (rs := [6]) (by kernel_rfl) (by simp) ?_
          refine AllReadyH.cons (o := _) rfl (fun K hK => ?_) AllReadyH.nil
          (have p1 := (rules_at hbx).1; have p2 := (rules_at hbx).2; have p3 := lt_of_at hbx; go_simp; clear p1 p2 p3)
          refine hK.out _ _ ?_ (fun hHeld2 => ?_)
          · ((try dsimp only); all_goals trivial)
          clear hK K
          try simp only [Act.put, List.setIfInBounds_toArray, List.set_cons_zero, List.set_cons_succ]
          refine wpAnyH_done (by kernel_rfl) ?_ _
          have NC := Lib.hid (new_cut hb hbx hCA hCB G (by omega) (by omega) (by omega) (by omega) (by omega) (by omega))
          go_wp2_with fail
          go_meet
          exact NC.out
      · skip
        (go_simp; (first | refine alloc_hide (K := K) (fun X hX => ?_) | refine alloc_hide_d (K := K) (fun X hX => ?_)); have gx := grown_hide hX; (try replace hb := grown_at gx hb (by simp)); (try replace hCA := hCA.kept gx (by simp)); (try replace hCB := hCB.kept gx (by simp)); (try replace hbx := grown_at gx hbx (by simp)); replace G := grown_trans G gx; have hbx := at_hide hX; clear hX; (try simp only [drew_size, World.size_alloc] at hbx); have zX := G.size; have lX := lt_of_at hbx)
        refine hK.out _ _ ?_ (fun hHeld2 => ?_)
        · ((try dsimp only); all_goals trivial)
        clear hK K
        try simp only [Act.put, List.setIfInBounds_toArray, List.set_cons_zero, List.set_cons_succ]
        refine wpAnyH_ready (rs := [1, 3]) (by kernel_rfl) (by simp) ?_
        refine AllReadyH.cons (o := _) rfl (fun K hK => ?_) (AllReadyH.cons (o := _) rfl (fun K hK => ?_) AllReadyH.nil)
        · skip
          (refine step_make_full rfl (.tmp 13) (.tmp 13) 22 rfl w.heap.size 3 ij _ 1 Try.underlying22 hjb.out hjb0.out hjb1.out .i64 .i64 n (by rfl) (by rfl) hjb2.out hnm (by have := G.size; omega) ?_; intro WA hCA0 hgA; (try replace hb := grown_at hgA hb (by simp)); (try replace hCA := hCA.kept hgA (by simp)); (try replace hCB := hCB.kept hgA (by simp)); (try replace hbx := grown_at hgA hbx (by simp)); replace G := grown_trans G hgA; obtain ⟨hCA, -⟩ := ownR_of_slice hCA0; rw [show madeCells (Value.int .i64 0).cells (n * 1) = madeCells #[.int .i64 0] n by rw [Nat.mul_one]; rfl, made_zeros] at hCA; clear hCA0; (try simp only [drew_size, World.size_alloc] at hCA); have zA := G.size; have lA := hCA.lt)
          refine hK.out _ _ ?_ (fun hHeld2 => ?_)
          · ((try dsimp only); all_goals trivial)
          clear hK K
          try simp only [Act.put, List.setIfInBounds_toArray, List.set_cons_zero, List.set_cons_succ]
          refine wpAnyH_ready (rs := [3]) (by kernel_rfl) (by simp) ?_
          refine AllReadyH.cons (o := _) rfl (fun K hK => ?_) AllReadyH.nil
          (refine step_make_full rfl (.tmp 15) (.tmp 15) 24 rfl w.heap.size 22 ii _ 1 Try.underlying24 hib.out hib0.out hib1.out .i64 .i64 n (by rfl) (by rfl) hib2.out hnm (by have := G.size; omega) ?_; intro WB hCB0 hgB; (try replace hb := grown_at hgB hb (by simp)); (try replace hCA := hCA.kept hgB (by simp)); (try replace hCB := hCB.kept hgB (by simp)); (try replace hbx := grown_at hgB hbx (by simp)); replace G := grown_trans G hgB; obtain ⟨hCB, -⟩ := ownR_of_slice hCB0; rw [show madeCells (Value.slice none 0 0).cells (n * 1) = madeCells #[.slice none 0 0] n by rw [Nat.mul_one]; rfl, made_nils] at hCB; clear hCB0; (try simp only [drew_size, World.size_alloc] at hCB); have zB := G.size; have lB := hCB.lt)
          refine hK.out _ _ ?_ (fun hHeld2 => ?_)
          · ((try dsimp only); all_goals trivial)
          clear hK K
          try simp only [Act.put, List.setIfInBounds_toArray, List.set_cons_zero, List.set_cons_succ]
          refine wpAnyH_take (i := 4) (oi := { dst := some 17, op := .build 26 #[(0, (.tmp 14)), (1, (.tmp 16))], type := _, pos := _, after := _, guard := none }) (v := ?_) rfl (by kernel_rfl) (by kernel_rfl) (by kernel_rfl) (fun _ _ _ h => h) (Or.inl ⟨by rfl, ?_⟩) (by assumption) ?_
          rotate_left
          · (intro w hSw; (try dsimp only at hSw); go_simp; (try with_reducible rfl))
          try simp only [Act.put, List.setIfInBounds_toArray, List.set_cons_zero, List.set_cons_succ]
          refine wpAnyH_ready (rs := [6]) (by kernel_rfl) (by simp) ?_
          refine AllReadyH.cons (o := _) rfl (fun K hK => ?_) AllReadyH.nil
          (have p1 := (rules_at hbx).1; have p2 := (rules_at hbx).2; have p3 := lt_of_at hbx; go_simp; clear p1 p2 p3)
          refine hK.out _ _ ?_ (fun hHeld2 => ?_)
          · ((try dsimp only); all_goals trivial)
          clear hK K
          try simp only [Act.put, List.setIfInBounds_toArray, List.set_cons_zero, List.set_cons_succ]
          refine wpAnyH_done (by kernel_rfl) ?_ _
          have NC := Lib.hid (new_cut hb hbx hCA hCB G (by omega) (by omega) (by omega) (by omega) (by omega) (by omega))
          go_wp2_with fail
          go_meet
          exact NC.out
        · skip
          (refine step_make_full rfl (.tmp 15) (.tmp 15) 24 rfl w.heap.size 22 ii _ 1 Try.underlying24 hib.out hib0.out hib1.out .i64 .i64 n (by rfl) (by rfl) hib2.out hnm (by have := G.size; omega) ?_; intro WB hCB0 hgB; (try replace hb := grown_at hgB hb (by simp)); (try replace hCA := hCA.kept hgB (by simp)); (try replace hCB := hCB.kept hgB (by simp)); (try replace hbx := grown_at hgB hbx (by simp)); replace G := grown_trans G hgB; obtain ⟨hCB, -⟩ := ownR_of_slice hCB0; rw [show madeCells (Value.slice none 0 0).cells (n * 1) = madeCells #[.slice none 0 0] n by rw [Nat.mul_one]; rfl, made_nils] at hCB; clear hCB0; (try simp only [drew_size, World.size_alloc] at hCB); have zB := G.size; have lB := hCB.lt)
          refine hK.out _ _ ?_ (fun hHeld2 => ?_)
          · ((try dsimp only); all_goals trivial)
          clear hK K
          try simp only [Act.put, List.setIfInBounds_toArray, List.set_cons_zero, List.set_cons_succ]
          refine wpAnyH_ready (rs := [1]) (by kernel_rfl) (by simp) ?_
          refine AllReadyH.cons (o := _) rfl (fun K hK => ?_) AllReadyH.nil
          (refine step_make_full rfl (.tmp 13) (.tmp 13) 22 rfl w.heap.size 3 ij _ 1 Try.underlying22 hjb.out hjb0.out hjb1.out .i64 .i64 n (by rfl) (by rfl) hjb2.out hnm (by have := G.size; omega) ?_; intro WA hCA0 hgA; (try replace hb := grown_at hgA hb (by simp)); (try replace hCA := hCA.kept hgA (by simp)); (try replace hCB := hCB.kept hgA (by simp)); (try replace hbx := grown_at hgA hbx (by simp)); replace G := grown_trans G hgA; obtain ⟨hCA, -⟩ := ownR_of_slice hCA0; rw [show madeCells (Value.int .i64 0).cells (n * 1) = madeCells #[.int .i64 0] n by rw [Nat.mul_one]; rfl, made_zeros] at hCA; clear hCA0; (try simp only [drew_size, World.size_alloc] at hCA); have zA := G.size; have lA := hCA.lt)
          refine hK.out _ _ ?_ (fun hHeld2 => ?_)
          · ((try dsimp only); all_goals trivial)
          clear hK K
          try simp only [Act.put, List.setIfInBounds_toArray, List.set_cons_zero, List.set_cons_succ]
          refine wpAnyH_take (i := 4) (oi := { dst := some 17, op := .build 26 #[(0, (.tmp 14)), (1, (.tmp 16))], type := _, pos := _, after := _, guard := none }) (v := ?_) rfl (by kernel_rfl) (by kernel_rfl) (by kernel_rfl) (fun _ _ _ h => h) (Or.inl ⟨by rfl, ?_⟩) (by assumption) ?_
          rotate_left
          · (intro w hSw; (try dsimp only at hSw); go_simp; (try with_reducible rfl))
          try simp only [Act.put, List.setIfInBounds_toArray, List.set_cons_zero, List.set_cons_succ]
          refine wpAnyH_ready (rs := [6]) (by kernel_rfl) (by simp) ?_
          refine AllReadyH.cons (o := _) rfl (fun K hK => ?_) AllReadyH.nil
          (have p1 := (rules_at hbx).1; have p2 := (rules_at hbx).2; have p3 := lt_of_at hbx; go_simp; clear p1 p2 p3)
          refine hK.out _ _ ?_ (fun hHeld2 => ?_)
          · ((try dsimp only); all_goals trivial)
          clear hK K
          try simp only [Act.put, List.setIfInBounds_toArray, List.set_cons_zero, List.set_cons_succ]
          refine wpAnyH_done (by kernel_rfl) ?_ _
          have NC := Lib.hid (new_cut hb hbx hCA hCB G (by omega) (by omega) (by omega) (by omega) (by omega) (by omega))
          go_wp2_with fail
          go_meet
          exact NC.out
    case rest =>
      obtain ⟨g1, g2, b4, rfl, hb1, hb2, hO1, hO2, e1, e2, l1, l2, l3, hG⟩ := hcut
      have I0 : Hid (OwnR wc g1 n n 3 1 (fillL n 0)) := Lib.hid hO1
      have K0 : Hid (wc.heap[w.heap.size]? = some (.cells #[.slice none 0 0, .slice none 0 0] 26 (0, 0)) ∧ wc.heap[b4]? = some (.cells #[.slice (some ⟨g1, 0, none⟩) n n, .slice (some ⟨g2, 0, none⟩) n n] 26 (0, 0)) ∧ OwnR wc g2 n n 22 1 (List.replicate n (.slice none 0 0)) ∧ w.grownBy wc none) := Lib.hid ⟨hb1, hb2, hO2, hG⟩
      clear hb1 hb2 hO1 hO2 hG hb G B0 G0 hib hib0 hib1 hib2 hjb hjb0 hjb1 hjb2
      go_wp2_with fail
      go_loopw [5] (fun i wr => ∃ k : Nat, k ≤ n ∧ i = .int .i64 k ∧ OwnR wr g1 n n 3 1 (fillL n k) ∧ (wr.heap[w.heap.size]? = some (.cells #[.slice none 0 0, .slice none 0 0] 26 (0, 0)) ∧ wr.heap[b4]? = some (.cells #[.slice (some ⟨g1, 0, none⟩) n n, .slice (some ⟨g2, 0, none⟩) n n] 26 (0, 0)) ∧ OwnR wr g2 n n 22 1 (List.replicate n (.slice none 0 0)) ∧ w.grownBy wr none)) (fun i _ => n - (intOf i).toNat)
      case atStart => exact ⟨0, by omega, rfl, I0.out, K0.out⟩
      case round =>
        obtain ⟨k, hk, rfl, hO, hK⟩ := hrel
        have O := Lib.hid hO
        have KK := Lib.hid hK
        clear hO hK I0 K0
        by_cases hkn : k < n
        · have hk1 : (k : Int) < n := by omega
          have p1 := (rules_at KK.out.2.1).1
          have p2 := lt_of_at KK.out.2.1
          have q1 := O.out.cell (i := k) (v := .int .i64 0) (by unfold fillL; rw [List.getElem?_append_right (by simp), List.length_replicate, Nat.sub_self, List.getElem?_replicate, if_pos (by omega)])
          have q2 := O.out.free k
          have q3 := O.out.lt
          have O2 := Lib.hid (O.out.set (i := k) (.int .i64 (-1)))
          rw [fill_set hkn] at O2
          have gs := grown_set (p := ⟨g1, k, none⟩) (.int .i64 (-1)) (grown_refl wr (some g1)) (.inr rfl)
          have K2 : Hid ((wr.setCell ⟨g1, k, none⟩ (.int .i64 (-1))).heap[w.heap.size]? = some (.cells #[.slice none 0 0, .slice none 0 0] 26 (0, 0)) ∧ (wr.setCell ⟨g1, k, none⟩ (.int .i64 (-1))).heap[b4]? = some (.cells #[.slice (some ⟨g1, 0, none⟩) n n, .slice (some ⟨g2, 0, none⟩) n n] 26 (0, 0)) ∧ OwnR (wr.setCell ⟨g1, k, none⟩ (.int .i64 (-1))) g2 n n 22 1 (List.replicate n (.slice none 0 0)) ∧ w.grownBy (wr.setCell ⟨g1, k, none⟩ (.int .i64 (-1))) none) :=
            Lib.hid ⟨grown_at gs KK.out.1 (by simp; omega), grown_at gs KK.out.2.1 (by simp; omega), KK.out.2.2.1.kept gs (by simp; omega), grown_set _ KK.out.2.2.2 (.inl (by simp; omega))⟩
          clear O KK gs
          go_wp2_with fail
          go_roundw
          case rel => exact ⟨k + 1, by omega, by go_num, O2.out, K2.out⟩
          case measure => simp [intOf]; omega
        · obtain rfl : k = n := by omega
          have FX := new_met KK.out.1 (by rw [← fill_all]; exact O.out) KK.out.2.2.1 KK.out.2.2.2 l1 l2 hn
          obtain ⟨f1, f2, s0, s1, s2⟩ := FX
          have F := Lib.hid f1
          have FG := Lib.hid f2
          have p1 := (rules_at KK.out.2.1).1
          have p2 := lt_of_at KK.out.2.1
          have r1 := (rules_at KK.out.1).1
          have r2 := (rules_at KK.out.1).2
          have r3 := lt_of_at KK.out.1
          clear f1 f2 O KK hkn
          go_wp2_with fail
          exact bodyPost_ret (v := .tuple #[lkV (some ⟨g1, 0, none⟩) k k (some ⟨g2, 0, none⟩) k k, .int .i64 0]) (by simp [results, Try.results21, go_sem, s0, s1, s2]) rfl (by rw [EV.out, EE.out]; exact ⟨_, rfl, F.out, FG.out⟩)
end Go.Proofs.Ytbpobekmbdngbaa
