/- Whole numbers below 2^53 in the words of double: sums, products, negation, order and the way back are exact. -/
import Derived.WalkLawsBesides
namespace Go.Proofs.Ytggmgnmjloagbaa
open Ieee
set_option linter.unusedVariables false

theorem log2_mul_pow {n : Nat} (hn : 0 < n) (k : Nat) : (n * 2 ^ k).log2 = n.log2 + k := by
  rw [Nat.log2_eq_iff (by have := Nat.mul_pos hn (Nat.two_pow_pos k); omega)]
  have h1 := Nat.log2_self_le (n := n) (by omega)
  have h2 := Nat.lt_log2_self (n := n)
  constructor
  · rw [Nat.pow_add]; exact Nat.mul_le_mul_right _ h1
  · rw [show n.log2 + k + 1 = (n.log2 + 1) + k by omega, Nat.pow_add]; exact Nat.mul_lt_mul_of_pos_right h2 (Nat.two_pow_pos k)

theorem cut_exact (neg : Bool) (way : Toward) {n d : Nat} (x : Nat) (h : n = x * 2 ^ d) : way.cut neg n d = x := by
  by_cases hx : x = 0
  · subst hx
    obtain rfl : n = 0 := by simpa using h
    cases way <;> simp [Toward.cut]
  · have hl : d ≤ n.log2 := by rw [h, log2_mul_pow (by omega)]; omega
    have hg : (1 <<< min d (n.log2 + 2) : Nat) = 2 ^ d := by rw [Nat.min_eq_left (by omega), Nat.one_shiftLeft]
    have hlow : n / 2 ^ d = x := by rw [h]; exact Nat.mul_div_cancel _ (Nat.two_pow_pos d)
    have hrest : n % 2 ^ d = 0 := by rw [h]; exact Nat.mul_mod_left _ _
    have hp := Nat.two_pow_pos d
    unfold Toward.cut
    simp only [hg, hlow, hrest]
    have h0 : ((2 ^ d == 2 * 0) : Bool) = false := by simp
    cases way <;> simp

/-- The word b stands for the whole number n. -/
def Rep (b : Nat) (n : Int) : Prop := ∃ s m k, double.read b = .number s m (-(k : Nat)) ∧ signed s m 0 = n * 2 ^ k

theorem signed_shift (s : Bool) (m up : Nat) : signed s m up = signed s m 0 * 2 ^ up := by
  unfold signed
  rw [Nat.shiftLeft_eq, Nat.shiftLeft_eq]
  cases s <;> simp [Int.natCast_mul, Int.natCast_pow, Int.neg_mul]

theorem read_zero (s : Bool) : double.read (double.word s 0) = .number s 0 (-(1074 : Nat)) := by
  cases s <;> decide

theorem read_rung (s : Bool) {l x : Nat} (hl : l ≤ 52) (h1 : 4503599627370496 ≤ x) (h2 : x < 9007199254740992) :
    double.read (double.word s ((l + 1022) * 4503599627370496 + x)) = .number s x (-((52 - l : Nat) : Int)) := by
  have e1 : double.signWeight = 9223372036854775808 := rfl
  have e2 : double.binade = 4503599627370496 := rfl
  have e3 : double.infRung = 9218868437227405312 := rfl
  have e4 : double.leastPlace = -1074 := rfl
  obtain ⟨r, hr⟩ : ∃ r, r = (l + 1022) * 4503599627370496 + x := ⟨_, rfl⟩
  rw [← hr]
  have hr1 : r < 9218868437227405312 := by omega
  have hr2 : ¬ r < 4503599627370496 := by omega
  have hr3 : 4503599627370496 + r % 4503599627370496 = x := by omega
  have hr4 : r / 4503599627370496 - 1 = l + 1022 := by omega
  have hp : (-1074 : Int) + ((l + 1022 : Nat) : Int) = -((52 - l : Nat) : Int) := by omega
  clear hr h1 h2
  unfold Format.read Format.word
  rw [e1, e2, e3, e4]
  cases s
  · have g1 : r / 9223372036854775808 = 0 := by omega
    have g2 : r % 9223372036854775808 = r := by omega
    simp only [Bool.false_eq_true, if_false, g1, g2, if_neg hr2, if_pos hr1, hr3, hr4, hp]
    rfl
  · have g1 : (9223372036854775808 + r) / 9223372036854775808 = 1 := by omega
    have g2 : (9223372036854775808 + r) % 9223372036854775808 = r := by omega
    simp only [if_true, g1, g2, if_neg hr2, if_pos hr1, hr3, hr4, hp]
    rfl

theorem top_exact {N : Nat} (hpos : 0 < N) (hl : N.log2 ≤ 52) : 4503599627370496 ≤ N * 2 ^ (52 - N.log2) ∧ N * 2 ^ (52 - N.log2) < 9007199254740992 := by
  have hlo := Nat.log2_self_le (n := N) (by omega)
  have hhi := Nat.lt_log2_self (n := N)
  constructor
  · have h := Nat.mul_le_mul_right (2 ^ (52 - N.log2)) hlo
    rw [← Nat.pow_add, show N.log2 + (52 - N.log2) = 52 by omega] at h
    exact h
  · have h := Nat.mul_lt_mul_of_pos_right hhi (Nat.two_pow_pos (52 - N.log2))
    rw [← Nat.pow_add, show N.log2 + 1 + (52 - N.log2) = 53 by omega] at h
    exact h

theorem nearest_word (s : Bool) {N k : Nat} (hpos : 0 < N) (hl : N.log2 ≤ 52) :
    double.nearest s (N * 2 ^ k) (-(k : Nat)) = double.word s ((N.log2 + 1022) * 4503599627370496 + N * 2 ^ (52 - N.log2)) := by
  have hk := Nat.mul_pos hpos (Nat.two_pow_pos k)
  have e2 : double.binade = 4503599627370496 := rfl
  have e3 : double.infRung = 9218868437227405312 := rfl
  have e4 : double.leastPlace = -1074 := rfl
  have e5 : double.fractionBits = 52 := rfl
  have hlast : max (-(k : Int) + ((N * 2 ^ k).log2 : Nat) - ((52 : Nat) : Int)) (-1074) = (N.log2 : Int) - 52 := by
    rw [log2_mul_pow hpos]; omega
  have hcut : Toward.even.cut s ((N * 2 ^ k) <<< (-(k : Int) - ((N.log2 : Int) - 52)).toNat) (((N.log2 : Int) - 52) - (-(k : Int))).toNat = N * 2 ^ (52 - N.log2) := by
    refine cut_exact s .even _ ?_
    rw [Nat.shiftLeft_eq, Nat.mul_assoc, Nat.mul_assoc, ← Nat.pow_add, ← Nat.pow_add]
    congr 2
    omega
  have ht := top_exact hpos hl
  unfold Format.nearest
  rw [if_neg (by omega), e2, e3, e4, e5]
  simp only [hlast, hcut]
  rw [show ((N.log2 : Int) - 52 - -1074).toNat = N.log2 + 1022 by omega, Nat.min_eq_left (by omega)]

theorem write_exact (s : Bool) (N k : Nat) (hN : N < 9007199254740992) :
    ∃ m j, double.read (double.nearest s (N * 2 ^ k) (-(k : Nat))) = .number s m (-(j : Nat)) ∧ m = N * 2 ^ j := by
  by_cases h0 : N = 0
  · subst h0
    obtain ⟨j, hj⟩ : ∃ j : Nat, j = 1074 := ⟨_, rfl⟩
    refine ⟨0, j, ?_, (Nat.zero_mul _).symm⟩
    rw [show double.nearest s (0 * 2 ^ k) (-(k : Nat)) = double.word s 0 by simp [Format.nearest], hj]
    exact read_zero s
  · have hpos : 0 < N := by omega
    have hl : N.log2 ≤ 52 := by
      have := (Nat.log2_lt (n := N) (k := 53) (by omega)).2 hN
      omega
    refine ⟨N * 2 ^ (52 - N.log2), 52 - N.log2, ?_, rfl⟩
    have ht := top_exact hpos hl
    rw [nearest_word s hpos hl]
    exact read_rung s hl ht.1 ht.2

theorem rep_write {s : Bool} {mag k : Nat} {n : Int} (h : signed s mag 0 = n * 2 ^ k) (hn : n.natAbs < 9007199254740992) : Rep (double.nearest s mag (-(k : Nat))) n := by
  have hm : mag = n.natAbs * 2 ^ k := by
    have := congrArg Int.natAbs h
    unfold signed at this
    rw [Int.natAbs_mul, Int.natAbs_pow] at this
    cases s <;> simpa using this
  obtain ⟨m, j, h1, h2⟩ := write_exact s n.natAbs k hn
  rw [← hm] at h1
  refine ⟨s, m, j, h1, ?_⟩
  have hs : signed s n.natAbs 0 = n := by
    have hp : (0 : Int) < 2 ^ k := by exact_mod_cast Nat.two_pow_pos k
    have : signed s mag 0 = signed s n.natAbs 0 * 2 ^ k := by
      rw [hm]; unfold signed; cases s <;> simp [Int.natCast_mul, Int.natCast_pow, Int.neg_mul]
    rw [this] at h
    exact Int.eq_of_mul_eq_mul_right (by omega) h
  rw [h2]
  have : signed s (n.natAbs * 2 ^ j) 0 = signed s n.natAbs 0 * 2 ^ j := by
    unfold signed; cases s <;> simp [Int.natCast_mul, Int.natCast_pow, Int.neg_mul]
  rw [this, hs]

theorem signed_eq {s : Bool} {m k : Nat} : signed s m k = (if s then -(m : Int) else m) * 2 ^ k := by
  unfold signed
  rw [Nat.shiftLeft_eq]
  cases s <;> simp [Int.natCast_mul, Int.natCast_pow, Int.neg_mul]
theorem signed_abs {z : Int} {b : Bool} (h : z ≠ 0 → b = decide (z < 0)) : signed b z.natAbs 0 = z := by
  rw [signed_eq]
  by_cases h0 : z = 0
  · subst h0; cases b <;> simp
  · rw [h h0]
    by_cases hz : z < 0
    · simp [hz]; omega
    · simp [hz]; omega
theorem pow_pos (k : Nat) : (0 : Int) < 2 ^ k := by exact_mod_cast Nat.two_pow_pos k

theorem scaled {s : Bool} {m k K : Nat} {a : Int} (h : signed s m 0 = a * 2 ^ k) (hk : k ≤ K) : signed s m (K - k) = a * 2 ^ K := by
  rw [signed_shift, h, Int.mul_assoc, ← Int.pow_add, show k + (K - k) = K by omega]

theorem rep_sum {x y : Nat} {a b : Int} {neg : Bool} (hx : Rep x a) (hy : Rep y b) (hn : (a + (if neg then -b else b)).natAbs < 9007199254740992) :
    ∃ w, ((double.read x).sum (if neg then (double.read y).opposite else double.read y)).map double.write = some w ∧ Rep w (a + (if neg then -b else b)) := by
  obtain ⟨s, m, k, h1, h2⟩ := hx
  obtain ⟨t, n, l, h3, h4⟩ := hy
  obtain ⟨t', c, h5, h6, hn⟩ : ∃ t' c, (if neg then (double.read y).opposite else double.read y) = .number t' n (-(l : Nat)) ∧ signed t' n 0 = c * 2 ^ l ∧ c = (if neg then -b else b) := by
    cases neg
    · exact ⟨t, b, by simp [h3], h4, by simp⟩
    · refine ⟨!t, -b, by simp [h3, Datum.opposite], ?_, by simp⟩
      rw [Int.neg_mul, ← h4]
      unfold signed
      cases t <;> simp
  rw [h5, h1, ← hn]
  obtain ⟨K, hK⟩ : ∃ K, K = max k l := ⟨_, rfl⟩
  have hbase : min (-(k : Int)) (-(l : Int)) = -(K : Nat) := by omega
  have e1 : (-(k : Int) - -(K : Nat)).toNat = K - k := by omega
  have e2 : (-(l : Int) - -(K : Nat)).toNat = K - l := by omega
  simp only [Datum.sum, hbase, e1, e2, scaled h2 (show k ≤ K by omega), scaled h6 (show l ≤ K by omega), ← Int.add_mul, Option.map_some]
  refine ⟨_, rfl, ?_⟩
  refine rep_write (k := K) ?_ (by rw [hn]; assumption)
  refine signed_abs fun hz => ?_
  rw [if_neg hz]

theorem rep_add {x y : Nat} {a b : Int} (hx : Rep x a) (hy : Rep y b) (hn : (a + b).natAbs < 9007199254740992) : ∃ w, double.add x y = some w ∧ Rep w (a + b) := by
  have h := rep_sum (neg := false) hx hy (by simpa using hn)
  simp only [Bool.false_eq_true, if_false] at h
  exact h
theorem rep_sub {x y : Nat} {a b : Int} (hx : Rep x a) (hy : Rep y b) (hn : (a - b).natAbs < 9007199254740992) : ∃ w, double.sub x y = some w ∧ Rep w (a - b) := by
  have h := rep_sum (neg := true) hx hy (by simpa [← Int.sub_eq_add_neg] using hn)
  simp only [if_true, ← Int.sub_eq_add_neg] at h
  exact h

theorem rep_mul {x y : Nat} {a b : Int} (hx : Rep x a) (hy : Rep y b) (hn : (a * b).natAbs < 9007199254740992) : ∃ w, double.mul x y = some w ∧ Rep w (a * b) := by
  obtain ⟨s, m, k, h1, h2⟩ := hx
  obtain ⟨t, n, l, h3, h4⟩ := hy
  unfold Format.mul
  rw [h1, h3]
  have e : -(k : Int) + -(l : Int) = -((k + l : Nat) : Int) := by omega
  simp only [Datum.product, e, Option.map_some]
  refine ⟨_, rfl, ?_⟩
  refine rep_write (k := k + l) ?_ hn
  rw [show a * b * 2 ^ (k + l) = (a * 2 ^ k) * (b * 2 ^ l) by rw [Int.pow_add, Int.mul_assoc, Int.mul_assoc]; congr 1; rw [← Int.mul_assoc, Int.mul_comm b, Int.mul_assoc], ← h2, ← h4]
  simp only [signed_eq]
  cases s <;> cases t <;> simp [Int.natCast_mul, Int.neg_mul, Int.mul_neg]

theorem rep_order {x y : Nat} {a b : Int} (hx : Rep x a) (hy : Rep y b) : double.order x y = some (compare a b) := by
  obtain ⟨s, m, k, h1, h2⟩ := hx
  obtain ⟨t, n, l, h3, h4⟩ := hy
  unfold Format.order
  rw [h1, h3]
  obtain ⟨K, hK⟩ : ∃ K, K = max k l := ⟨_, rfl⟩
  have hbase : min (-(k : Int)) (-(l : Int)) = -(K : Nat) := by omega
  have e1 : (-(k : Int) - -(K : Nat)).toNat = K - k := by omega
  have e2 : (-(l : Int) - -(K : Nat)).toNat = K - l := by omega
  simp only [Datum.order, hbase, e1, e2, scaled h2 (show k ≤ K by omega), scaled h4 (show l ≤ K by omega)]
  congr 1
  have hp := pow_pos K
  have i1 : a * 2 ^ K < b * 2 ^ K ↔ a < b := Int.mul_lt_mul_right hp
  have i2 : a * 2 ^ K = b * 2 ^ K ↔ a = b := ⟨fun h => Int.eq_of_mul_eq_mul_right (by omega) h, fun h => by rw [h]⟩
  simp only [compare, compareOfLessAndEq, i1, i2]

theorem rep_int {x : Nat} {a : Int} (hx : Rep x a) : (double.read x).toInt .zero = some a := by
  obtain ⟨s, m, k, h1, h2⟩ := hx
  rw [h1]
  have hm : m = a.natAbs * 2 ^ k := by
    have h := congrArg Int.natAbs h2
    rw [Int.natAbs_mul, Int.natAbs_pow] at h
    unfold signed at h
    cases s <;> simpa using h
  have hs : signed s a.natAbs 0 = a := by
    have h : signed s a.natAbs 0 * 2 ^ k = a * 2 ^ k := by
      rw [← h2, hm]
      simp only [signed_eq]
      cases s <;> simp [Int.natCast_mul, Int.natCast_pow, Int.neg_mul]
    exact Int.eq_of_mul_eq_mul_right (by have := pow_pos k; omega) h
  simp only [Datum.toInt, Datum.integral]
  rw [show (-(-(k : Int))).toNat = k by omega, show (-(k : Int)).toNat = 0 by omega, Nat.shiftLeft_zero, cut_exact s .zero _ hm, hs]

theorem rep_ofInt {n : Int} (hn : n.natAbs < 9007199254740992) : Rep (Go.floatOfInt .f64 n) n := by
  have h := rep_write (s := decide (n < 0)) (mag := n.natAbs) (k := 0) (n := n) (by rw [signed_abs (fun _ => rfl)]; simp) hn
  exact h
theorem rep_zero (s : Bool) : Rep (double.word s 0) 0 := by
  obtain ⟨j, hj⟩ : ∃ j : Nat, j = 1074 := ⟨_, rfl⟩
  refine ⟨s, 0, j, by rw [hj]; exact read_zero s, ?_⟩
  rw [Int.zero_mul]
  cases s <;> rfl

theorem read_neg (b : Nat) : double.read (b ^^^ 2 ^ 63) = (double.read b).opposite := by
  have e1 : double.signWeight = 2 ^ 63 := rfl
  have h1 : (b ^^^ 2 ^ 63) % 2 ^ 63 = b % 2 ^ 63 := by rw [Nat.xor_mod_two_pow]; simp
  have h2 : (((b ^^^ 2 ^ 63) / 2 ^ 63 % 2 == 1) : Bool) = !(b / 2 ^ 63 % 2 == 1) := by
    have t1 := Nat.testBit_eq_decide_div_mod_eq (x := b ^^^ 2 ^ 63) (i := 63)
    have t2 := Nat.testBit_eq_decide_div_mod_eq (x := b) (i := 63)
    rw [Nat.testBit_xor, Nat.testBit_two_pow_self, t2] at t1
    have t3 : ((b ^^^ 2 ^ 63) / 2 ^ 63 % 2 == 1) = decide ((b ^^^ 2 ^ 63) / 2 ^ 63 % 2 = 1) := rfl
    have t4 : (b / 2 ^ 63 % 2 == 1) = decide (b / 2 ^ 63 % 2 = 1) := rfl
    rw [t3, t4, ← t1]
    simp
  unfold Format.read
  rw [e1]
  simp only [h1, h2]
  split
  · rfl
  · split
    · rfl
    · split <;> rfl

theorem rep_neg {x : Nat} {a : Int} (hx : Rep x a) : Rep (Go.Op.negFloat .f64 x) (-a) := by
  obtain ⟨s, m, k, h1, h2⟩ := hx
  refine ⟨!s, m, k, ?_, ?_⟩
  · have h := read_neg x
    rw [h1] at h
    exact h
  · rw [Int.neg_mul, ← h2]
    unfold signed
    cases s <;> simp
end Go.Proofs.Ytggmgnmjloagbaa
