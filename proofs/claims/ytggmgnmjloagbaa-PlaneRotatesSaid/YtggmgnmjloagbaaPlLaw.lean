/- Plane: the plain laws of turns, areas and rotations of whole points. -/
import Derived.Test.YtggmgnmjloagbaaRows
namespace Go.Proofs.Ytggmgnmjloagbaa
set_option linter.unusedVariables false

abbrev Pt := Int × Int
def inB (p : Pt) : Prop := -9999 ≤ p.1 ∧ p.1 ≤ 9999 ∧ -9999 ≤ p.2 ∧ p.2 ≤ 9999

/-- The turn of two steps, by the product of the second with the conjugate of the first. -/
def turnZ (m r : Int) : Int := if 0 < m then 1 else if m < 0 then 2 else if 0 < r then 3 else if r < 0 then 4 else 0
def turnS (x y u v : Int) : Int := turnZ (v * x - u * y) (u * x + v * y)
def turnP (a b c : Pt) : Int := turnS (b.1 - a.1) (b.2 - a.2) (c.1 - b.1) (c.2 - b.2)

def cross (p q : Pt) : Int := p.1 * q.2 - p.2 * q.1
def ps : List Pt → Int
  | p :: q :: l => cross p q + ps (q :: l)
  | _ => 0
/-- The walk, closed. -/
def ring (l : List Pt) : List Pt := l ++ l.take 1
def areaI (l : List Pt) : Int := ps (ring l)

theorem ps_one (p : Pt) : ps [p] = 0 := rfl
theorem ps_two (p q : Pt) (l : List Pt) : ps (p :: q :: l) = cross p q + ps (q :: l) := rfl
theorem ps_join (A B : List Pt) (m : Pt) : ps (A ++ m :: B) = ps (A ++ [m]) + ps (m :: B) := by
  induction A with
  | nil => simp [ps_one]
  | cons p A ih =>
    cases A with
    | nil => simp only [List.cons_append, List.nil_append, ps_two, ps_one]; omega
    | cons q A => simp only [List.cons_append, ps_two] at ih ⊢; omega
theorem cross_self (p : Pt) : cross p p = 0 := by simp [cross, Int.mul_comm]
theorem cross_anti (p q : Pt) : cross q p = -cross p q := by unfold cross; rw [Int.mul_comm q.1, Int.mul_comm q.2]; omega
theorem ps_reverse (l : List Pt) : ps l.reverse = -ps l := by
  induction l with
  | nil => rfl
  | cons p l ih =>
    cases l with
    | nil => rfl
    | cons q l =>
      rw [List.reverse_cons] at ih ⊢
      rw [List.reverse_cons, List.append_assoc, List.singleton_append, ps_join, ih, ps_two, ps_two, ps_one, cross_anti]
      omega

theorem ring_cons (p : Pt) (l : List Pt) : ring (p :: l) = p :: (l ++ [p]) := by simp [ring]
/-- A walk may begin at another corner. -/
theorem area_turn (A B : List Pt) : areaI (B ++ A) = areaI (A ++ B) := by
  cases A with
  | nil => simp
  | cons a A =>
    cases B with
    | nil => simp
    | cons b B =>
      unfold areaI
      simp only [List.cons_append, ring_cons, List.append_assoc]
      have e1 := ps_join (b :: B) (A ++ [b]) a
      have e2 := ps_join (a :: A) (B ++ [a]) b
      simp only [List.cons_append] at e1 e2
      omega
/-- A walk is cut from its first corner to another one. -/
theorem area_cut (p q : Pt) (A B : List Pt) : areaI (p :: A ++ q :: B) = areaI (p :: A ++ [q]) + areaI (p :: q :: B) := by
  unfold areaI
  simp only [List.cons_append, ring_cons, List.append_assoc, List.nil_append]
  have e1 := ps_join (p :: A) (B ++ [p]) q
  have e2 := ps_join (p :: A) [p] q
  have := cross_anti p q
  simp only [List.cons_append, ps_two, ps_one] at e1 e2 ⊢
  omega
theorem area_twice (q : Pt) (A B : List Pt) : areaI (A ++ q :: q :: B) = areaI (A ++ q :: B) := by
  rw [← area_turn, ← area_turn A]
  unfold areaI
  simp only [List.cons_append, ring_cons, List.append_assoc]
  rw [ps_two, cross_self]; omega
theorem area_reverse (l : List Pt) : areaI l.reverse = -areaI l := by
  cases l with
  | nil => rfl
  | cons p l =>
    rw [List.reverse_cons, area_turn [p]]
    unfold areaI
    rw [List.singleton_append, ring_cons, ring_cons, ← ps_reverse]
    simp

/-! ### Sums on the way -/
theorem ps_snoc (l : List Pt) (k : Nat) (p q : Pt) (hp : l[k]? = some p) (hq : l[k + 1]? = some q) : ps (l.take (k + 2)) = ps (l.take (k + 1)) + cross p q := by
  have h2 : l.take (k + 2) = l.take k ++ p :: [q] := by
    rw [List.take_add_one, List.take_add_one, hp, hq]; simp
  have h1 : l.take (k + 1) = l.take k ++ [p] := by rw [List.take_add_one, hp]; simp
  rw [h2, ps_join, h1]; simp [ps]
theorem mul_bd {a b : Int} (h1 : -9999 ≤ a ∧ a ≤ 9999) (h2 : -9999 ≤ b ∧ b ≤ 9999) : -99980001 ≤ a * b ∧ a * b ≤ 99980001 := by
  have e : (a * b).natAbs ≤ 9999 * 9999 := by rw [Int.natAbs_mul]; exact Nat.mul_le_mul (by omega) (by omega)
  omega
theorem mul_bd2 {a b : Int} (h1 : -19998 ≤ a ∧ a ≤ 19998) (h2 : -19998 ≤ b ∧ b ≤ 19998) : -399920004 ≤ a * b ∧ a * b ≤ 399920004 := by
  have e : (a * b).natAbs ≤ 19998 * 19998 := by rw [Int.natAbs_mul]; exact Nat.mul_le_mul (by omega) (by omega)
  omega
theorem cross_bd {p q : Pt} (hp : inB p) (hq : inB q) : -199960002 ≤ cross p q ∧ cross p q ≤ 199960002 := by
  obtain ⟨a, b, c, d⟩ := hp
  obtain ⟨e, f, g, h⟩ := hq
  have h1 := mul_bd (a := p.1) (b := q.2) ⟨a, b⟩ ⟨g, h⟩
  have h2 := mul_bd (a := p.2) (b := q.1) ⟨c, d⟩ ⟨e, f⟩
  unfold cross; omega
theorem ps_bd (l : List Pt) (h : ∀ p ∈ l, inB p) : -(199960002 * (l.length : Int)) ≤ ps l ∧ ps l ≤ 199960002 * (l.length : Int) := by
  induction l with
  | nil => simp [ps]
  | cons p l ih =>
    cases l with
    | nil => simp [ps]
    | cons q l =>
      have := ih (fun x hx => h x (List.mem_cons_of_mem _ hx))
      have hc := cross_bd (h p (by simp)) (h q (by simp))
      rw [ps_two]
      simp only [List.length_cons] at this ⊢
      omega

/-! ### Turns -/
theorem turn_back {a b c : Pt} : turnP c b a = if turnP a b c = 1 ∨ turnP a b c = 2 then 3 - turnP a b c else turnP a b c := by
  unfold turnP turnS
  have e1 : (a.2 - b.2) * (b.1 - c.1) - (a.1 - b.1) * (b.2 - c.2) = -((c.2 - b.2) * (b.1 - a.1) - (c.1 - b.1) * (b.2 - a.2)) := by
    simp only [Int.mul_sub, Int.mul_comm]; omega
  have e2 : (a.1 - b.1) * (b.1 - c.1) + (a.2 - b.2) * (b.2 - c.2) = (c.1 - b.1) * (b.1 - a.1) + (c.2 - b.2) * (b.2 - a.2) := by
    simp only [Int.mul_sub, Int.mul_comm]; omega
  rw [e1, e2]
  unfold turnZ
  generalize (c.2 - b.2) * (b.1 - a.1) - (c.1 - b.1) * (b.2 - a.2) = m
  generalize (c.1 - b.1) * (b.1 - a.1) + (c.2 - b.2) * (b.2 - a.2) = r
  by_cases h1 : 0 < m
  · rw [if_neg (by omega), if_pos (by omega), if_pos h1]; rfl
  · by_cases h2 : m < 0
    · rw [if_pos (by omega), if_neg h1, if_pos h2]; rfl
    · rw [if_neg (by omega), if_neg (by omega), if_neg h1, if_neg h2]
      by_cases h3 : 0 < r
      · rw [if_pos h3]; rfl
      · rw [if_neg h3]
        by_cases h4 : r < 0
        · rw [if_pos h4]; rfl
        · rw [if_neg h4]; rfl
theorem sq_zero {a b : Int} (h : a * a + b * b = 0) : a = 0 ∧ b = 0 := by
  have h1 : 0 ≤ a * a := by rcases Int.le_total 0 a with h | h; exact Int.mul_nonneg h h; exact Int.mul_nonneg_of_nonpos_of_nonpos h h
  have h2 : 0 ≤ b * b := by rcases Int.le_total 0 b with h | h; exact Int.mul_nonneg h h; exact Int.mul_nonneg_of_nonpos_of_nonpos h h
  have h3 : a * a = 0 := by omega
  have h4 : b * b = 0 := by omega
  exact ⟨(Int.mul_eq_zero.1 h3).elim id id, (Int.mul_eq_zero.1 h4).elim id id⟩
theorem prod_zero {x y u v : Int} (h1 : v * x - u * y = 0) (h2 : u * x + v * y = 0) : (x = 0 ∧ y = 0) ∨ (u = 0 ∧ v = 0) := by
  have key : (x * x + y * y) * (u * u + v * v) = (v * x - u * y) * (v * x - u * y) + (u * x + v * y) * (u * x + v * y) := by
    simp only [Int.sub_mul, Int.mul_sub, Int.add_mul, Int.mul_add]
    simp only [Int.mul_comm, Int.mul_left_comm]
    omega
  rw [h1, h2] at key
  rcases Int.mul_eq_zero.1 key with h | h
  · exact .inl (sq_zero h)
  · exact .inr (sq_zero h)
theorem turn_none {x y u v : Int} : turnS x y u v = 0 ↔ (x = 0 ∧ y = 0) ∨ (u = 0 ∧ v = 0) := by
  constructor
  · intro h
    unfold turnS turnZ at h
    split at h
    · cases h
    · split at h
      · cases h
      · split at h
        · cases h
        · split at h
          · cases h
          · exact prod_zero (by omega) (by omega)
  · rintro (⟨rfl, rfl⟩ | ⟨rfl, rfl⟩) <;> simp [turnS, turnZ]
theorem turn_in (a b c : Pt) : 0 ≤ turnP a b c ∧ turnP a b c ≤ 4 := by
  unfold turnP turnS turnZ
  split
  · omega
  · split
    · omega
    · split
      · omega
      · split <;> omega

def tri (l : List Pt) (i : Nat) : Int := turnP (l.getD i (0, 0)) (l.getD (i + 1) (0, 0)) (l.getD (i + 2) (0, 0))
/-- The turns at the inner points. -/
def turnsI (l : List Pt) : List Int := (List.range (l.length - 2)).map (tri l)

/-! ### Rotations -/
def rot1 (p : Pt) : Pt := (-p.2, p.1)
def rotN : Nat → Pt → Pt
  | 0, p => p
  | n + 1, p => rot1 (rotN n p)
def mir (p : Pt) : Pt := (p.1, -p.2)
theorem rot1_in {p : Pt} (h : inB p) : inB (rot1 p) := by obtain ⟨a, b, c, d⟩ := h; refine ⟨?_, ?_, ?_, ?_⟩ <;> simp [rot1] <;> omega
theorem rotN_in {p : Pt} (h : inB p) (n : Nat) : inB (rotN n p) := by
  induction n with
  | zero => exact h
  | succ n ih => exact rot1_in ih
theorem mir_in {p : Pt} (h : inB p) : inB (mir p) := by obtain ⟨a, b, c, d⟩ := h; refine ⟨?_, ?_, ?_, ?_⟩ <;> simp [mir] <;> omega
theorem cross_rot (p q : Pt) : cross (rot1 p) (rot1 q) = cross p q := by
  have h1 := Int.mul_comm p.2 q.1
  simp only [cross, rot1, Int.neg_mul, Int.mul_neg]
  have h2 := Int.mul_comm q.1 p.2
  have h3 := Int.mul_comm p.1 q.2
  omega
theorem cross_rotN (n : Nat) (p q : Pt) : cross (rotN n p) (rotN n q) = cross p q := by
  induction n with
  | zero => rfl
  | succ n ih => show cross (rot1 _) (rot1 _) = _; rw [cross_rot, ih]
theorem cross_mir (p q : Pt) : cross (mir p) (mir q) = -cross p q := by
  simp only [cross, mir, Int.neg_mul, Int.mul_neg]; omega
theorem ps_map (f : Pt → Pt) (c : Int) (hf : ∀ p q, cross (f p) (f q) = c * cross p q) (l : List Pt) : ps (l.map f) = c * ps l := by
  induction l with
  | nil => simp [ps]
  | cons p l ih =>
    cases l with
    | nil => simp [ps]
    | cons q l => simp only [List.map_cons, ps_two, hf] at ih ⊢; rw [ih, Int.mul_add]
theorem area_map (f : Pt → Pt) (c : Int) (hf : ∀ p q, cross (f p) (f q) = c * cross p q) (l : List Pt) : areaI (l.map f) = c * areaI l := by
  unfold areaI
  rw [← ps_map f c hf]
  congr 1
  simp [ring, List.map_take]
theorem area_rot (n : Nat) (l : List Pt) : areaI (l.map (rotN n)) = areaI l := by
  rw [area_map (rotN n) 1 (fun p q => by rw [cross_rotN]; omega)]; omega
theorem area_mir (l : List Pt) : areaI (l.map mir) = -areaI l := by
  rw [area_map mir (-1) (fun p q => by rw [cross_mir]; omega)]; omega

theorem turn_rot (a b c : Pt) : turnP (rot1 a) (rot1 b) (rot1 c) = turnP a b c := by
  unfold turnP turnS
  simp only [rot1]
  have e1 : (c.1 - b.1) * (-b.2 - -a.2) - (-c.2 - -b.2) * (b.1 - a.1) = (c.2 - b.2) * (b.1 - a.1) - (c.1 - b.1) * (b.2 - a.2) := by
    rw [show (-b.2 - -a.2) = -(b.2 - a.2) by omega, show (-c.2 - -b.2) = -(c.2 - b.2) by omega, Int.mul_neg, Int.neg_mul]; omega
  have e2 : (-c.2 - -b.2) * (-b.2 - -a.2) + (c.1 - b.1) * (b.1 - a.1) = (c.1 - b.1) * (b.1 - a.1) + (c.2 - b.2) * (b.2 - a.2) := by
    rw [show (-b.2 - -a.2) = -(b.2 - a.2) by omega, show (-c.2 - -b.2) = -(c.2 - b.2) by omega, Int.mul_neg, Int.neg_mul]; omega
  rw [e1, e2]
theorem turn_rotN (n : Nat) (a b c : Pt) : turnP (rotN n a) (rotN n b) (rotN n c) = turnP a b c := by
  induction n with
  | zero => rfl
  | succ n ih => show turnP (rot1 _) (rot1 _) (rot1 _) = _; rw [turn_rot, ih]
def swapT (t : Int) : Int := if t = 1 ∨ t = 2 then 3 - t else t
theorem turn_mir (a b c : Pt) : turnP (mir a) (mir b) (mir c) = swapT (turnP a b c) := by
  unfold swapT turnP turnS
  simp only [mir]
  have e1 : (-c.2 - -b.2) * (b.1 - a.1) - (c.1 - b.1) * (-b.2 - -a.2) = -((c.2 - b.2) * (b.1 - a.1) - (c.1 - b.1) * (b.2 - a.2)) := by
    rw [show (-b.2 - -a.2) = -(b.2 - a.2) by omega, show (-c.2 - -b.2) = -(c.2 - b.2) by omega, Int.mul_neg, Int.neg_mul]; omega
  have e2 : (c.1 - b.1) * (b.1 - a.1) + (-c.2 - -b.2) * (-b.2 - -a.2) = (c.1 - b.1) * (b.1 - a.1) + (c.2 - b.2) * (b.2 - a.2) := by
    rw [show (-b.2 - -a.2) = -(b.2 - a.2) by omega, show (-c.2 - -b.2) = -(c.2 - b.2) by omega, Int.mul_neg, Int.neg_mul]; omega
  rw [e1, e2]
  unfold turnZ
  generalize (c.2 - b.2) * (b.1 - a.1) - (c.1 - b.1) * (b.2 - a.2) = m
  generalize (c.1 - b.1) * (b.1 - a.1) + (c.2 - b.2) * (b.2 - a.2) = r
  by_cases h1 : 0 < m
  · rw [if_neg (by omega), if_pos (by omega), if_pos h1]; rfl
  · by_cases h2 : m < 0
    · rw [if_pos (by omega), if_neg h1, if_pos h2]; rfl
    · rw [if_neg (by omega), if_neg (by omega), if_neg h1, if_neg h2]
      by_cases h3 : 0 < r
      · rw [if_pos h3]; rfl
      · rw [if_neg h3]
        by_cases h4 : r < 0
        · rw [if_pos h4]; rfl
        · rw [if_neg h4]; rfl
theorem tri_map (f : Pt → Pt) (g : Int → Int) (h : ∀ a b c, turnP (f a) (f b) (f c) = g (turnP a b c)) (l : List Pt) {i : Nat} (hi : i + 2 < l.length) : tri (l.map f) i = g (tri l i) := by
  unfold tri
  simp only [List.getD_eq_getElem?_getD, List.getElem?_map]
  rw [List.getElem?_eq_getElem (show i < l.length by omega), List.getElem?_eq_getElem (show i + 1 < l.length by omega), List.getElem?_eq_getElem hi]
  exact h _ _ _
theorem turns_map (f : Pt → Pt) (g : Int → Int) (h : ∀ a b c, turnP (f a) (f b) (f c) = g (turnP a b c)) (l : List Pt) : turnsI (l.map f) = (turnsI l).map g := by
  unfold turnsI
  rw [List.length_map, List.map_map]
  refine List.map_congr_left fun i hi => ?_
  rw [List.mem_range] at hi
  exact tri_map f g h l (by omega)
def sqI (a b : Pt) : Int := (b.1 - a.1) * (b.1 - a.1) + (b.2 - a.2) * (b.2 - a.2)
theorem sq_rot (a b : Pt) : sqI (rot1 a) (rot1 b) = sqI a b := by
  unfold sqI rot1
  simp only
  rw [show (-b.2 - -a.2) = -(b.2 - a.2) by omega, Int.neg_mul_neg]; omega
theorem sq_rotN (n : Nat) (a b : Pt) : sqI (rotN n a) (rotN n b) = sqI a b := by
  induction n with
  | zero => rfl
  | succ n ih => show sqI (rot1 _) (rot1 _) = _; rw [sq_rot, ih]
theorem rot4 (p : Pt) : rotN 4 p = p := by obtain ⟨x, y⟩ := p; simp [rotN, rot1]
end Go.Proofs.Ytggmgnmjloagbaa
