/- The plain law of InterlockTurns: the grants, one by one. -/
import Derived.Test.YtbpobekmbdngbaaLkPres
namespace Go.Proofs.Ytbpobekmbdngbaa
set_option linter.unusedVariables false

/-- One grant. -/
def giveG (l : Lk) (g : Int × Int) : Lk := ⟨l.own.set g.2.toNat g.1, l.q.set g.2.toNat (qAt l g.2.toNat).tail⟩
/-- The state behind i grants. -/
def behindG (l : Lk) (gs : List (Int × Int)) (i : Nat) : Lk := (gs.take i).foldl giveG l
theorem behindG_zero (l : Lk) (gs : List (Int × Int)) : behindG l gs 0 = l := rfl
theorem behindG_succ {l : Lk} {gs : List (Int × Int)} {i : Nat} {g : Int × Int} (h : gs[i]? = some g) : behindG l gs (i + 1) = giveG (behindG l gs i) g := by
  unfold behindG
  rw [List.take_add_one, h, List.foldl_append]; rfl
structure GrOk (l : Lk) (closed : List Bool) (k : Nat) : Prop where
  all : ∀ (i : Nat) (g : Int × Int), (grantTo l closed k).2[i]? = some g → ∃ c : Nat, g.2 = c ∧ c < k ∧ closed[c]? = some false ∧ (behindG l (grantTo l closed k).2 i).own[c]? = some (-1) ∧ ∃ rest, (behindG l (grantTo l closed k).2 i).q[c]? = some (g.1 :: rest)
  fin : behindG l (grantTo l closed k).2 (grantTo l closed k).2.length = (grantTo l closed k).1
  done : ∀ c, c < k → closed[c]? = some false → (grantTo l closed k).1.own[c]? = some (-1) → (grantTo l closed k).1.q[c]? = some []
theorem behindG_append {l : Lk} {gs : List (Int × Int)} {x : Int × Int} {i : Nat} (h : i ≤ gs.length) : behindG l (gs ++ [x]) i = behindG l gs i := by
  unfold behindG
  rw [List.take_append_of_le_length h]
theorem grOk {l : Lk} (hv : VL l) (closed : List Bool) (k : Nat) (hk : k ≤ l.own.length) (hc : closed.length = l.own.length) : GrOk l closed k := by
  induction k with
  | zero => exact ⟨fun i g h => by simp [grantTo] at h, rfl, fun c h => by omega⟩
  | succ k ih =>
    have ih := ih (by omega)
    obtain ⟨hkp, hl1, hl2, _⟩ := grantTo_kept l closed k
    obtain ⟨o, ho⟩ : ∃ o, l.own[k]? = some o := ⟨_, List.getElem?_eq_getElem (by omega)⟩
    obtain ⟨x, hx⟩ : ∃ x, l.q[k]? = some x := ⟨_, List.getElem?_eq_getElem (by have := hv.len; omega)⟩
    obtain ⟨b, hb⟩ : ∃ b, closed[k]? = some b := ⟨_, List.getElem?_eq_getElem (by omega)⟩
    have ho2 := ((hkp k (Nat.le_refl _)).1).trans ho
    have hx2 := ((hkp k (Nat.le_refl _)).2).trans hx
    have skip : (o ≠ -1 ∨ b = true ∨ x = []) → GrOk l closed (k + 1) := fun h => by
      have e := grantTo_skip ho hx hb h
      refine ⟨fun i g hg => ?_, by rw [e]; exact ih.fin, fun c hcl h1 h2 => ?_⟩
      · rw [e] at hg ⊢
        obtain ⟨c, a1, a2, a3⟩ := ih.all i g hg
        exact ⟨c, a1, by omega, a3⟩
      · rw [e] at h2 ⊢
        by_cases hck : c = k
        · subst hck
          rcases h with h | h | h
          · rw [ho2] at h2; exact absurd (Option.some.inj h2) h
          · rw [hb] at h1; subst h; simp at h1
          · rw [hx2, h]
        · exact ih.done c (by omega) h1 h2
    by_cases h1 : o = -1
    rotate_left
    · exact skip (.inl h1)
    cases b with
    | true => exact skip (.inr (.inl rfl))
    | false =>
      cases x with
      | nil => exact skip (.inr (.inr rfl))
      | cons r rest =>
        subst h1
        have e := grantTo_take ho hx hb
        have hkl : k < (grantTo l closed k).1.own.length := by omega
        have hkq : k < (grantTo l closed k).1.q.length := (List.getElem?_eq_some_iff.1 hx2).1
        refine ⟨fun i g hg => ?_, ?_, fun c hcl h1 h2 => ?_⟩
        · rw [e] at hg ⊢
          simp only at hg ⊢
          by_cases hi : i < (grantTo l closed k).2.length
          · rw [List.getElem?_append_left hi] at hg
            rw [behindG_append (by omega)]
            obtain ⟨c, a1, a2, a3⟩ := ih.all i g hg
            exact ⟨c, a1, by omega, a3⟩
          · have hlt := (List.getElem?_eq_some_iff.1 hg).1
            simp at hlt
            obtain rfl : i = (grantTo l closed k).2.length := by omega
            rw [List.getElem?_append_right (Nat.le_refl _), Nat.sub_self] at hg
            obtain rfl : (r, (k : Int)) = g := by simpa using hg
            rw [behindG_append (Nat.le_refl _), ih.fin]
            exact ⟨k, rfl, by omega, hb, ho2, rest, hx2⟩
        · rw [e]
          simp only
          rw [List.length_append, List.length_singleton, behindG_succ (g := (r, (k : Int))) (by rw [List.getElem?_append_right (Nat.le_refl _), Nat.sub_self]; rfl), behindG_append (Nat.le_refl _), ih.fin]
          unfold giveG
          simp only [Int.toNat_natCast]
          rw [qAt_of hx2]; rfl
        · rw [e] at h2 ⊢
          simp only at h2 ⊢
          by_cases hck : k = c
          · subst hck
            rw [List.getElem?_set_self hkl] at h2
            have := hv.rob _ (List.mem_of_getElem? hx) r (by simp)
            have := Option.some.inj h2
            omega
          · rw [List.getElem?_set_ne hck] at h2
            rw [List.getElem?_set_ne hck]
            exact ih.done c (by omega) h1 h2
theorem relE_iff {l : Lk} (hv : VL l) {c : Nat} {o : Int} (ho : l.own[c]? = some o) : relE l c = 0 ↔ 0 ≤ o := by
  have hc := (List.getElem?_eq_some_iff.1 ho).1
  have hob := hv.own o (List.mem_of_getElem? ho)
  have e : errC l 0 c = 0 := errC_ok (valid_iff.2 hv) (by omega)
  unfold relE
  rw [if_neg (by rw [e]; simp), Int.toNat_natCast, oAt_of ho]
  by_cases h : o = -1
  · rw [if_pos h]; constructor
    · intro h; cases h
    · intro h'; omega
  · rw [if_neg h]; constructor
    · intro _; omega
    · intro _; rfl
end Go.Proofs.Ytbpobekmbdngbaa
