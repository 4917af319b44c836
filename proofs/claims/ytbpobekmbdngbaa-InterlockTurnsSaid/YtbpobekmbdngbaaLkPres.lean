/- The plain law: what the operations leave is valid; what they leave and give. -/
import Derived.Test.YtbpobekmbdngbaaLkKnown
namespace Go.Proofs.Ytbpobekmbdngbaa
set_option linter.unusedVariables false

theorem flat_sub {q : List (List Int)} {k : Nat} {x y : List Int} (hx : q[k]? = some x) (h : y.Sublist x) : (q.set k y).flatten.Sublist q.flatten := by
  induction q generalizing k with
  | nil => simp at hx
  | cons z q ih =>
    cases k with
    | zero =>
      obtain rfl : z = x := by simpa using hx
      simp only [List.set_cons_zero, List.flatten_cons]
      exact h.append (List.Sublist.refl _)
    | succ k =>
      simp only [List.set_cons_succ, List.flatten_cons]
      exact (List.Sublist.refl _).append (ih (by simpa using hx))
theorem flat_snoc {q : List (List Int)} {k : Nat} {x : List Int} {r : Int} (hx : q[k]? = some x) : (q.set k (x ++ [r])).flatten.Perm (r :: q.flatten) := by
  induction q generalizing k with
  | nil => simp at hx
  | cons z q ih =>
    cases k with
    | zero =>
      obtain rfl : z = x := by simpa using hx
      simp only [List.set_cons_zero, List.flatten_cons, List.append_assoc]
      exact List.perm_middle
    | succ k =>
      simp only [List.set_cons_succ, List.flatten_cons]
      exact ((ih (by simpa using hx)).append_left z).trans List.perm_middle
theorem mem_set {α : Type} {l : List α} {k : Nat} {x y : α} (h : y ∈ l.set k x) : y = x ∨ y ∈ l := by
  rcases List.mem_or_eq_of_mem_set h with h | h
  · exact .inr h
  · exact .inl h
/-- The lists at k are replaced by a part. -/
theorem VL.setQ {l : Lk} (h : VL l) {k : Nat} {x y : List Int} (hx : l.q[k]? = some x) (hy : y.Sublist x) : VL ⟨l.own, l.q.set k y⟩ := by
  refine ⟨by simpa using h.len, h.le, h.own, fun z hz r hr => ?_, (flat_sub hx hy).nodup h.nodup, fun c o z ho hz => ?_⟩
  · rcases mem_set hz with rfl | hz
    · exact h.rob x (List.mem_of_getElem? hx) r (hy.mem hr)
    · exact h.rob z hz r hr
  · by_cases e : k = c
    · subst e
      have hkl := (List.getElem?_eq_some_iff.1 hx).1
      simp only at hz
      rw [List.getElem?_set_self hkl] at hz
      obtain rfl := Option.some.inj hz
      exact fun hm => h.free k o x ho hx (hy.mem hm)
    · simp only at hz
      rw [List.getElem?_set_ne e] at hz
      exact h.free c o z ho hz
/-- The owner at k is replaced by one that waits not there. -/
theorem VL.setO {l : Lk} (h : VL l) {k : Nat} {o : Int} (ho : -1 ≤ o ∧ o < 8) (hx : ∀ x, l.q[k]? = some x → o ∉ x) : VL ⟨l.own.set k o, l.q⟩ := by
  refine ⟨by simpa using h.len, by simpa using h.le, fun z hz => ?_, h.rob, h.nodup, fun c p z hp hz => ?_⟩
  · rcases mem_set hz with rfl | hz
    · exact ho
    · exact h.own z hz
  · by_cases e : k = c
    · subst e
      simp only at hp
      have hkl : k < l.own.length := by
        have := (List.getElem?_eq_some_iff.1 hp).1
        simpa using this
      rw [List.getElem?_set_self hkl] at hp
      obtain rfl := Option.some.inj hp
      exact hx z hz
    · simp only at hp
      rw [List.getElem?_set_ne e] at hp
      exact h.free c p z hp hz
theorem ownE_zero {l : Lk} {r c : Int} (h : ownE l r c = 0) : ∃ k : Nat, c = k ∧ VL l ∧ k < l.own.length ∧ (0 ≤ r ∧ r < 8) ∧ oAt l k = -1 ∧ r ∉ qAt l k := by
  unfold ownE at h
  split at h
  · rename_i h1; exact absurd h h1
  · rename_i h1
    simp only [ne_eq, Classical.not_not] at h1
    obtain ⟨hv, a, b, k, rfl, hk⟩ := errC_zero h1
    split at h
    · cases h
    · rename_i h2
      rw [Int.toNat_natCast] at h2
      exact ⟨k, rfl, valid_iff.1 hv, hk, ⟨a, b⟩, Classical.not_not.1 (fun e => h2 (.inl e)), fun e => h2 (.inr e)⟩
theorem relE_zero {l : Lk} {c : Int} (h : relE l c = 0) : ∃ k : Nat, c = k ∧ VL l ∧ k < l.own.length ∧ oAt l k ≠ -1 := by
  unfold relE at h
  split at h
  · rename_i h1; exact absurd h h1
  · rename_i h1
    simp only [ne_eq, Classical.not_not] at h1
    obtain ⟨hv, a, b, k, rfl, hk⟩ := errC_zero h1
    split at h
    · cases h
    · rename_i h2
      rw [Int.toNat_natCast] at h2
      exact ⟨k, rfl, valid_iff.1 hv, hk, h2⟩
theorem askE_zero {l : Lk} {r c : Int} (h : askE l r c = 0) : ∃ k : Nat, c = k ∧ VL l ∧ k < l.own.length ∧ (0 ≤ r ∧ r < 8) ∧ waitsL l r = -1 ∧ (∀ x ∈ l.q, r ∉ x) ∧ oAt l k ≠ r := by
  unfold askE at h
  split at h
  · rename_i h1; exact absurd h h1
  · rename_i h1
    simp only [ne_eq, Classical.not_not] at h1
    obtain ⟨hv, a, b, k, rfl, hk⟩ := errC_zero h1
    split at h
    · cases h
    · rename_i h2
      rw [Int.toNat_natCast] at h2
      rcases waits_spec l r with ⟨hw, hn⟩ | ⟨j, x, hw, _⟩
      · exact ⟨k, rfl, valid_iff.1 hv, hk, ⟨a, b⟩, hw, hn, fun e => h2 (.inr e)⟩
      · exact absurd (.inl (by rw [hw]; omega)) h2
theorem leaveE_zero {l : Lk} {r : Int} (h : leaveE l r = 0) : ∃ (k : Nat) (x : List Int), waitsL l r = k ∧ VL l ∧ l.q[k]? = some x ∧ r ∈ x ∧ leaveL l r = ⟨l.own, l.q.set k (withL r x)⟩ := by
  unfold leaveE at h
  split at h
  · rename_i h1; exact absurd h h1
  · rename_i h1
    simp only [ne_eq, Classical.not_not] at h1
    obtain ⟨hv, _⟩ := errR_zero h1
    split at h
    · cases h
    · rename_i h2
      rcases waits_spec l r with ⟨hw, _⟩ | ⟨j, x, hw, hx, hr⟩
      · exact absurd (by rw [hw]; decide) h2
      · refine ⟨j, x, hw, hv, hx, hr, ?_⟩
        unfold leaveL withL
        rw [hw, Int.toNat_natCast, qAt_of hx]
theorem grantE_zero {l : Lk} {m : Nat} (h : grantE l m = 0) : VL l ∧ m = l.own.length := by
  unfold grantE at h
  split at h
  · cases h
  · rename_i h1
    split at h
    · cases h
    · rename_i h2
      exact ⟨valid_iff.1 (by simpa using h1), Classical.not_not.1 h2⟩
theorem own_valid {l : Lk} {r c : Int} (h : ownE l r c = 0) : VL (ownV l r c) := by
  have h' := h
  obtain ⟨k, rfl, hv, hk, hr, h1, h2⟩ := ownE_zero h
  unfold ownV
  rw [if_pos h']
  unfold ownL
  rw [Int.toNat_natCast]
  exact hv.setO (by omega) (fun x hx => by rw [qAt_of hx] at h2; exact h2)
theorem rel_valid {l : Lk} {c : Int} (h : relE l c = 0) : VL (relV l c) := by
  have h' := h
  obtain ⟨k, rfl, hv, hk, h1⟩ := relE_zero h
  unfold relV
  rw [if_pos h']
  unfold relL
  rw [Int.toNat_natCast]
  exact hv.setO (by omega) (fun x hx hm => by have := hv.rob x (List.mem_of_getElem? hx) _ hm; omega)
theorem ask_valid {l : Lk} {r c : Int} (h : askE l r c = 0) : VL (askV l r c) := by
  have h' := h
  obtain ⟨k, rfl, hv, hk, hr, _, hn, h1⟩ := askE_zero h
  obtain ⟨x, hx⟩ : ∃ x, l.q[k]? = some x := ⟨_, List.getElem?_eq_getElem (by have := hv.len; omega)⟩
  unfold askV
  rw [if_pos h']
  unfold askL
  rw [Int.toNat_natCast, qAt_of hx]
  have hkl := (List.getElem?_eq_some_iff.1 hx).1
  refine ⟨by simpa using hv.len, hv.le, hv.own, fun z hz s hs => ?_, ?_, fun c o z ho hz => ?_⟩
  · rcases mem_set hz with rfl | hz
    · rcases List.mem_append.1 hs with hs | hs
      · exact hv.rob x (List.mem_of_getElem? hx) s hs
      · simp at hs; subst hs; exact hr
    · exact hv.rob z hz s hs
  · rw [(flat_snoc hx).nodup_iff, List.nodup_cons]
    refine ⟨fun hm => ?_, hv.nodup⟩
    obtain ⟨y, hy, hry⟩ := List.mem_flatten.1 hm
    exact hn y hy hry
  · by_cases e : k = c
    · subst e
      simp only at hz
      rw [List.getElem?_set_self hkl] at hz
      obtain rfl := Option.some.inj hz
      intro hm
      rcases List.mem_append.1 hm with hm | hm
      · exact hv.free k o x ho hx hm
      · simp at hm; subst hm; exact h1 (oAt_of ho)
    · simp only at hz
      rw [List.getElem?_set_ne e] at hz
      exact hv.free c o z ho hz
theorem leave_valid {l : Lk} {r : Int} (h : leaveE l r = 0) : VL (leaveV l r) := by
  obtain ⟨k, x, hw, hv, hx, hr, he⟩ := leaveE_zero h
  unfold leaveV
  rw [if_pos h, he]
  exact hv.setQ hx List.filter_sublist
theorem grantTo_valid {l : Lk} (hv : VL l) (closed : List Bool) (k : Nat) (hk : k ≤ l.own.length) : VL (grantTo l closed k).1 := by
  induction k with
  | zero => exact hv
  | succ k ih =>
    have ih := ih (by omega)
    rw [grantTo]
    split
    · exact ih
    · rename_i r rest hq
      split
      · rename_i h1
        obtain ⟨hkp, hl1, hl2, _⟩ := grantTo_kept l closed k
        obtain ⟨x, hx⟩ : ∃ x, l.q[k]? = some x := ⟨_, List.getElem?_eq_getElem (by have := hv.len; omega)⟩
        have hx2 := ((hkp k (Nat.le_refl _)).2).trans hx
        rw [qAt_of hx] at hq
        subst hq
        have h2 := ih.setQ hx2 (List.sublist_cons_self r rest)
        have hrow := ih.rowNodup hx2
        refine h2.setO (o := r) ?_ (fun y hy => ?_)
        · have := hv.rob _ (List.mem_of_getElem? hx) r (by simp)
          omega
        · simp only at hy
          rw [List.getElem?_set_self (List.getElem?_eq_some_iff.1 hx2).1] at hy
          obtain rfl := Option.some.inj hy
          exact (List.nodup_cons.1 hrow).1
      · exact ih
theorem grant_valid {l : Lk} {closed : List Bool} (h : grantE l closed.length = 0) : VL (grantV l closed) := by
  obtain ⟨hv, hm⟩ := grantE_zero h
  unfold grantV
  rw [if_pos h]
  exact grantTo_valid hv closed _ (Nat.le_refl _)
theorem new_valid {c : Int} (h : newE c = 0) : VL (newV c) := by
  unfold newV
  rw [if_pos h]
  have hc : ¬ (c < 0 ∨ 48 < c) := by
    intro hh
    unfold newE at h
    rw [if_pos hh] at h
    cases h
  refine ⟨by simp [newL], by simp [newL]; omega, fun o ho => ?_, fun x hx r hr => ?_, ?_, fun c o x ho hx => ?_⟩
  · have := List.eq_of_mem_replicate ho; omega
  · rw [List.eq_of_mem_replicate hx] at hr; cases hr
  · have : (newL c).q.flatten = [] := by simp [newL]
    rw [this]; exact List.nodup_nil
  · have := List.eq_of_mem_replicate (List.mem_of_getElem? hx)
    subst this; simp
theorem zero_valid : VL zeroL := ⟨rfl, Nat.zero_le _, by simp [zeroL], by simp [zeroL], by simp [zeroL], fun c o x h => by simp [zeroL] at h⟩
end Go.Proofs.Ytbpobekmbdngbaa
