/- The plain law of ArbiterFair. -/
import Derived.Test.YtfdnbkclpnaijaaStart
namespace Go.Proofs.Ytfdnbkclpnaijaa
set_option linter.unusedVariables false

/-- The queue ts and the counts os of who was overtaken how often. -/
structure FairQ (most : Int) (ts : List Tk) (os : List Int) : Prop where
  os32 : os.length = 32
  len : ts.length ≤ 32
  each : ∀ (i : Nat) (t : Tk), ts[i]? = some t → (t.state = 0 ∨ t.state = 1) ∧ -1 ≤ t.robot ∧ t.robot ≤ 0 ∧ 0 ≤ t.over ∧ t.over ≤ most ∧ os[i]? = some t.over
  zero : ∀ i : Nat, ts.length ≤ i → i < 32 → os[i]? = some 0
theorem FairQ.begin (most : Int) : FairQ most [] (List.replicate 32 0) := ⟨by simp, by simp, fun i t h => by simp at h, fun i _ h => by rw [List.getElem?_replicate, if_pos h]⟩
theorem FairQ.valid {most : Int} {ts : List Tk} {os : List Int} (h : FairQ most ts os) (hm : most ≤ 4) : validB ts = true := by
  refine valid_good rfl h.len ?_
  rw [List.take_length, List.all_eq_true]
  intro t ht
  obtain ⟨i, hi⟩ := List.getElem?_of_mem ht
  obtain ⟨h1, h2, h3, h4, h5, _⟩ := h.each i t hi
  simp only [Tk.okB, decide_eq_true_eq]
  omega
theorem FairQ.add {most : Int} {ts : List Tk} {os : List Int} (h : FairQ most ts os) (hl : ts.length < 32) (hm : 0 ≤ most) : FairQ most (ts ++ [⟨0, 0, 0, -1, 0⟩]) os := by
  refine ⟨h.os32, by simp; omega, fun i t hi => ?_, fun i h1 h2 => h.zero i (by simp at h1; omega) h2⟩
  by_cases e : i < ts.length
  · rw [List.getElem?_append_left e] at hi
    exact h.each i t hi
  · have hl' := (List.getElem?_eq_some_iff.1 hi).1
    simp at hl'
    obtain rfl : i = ts.length := by omega
    rw [List.getElem?_append_right (by omega), Nat.sub_self] at hi
    obtain rfl : (⟨0, 0, 0, -1, 0⟩ : Tk) = t := by simpa using hi
    exact ⟨.inl rfl, by simp, by simp, by simp, hm, h.zero _ (Nat.le_refl _) hl⟩
/-- What Choose returns. -/
theorem nextI_spec {ts : List Tk} {cs : List Bool} {ag : Int} (i : Nat) (hl : cs.length = ts.length) : nextI ts cs ag i = -1 ∨ ∃ (k : Nat) (t : Tk), nextI ts cs ag i = ((i + k : Nat) : Int) ∧ ts[k]? = some t ∧ cs[k]? = some true ∧ t.state = 0 ∧
    ∀ (j : Nat) (t' : Tk), j < k → ts[j]? = some t' → t'.state = 0 → cs[j]? = some false ∧ t'.over < ag := by
  induction ts generalizing cs i with
  | nil => left; unfold nextI; simp
  | cons t ts ih =>
    match cs, hl with
    | c :: cs, hl =>
      have hl' : cs.length = ts.length := by simpa using hl
      have lift : (t.state = 0 → c = false ∧ t.over < ag) → nextI (t :: ts) (c :: cs) ag i = nextI ts cs ag (i + 1) → nextI (t :: ts) (c :: cs) ag i = -1 ∨ ∃ (k : Nat) (t1 : Tk), nextI (t :: ts) (c :: cs) ag i = ((i + k : Nat) : Int) ∧ (t :: ts)[k]? = some t1 ∧ (c :: cs)[k]? = some true ∧ t1.state = 0 ∧
          ∀ (j : Nat) (t' : Tk), j < k → (t :: ts)[j]? = some t' → t'.state = 0 → (c :: cs)[j]? = some false ∧ t'.over < ag := by
        intro h0 he
        rw [he]
        rcases ih (i + 1) hl' with h | ⟨k, t1, h1, h2, h3, h4, h5⟩
        · exact .inl h
        · refine .inr ⟨k + 1, t1, by rw [h1]; omega, h2, h3, h4, fun j t' hj hj1 hj2 => ?_⟩
          match j, hj1 with
          | 0, hj1 =>
            obtain rfl : t = t' := by simpa using hj1
            obtain ⟨rfl, h⟩ := h0 hj2
            exact ⟨rfl, h⟩
          | j + 1, hj1 => exact h5 j t' (by omega) (by simpa using hj1) hj2
      by_cases hs : t.state = 0
      · by_cases hc : c = true
        · subst hc
          right
          refine ⟨0, t, ?_, rfl, rfl, hs, fun j t' hj => by omega⟩
          rw [nextI, if_pos hs]; simp
        · have hcf : c = false := by simpa using hc
          subst hcf
          by_cases ha : ag ≤ t.over
          · left
            rw [nextI, if_pos hs]; simp [ha]
          · exact lift (fun _ => ⟨rfl, by omega⟩) (by rw [nextI, if_pos hs]; simp [ha])
      · exact lift (fun h => absurd h hs) (by rw [nextI, if_neg hs])

/-- Is task i queued? -/
def isQ (ts : List Tk) (i : Nat) : Bool := match ts[i]? with | some t => decide (t.state = 0) | none => false
/-- The counts where those of the queued tasks ahead of j have gone up. -/
def BumpO (ts : List Tk) (os : List Int) (j : Nat) (os' : List Int) : Prop := os'.length = 32 ∧ ∀ (i : Nat) (o : Int), os[i]? = some o → os'[i]? = some (if i < j ∧ isQ ts i = true then o + 1 else o)
theorem BumpO.zero {ts : List Tk} {os : List Int} (h : os.length = 32) : BumpO ts os 0 os := ⟨h, fun i o ho => by rw [if_neg (by omega)]; exact ho⟩
theorem BumpO.skip {ts : List Tk} {os os' : List Int} {j : Nat} (h : BumpO ts os j os') (hq : isQ ts j = false) : BumpO ts os (j + 1) os' := by
  refine ⟨h.1, fun i o ho => ?_⟩
  rw [h.2 i o ho]
  by_cases e : i = j
  · subst e; rw [if_neg (by omega), if_neg (by simp [hq])]
  · congr 1
    by_cases hc : i < j ∧ isQ ts i = true
    · rw [if_pos hc, if_pos ⟨by omega, hc.2⟩]
    · rw [if_neg hc, if_neg (fun k => hc ⟨by omega, k.2⟩)]
theorem BumpO.up {ts : List Tk} {os os' : List Int} {j : Nat} {o : Int} (h : BumpO ts os j os') (hq : isQ ts j = true) (ho : os[j]? = some o) : BumpO ts os (j + 1) (os'.set j (o + 1)) := by
  have hj : j < os'.length := by
    have := h.2 j o ho
    exact (List.getElem?_eq_some_iff.1 this).1
  refine ⟨by simp [h.1], fun i o' ho' => ?_⟩
  by_cases e : i = j
  · subst e
    rw [ho] at ho'
    obtain rfl := Option.some.inj ho'
    rw [List.getElem?_set_self hj, if_pos ⟨by omega, hq⟩]
  · rw [List.getElem?_set_ne (Ne.symm e), h.2 i o' ho']
    congr 1
    by_cases hc : i < j ∧ isQ ts i = true
    · rw [if_pos hc, if_pos ⟨by omega, hc.2⟩]
    · rw [if_neg hc, if_neg (fun k => hc ⟨by omega, k.2⟩)]
theorem bump_get {ts : List Tk} {k i : Nat} {t : Tk} (ht : ts[i]? = some t) : (bump ts k)[i]? = some (if i < k then bumpT t else t) := by
  unfold bump
  have hl := (List.getElem?_eq_some_iff.1 ht).1
  by_cases h : i < k
  · rw [if_pos h, List.getElem?_append_left (by simp; omega), List.getElem?_map, List.getElem?_take_of_lt h, ht]; rfl
  · rw [if_neg h, List.getElem?_append_right (by simp; omega), List.getElem?_drop]
    simp only [List.length_map, List.length_take]
    by_cases hk : k ≤ ts.length
    · rw [show k + (i - min k ts.length) = i by omega]; exact ht
    · omega
theorem FairQ.start {most : Int} {ts : List Tk} {os os' : List Int} {k : Nat} {t0 : Tk} (h : FairQ most ts os) (ht : ts[k]? = some t0) (h0 : t0.state = 0) (hlt : ∀ (i : Nat) (t : Tk), i < k → ts[i]? = some t → t.state = 0 → t.over < most) (hb : BumpO ts os k os') :
    FairQ most (startTs ts k 0) os' := by
  have hkl := (List.getElem?_eq_some_iff.1 ht).1
  have hbl : (bump ts k).length = ts.length := by unfold bump; simp; omega
  have hs : startTs ts k 0 = (bump ts k).set k { t0 with state := 1, robot := 0 } := by unfold startTs; rw [ht]
  have hsl : (startTs ts k 0).length = ts.length := by rw [hs, List.length_set, hbl]
  refine ⟨hb.1, by rw [hsl]; exact h.len, fun i t hi => ?_, fun i h1 h2 => ?_⟩
  · have hil : i < ts.length := by have := (List.getElem?_eq_some_iff.1 hi).1; omega
    obtain ⟨ti, hti⟩ : ∃ t, ts[i]? = some t := ⟨_, List.getElem?_eq_getElem hil⟩
    obtain ⟨e1, e2, e3, e4, e5, e6⟩ := h.each i ti hti
    have ho := hb.2 i _ e6
    have hq : isQ ts i = decide (ti.state = 0) := by unfold isQ; rw [hti]
    rw [hs] at hi
    by_cases e : i = k
    · subst e
      rw [List.getElem?_set_self (by omega)] at hi
      obtain rfl := Option.some.inj hi
      rw [ht] at hti
      obtain rfl := Option.some.inj hti
      rw [if_neg (by omega)] at ho
      exact ⟨.inr rfl, by simp, by simp, e4, e5, ho⟩
    · rw [List.getElem?_set_ne (Ne.symm e), bump_get hti] at hi
      obtain rfl := Option.some.inj hi
      by_cases hik : i < k
      · rw [if_pos hik]
        by_cases hs0 : ti.state = 0
        · have := hlt i ti hik hti hs0
          rw [if_pos ⟨hik, by rw [hq]; simp [hs0]⟩] at ho
          unfold bumpT
          rw [if_pos hs0]
          exact ⟨.inl hs0, e2, e3, by simp; omega, by simp; omega, ho⟩
        · rw [if_neg (fun k => by rw [hq] at k; simp [hs0] at k)] at ho
          unfold bumpT
          rw [if_neg hs0]
          exact ⟨e1, e2, e3, e4, e5, ho⟩
      · rw [if_neg hik]
        rw [if_neg (by omega)] at ho
        exact ⟨e1, e2, e3, e4, e5, ho⟩
  · have hz := h.zero i (by omega) h2
    have := hb.2 i 0 hz
    rwa [if_neg (by omega)] at this
end Go.Proofs.Ytfdnbkclpnaijaa
