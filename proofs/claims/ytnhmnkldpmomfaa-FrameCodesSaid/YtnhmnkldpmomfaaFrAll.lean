/- Encode and Decode, program and reference, at whatever they are given: one answer. -/
import Derived.Test.YtnhmnkldpmomfaaEncR
import Derived.Test.YtnhmnkldpmomfaaDecR
import Derived.Test.YtnhmnkldpmomfaaFrBack
import Derived.Test.YtnhmnkldpmomfaaAfter
namespace Go.Proofs.Ytnhmnkldpmomfaa
open Go.RowKit
set_option linter.unusedVariables false

/-- The value reads as the text of these bytes, now and later. -/
def ConvTo (w : World) (v : Value) (xs : List Int) : Prop :=
  ∀ W, w.grownBy W none → (convert 31 9 v).run Try.prog W = .ok (.string (strOfNums xs)) W

theorem convTo_nil (w : World) : ConvTo w (.slice none 0 0) [] := fun W _ =>
  run_convert_bytes_nil W 31 5 Try.underlying31 Try.underlying5 0 0 9 Try.underlying9

theorem convTo_bytes {w : World} {base : Nat} {v : Value} {xs : List Int} (h : BytesAt w base v xs) (hl : xs.length = 12) : ConvTo w v xs := by
  obtain ⟨b, cap, cur, rfl, _, hb, ht⟩ := h
  intro W hg
  refine conv_at (xs := xs) (grown_at hg hb (by simp)) (fun i hi => ?_) hl
  have h2 := congrArg (fun l => l[i]?) ht
  simp only [List.getElem?_take, hi, if_true, Array.getElem?_toList, List.getElem?_map] at h2
  rw [h2]
  simp [List.getD_eq_getElem?_getD, show i < xs.length by omega]

def encOut (g : Fr) : List Int × Int := if knownB g.kind then (if g.okB then (g.bytes, 0) else ([], 19)) else ([], 22)

theorem EncodeP_all (g : Fr) (hf : g.fits) (w : World) :
    Calls Try.prog 9 #[g.val] w fun e w' => ∃ v, e = .returned (.tuple #[v, .int .i64 (encOut g).2]) ∧ ConvTo w' v (encOut g).1 ∧ w.grownBy w' none := by
  unfold encOut
  cases hk : knownB g.kind
  · exact (EncodeP_kind g hk w).mono fun e w' ⟨h1, h2⟩ => ⟨_, h1, convTo_nil w', h2⟩
  · cases ho : g.okB
    · exact (EncodeP_range g hf hk ho w).mono fun e w' ⟨h1, h2⟩ => ⟨_, h1, convTo_nil w', h2⟩
    · refine (EncodeP_ok g (of_decide_eq_true ho) w).mono fun e w' ⟨b, h1, h2, h3, h4⟩ => ⟨_, h1, fun W hg => ?_, h4⟩
      exact conv_at (xs := g.bytes) (grown_at hg h3 (by simp)) (fun i hi => map_cells g.bytes i (by simpa [Fr.bytes] using hi)) rfl

theorem EncodeR_all (g : Fr) (hf : g.fits) (w : World) :
    Calls Try.prog 10 #[g.val] w fun e w' => ∃ v, e = .returned (.tuple #[v, .int .i64 (encOut g).2]) ∧ ConvTo w' v (encOut g).1 ∧ w.grownBy w' none := by
  unfold encOut
  cases hk : knownB g.kind
  · exact (EncodeR_kind g hk w).mono fun e w' ⟨h1, h2⟩ => ⟨_, h1, convTo_nil w', h2⟩
  · cases ho : g.okB
    · exact (EncodeR_range g hf hk ho w).mono fun e w' ⟨h1, h2⟩ => ⟨_, h1, convTo_nil w', h2⟩
    · exact (EncodeR_ok g (of_decide_eq_true ho) w).mono fun e w' ⟨v, h1, h2, h3⟩ => ⟨v, h1, convTo_bytes h2 rfl, h3⟩

/-- Bytes that can be read. -/
def BytesIn (w : World) (a : Option Addr) (n : Nat) (xs : List Int) : Prop :=
  xs.length = n ∧ n ≤ maxLen ∧ (∀ i, 0 ≤ xs.getD i 0 ∧ xs.getD i 0 ≤ 255) ∧ (n = 0 ∨ ∃ b off, a = some ⟨b, off, none⟩ ∧ ∀ i, i < n → w.cell? ⟨b, off + i, none⟩ = some (.int .u8 (xs.getD i 0)))

theorem BytesIn.kept {w W : World} {a : Option Addr} {n : Nat} {xs : List Int} (h : BytesIn w a n xs) (hg : w.grownBy W none) : BytesIn W a n xs := by
  obtain ⟨h1, h2, h3, h4⟩ := h
  refine ⟨h1, h2, h3, ?_⟩
  rcases h4 with h4 | ⟨b, off, rfl, hc⟩
  · exact .inl h4
  · exact .inr ⟨b, off, rfl, fun i hi => (grown_cell hg (lt_of_cell (hc i hi)) (by simp)).trans (hc i hi)⟩

theorem getD_bd {xs : List Int} (h : ∀ x ∈ xs, 0 ≤ x ∧ x ≤ 255) : ∀ i, 0 ≤ xs.getD i 0 ∧ xs.getD i 0 ≤ 255 := by
  intro i
  by_cases hi : i < xs.length
  · rw [List.getD_eq_getElem?_getD, List.getElem?_eq_getElem hi]
    exact h _ (List.getElem_mem hi)
  · rw [List.getD_eq_getElem?_getD, List.getElem?_eq_none (by omega)]
    simp

theorem bytesIn_raw {w : World} {a : Option Addr} {n cap : Nat} {z : List Int} (h : IsRow .u8 w a n cap z) : BytesIn w a n (z.take n) := by
  rcases h with ⟨rfl, rfl, rfl, rfl⟩ | ⟨x, rfl, hl, hm, hz, hc, hwf⟩
  · exact ⟨rfl, by unfold maxLen; omega, by simp, .inl rfl⟩
  · refine ⟨by simp; omega, by omega, getD_bd (fun y hy => bounds_u8 (hwf y (List.mem_of_mem_take hy))), ?_⟩
    by_cases h0 : n = 0
    · exact .inl h0
    · right
      obtain ⟨b, off, spot⟩ := x
      have hspot : spot = none := by
        have h0 := hc 0 (by omega)
        simpa [Addr.add] using World.cell?_spot h0
      subst hspot
      refine ⟨b, off, rfl, fun i hi => ?_⟩
      have hci := hc i (by omega)
      have hadd : (⟨b, off, none⟩ : Addr).add i = ⟨b, off + i, none⟩ := by unfold Addr.add; split <;> simp_all
      rw [hadd] at hci
      rw [hci]
      simp [List.getD_eq_getElem?_getD, hi]

def decOut (n : Nat) (xs : List Int) : Fr × Int := if n = 12 then decAns xs else (⟨0, 0, 0, 0, 0⟩, 21)

theorem DecodeP_all (a : Option Addr) (n cap : Nat) (xs : List Int) (w : World) (h : BytesIn w a n xs) :
    Calls Try.prog 12 #[.slice a n cap] w fun e w' => e = .returned (.tuple #[(decOut n xs).1.val, .int .i64 (decOut n xs).2]) ∧ w.grownBy w' none := by
  obtain ⟨h1, h2, h3, h4⟩ := h
  unfold decOut
  by_cases h12 : n = 12
  · subst h12
    rw [if_pos rfl]
    rcases h4 with h4 | ⟨b, off, rfl, hc⟩
    · omega
    · unfold decAns
      cases hk : knownB (xs.getD 0 0)
      · exact DecodeP_kind b off cap (xs.getD 0 0) w (by simpa using hc 0 (by omega)) (h3 0).1 (h3 0).2 hk
      · cases ho : (frOf xs).okB
        · refine (DecodeP_12 b off cap xs w hc h3 hk false ho).mono fun e w' ⟨e1, e2⟩ => ⟨?_, e2⟩
          rw [e1]; simp
        · refine (DecodeP_12 b off cap xs w hc h3 hk true ho).mono fun e w' ⟨e1, e2⟩ => ⟨?_, e2⟩
          rw [e1]; simp
  · rw [if_neg h12]
    exact DecodeP_short a n cap h12 w (by unfold maxLen at h2; omega)

theorem DecodeR_all (a : Option Addr) (n cap : Nat) (xs : List Int) (w : World) (h : BytesIn w a n xs) :
    Calls Try.prog 13 #[.slice a n cap] w fun e w' => e = .returned (.tuple #[(decOut n xs).1.val, .int .i64 (decOut n xs).2]) ∧ w.grownBy w' none := by
  obtain ⟨h1, h2, h3, h4⟩ := h
  unfold decOut
  by_cases h12 : n = 12
  · subst h12
    rw [if_pos rfl]
    rcases h4 with h4 | ⟨b, off, rfl, hc⟩
    · omega
    · exact DecodeR_12 b off cap xs w hc h3
  · rw [if_neg h12]
    exact DecodeR_short a n cap h12 w (by unfold maxLen at h2; omega)
end Go.Proofs.Ytnhmnkldpmomfaa
