/- Plain facts about frames and their bytes. -/
import Derived.Test.YtnhmnkldpmomfaaFrEq
namespace Go.Proofs.Ytnhmnkldpmomfaa
open Go.RowKit
set_option linter.unusedVariables false

theorem strOfNums_list (xs : List Int) : (strOfNums xs).toList = xs.map fun n => UInt8.ofNat n.toNat := by
  rw [ByteArray.toList_eq]; exact strOfNums_data xs

theorem byte_inj {a b : Int} (ha : 0 ≤ a ∧ a < 256) (hb : 0 ≤ b ∧ b < 256) (h : UInt8.ofNat a.toNat = UInt8.ofNat b.toNat) : a = b := by
  have h1 : (UInt8.ofNat a.toNat).toNat = a.toNat := by simp [UInt8.toNat_ofNat']; omega
  have h2 : (UInt8.ofNat b.toNat).toNat = b.toNat := by simp [UInt8.toNat_ofNat']; omega
  rw [h] at h1
  omega

theorem bytes_inj : ∀ {xs ys : List Int}, (∀ x ∈ xs, 0 ≤ x ∧ x < 256) → (∀ y ∈ ys, 0 ≤ y ∧ y < 256) → (xs.map fun n => UInt8.ofNat n.toNat) = (ys.map fun n => UInt8.ofNat n.toNat) → xs = ys
  | [], [], _, _, _ => rfl
  | [], y :: ys, _, _, h => by simp at h
  | x :: xs, [], _, _, h => by simp at h
  | x :: xs, y :: ys, hx, hy, h => by
    simp only [List.map_cons, List.cons.injEq] at h
    have h1 := byte_inj (hx x (by simp)) (hy y (by simp)) h.1
    have h2 := bytes_inj (fun z hz => hx z (by simp [hz])) (fun z hz => hy z (by simp [hz])) h.2
    rw [h1, h2]

theorem Fr.bytes_bd {f : Fr} (h : f.ok) : ∀ x ∈ f.bytes, 0 ≤ x ∧ x < 256 := by
  obtain ⟨k, r, s, c, fl⟩ := f
  obtain ⟨h1, h2, h3, h4, h5, h6, h7, h8, h9, -⟩ := h
  simp only at h1 h2 h3 h4 h5 h6 h7 h8 h9
  intro x hx
  simp only [Fr.bytes, List.mem_cons, List.not_mem_nil, or_false] at hx
  rcases hx with rfl | rfl | rfl | rfl | rfl | rfl | rfl | rfl | rfl | rfl | rfl | rfl <;> omega

theorem seq_back {s t : Int} (h1 : 0 ≤ s) (h2 : s ≤ 18446744073709551615) (h3 : 0 ≤ t) (h4 : t ≤ 18446744073709551615)
    (e7 : s / 72057594037927936 % 256 = t / 72057594037927936 % 256) (e6 : s / 281474976710656 % 256 = t / 281474976710656 % 256) (e5 : s / 1099511627776 % 256 = t / 1099511627776 % 256) (e4 : s / 4294967296 % 256 = t / 4294967296 % 256)
    (e3 : s / 16777216 % 256 = t / 16777216 % 256) (e2 : s / 65536 % 256 = t / 65536 % 256) (e1 : s / 256 % 256 = t / 256 % 256) (e0 : s % 256 = t % 256) : s = t := by
  omega

theorem frEqB_iff {k1 r1 s1 c1 f1 k2 r2 s2 c2 f2 : Int} : frEqB k1 r1 s1 c1 f1 k2 r2 s2 c2 f2 = true ↔ Fr.mk k1 r1 s1 c1 f1 = Fr.mk k2 r2 s2 c2 f2 := by
  unfold frEqB
  simp [Bool.and_eq_true]

/-- Different frames have different bytes. -/
theorem differ {k1 r1 s1 c1 f1 k2 r2 s2 c2 f2 : Int} (hf : (Fr.mk k1 r1 s1 c1 f1).ok) (hg : (Fr.mk k2 r2 s2 c2 f2).ok) :
    (((strOfNums (Fr.mk k1 r1 s1 c1 f1).bytes).toList == (strOfNums (Fr.mk k2 r2 s2 c2 f2).bytes).toList) == frEqB k1 r1 s1 c1 f1 k2 r2 s2 c2 f2) = true := by
  rw [beq_iff_eq, Bool.eq_iff_iff, frEqB_iff, beq_iff_eq, strOfNums_list, strOfNums_list]
  constructor
  · intro h
    have e := bytes_inj (Fr.bytes_bd hf) (Fr.bytes_bd hg) h
    simp only [Fr.bytes, List.cons.injEq, and_true] at e
    obtain ⟨h1, h2, h3, h4, h5, h6, h7, h8, h9, h10, h11, h12⟩ := e
    have a1 : 1 ≤ s1 := hf.2.2.2.1
    have a2 : s1 ≤ 18446744073709551615 := hf.2.2.2.2.1
    have a3 : 1 ≤ s2 := hg.2.2.2.1
    have a4 : s2 ≤ 18446744073709551615 := hg.2.2.2.2.1
    have hs := seq_back (by omega) a2 (by omega) a4 h3 h4 h5 h6 h7 h8 h9 h10
    rw [h1, h2, hs, h11, h12]
  · intro h; rw [h]
end Go.Proofs.Ytnhmnkldpmomfaa
