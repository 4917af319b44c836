/- Bytes read back: plain facts, and Decode at whatever bytes. -/
import Derived.Test.YtnhmnkldpmomfaaDecP
namespace Go.Proofs.Ytnhmnkldpmomfaa
open Go.RowKit
set_option linter.unusedVariables false

theorem sq_ten (xs : List Int) : sq xs 10 = ((((((((xs.getD 2 0) * 256 + xs.getD 3 0) * 256 + xs.getD 4 0) * 256 + xs.getD 5 0) * 256 + xs.getD 6 0) * 256 + xs.getD 7 0) * 256 + xs.getD 8 0) * 256 + xs.getD 9 0) := by
  have e2 := sq_two xs
  have e3 := sq_succ xs (k := 2) (by omega)
  have e4 := sq_succ xs (k := 3) (by omega)
  have e5 := sq_succ xs (k := 4) (by omega)
  have e6 := sq_succ xs (k := 5) (by omega)
  have e7 := sq_succ xs (k := 6) (by omega)
  have e8 := sq_succ xs (k := 7) (by omega)
  have e9 := sq_succ xs (k := 8) (by omega)
  have e10 := sq_succ xs (k := 9) (by omega)
  simp only [Nat.reduceAdd] at e3 e4 e5 e6 e7 e8 e9 e10
  rw [e10, e9, e8, e7, e6, e5, e4, e3, e2]
  omega

theorem frOf_bytes {f : Fr} (h : f.ok) : frOf f.bytes = f := by
  obtain ⟨k, r, s, c, fl⟩ := f
  have a1 : 1 ≤ s := h.2.2.2.1
  have a2 : s ≤ 18446744073709551615 := h.2.2.2.2.1
  unfold frOf
  rw [sq_ten]
  simp only [Fr.bytes, List.getD_cons_zero, List.getD_cons_succ, Fr.mk.injEq, true_and, and_true]
  omega

theorem horner {x2 x3 x4 x5 x6 x7 x8 x9 s : Int} (l2 : 0 ≤ x2) (u2 : x2 ≤ 255) (l3 : 0 ≤ x3) (u3 : x3 ≤ 255) (l4 : 0 ≤ x4) (u4 : x4 ≤ 255) (l5 : 0 ≤ x5) (u5 : x5 ≤ 255) (l6 : 0 ≤ x6) (u6 : x6 ≤ 255) (l7 : 0 ≤ x7) (u7 : x7 ≤ 255) (l8 : 0 ≤ x8) (u8 : x8 ≤ 255) (l9 : 0 ≤ x9) (u9 : x9 ≤ 255)
    (hs : s = ((((((x2 * 256 + x3) * 256 + x4) * 256 + x5) * 256 + x6) * 256 + x7) * 256 + x8) * 256 + x9) :
    s / 72057594037927936 % 256 = x2 ∧ s / 281474976710656 % 256 = x3 ∧ s / 1099511627776 % 256 = x4 ∧ s / 4294967296 % 256 = x5 ∧ s / 16777216 % 256 = x6 ∧ s / 65536 % 256 = x7 ∧ s / 256 % 256 = x8 ∧ s % 256 = x9 := by
  refine ⟨?_, ?_, ?_, ?_, ?_, ?_, ?_, ?_⟩ <;> omega

theorem bytes_frOf {z : List Int} (hl : z.length = 12) (hx : ∀ i, 0 ≤ z.getD i 0 ∧ z.getD i 0 ≤ 255) : (frOf z).bytes = z := by
  match z, hl with
  | [x0, x1, x2, x3, x4, x5, x6, x7, x8, x9, x10, x11], _ =>
    have h2 := hx 2
    have h3 := hx 3
    have h4 := hx 4
    have h5 := hx 5
    have h6 := hx 6
    have h7 := hx 7
    have h8 := hx 8
    have h9 := hx 9
    simp only [List.getD_cons_zero, List.getD_cons_succ] at h2 h3 h4 h5 h6 h7 h8 h9
    have hs := sq_ten [x0, x1, x2, x3, x4, x5, x6, x7, x8, x9, x10, x11]
    have H := horner h2.1 h2.2 h3.1 h3.2 h4.1 h4.2 h5.1 h5.2 h6.1 h6.2 h7.1 h7.2 h8.1 h8.2 h9.1 h9.2 hs
    obtain ⟨e1, e2, e3, e4, e5, e6, e7, e8⟩ := H
    simp only [frOf, Fr.bytes, List.getD_cons_zero, List.getD_cons_succ]
    rw [e1, e2, e3, e4, e5, e6, e7, e8]

/-- What Decode answers, whatever the bytes are. -/
theorem DecodeP_raw (a : Option Addr) (len cap : Nat) (z : List Int) (w : World) (h : IsRow .u8 w a len cap z) :
    Calls Try.prog 12 #[.slice a len cap] w fun e w' => w.grownBy w' none ∧
      ((∃ c : Int, 1 ≤ c ∧ c ≤ 100 ∧ e = .returned (.tuple #[(Fr.mk 0 0 0 0 0).val, .int .i64 c])) ∨
       (len = 12 ∧ ∃ y : Fr, y.ok ∧ y.bytes = z.take 12 ∧ e = .returned (.tuple #[y.val, .int .i64 0]))) := by
  rcases h with ⟨rfl, rfl, rfl, rfl⟩ | ⟨x, rfl, hl, hm, hz, hc, hwf⟩
  · exact (DecodeP_short _ 0 0 (by omega) w (by omega)).mono fun e w' ⟨h1, h2⟩ => ⟨h2, .inl ⟨21, by omega, by omega, h1⟩⟩
  · by_cases h12 : len = 12
    · subst h12
      have hbd : ∀ i, 0 ≤ (z.take 12).getD i 0 ∧ (z.take 12).getD i 0 ≤ 255 := by
        intro i
        by_cases hi : i < (z.take 12).length
        · rw [List.getD_eq_getElem?_getD, List.getElem?_eq_getElem hi]
          exact bounds_u8 (hwf _ (List.mem_of_mem_take (List.getElem_mem hi)))
        · rw [List.getD_eq_getElem?_getD, List.getElem?_eq_none (by omega)]
          simp
      obtain ⟨b, off, spot⟩ := x
      have hspot : spot = none := by
        have h0 := hc 0 (by omega)
        simpa [Addr.add] using World.cell?_spot h0
      subst hspot
      have hcell : ∀ i, i < 12 → w.cell? ⟨b, off + i, none⟩ = some (.int .u8 ((z.take 12).getD i 0)) := by
        intro i hi
        have hci := hc i (by omega)
        have hadd : (⟨b, off, none⟩ : Addr).add i = ⟨b, off + i, none⟩ := by unfold Addr.add; split <;> simp_all
        rw [hadd] at hci
        rw [hci]
        simp [List.getD_eq_getElem?_getD, hi]
      have hlen : (z.take 12).length = 12 := by simp; omega
      generalize z.take 12 = xs at hbd hcell hlen
      by_cases hk : knownB (xs.getD 0 0) = true
      · cases hv : (frOf xs).okB
        · refine (DecodeP_12 b off cap xs w hcell hbd hk false hv).mono fun e w' ⟨h1, h2⟩ => ⟨h2, .inl ⟨19, by omega, by omega, ?_⟩⟩
          rw [h1]; simp
        · refine (DecodeP_12 b off cap xs w hcell hbd hk true hv).mono fun e w' ⟨h1, h2⟩ => ⟨h2, .inr ⟨rfl, frOf xs, of_decide_eq_true hv, bytes_frOf hlen hbd, ?_⟩⟩
          rw [h1]; simp
      · have hk' : knownB (xs.getD 0 0) = false := by simpa using hk
        refine (DecodeP_kind b off cap (xs.getD 0 0) w (by simpa using hcell 0 (by omega)) (hbd 0).1 (hbd 0).2 hk').mono fun e w' ⟨h1, h2⟩ => ⟨h2, .inl ⟨22, by omega, by omega, h1⟩⟩
    · exact (DecodeP_short _ len cap h12 w (by unfold maxLen at hm; omega)).mono fun e w' ⟨h1, h2⟩ => ⟨h2, .inl ⟨21, by omega, by omega, h1⟩⟩
end Go.Proofs.Ytnhmnkldpmomfaa
