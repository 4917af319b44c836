/- Lists of lists of numbers in memory: read, and made by the call. -/
import Derived.Test.YtbpobekmbdngbaaApp
import Derived.Test.YtbpobekmbdngbaaAfter
namespace Go.Proofs.Ytbpobekmbdngbaa
open Go.RowKit
set_option linter.unusedVariables false

theorem Try.info_int : (Try.prog.info? 3).map (fun i => (i.zero, i.size, i.bytes)) = some (some (.int .i64 0), 1, 8) := by kernel_rfl
theorem St_int : SliceT Try.prog 22 3 (.int .i64 0) 1 8 := .mk' Try.underlying22 Try.info_int rfl (by decide)
theorem Try.info_ints : (Try.prog.info? 22).map (fun i => (i.zero, i.size, i.bytes)) = some (some (.slice none 0 0), 1, 24) := by kernel_rfl

/-- The slice at a reads as the lists xss; nothing of it lies in block R. -/
def ListsR (R : Option Nat) (w : World) (a : Option Addr) (n : Nat) (xss : List (List Int)) : Prop :=
  ∃ cs : List Value, RowR R w a n 1 cs ∧ cs.length = xss.length ∧ ∀ (i : Nat) (xs : List Int), xss[i]? = some xs → ∃ (A : Option Addr) (c : Nat), cs[i]? = some (Value.slice A xs.length c) ∧ xs.length ≤ c ∧ c ≤ maxLen ∧ (A = none → c = 0) ∧ RowR R w A xs.length 1 (ints xs)
instance {R : Option Nat} {w W : World} {a : Option Addr} {n : Nat} {xss : List (List Int)} : Stay R w W (ListsR R w a n xss) (ListsR R W a n xss) :=
  ⟨fun hg ⟨cs, h1, h2, h3⟩ => ⟨cs, ⟨h1.1.kept_but hg h1.2, h1.2⟩, h2, fun i xs hi => let ⟨A, c, g1, g2, g3, g4, g5⟩ := h3 i xs hi; ⟨A, c, g1, g2, g3, g4, g5.1.kept_but hg g5.2, g5.2⟩⟩⟩
theorem ListsR.len {R : Option Nat} {w : World} {a : Option Addr} {n : Nat} {xss : List (List Int)} (h : ListsR R w a n xss) : xss.length = n ∧ n ≤ maxLen := by
  obtain ⟨cs, h1, h2, _⟩ := h
  have := h1.1.1
  exact ⟨by omega, h1.1.2.1⟩
theorem rowR_none {w : World} {a : Option Addr} {n size : Nat} {xs : List Value} (h : RowIn w a n size xs) : RowR none w a n size xs := ⟨h, by simp⟩
theorem ListsR.plain {R : Option Nat} {w : World} {a : Option Addr} {n : Nat} {xss : List (List Int)} (h : ListsR R w a n xss) : ListsR none w a n xss := by
  obtain ⟨cs, h1, h2, h3⟩ := h
  refine ⟨cs, rowR_none h1.1, h2, fun i xs hi => ?_⟩
  obtain ⟨A, c, g1, g2, g3, g4, g5⟩ := h3 i xs hi
  exact ⟨A, c, g1, g2, g3, g4, rowR_none g5.1⟩
/-- Element i. -/
theorem ListsR.at {R : Option Nat} {w : World} {a : Option Addr} {n : Nat} {xss : List (List Int)} (h : ListsR R w a n xss) {i : Nat} {xs : List Int} (hi : xss[i]? = some xs) :
    ∃ b off A c, a = some ⟨b, off, none⟩ ∧ b < w.heap.size ∧ w.cell? ⟨b, off + i, none⟩ = some (.slice A xs.length c) ∧ xs.length ≤ c ∧ c ≤ maxLen ∧ (A = none → c = 0) ∧ RowR R w A xs.length 1 (ints xs) := by
  obtain ⟨cs, h1, h2, h3⟩ := h
  obtain ⟨A, c, g1, g2, g3, g4, g5⟩ := h3 i xs hi
  have hlt := (List.getElem?_eq_some_iff.1 g1).1
  have hn := h1.1.1
  obtain ⟨b, off, rfl, hc⟩ := h1.1.at (by omega)
  have hcell := hc i _ g1
  exact ⟨b, off, A, c, rfl, lt_of_cell hcell, hcell, g2, g3, g4, g5⟩

/-- Block g holds the n slices of xss; each is nil or has a block of its own from base on. -/
def OwnL (w : World) (base g n : Nat) (xss : List (List Int)) : Prop :=
  ∃ cs : Array Value, w.heap[g]? = some (.cells cs 22 (0, 0)) ∧ cs.size = n ∧ xss.length = n ∧ base ≤ g ∧ n ≤ maxLen ∧
    ∀ (i : Nat) (xs : List Int), xss[i]? = some xs → ∃ v : Value, cs[i]? = some v ∧ w.ownsRow base 3 1 v xs.length (ints xs) ∧ v.ownBlock ≠ some g ∧ ∀ (j : Nat) (u : Value), j ≠ i → cs[j]? = some u → v.ownBlock = none ∨ u.ownBlock ≠ v.ownBlock

theorem OwnL.lists {w : World} {base g n : Nat} {xss : List (List Int)} {R : Option Nat} (h : OwnL w base g n xss) (hR : ∀ b, R = some b → b < base) : ListsR R w (some ⟨g, 0, none⟩) n xss := by
  obtain ⟨cs, h1, h2, h3, h4, hm, h5⟩ := h
  refine ⟨cs.toList, ⟨rowIn_block (n := n) (size := 1) h1 (by omega) hm, ?_⟩, by simpa using h2.trans h3.symm, fun i xs hi => ?_⟩
  · rintro x hx
    obtain rfl := Option.some.inj hx
    cases R with
    | none => simp
    | some b => have := hR b rfl; simp; omega
  · obtain ⟨v, g1, g2, g3, _⟩ := h5 i xs hi
    obtain ⟨A, c, rfl, f1, f2, f3, f4⟩ := sliceIn_owns g2
    refine ⟨A, c, by simpa using g1, f1, f2, f3, f4, ?_⟩
    rintro x hx
    subst hx
    cases R with
    | none => simp
    | some b =>
      have hb := hR b rfl
      have := g2.lt x.block (by
        rcases g2.2 with ⟨h, _⟩ | ⟨g', cap, cur, h, _⟩
        · cases h
        · simp only [Value.slice.injEq, Option.some.injEq] at h
          rw [h.1]; rfl)
      simp; omega
theorem OwnL.lt {w : World} {base g n : Nat} {xss : List (List Int)} (h : OwnL w base g n xss) : g < w.heap.size := by
  obtain ⟨cs, h1, _⟩ := h
  exact lt_of_at h1
theorem OwnL.at {w : World} {base g n : Nat} {xss : List (List Int)} (h : OwnL w base g n xss) {i : Nat} {xs : List Int} (hi : xss[i]? = some xs) :
    ∃ v, w.cell? ⟨g, i, none⟩ = some v ∧ w.frozen? ⟨g, i, none⟩ = false ∧ w.ownsRow base 3 1 v xs.length (ints xs) ∧ v.ownBlock ≠ some g := by
  obtain ⟨cs, h1, h2, h3, h4, hm, h5⟩ := h
  obtain ⟨v, g1, g2, g3, _⟩ := h5 i xs hi
  exact ⟨v, by rw [cell_at h1, g1], free_at h1, g2, g3⟩

/-- A list in place i is replaced: by one that was appended to in its own block, or that lies in a new one. -/
theorem OwnL.put {w w1 : World} {base g n : Nat} {xss : List (List Int)} {i : Nat} {xs ys : List Int} {v v' : Value} {r : Option Nat} (h : OwnL w base g n xss) (hi : xss[i]? = some xs) (hv : w.cell? ⟨g, i, none⟩ = some v)
    (hg : w.grownBy w1 r) (hr : r = none ∨ r = v.ownBlock) (ho : w1.ownsRow base 3 1 v' ys.length (ints ys)) (hw : v'.ownBlock = v.ownBlock ∨ ∀ k, v'.ownBlock = some k → w.heap.size ≤ k) :
    OwnL (w1.setCell ⟨g, i, none⟩ v') base g n (xss.set i ys) := by
  have hgl := h.lt
  obtain ⟨cs, h1, h2, h3, h4, hm, h5⟩ := h
  obtain ⟨v0, g1, g2, g3, g4⟩ := h5 i xs hi
  obtain rfl : v0 = v := by rw [cell_at h1, g1] at hv; exact Option.some.inj hv
  have hne : some g ≠ r := by
    rcases hr with rfl | rfl
    · simp
    · exact fun e => g3 e.symm
  have h1' := grown_at hg h1 hne
  have hil : i < n := by have := (List.getElem?_eq_some_iff.1 hi).1; omega
  have hvg : v'.ownBlock ≠ some g := by
    rcases hw with hw | hw
    · rw [hw]; exact g3
    · intro e; have := hw g e; omega
  have stay : ∀ {u : Value} {m : Nat} {zs : List Value}, w1.ownsRow base 3 1 u m zs → u.ownBlock ≠ some g → (w1.setCell ⟨g, i, none⟩ v').ownsRow base 3 1 u m zs := fun hu hug =>
    hu.kept (row := some g) (grown_set v' (grown_refl w1 _) (.inr rfl)) (.inr hug)
  refine ⟨cs.setIfInBounds i v', at_set v' h1', by simpa using h2, by simpa using h3, h4, hm, fun j zs hj => ?_⟩
  by_cases hji : i = j
  · subst hji
    obtain rfl : zs = ys := by
      rw [List.getElem?_set_self (by omega)] at hj
      exact (Option.some.inj hj).symm
    refine ⟨v', Array.getElem?_setIfInBounds_self_of_lt (by omega), stay ho hvg, hvg, fun k u hk hu => ?_⟩
    rw [Array.getElem?_setIfInBounds_ne (Ne.symm hk)] at hu
    rcases hw with hw | hw
    · rw [hw]; exact g4 k u hk hu
    · cases hb : v'.ownBlock with
      | none => exact .inl rfl
      | some m =>
        right
        intro e
        have hm' := hw m hb
        have hkl : k < xss.length := by have := (Array.getElem?_eq_some_iff.1 hu).1; omega
        obtain ⟨u', e1, e2, _, _⟩ := h5 k xss[k] (List.getElem?_eq_getElem hkl)
        obtain rfl : u' = u := by rw [hu] at e1; exact (Option.some.inj e1).symm
        have := (e2.lt m e).2
        omega
  · rw [List.getElem?_set_ne hji] at hj
    obtain ⟨u, e1, e2, e3, e4⟩ := h5 j zs hj
    have hk1 : w1.ownsRow base 3 1 u zs.length (ints zs) := by
      refine e2.kept hg ?_
      rcases hr with rfl | rfl
      · exact Classical.em _
      · rcases e4 i _ hji g1 with e | e
        · exact .inl e
        · exact .inr (Ne.symm e)
    refine ⟨u, by rw [Array.getElem?_setIfInBounds_ne hji]; exact e1, stay hk1 e3, e3, fun k x hk hx => ?_⟩
    by_cases hki : i = k
    · subst hki
      have hsz : i < cs.size := by omega
      obtain rfl : x = v' := by
        rw [Array.getElem?_setIfInBounds_self_of_lt hsz] at hx
        exact (Option.some.inj hx).symm
      rcases hw with hw | hw
      · rw [hw]; exact e4 i _ hk g1
      · cases hb : u.ownBlock with
        | none => exact .inl rfl
        | some m =>
          right
          intro e
          have h6 := hw m e
          have h7 := (e2.lt m hb).2
          omega
    · rw [Array.getElem?_setIfInBounds_ne hki] at hx
      exact e4 k x hk hx
theorem OwnL.kept {w W : World} {base g n : Nat} {xss : List (List Int)} {r : Option Nat} (h : OwnL w base g n xss) (hg : w.grownBy W r) (hr : ∀ b, r = some b → b < base) : OwnL W base g n xss := by
  obtain ⟨cs, h1, h2, h3, h4, hm, h5⟩ := h
  have hne : some g ≠ r := fun e => by have := hr g e.symm; omega
  refine ⟨cs, grown_at hg h1 hne, h2, h3, h4, hm, fun i xs hi => ?_⟩
  obtain ⟨v, g1, g2, g3, g4⟩ := h5 i xs hi
  refine ⟨v, g1, g2.kept hg ?_, g3, g4⟩
  cases hb : v.ownBlock with
  | none => exact .inl rfl
  | some k =>
    right
    intro e
    have := (g2.lt k hb).1
    have := hr k e.symm
    omega
instance {w W : World} {base g n : Nat} {xss : List (List Int)} : Stay none w W (OwnL w base g n xss) (OwnL W base g n xss) := ⟨fun hg h => h.kept hg (by simp)⟩

/-- A block of n nil slices. -/
theorem ownL_made {w : World} {base g n : Nat} {c : Nat} (h : w.ownsRow base 22 1 (.slice (some ⟨g, 0, none⟩) n c) n (List.replicate n (.slice none 0 0))) (hc : c = n) (hm : n ≤ maxLen) : OwnL w base g n (List.replicate n []) := by
  subst hc
  rcases h.2 with ⟨h1, _⟩ | ⟨g', cap, cur, hv, hb, hg, hn, hcm, hcs, ht⟩
  · cases h1
  · simp only [Value.slice.injEq, Option.some.injEq, Addr.mk.injEq, and_true, true_and] at hv
    obtain ⟨rfl, rfl⟩ := hv
    rw [List.take_of_length_le (by rw [Array.length_toList, hcs]; exact Nat.le_refl _)] at ht
    refine ⟨cur, hg, by omega, by simp, hb, hm, fun i xs hi => ?_⟩
    rw [List.getElem?_replicate] at hi
    split at hi
    · obtain rfl := Option.some.inj hi
      have hi' : i < c := by assumption
      refine ⟨.slice none 0 0, ?_, World.ownsRow_nil _ _ _ _, by simp [Value.ownBlock], fun j u _ _ => .inl rfl⟩
      rw [← Array.getElem?_toList, ht, List.getElem?_replicate, if_pos hi']
    · cases hi
theorem made_nils (n : Nat) : (madeCells #[Value.slice none 0 0] n).toList = List.replicate n (.slice none 0 0) := by
  apply List.ext_getElem?
  intro j
  simp only [madeCells, List.getElem?_replicate]
  by_cases h : j < n
  · simp only [h, if_pos]; simp [h, Nat.mod_one]
  · simp [h]
end Go.Proofs.Ytbpobekmbdngbaa
