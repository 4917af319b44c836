/- Lists of lists of the call's own, with room; a copy under way. -/
import Derived.Test.YtbpobekmbdngbaaLkMem
namespace Go.Proofs.Ytbpobekmbdngbaa
open Go.RowKit
set_option linter.unusedVariables false

/-- Block g holds the n slices of xss (of cap); each is nil or has a block of its own from base on. -/
def OwnC (w : World) (base g cap n : Nat) (xss : List (List Int)) : Prop :=
  ∃ cs : Array Value, w.heap[g]? = some (.cells cs 22 (0, 0)) ∧ cs.size = cap ∧ n ≤ cap ∧ xss.length = n ∧ cap ≤ maxLen ∧
    ∀ (i : Nat) (xs : List Int), xss[i]? = some xs → ∃ v : Value, cs[i]? = some v ∧ w.ownsRow base 3 1 v xs.length (ints xs) ∧ v.ownBlock ≠ some g ∧ ∀ (j : Nat) (u : Value), j < n → j ≠ i → cs[j]? = some u → v.ownBlock = none ∨ u.ownBlock ≠ v.ownBlock
theorem grown_own {w w1 w2 : World} {r : Option Nat} (h : w.grownBy w1 none) (k : w1.grownBy w2 r) (hr : ∀ g, r = some g → w.heap.size ≤ g) : w.grownBy w2 none :=
  ⟨k.os.trans h.os, k.tape.trans h.tape, k.output.trans h.output, Nat.le_trans h.size k.size,
    fun i hi hne => (k.block i (Nat.lt_of_lt_of_le hi h.size) (by intro e; have := hr i e.symm; omega)).trans (h.block i hi hne)⟩
theorem owns_ne {w : World} {base e size n g : Nat} {v : Value} {xs : List Value} (h : w.ownsRow base e size v n xs) (hg : g < base) : v.ownBlock ≠ some g := fun e => by
  have := (h.lt g e).1; omega

theorem OwnC.lt {w : World} {base g cap n : Nat} {xss : List (List Int)} (h : OwnC w base g cap n xss) : g < w.heap.size := by
  obtain ⟨cs, h1, _⟩ := h
  exact lt_of_at h1
theorem OwnC.capLe {w : World} {base g cap n : Nat} {xss : List (List Int)} (h : OwnC w base g cap n xss) : n ≤ cap ∧ cap ≤ 9223372036854775807 ∧ xss.length = n := by
  obtain ⟨cs, h1, h2, h3, h4, h6, _⟩ := h
  unfold maxLen at h6
  exact ⟨h3, by omega, h4⟩
theorem OwnC.at {w : World} {base g cap n : Nat} {xss : List (List Int)} (h : OwnC w base g cap n xss) {i : Nat} {xs : List Int} (hi : xss[i]? = some xs) :
    ∃ v, w.cell? ⟨g, i, none⟩ = some v ∧ w.frozen? ⟨g, i, none⟩ = false ∧ w.ownsRow base 3 1 v xs.length (ints xs) ∧ v.ownBlock ≠ some g := by
  obtain ⟨cs, h1, h2, h3, h4, h6, h7⟩ := h
  obtain ⟨v, g1, g2, g3, _⟩ := h7 i xs hi
  exact ⟨v, by rw [cell_at h1, g1], free_at h1, g2, g3⟩
theorem OwnC.hdr {w : World} {base g cap n : Nat} {xss : List (List Int)} (h : OwnC w base g cap n xss) : ∃ hs : List Value, OwnR w g cap n 22 1 hs := by
  obtain ⟨cs, h1, h2, h3, h4, h6, h7⟩ := h
  exact ⟨_, cs, h1, h3, h6, by omega, rfl⟩
theorem OwnC.lists {w : World} {base g cap n : Nat} {xss : List (List Int)} {R : Option Nat} (h : OwnC w base g cap n xss) (hR : ∀ b, R = some b → b < base) (hg : R ≠ some g) : ListsR R w (some ⟨g, 0, none⟩) n xss := by
  obtain ⟨cs, h1, h2, h3, h4, h6, h7⟩ := h
  have hO : OwnR w g cap n 22 1 (cs.toList.take (n * 1)) := ⟨cs, h1, h3, h6, by omega, rfl⟩
  refine ⟨cs.toList.take (n * 1), ⟨hO.row, ?_⟩, by simp; omega, fun i xs hi => ?_⟩
  · rintro x hx
    obtain rfl := Option.some.inj hx
    exact fun e => hg e.symm
  · obtain ⟨v, g1, g2, _⟩ := h7 i xs hi
    have hil : i < n := by have := (List.getElem?_eq_some_iff.1 hi).1; omega
    obtain ⟨A, c, rfl, f1, f2, f3, f4⟩ := sliceIn_owns g2
    refine ⟨A, c, by rw [List.getElem?_take_of_lt (by omega)]; simpa using g1, f1, f2, f3, f4, ?_⟩
    rintro x hx e
    subst hx
    have := (g2.lt x.block rfl).1
    have := hR _ e.symm
    omega
/-- The list in place i is replaced: by one that was appended to in its own block, or that lies in a new one. -/
theorem OwnC.put {w w1 : World} {base g cap n : Nat} {xss : List (List Int)} {i : Nat} {xs ys : List Int} {v v' : Value} {r : Option Nat} (h : OwnC w base g cap n xss) (hi : xss[i]? = some xs) (hv : w.cell? ⟨g, i, none⟩ = some v)
    (hg : w.grownBy w1 r) (hr : r = none ∨ r = v.ownBlock) (ho : w1.ownsRow base 3 1 v' ys.length (ints ys)) (hw : v'.ownBlock = v.ownBlock ∨ ∀ k, v'.ownBlock = some k → w.heap.size ≤ k) :
    OwnC (w1.setCell ⟨g, i, none⟩ v') base g cap n (xss.set i ys) := by
  have hgl := h.lt
  obtain ⟨cs, h1, h2, h3, h4, h6, h7⟩ := h
  obtain ⟨v0, g1, g2, g3, g4⟩ := h7 i xs hi
  obtain rfl : v0 = v := by rw [cell_at h1, g1] at hv; exact Option.some.inj hv
  have hne : some g ≠ r := by
    rcases hr with rfl | rfl
    · simp
    · exact fun e => g3 e.symm
  have h1' := grown_at hg h1 hne
  have hil : i < n := by have := (List.getElem?_eq_some_iff.1 hi).1; omega
  have hvg : v'.ownBlock ≠ some g := by
    rcases hw with hw | hw
    · rw [hw]; exact g3
    · intro e; have := hw g e; omega
  have stay : ∀ {u : Value} {m : Nat} {zs : List Value}, w1.ownsRow base 3 1 u m zs → u.ownBlock ≠ some g → (w1.setCell ⟨g, i, none⟩ v').ownsRow base 3 1 u m zs := fun hu hug =>
    hu.kept (row := some g) (grown_set v' (grown_refl w1 _) (.inr rfl)) (.inr hug)
  refine ⟨cs.setIfInBounds i v', at_set v' h1', by simpa using h2, h3, by simpa using h4, h6, fun j zs hj => ?_⟩
  by_cases hji : i = j
  · subst hji
    obtain rfl : zs = ys := by
      rw [List.getElem?_set_self (by omega)] at hj
      exact (Option.some.inj hj).symm
    refine ⟨v', Array.getElem?_setIfInBounds_self_of_lt (by omega), stay ho hvg, hvg, fun k u hkn hk hu => ?_⟩
    rw [Array.getElem?_setIfInBounds_ne (Ne.symm hk)] at hu
    rcases hw with hw | hw
    · rw [hw]; exact g4 k u hkn hk hu
    · cases hb : v'.ownBlock with
      | none => exact .inl rfl
      | some m =>
        right
        intro e
        have hm' := hw m hb
        obtain ⟨u', e1, e2, _⟩ := h7 k (xss[k]'(by omega)) (List.getElem?_eq_getElem (by omega))
        obtain rfl : u' = u := by rw [hu] at e1; exact (Option.some.inj e1).symm
        have := (e2.lt m e).2
        omega
  · rw [List.getElem?_set_ne hji] at hj
    obtain ⟨u, e1, e2, e3, e4⟩ := h7 j zs hj
    have hk1 : w1.ownsRow base 3 1 u zs.length (ints zs) := by
      refine e2.kept hg ?_
      rcases hr with rfl | rfl
      · exact Classical.em _
      · rcases e4 i _ hil hji g1 with e | e
        · exact .inl e
        · exact .inr (Ne.symm e)
    refine ⟨u, by rw [Array.getElem?_setIfInBounds_ne hji]; exact e1, stay hk1 e3, e3, fun k x hkn hk hx => ?_⟩
    by_cases hki : i = k
    · subst hki
      obtain rfl : x = v' := by
        rw [Array.getElem?_setIfInBounds_self_of_lt (by omega)] at hx
        exact (Option.some.inj hx).symm
      rcases hw with hw | hw
      · rw [hw]; exact e4 i _ hil hk g1
      · cases hb : u.ownBlock with
        | none => exact .inl rfl
        | some m =>
          right
          intro e
          have h6 := hw m e
          have h7 := (e2.lt m hb).2
          omega
    · rw [Array.getElem?_setIfInBounds_ne hki] at hx
      exact e4 k x hkn hk hx
theorem OwnC.kept {w W : World} {base g cap n : Nat} {xss : List (List Int)} {r : Option Nat} (h : OwnC w base g cap n xss) (hg : w.grownBy W r) (hr : ∀ b, r = some b → b < base ∧ b ≠ g) : OwnC W base g cap n xss := by
  obtain ⟨cs, h1, h2, h3, h4, h6, h7⟩ := h
  refine ⟨cs, grown_at hg h1 (fun e => (hr g e.symm).2 rfl), h2, h3, h4, h6, fun i xs hi => ?_⟩
  obtain ⟨v, g1, g2, g3, g4⟩ := h7 i xs hi
  refine ⟨v, g1, g2.kept hg ?_, g3, g4⟩
  cases hv : v.ownBlock with
  | none => exact .inl rfl
  | some b =>
    refine .inr fun e => ?_
    have := (hr b e.symm).1
    have := (g2.lt b hv).1
    omega
instance {w W : World} {base g cap n : Nat} {xss : List (List Int)} : Stay none w W (OwnC w base g cap n xss) (OwnC W base g cap n xss) := ⟨fun hg h => h.kept hg (by simp)⟩

/-- A copy under way: block g holds the headers hs of w; those of the first k lists are replaced by lists of the call's own. -/
def CloAt (w : World) (base g cap n : Nat) (hs : List Value) (xss : List (List Int)) (k : Nat) : Prop :=
  ∃ cs : Array Value, w.heap[g]? = some (.cells cs 22 (0, 0)) ∧ cs.size = cap ∧ n ≤ cap ∧ xss.length = n ∧ g < base ∧ cap ≤ maxLen ∧ (∀ i, k ≤ i → i < n → cs[i]? = hs[i]?) ∧
    ∀ (i : Nat) (xs : List Int), i < k → xss[i]? = some xs → ∃ v : Value, cs[i]? = some v ∧ w.ownsRow base 3 1 v xs.length (ints xs) ∧ ∀ (j : Nat) (u : Value), j < k → j ≠ i → cs[j]? = some u → v.ownBlock = none ∨ u.ownBlock ≠ v.ownBlock
theorem CloAt.begin {w : World} {base g cap n : Nat} {hs : List Value} {xss : List (List Int)} (h : OwnR w g cap n 22 1 hs) (hn : xss.length = n) (hb : g < base) : CloAt w base g cap n hs xss 0 := by
  obtain ⟨cur, h1, h2, h3, h4, h5⟩ := h
  refine ⟨cur, h1, by omega, h2, hn, hb, h3, fun i _ hi => ?_, fun i xs h => by omega⟩
  rw [← h5, List.getElem?_take_of_lt (by omega)]; simp
theorem CloAt.end {w : World} {base g cap n : Nat} {hs : List Value} {xss : List (List Int)} (h : CloAt w base g cap n hs xss n) : OwnC w base g cap n xss := by
  obtain ⟨cs, h1, h2, h3, h4, h5, h6, h7, h8⟩ := h
  refine ⟨cs, h1, h2, h3, h4, h6, fun i xs hi => ?_⟩
  obtain ⟨v, g1, g2, g3⟩ := h8 i xs (by have := (List.getElem?_eq_some_iff.1 hi).1; omega) hi
  exact ⟨v, g1, g2, owns_ne g2 h5, g3⟩
theorem CloAt.at {w : World} {base g cap n k i : Nat} {hs : List Value} {xss : List (List Int)} (h : CloAt w base g cap n hs xss k) (hk : k ≤ i) (hi : i < n) : w.cell? ⟨g, i, none⟩ = hs[i]? ∧ w.frozen? ⟨g, i, none⟩ = false := by
  obtain ⟨cs, h1, h2, h3, h4, h5, h6, h7, h8⟩ := h
  exact ⟨by rw [cell_at h1, h7 i hk hi], free_at h1⟩
theorem CloAt.lt {w : World} {base g cap n k : Nat} {hs : List Value} {xss : List (List Int)} (h : CloAt w base g cap n hs xss k) : g < w.heap.size ∧ n ≤ cap ∧ cap ≤ 9223372036854775807 := by
  obtain ⟨cs, h1, h2, h3, h4, h5, h6, h7, h8⟩ := h
  unfold maxLen at h6
  exact ⟨lt_of_at h1, h3, by omega⟩
theorem CloAt.kept {w W : World} {base g cap n k : Nat} {hs : List Value} {xss : List (List Int)} (h : CloAt w base g cap n hs xss k) (hg : w.grownBy W none) : CloAt W base g cap n hs xss k := by
  obtain ⟨cs, h1, h2, h3, h4, h5, h6, h7, h8⟩ := h
  refine ⟨cs, grown_at hg h1 (by simp), h2, h3, h4, h5, h6, h7, fun i xs hi hx => ?_⟩
  obtain ⟨v, g1, g2, g4⟩ := h8 i xs hi hx
  exact ⟨v, g1, g2.kept hg (Classical.em _), g4⟩
instance {w W : World} {base g cap n k : Nat} {hs : List Value} {xss : List (List Int)} : Stay none w W (CloAt w base g cap n hs xss k) (CloAt W base g cap n hs xss k) := ⟨fun hg h => h.kept hg⟩
theorem CloAt.step {w w1 : World} {base g cap n k : Nat} {hs : List Value} {xss : List (List Int)} {xs : List Int} {v : Value} (h : CloAt w base g cap n hs xss k) (hx : xss[k]? = some xs) (hb : base ≤ w.heap.size) (hg : w.grownBy w1 none)
    (ho : w1.ownsRow w.heap.size 3 1 v xs.length (ints xs)) : CloAt (w1.setCell ⟨g, k, none⟩ v) base g cap n hs xss (k + 1) := by
  have hkn : k < xss.length := (List.getElem?_eq_some_iff.1 hx).1
  obtain ⟨cs, h1, h2, h3, h4, h5, h6, h7, h8⟩ := h
  have h1' := grown_at hg h1 (by simp)
  have stay : ∀ {u : Value} {m b : Nat} {zs : List Value}, w1.ownsRow b 3 1 u m zs → g < b → (w1.setCell ⟨g, k, none⟩ v).ownsRow b 3 1 u m zs := fun hu hb =>
    hu.kept (row := some g) (grown_set v (grown_refl w1 _) (.inr rfl)) (.inr (owns_ne hu hb))
  have low : ∀ {u : Value} {m : Nat} {zs : List Value}, (w1.setCell ⟨g, k, none⟩ v).ownsRow w.heap.size 3 1 u m zs → (w1.setCell ⟨g, k, none⟩ v).ownsRow base 3 1 u m zs := fun hu =>
    ⟨hu.1, hu.2.imp id fun ⟨a, b, c, d, e, f⟩ => ⟨a, b, c, d, Nat.le_trans hb e, f⟩⟩
  refine ⟨cs.setIfInBounds k v, at_set v h1', by simpa using h2, h3, h4, h5, h6, fun i hi hin => ?_, fun i zs hi hz => ?_⟩
  · rw [Array.getElem?_setIfInBounds_ne (by omega)]
    exact h7 i (by omega) hin
  · by_cases hik : k = i
    · subst hik
      rw [hx] at hz
      obtain rfl := Option.some.inj hz
      refine ⟨v, Array.getElem?_setIfInBounds_self_of_lt (by omega), low (stay ho (by omega)), fun j u hj hne hu => ?_⟩
      rw [Array.getElem?_setIfInBounds_ne (Ne.symm hne)] at hu
      cases hb : v.ownBlock with
      | none => exact .inl rfl
      | some m =>
        right
        intro e
        have := (ho.lt m hb).1
        obtain ⟨u', e1, e2, _⟩ := h8 j (xss[j]'(by omega)) (by omega) (List.getElem?_eq_getElem (by omega))
        obtain rfl : u' = u := by rw [hu] at e1; exact (Option.some.inj e1).symm
        have := (e2.lt m e).2
        omega
    · obtain ⟨u, e1, e2, e4⟩ := h8 i zs (by omega) hz
      refine ⟨u, by rw [Array.getElem?_setIfInBounds_ne hik]; exact e1, stay (e2.kept hg (Classical.em _)) h5, fun j x hj hne hu => ?_⟩
      by_cases hkj : k = j
      · subst hkj
        obtain rfl : x = v := by
          rw [Array.getElem?_setIfInBounds_self_of_lt (by omega)] at hu
          exact (Option.some.inj hu).symm
        cases hb : u.ownBlock with
        | none => exact .inl rfl
        | some m =>
          right
          intro e
          have := (ho.lt m e).1
          have := (e2.lt m hb).2
          omega
      · rw [Array.getElem?_setIfInBounds_ne hkj] at hu
        exact e4 j x (by omega) hne hu

/-- A queue of the call's own: nil, or a block of headers. -/
def QueO (w : World) (w0 base : Nat) (v : Value) (q : List (List Int)) : Prop := (v = .slice none 0 0 ∧ q = []) ∨ ∃ g c, v = .slice (some ⟨g, 0, none⟩) q.length c ∧ w0 ≤ g ∧ OwnC w base g c q.length q
/-- A fresh lock: its owners in blocks from w0 on, its queue's lists from base on. -/
def FreshLk (w : World) (w0 : Nat) (v1 v2 : Value) (l : Lk) : Prop :=
  ∃ base, w.ownsRow w0 3 1 v1 l.own.length (ints l.own) ∧ (∀ b, v1.ownBlock = some b → b < base ∧ v2.ownBlock ≠ some b) ∧ QueO w w0 base v2 l.q ∧ w0 ≤ base ∧ base ≤ w.heap.size
theorem FreshLk.lk {w : World} {w0 : Nat} {v1 v2 : Value} {l : Lk} (h : FreshLk w w0 v1 v2 l) {R : Option Nat} (hR : ∀ b, R = some b → b < w0) : LkV R w (.agg #[v1, v2]) l := by
  obtain ⟨base, h1, h2, h3, h4, h5⟩ := h
  obtain ⟨a1, c1, rfl, g1, g2, g3, g4⟩ := sliceIn_owns h1
  have hr1 : RowR R w a1 l.own.length 1 (ints l.own) := ⟨g4, fun x hx e => by
    subst hx
    have := (h1.lt x.block rfl).1
    have := hR _ e.symm
    omega⟩
  rcases h3 with ⟨rfl, hq⟩ | ⟨g, c, rfl, hg0, hC⟩
  · exact ⟨a1, _, c1, none, 0, 0, rfl, ⟨hr1, ⟨[], ⟨⟨by simp, Nat.zero_le _, .inl rfl⟩, by simp⟩, by simp [hq], fun i xs h => by simp [hq] at h⟩⟩, g3, fun _ => rfl, g1, g2, Nat.le_refl _, Nat.zero_le _⟩
  · obtain ⟨k1, k2, k3⟩ := hC.capLe
    exact ⟨a1, _, c1, _, _, c, rfl, ⟨hr1, hC.lists (fun b hb => by have := hR b hb; omega) (fun e => by have := hR _ e; omega)⟩, g3, (fun h => by cases h), g1, g2, k1, by unfold maxLen; omega⟩
end Go.Proofs.Ytbpobekmbdngbaa
