/- Headers of lists that can be read, in a block of the call's own; append onto a slice without room; without. -/
import Derived.Test.YtbpobekmbdngbaaLkQry
import Derived.Deep.AppendSrc
namespace Go.Proofs.Ytbpobekmbdngbaa
open Go.RowKit
set_option linter.unusedVariables false

/-- Block g holds the n headers of xss (of cap); the lists lie in blocks from base on, not in g. -/
def RdC (w : World) (base g cap n : Nat) (xss : List (List Int)) : Prop :=
  ∃ cs : Array Value, w.heap[g]? = some (.cells cs 22 (0, 0)) ∧ cs.size = cap ∧ n ≤ cap ∧ xss.length = n ∧ cap ≤ maxLen ∧
    ∀ (i : Nat) (xs : List Int), xss[i]? = some xs → ∃ (A : Option Addr) (c : Nat), cs[i]? = some (.slice A xs.length c) ∧ xs.length ≤ c ∧ c ≤ maxLen ∧ (A = none → c = 0) ∧ RowIn w A xs.length 1 (ints xs) ∧ ∀ x, A = some x → base ≤ x.block ∧ x.block ≠ g
theorem OwnC.rd {w : World} {base g cap n : Nat} {xss : List (List Int)} (h : OwnC w base g cap n xss) : RdC w base g cap n xss := by
  obtain ⟨cs, h1, h2, h3, h4, h6, h7⟩ := h
  refine ⟨cs, h1, h2, h3, h4, h6, fun i xs hi => ?_⟩
  obtain ⟨v, g1, g2, g3, _⟩ := h7 i xs hi
  obtain ⟨A, c, rfl, f1, f2, f3, f4⟩ := sliceIn_owns g2
  refine ⟨A, c, g1, f1, f2, f3, f4, fun x hx => ?_⟩
  subst hx
  exact ⟨(g2.lt x.block rfl).1, fun e => g3 (by simp [Value.ownBlock, e])⟩
theorem RdC.lt {w : World} {base g cap n : Nat} {xss : List (List Int)} (h : RdC w base g cap n xss) : g < w.heap.size := by
  obtain ⟨cs, h1, _⟩ := h
  exact lt_of_at h1
theorem RdC.capLe {w : World} {base g cap n : Nat} {xss : List (List Int)} (h : RdC w base g cap n xss) : n ≤ cap ∧ cap ≤ 9223372036854775807 ∧ xss.length = n := by
  obtain ⟨cs, h1, h2, h3, h4, h6, _⟩ := h
  unfold maxLen at h6
  exact ⟨h3, by omega, h4⟩
theorem RdC.at {w : World} {base g cap n : Nat} {xss : List (List Int)} (h : RdC w base g cap n xss) {i : Nat} {xs : List Int} (hi : xss[i]? = some xs) :
    ∃ A c, w.cell? ⟨g, i, none⟩ = some (.slice A xs.length c) ∧ w.frozen? ⟨g, i, none⟩ = false ∧ xs.length ≤ c ∧ c ≤ maxLen ∧ (A = none → c = 0) ∧ RowIn w A xs.length 1 (ints xs) ∧ ∀ x, A = some x → base ≤ x.block ∧ x.block ≠ g := by
  obtain ⟨cs, h1, h2, h3, h4, h6, h7⟩ := h
  obtain ⟨A, c, g1, g2⟩ := h7 i xs hi
  exact ⟨A, c, by rw [cell_at h1, g1], free_at h1, g2⟩
theorem RdC.lists {w : World} {base g cap n : Nat} {xss : List (List Int)} {R : Option Nat} (h : RdC w base g cap n xss) (hR : ∀ b, R = some b → b < base) (hg : R ≠ some g) : ListsR R w (some ⟨g, 0, none⟩) n xss := by
  obtain ⟨cs, h1, h2, h3, h4, h6, h7⟩ := h
  have hO : OwnR w g cap n 22 1 (cs.toList.take (n * 1)) := ⟨cs, h1, h3, h6, by omega, rfl⟩
  refine ⟨cs.toList.take (n * 1), ⟨hO.row, ?_⟩, by simp; omega, fun i xs hi => ?_⟩
  · rintro x hx
    obtain rfl := Option.some.inj hx
    exact fun e => hg e.symm
  · obtain ⟨A, c, g1, f1, f2, f3, f4, f5⟩ := h7 i xs hi
    have hil : i < n := by have := (List.getElem?_eq_some_iff.1 hi).1; omega
    refine ⟨A, c, by rw [List.getElem?_take_of_lt (by omega)]; simpa using g1, f1, f2, f3, f4, ?_⟩
    rintro x hx e
    have := (f5 x hx).1
    have := hR _ e.symm
    omega
theorem RdC.kept {w W : World} {base g cap n : Nat} {xss : List (List Int)} {r : Option Nat} (h : RdC w base g cap n xss) (hg : w.grownBy W r) (hr : ∀ b, r = some b → b < base ∧ b ≠ g) : RdC W base g cap n xss := by
  obtain ⟨cs, h1, h2, h3, h4, h6, h7⟩ := h
  refine ⟨cs, grown_at hg h1 (fun e => (hr g e.symm).2 rfl), h2, h3, h4, h6, fun i xs hi => ?_⟩
  obtain ⟨A, c, g1, f1, f2, f3, f4, f5⟩ := h7 i xs hi
  refine ⟨A, c, g1, f1, f2, f3, f4.kept_but hg (fun x hx e => ?_), f5⟩
  have := (f5 x hx).1
  have := (hr _ e.symm).1
  omega
instance {w W : World} {base g cap n : Nat} {xss : List (List Int)} : Stay none w W (RdC w base g cap n xss) (RdC W base g cap n xss) := ⟨fun hg h => h.kept hg (by simp)⟩
/-- A header is replaced by one that reads as ys. -/
theorem RdC.put {w w1 : World} {base g cap n i : Nat} {xss : List (List Int)} {ys : List Int} {A : Option Addr} {c : Nat} (h : RdC w base g cap n xss) (hi : i < n) (hg : w.grownBy w1 none)
    (k1 : ys.length ≤ c) (k2 : c ≤ maxLen) (k3 : A = none → c = 0) (k4 : RowIn w1 A ys.length 1 (ints ys)) (k5 : ∀ x, A = some x → base ≤ x.block ∧ x.block ≠ g) :
    RdC (w1.setCell ⟨g, i, none⟩ (.slice A ys.length c)) base g cap n (xss.set i ys) := by
  obtain ⟨cs, h1, h2, h3, h4, h6, h7⟩ := h
  have h1' := grown_at hg h1 (by simp)
  have gs : w1.grownBy (w1.setCell ⟨g, i, none⟩ (.slice A ys.length c)) (some g) := grown_set _ (grown_refl w1 _) (.inr rfl)
  refine ⟨cs.setIfInBounds i (.slice A ys.length c), at_set _ h1', by simpa using h2, h3, by simpa using h4, h6, fun j zs hj => ?_⟩
  by_cases hji : i = j
  · subst hji
    obtain rfl : zs = ys := by
      rw [List.getElem?_set_self (by omega)] at hj
      exact (Option.some.inj hj).symm
    exact ⟨A, c, Array.getElem?_setIfInBounds_self_of_lt (by omega), k1, k2, k3, k4.kept_but gs (fun x hx e => (k5 x hx).2 (Option.some.inj e)), k5⟩
  · rw [List.getElem?_set_ne hji] at hj
    obtain ⟨B, d, g1, f1, f2, f3, f4, f5⟩ := h7 j zs hj
    exact ⟨B, d, by rw [Array.getElem?_setIfInBounds_ne hji]; exact g1, f1, f2, f3, (f4.kept hg).kept_but gs (fun x hx e => (f5 x hx).2 (Option.some.inj e)), f5⟩
/-- A lock whose owners are the call's own and whose lists can be read. -/
theorem lkV_rd {w : World} {w0 g1 k1 g2 k2 base n m : Nat} {l : Lk} (hO : OwnR w g1 k1 n 3 1 (ints l.own)) (hC : RdC w base g2 k2 m l.q) (h1 : w0 ≤ g1) (h2 : w0 ≤ g2) (h3 : w0 ≤ base) {R : Option Nat} (hR : ∀ b, R = some b → b < w0) :
    LkV R w (lkV (some ⟨g1, 0, none⟩) n k1 (some ⟨g2, 0, none⟩) m k2) l := by
  obtain ⟨c1, c2⟩ := hO.capLe
  obtain ⟨c3, c4, c5⟩ := hC.capLe
  exact ⟨_, _, _, _, _, _, rfl, ⟨⟨hO.row, fun x hx e => by obtain rfl := Option.some.inj hx; have := hR _ e.symm; simp at this; omega⟩, hC.lists (fun b hb => by have := hR b hb; omega) (fun e => by have := hR _ e; omega)⟩, (fun h => by cases h), (fun h => by cases h), c1, by unfold maxLen; omega, c3, by unfold maxLen; omega⟩

/-! ### append onto a slice without room -/
theorem rowIn_src {P : Program} {t e' : TypeId} (hk : P.underlying t = some (.slice e')) {w : World} {B : Option Addr} {m c : Nat} {ys : List Value} (h : RowIn w B m 1 ys) (hc : B = none → c = 0) (h1 : ∀ u ∈ ys, u.oneCell' = true) : Src P 1 t (.slice B m c) m ys w := by
  cases B with
  | none =>
    obtain ⟨rfl, rfl⟩ := row_nil h
    obtain rfl := hc rfl
    exact Src.ofNil w hk 0
  | some ad =>
    refine Src.ofSlice w hk ad m c ys h.1 (fun j u hj => ?_) h1
    have hlt := (List.getElem?_eq_some_iff.1 hj).1
    have hl := h.1
    rcases h.2.2 with h0 | ⟨b, off, hb, hcell⟩
    · omega
    · obtain rfl := Option.some.inj hb
      rw [Addr.add_lit, hcell j hlt, hj]
theorem run_append_full {P : Program} {t e : TypeId} {z : Value} {bytes : Nat} (hT : SliceT P t e z 1 bytes) {w : World} (ty : TypeId) {b off n : Nat} {xs ys : List Value} (hx : RowIn w (some ⟨b, off, none⟩) n 1 xs)
    {B : Option Addr} {m c : Nat} (hy : RowIn w B m 1 ys) (hc : B = none → c = 0) (h1x : ∀ u ∈ xs, u.oneCell' = true) (h1 : ∀ u ∈ ys, u.oneCell' = true) (hs : n + m ≤ 1000) (hby : bytes ≤ 1000) :
    ∃ g' off' c' w', (Builtin.append_ #[t, t] ty #[.slice (some ⟨b, off, none⟩) n n, .slice B m c]).run P w = .ok (.slice (some ⟨g', off', none⟩) (n + m) c') w' ∧
      RowIn w' (some ⟨g', off', none⟩) (n + m) 1 (xs ++ ys) ∧ n + m ≤ c' ∧ c' ≤ maxLen ∧ w.grownBy w' none ∧ (g' = b ∨ g' = w.heap.size) := by
  obtain ⟨i, hi, hz, hsz, hb⟩ := hT.info
  have hsrc := rowIn_src (P := P) hT.und hy hc h1
  rw [← hsz] at hsrc
  by_cases hm : m = 0
  · subst hm
    have hys : ys = [] := List.eq_nil_of_length_eq_zero (by simpa using hy.1)
    subst hys
    have hr := run_append_room_src (P := P) w t t ty e i hT.und hi b off n n _ 0 [] hsrc (Nat.le_refl _) (fun j hj => by simp at hj) (fun j hj => by simp at hj)
    exact ⟨b, off, n, w, hr, by simpa using hx, Nat.le_refl _, by unfold maxLen; omega, grown_refl _ _, .inl rfl⟩
  · have hxl := hx.1
    have hyl := hy.1
    have hold : (Builtin.firstCells i.size n (.slice (some ⟨b, off, none⟩) n n)).run P w.drew = .ok xs.toArray w.drew :=
      run_firstCells_some (P := P) w.drew i.size n ⟨b, off, none⟩ n n xs (by rw [hsz]; exact hxl) (fun j u hj => by
        have hlt := (List.getElem?_eq_some_iff.1 hj).1
        rcases hx.2.2 with h0 | ⟨b', off', he, hcell⟩
        · omega
        · obtain ⟨rfl, rfl⟩ : b = b' ∧ off = off' := by simpa using he
          rw [Addr.add_lit]
          exact (hcell j hlt).trans hj)
    have hr := run_append_grow_src (P := P) w t t ty e i z hT.und hi hz (some ⟨b, off, none⟩) n n xs hold _ m ys hsrc (by omega) (by omega)
      (growslice_fits (by omega) (by rw [hb]; exact Nat.le_trans (Nat.mul_le_mul hs hby) (by omega)))
    have hge := grownCap_ge w (n + m) n e
    have hcm : grownCap w (n + m) n e ≤ maxLen := grownCap_le_maxLen w (n + m) n e (by unfold maxLen; omega)
    refine ⟨_, _, _, _, hr, ⟨by simp; omega, by unfold maxLen; omega, .inr ⟨w.heap.size, 0, rfl, fun j hj => ?_⟩⟩, hge, hcm, grown_alloc _ (grown_drew (grown_refl w _)), .inr rfl⟩
    refine (cell_at (at_new w.drew _)).trans ?_
    rw [Nat.zero_add, Array.getElem?_append_left (by simpa using hj)]
    simp
theorem step_append_full {P : Program} {t e : TypeId} {z : Value} {bytes : Nat} (hT : SliceT P t e z 1 bytes) {w : World} {ops : Array Oper} {o : Oper} {a : Act} {K : Act → World → Prop} {Q : Exit → Act → World → Prop} {E : Prop} (hgd : o.guard = none) (s x : Operand)
    (ho : o.op = .call { callee := .builtin .append, args := #[s, x], argTypes := #[t, t] })
    {b off n : Nat} {xs ys : List Value} (hs : a.eval s = .slice (some ⟨b, off, none⟩) n n) (hx : RowIn w (some ⟨b, off, none⟩) n 1 xs)
    {B : Option Addr} {m c : Nat} (hsx : a.eval x = .slice B m c) (hy : RowIn w B m 1 ys) (hc : B = none → c = 0) (h1x : ∀ u ∈ xs, u.oneCell' = true) (h1 : ∀ u ∈ ys, u.oneCell' = true) (hn : n + m ≤ 1000) (hby : bytes ≤ 1000)
    (h : ∀ g' off' c' w', RowIn w' (some ⟨g', off', none⟩) (n + m) 1 (xs ++ ys) → n + m ≤ c' → c' ≤ maxLen → w.grownBy w' none → (g' = b ∨ g' = w.heap.size) → K (a.put o.dst (.slice (some ⟨g', off', none⟩) (n + m) c')) w') :
    if Region.wanted o (yielded ops a.tmps) = true then Oper.wp P o a w K Q else E := by
  have hw : Region.wanted o (yielded ops a.tmps) = true := by simp [Region.wanted, hgd]
  rw [if_pos hw]
  obtain ⟨g', off', c', w', hrun, h2, h3, h4, h5, h6⟩ := run_append_full hT o.type hx hy hc h1x h1 hn hby
  unfold Oper.wp execOp
  simp only [ho, resolve, invoke, builtin, Sem.run_bind, Sem.run_pure, Result.andThen_ok, List.map_toArray, List.map_cons, List.map_nil, hs, hsx, hrun]
  exact h g' off' c' w' h2 h3 h4 h5 h6

/-! ### without -/
def withL (x : Int) (l : List Int) : List Int := l.filter (fun y => decide (y ≠ x))
theorem withL_step {x y : Int} {l : List Int} {k : Nat} (h : l[k]? = some y) : withL x (l.take (k + 1)) = if y = x then withL x (l.take k) else withL x (l.take k) ++ [y] := by
  unfold withL
  rw [List.take_add_one, h, List.filter_append]
  by_cases e : y = x
  · simp [e]
  · simp [e]
theorem withL_le (x : Int) (l : List Int) : (withL x l).length ≤ l.length := List.length_filter_le _ _

set_option maxRecDepth 100000 in
set_option maxHeartbeats 3200000 in
theorem without_any (a : Option Addr) (n cap : Nat) (zs : List Int) (x : Int) (w : World) (h : RowIn w a n 1 (ints zs)) (hn : n ≤ 100) :
    Calls Try.prog 49 #[.slice a n cap, .int .i64 x] w fun e w' => ∃ v, e = .returned v ∧ w'.ownsRow w.heap.size 3 1 v (withL x zs).length (ints (withL x zs)) ∧ w.grownBy w' none := by
  have L := Lib.hid h.len1
  have H := Lib.hid h
  clear h
  go_enter Try.func49, Try.ntmps49
  go_wp2_with fail
  go_loopw [5, 6] (fun v i wr => ∃ k : Nat, k ≤ n ∧ i = .int .i64 k ∧ w.grownBy wr none ∧ wr.ownsRow w.heap.size 3 1 v (withL x (zs.take k)).length (ints (withL x (zs.take k)))) (fun _ i _ => n - (intOf i).toNat)
  case atStart => exact ⟨0, by omega, rfl, grown_refl _ _, World.ownsRow_nil _ _ _ _⟩
  case round =>
    obtain ⟨k, hk, rfl, hG, hO⟩ := hrel
    have G := Lib.hid hG
    have O := Lib.hid hO
    clear hG hO
    by_cases hkn : k < n
    · obtain ⟨y, hy⟩ : ∃ y, zs[k]? = some y := ⟨_, List.getElem?_eq_getElem (by rw [L.out]; exact hkn)⟩
      obtain ⟨b, o, rfl, zb, d0⟩ := (RowIn.kept H.out G.out).int hy
      have ST := Lib.hid (withL_step (x := x) hy)
      have hk' : (k : Int) < n := by omega
      have hle := withL_le x (zs.take k)
      have hle2 : (zs.take k).length ≤ 100 := by simp; omega
      have zw := G.out.size
      clear hy
      by_cases hyx : y = x
      · have t : (y == x) = true := by simpa using hyx
        have t2 : (y != x) = false := by simp [bne, t]
        have O2 : Hid (wr.ownsRow w.heap.size 3 1 u5 (withL x (zs.take (k + 1))).length (ints (withL x (zs.take (k + 1))))) := Lib.hid (by rw [ST.out, if_pos hyx]; exact O.out)
        clear hyx
        go_wp2_with fail
        go_roundw
        case rel => exact ⟨k + 1, by omega, by go_num, G.out, O2.out⟩
        case measure => simp [intOf]; omega
      · have t : (y == x) = false := by simpa using hyx
        have t2 : (y != x) = true := by simp [bne, t]
        have S2 : Hid (withL x (zs.take (k + 1)) = withL x (zs.take k) ++ [y]) := Lib.hid (by rw [ST.out, if_neg hyx])
        clear hyx
        go_wp2_with (at_builtin; refine wpList_append_in St_int rfl (.tmp 19) (.tmp 24) rfl rfl (O.out.alloc (.cells #[.int .i64 y] 3)) rfl (cell_one _ _ rfl) (fun h => by cases h) (flat_one rfl) ?c1 ?c2 ?c3 ?_)
        case c1 => unfold maxLen; omega
        case c2 => omega
        case c3 => first | omega | (simp; omega)
        intro v3 w3 hown hg hloc
        clear hloc
        have G3 := Lib.hid (grown_own (grown_alloc (.cells #[.int .i64 y] 3) G.out) hg (fun m hm => (O.out.lt m hm).1))
        have O3 : Hid (w3.ownsRow w.heap.size 3 1 v3 (withL x (zs.take (k + 1))).length (ints (withL x (zs.take (k + 1))))) := Lib.hid (by rw [S2.out, List.length_append, ← ints_snoc]; exact hown)
        clear hown hg O G d0
        go_wp2_with fail
        go_roundw
        case rel => exact ⟨k + 1, by omega, by go_num, G3.out, O3.out⟩
        case measure => simp [intOf]; omega
    · obtain rfl : k = n := by omega
      have hz : zs.take k = zs := List.take_of_length_le (by rw [L.out]; exact Nat.le_refl _)
      rw [hz] at O
      clear hkn hz
      go_wp2_with fail
      exact bodyPost_ret (v := u5) (by simp [results, Try.results49, go_sem]) rfl ⟨_, rfl, O.out, G.out⟩
end Go.Proofs.Ytbpobekmbdngbaa
