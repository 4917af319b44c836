/- The walk of ReachClosed. -/
import Derived.Test.YtidilepbepkpiaaReW1
namespace Go.Proofs.Ytidilepbepkpiaa
open Go.RowKit
set_option linter.unusedVariables false

theorem Try.info_bools : (Try.prog.info? 29).map (fun i => (i.zero, i.size, i.bytes)) = some (some (.slice none 0 0), 1, 24) := by kernel_rfl
theorem St_bools : SliceT Try.prog 38 29 (.slice none 0 0) 1 24 := .mk' Try.underlying38 Try.info_bools rfl (by decide)

/-- The marks from i, in memory that block R is no part of. -/
def MarkRow (R : Option Nat) (W : World) (g : Gr) (s : List Bool) (n i : Nat) (v : Value) : Prop :=
  ∃ A c L, v = .slice A n c ∧ n ≤ c ∧ c ≤ maxLen ∧ (A = none → c = 0) ∧ L.length = n ∧ (∀ x : Nat, L[x]? = some true ↔ Reach g s i x) ∧ RowR R W A n 1 (bools L)
theorem MarkRow.kept {R r : Option Nat} {W W' : World} {g : Gr} {s : List Bool} {n i : Nat} {v : Value} (h : MarkRow R W g s n i v) (hg : W.grownBy W' r) (hr : r = none ∨ r = R) : MarkRow R W' g s n i v := by
  obtain ⟨A, c, L, h1, h2, h3, h4, h5, h6, h7⟩ := h
  refine ⟨A, c, L, h1, h2, h3, h4, h5, h6, ⟨?_, h7.2⟩⟩
  rcases hr with rfl | rfl
  · exact h7.1.kept hg
  · exact h7.1.kept_but hg h7.2
/-- The slice v holds the marks from 0 .. k-1. -/
def AllB (W : World) (base : Nat) (v : Value) (k n : Nat) (g : Gr) (s : List Bool) : Prop :=
  ∃ cs : List Value, W.ownsRow base 29 1 v k cs ∧ cs.length = k ∧ ∀ (i : Nat) (u : Value), cs[i]? = some u → MarkRow v.ownBlock W g s n i u
theorem AllB.kept {W W' : World} {base : Nat} {v : Value} {k n : Nat} {g : Gr} {s : List Bool} (h : AllB W base v k n g s) (hg : W.grownBy W' none) : AllB W' base v k n g s := by
  obtain ⟨cs, h1, h2, h3⟩ := h
  exact ⟨cs, (keep hg (Lib.hid h1)).out, h2, fun i u hu => (h3 i u hu).kept hg (.inl rfl)⟩
instance {W W' : World} {base : Nat} {v : Value} {k n : Nat} {g : Gr} {s : List Bool} : Stay none W W' (AllB W base v k n g s) (AllB W' base v k n g s) := ⟨fun hg h => h.kept hg⟩
theorem MarkRow.lt {R : Option Nat} {W : World} {g : Gr} {s : List Bool} {n i : Nat} {A : Option Addr} {c : Nat} (h : MarkRow R W g s n i (.slice A n c)) (hn : 0 < n) : ∀ x, A = some x → x.block < W.heap.size := by
  obtain ⟨A', c', L, he, h2, h3, h4, h5, h6, h7⟩ := h
  obtain ⟨rfl, rfl⟩ : A = A' ∧ c = c' := by simpa using he
  intro x hx
  obtain ⟨b, hb⟩ : ∃ b, L[0]? = some b := ⟨_, List.getElem?_eq_getElem (by omega)⟩
  obtain ⟨b1, o1, he, z, _⟩ := h7.1.bool hb
  rw [hx] at he
  obtain rfl := Option.some.inj he
  exact z
/-- One more row is appended. -/
theorem AllB.snoc {W W3 : World} {base : Nat} {v v' : Value} {k n : Nat} {g : Gr} {s : List Bool} {A : Option Addr} {c : Nat} {cs : List Value} (hn : 0 < n) (h2 : cs.length = k) (h3 : ∀ (i : Nat) (u : Value), cs[i]? = some u → MarkRow v.ownBlock W g s n i u) (hm : MarkRow v.ownBlock W g s n k (.slice A n c))
    (hg : W.grownBy W3 v.ownBlock) (ho : W3.ownsRow base 29 1 v' (k + 1) (cs ++ [.slice A n c])) (hw : v'.ownBlock = v.ownBlock ∨ ∀ m, v'.ownBlock = some m → W.heap.size ≤ m) : AllB W3 base v' (k + 1) n g s := by
  refine ⟨cs ++ [.slice A n c], ho, by simp [h2], fun i u hu => ?_⟩
  have hM : MarkRow v.ownBlock W g s n i u := by
    by_cases hi : i < k
    · rw [List.getElem?_append_left (by omega)] at hu
      exact h3 i u hu
    · have hl := (List.getElem?_eq_some_iff.1 hu).1
      simp only [List.length_append, List.length_singleton] at hl
      obtain rfl : i = k := by omega
      rw [List.getElem?_append_right (by omega), h2, Nat.sub_self] at hu
      obtain rfl : Value.slice A n c = u := by simpa using hu
      exact hm
  rcases hw with hw | hw
  · rw [hw]; exact hM.kept hg (.inr rfl)
  · obtain ⟨A', c', L, rfl, f2, f3, f4, f5, f6, f7⟩ := hM
    have hlt := MarkRow.lt (⟨A', c', L, rfl, f2, f3, f4, f5, f6, f7⟩ : MarkRow v.ownBlock W g s n i (.slice A' n c')) hn
    refine ⟨A', c', L, rfl, f2, f3, f4, f5, f6, f7.1.kept_but hg f7.2, fun x hx => ?_⟩
    have h1 := hlt x hx
    cases hb : v'.ownBlock with
    | none => simp
    | some m =>
      have h2 := hw m hb
      intro e
      have := Option.some.inj e
      omega
/-- Row i. -/
theorem AllB.at {W : World} {base gA cap : Nat} {k n : Nat} {g : Gr} {s : List Bool} (h : AllB W base (.slice (some ⟨gA, 0, none⟩) k cap) k n g s) {i : Nat} (hi : i < k) :
    ∃ A c L, W.cell? ⟨gA, i, none⟩ = some (.slice A n c) ∧ L.length = n ∧ (∀ x : Nat, L[x]? = some true ↔ Reach g s i x) ∧ RowIn W A n 1 (bools L) := by
  obtain ⟨cs, h1, h2, h3⟩ := h
  obtain ⟨u, hu⟩ : ∃ u, cs[i]? = some u := ⟨_, List.getElem?_eq_getElem (by omega)⟩
  obtain ⟨A, c, L, rfl, f2, f3, f4, f5, f6, f7⟩ := h3 i u hu
  exact ⟨A, c, L, by rw [h1.cellAt i (by omega), hu], f5, f6, f7.1⟩

theorem refl_mark {g : Gr} {s X : List Bool} {v : Nat} {p q : Bool} (hX : X[v]? = some p) (hs : s[v]? = some q) (h : X[v]? = some true ↔ Reach g s v v) : p = !q := by
  cases q
  · have := h.2 (.base hs)
    rw [hX] at this
    simpa using this
  · cases p
    · rfl
    · have := (h.1 hX).opens.1
      rw [isOpen, hs] at this
      cases this
theorem RowIn.boolAt {w : World} {b o n : Nat} {L : List Bool} (h : RowIn w (some ⟨b, o, none⟩) n 1 (bools L)) {i : Nat} {q : Bool} (hq : L[i]? = some q) : w.cell? ⟨b, o + i, none⟩ = some (.bool q) ∧ b < w.heap.size := by
  obtain ⟨b', o', he, z, d⟩ := h.bool hq
  obtain ⟨rfl, rfl⟩ : b = b' ∧ o = o' := by simpa using he
  exact ⟨d, z⟩
theorem bool_at {L : List Bool} {n i : Nat} (hl : L.length = n) (hi : i < n) : ∃ q, L[i]? = some q := ⟨_, List.getElem?_eq_getElem (by omega)⟩

set_option maxRecDepth 100000 in
set_option maxHeartbeats 6400000 in
theorem ReachClosed_walk (a0 : Option Addr) (len0 cap0 : Nat) (z0 : List Int) (w : World) (w0 : IsRow .i64 w a0 len0 cap0 z0) :
    Calls Try.prog 4 #[.slice a0 len0 cap0] w fun e w' => e = .returned (.bool true) ∧ Below w.heap.size w w' := by
  have r0 := Lib.hid w0
  clear w0
  go_enter Try.func4, Try.ntmps4
  go_wp2_with fail
  refine (known_any _).mono ?_
  rintro e w1 ⟨rfl, hg1⟩
  go_wp2_with fail
  refine (Graph_any w1.heap.size 26 a0 len0 cap0 _ 0 8 _ (tape_new r0.out hg1 _) (by omega) (by omega)).mono ?_
  rintro e w2 ⟨b, n, g, k2, rfl, hn8, hv, hO, hT, hk2, hg2⟩
  have V := Lib.hid hv
  have T2 := Lib.hid hT
  have H2 : Hid (ListsR (some w1.heap.size) w2 (some ⟨b, 0, none⟩) n g) := Lib.hid (hO.lists (fun b hb => by obtain rfl := Option.some.inj hb; simp))
  have G2 : Hid (w.grownBy w2 none) := Lib.hid (grown_own (grown_alloc _ hg1) hg2 (fun g hg => by obtain rfl := Option.some.inj hg; exact hg1.size))
  have z1 := hg1.size
  clear hv hO hT hg2 hg1 r0
  go_wp2_with fail
  refine (Shut_any w1.heap.size 26 a0 len0 cap0 _ k2 n _ T2.out (by omega) (by omega)).mono ?_
  rintro e w3 ⟨gs, s, k3, rfl, hs, hO, hz, hT, hk3, hg3⟩
  have K3 : Hid (ListsR none w3 (some ⟨b, 0, none⟩) n g ∧ RowIn w3 (some ⟨gs, 0, none⟩) n 1 (bools s) ∧ w.grownBy w3 none) := Lib.hid ⟨(keep hg3 H2).out.plain, hO.row, grown_own G2.out hg3 (fun g hg => by obtain rfl := Option.some.inj hg; exact z1)⟩
  have LS := Lib.hid hs
  have L := Lib.hid K3.out.1.len.1
  clear hs hO hz hT hg3 H2 G2 T2 z1 hk2 hk3
  go_wp2_with fail
  have K4 : Hid (AllB w3 w3.heap.size (.slice none 0 0) 0 n g s ∧ w3.grownBy w3 none) := Lib.hid ⟨⟨[], World.ownsRow_nil _ _ _ _, rfl, fun i u h => by simp at h⟩, grown_refl _ _⟩
  go_loopw [6, 7] (fun al i wr => ∃ k : Nat, k ≤ n ∧ i = .int .i64 k ∧ (AllB wr w3.heap.size al k n g s ∧ w3.grownBy wr none)) (fun _ i _ => n - (intOf i).toNat)
  case atStart => exact ⟨0, by omega, rfl, K4.out⟩
  case round =>
    obtain ⟨v, hv, rfl, hK⟩ := hrel
    have K := Lib.hid hK
    clear hK K4
    by_cases hvn : v < n
    · have hv' : (v : Int) < n := by omega
      go_wp2_with fail
      have KK := keep K.out.2 K3
      refine (From_ok _ n n g _ n s v _ KK.out.1 KK.out.2.1 V.out hvn).mono ?_
      rintro e w7 ⟨A, c, X, rfl, f1, f2, f3, lx, hx, rx, hg7⟩
      obtain ⟨cs0, O0, l0, M0⟩ := K.out.1
      have m7 : MarkRow _ w7 g s n v (.slice A n c) := ⟨A, c, X, rfl, f1, f2, f3, lx, hx, rx _ (fun b hb => (O0.lt b hb).2)⟩
      have M7 := Lib.hid m7
      clear m7
      obtain ⟨sv, hsv⟩ : ∃ q, s[v]? = some q := ⟨_, List.getElem?_eq_getElem (by rw [LS.out]; exact hvn)⟩
      obtain ⟨pv, hpv⟩ : ∃ q, X[v]? = some q := ⟨_, List.getElem?_eq_getElem (by rw [lx]; exact hvn)⟩
      obtain rfl := refl_mark hpv hsv (hx v)
      have K7 := keep hg7 K
      obtain ⟨b1, o1, he, zb1, d1⟩ := (keep K7.out.2 K3).out.2.1.bool hsv
      obtain ⟨rfl, rfl⟩ : gs = b1 ∧ 0 = o1 := by simpa using he
      simp only [Nat.zero_add] at d1
      obtain ⟨b2, o2, rfl, zb2, d2⟩ := (rx none (by simp)).1.bool hpv
      clear O0 l0 M0 K KK hsv hpv lx hx rx he hg7
      go_wp2_with fail
      go_quiet (fail)
      have K8 := Lib.hid (And.intro (M7.out.kept (grown_draw nq (grown_refl w7 none)) (.inl rfl)) (keep (grown_draw nq (grown_refl w7 none)) K7).out)
      obtain ⟨W8, hW8⟩ : ∃ W8, W8 = w7.drewN nq := ⟨_, rfl⟩
      rw [← hW8] at K8 ⊢
      clear hW8 d1 d2 zb1 zb2 M7 K7
      obtain ⟨cs0, O0, l0, M0⟩ := K8.out.2.1
      have O8 := Lib.hid O0
      have M8 := Lib.hid M0
      have hn0 : 0 < n := by omega
      have z8 := K8.out.2.2.size
      clear O0 M0
      go_wp2_with (at_builtin; refine wpList_append_in St_bools rfl (.tmp 59) (.tmp 61) rfl rfl (O8.out.alloc (.cells #[.slice (some ⟨b2, o2, none⟩) n c] 29)) rfl (cell_one _ _ rfl) (fun h => by cases h) (flat_one rfl) ?c1 ?c2 ?c3 ?_)
      case c1 => unfold maxLen; omega
      case c2 => omega
      case c3 => simp; omega
      intro v' w9 hown hg9 hloc
      have g9 := grown_trans (grown_alloc (.cells #[.slice (some ⟨b2, o2, none⟩) n c] 29) (grown_refl W8 _)) hg9
      have K9 := Lib.hid (And.intro (AllB.snoc hn0 l0 M8.out K8.out.1 g9 hown (hloc.imp id (fun h m hm => by rw [h] at hm; simp at hm; omega))) (grown_own K8.out.2.2 g9 (fun m hm => (O8.out.lt m hm).1)))
      clear hown hg9 g9 hloc K8 O8 M8
      go_wp2_with fail
      go_roundw
      case rel => exact ⟨v + 1, by omega, by go_num, K9.out⟩
      case measure => simp [intOf]; omega
    · obtain rfl : n = v := by omega
      have KW := keep K.out.2 K3
      have KA := Lib.hid K.out.1
      clear hvn K K3
      go_wp2_with fail
      go_loopw [10] (fun i wa => ∃ v : Nat, v ≤ n ∧ i = .int .i64 v ∧ wa = wr) (fun i _ => n - (intOf i).toNat)
      case atStart => exact ⟨0, by omega, rfl, rfl⟩
      case round =>
        obtain ⟨v, hv, rfl, rfl⟩ := hrel
        by_cases hvn : v < n
        · obtain ⟨cs0, O0, l0, M0⟩ := KA.out
          obtain ⟨gA, cA, rfl, _, hOR⟩ := ownR_of_owns O0 (by omega)
          have zA := hOR.lt
          obtain ⟨AV, cV, X, dV, lX, hX, rX⟩ := KA.out.at hvn
          obtain ⟨q0, hq0⟩ := bool_at lX hvn
          obtain ⟨bv, ov, rfl, zv, _⟩ := rX.bool hq0
          obtain ⟨sv, hsv⟩ := bool_at LS.out hvn
          obtain ⟨ds, zs⟩ := KW.out.2.1.boolAt hsv
          simp only [Nat.zero_add] at ds
          obtain ⟨l, hl⟩ : ∃ l, g[v]? = some l := ⟨_, List.getElem?_eq_getElem (by rw [L.out]; exact hvn)⟩
          have AD := Lib.hid (adj_at hl)
          obtain ⟨b', off', A', c', he, zb, c0, hlc, hcm, hA, hrow⟩ := KW.out.1.at hl
          obtain ⟨rfl, rfl⟩ : b = b' ∧ 0 = off' := by simpa using he
          simp only [Nat.zero_add] at c0
          have RW := Lib.hid hrow.1
          have RX := Lib.hid rX
          have HX := Lib.hid hX
          have LX := Lib.hid lX
          have SV := Lib.hid hsv
          have hv' : (v : Int) < n := by omega
          have MEM := Lib.hid (okB_mem ((valid_iff.1 V.out).2 v (by rw [L.out]; exact hvn)))
          unfold maxLen at hcm
          clear O0 l0 M0 hOR hq0 hsv hl he hrow rX hX lX
          go_wp2_with fail
          go_loopw [11, 12] (fun i _ wb => ∃ k : Nat, k ≤ l.length ∧ i = .int .i64 k ∧ wb = wr) (fun i _ _ => l.length - (intOf i).toNat)
          case atStart => exact ⟨0, by omega, rfl, rfl⟩
          case round =>
            obtain ⟨k, hk, rfl, rfl⟩ := hrel
            by_cases hkl : k < l.length
            · obtain ⟨x, hx⟩ : ∃ x, l[k]? = some x := ⟨_, List.getElem?_eq_getElem hkl⟩
              obtain ⟨m1, m2, m3⟩ := MEM.out x (by rw [AD.out]; exact List.mem_of_getElem? hx)
              rw [L.out] at m2
              obtain ⟨y, rfl⟩ : ∃ y : Nat, x = y := ⟨x.toNat, by omega⟩
              have hyn : y < n := by omega
              obtain ⟨bb, oo, rfl, zbb, e0⟩ := RW.out.int hx
              obtain ⟨sy, hsy⟩ := bool_at LS.out hyn
              obtain ⟨dsy, _⟩ := KW.out.2.1.boolAt hsy
              simp only [Nat.zero_add] at dsy
              obtain ⟨p, hp⟩ := bool_at LX.out hyn
              obtain ⟨dp, _⟩ := RX.out.boolAt hp
              have YES : Hid (sv = false → sy = false → p = true) := Lib.hid (by
                rintro rfl rfl
                have := (HX.out y).2 (.step (.base SV.out) (by rw [AD.out]; exact List.mem_of_getElem? hx) hsy)
                rw [hp] at this
                exact Option.some.inj this)
              have hk' : (k : Int) < (l.length : Int) := by omega
              have hy' : (y : Int) < n := by omega
              clear hx hsy hp
              cases sv
              · cases sy
                · obtain rfl := YES.out rfl rfl
                  clear YES
                  go_wp2_with fail
                  go_roundw
                  case rel => exact ⟨k + 1, by omega, by go_num, trivial⟩
                  case measure => simp [intOf]; omega
                · clear YES
                  go_wp2_with fail
                  go_roundw
                  case rel => exact ⟨k + 1, by omega, by go_num, trivial⟩
                  case measure => simp [intOf]; omega
              · clear YES
                go_wp2_with fail
                go_roundw
                case rel => exact ⟨k + 1, by omega, by go_num, trivial⟩
                case measure => simp [intOf]; omega
            · obtain rfl : k = l.length := by omega
              clear hkl
              go_wp2_with fail
              go_loopw [13] (fun i wc => ∃ j : Nat, j ≤ n ∧ i = .int .i64 j ∧ wc = wr) (fun i _ => n - (intOf i).toNat)
              case atStart => exact ⟨0, by omega, rfl, rfl⟩
              case round =>
                obtain ⟨j, hj, rfl, rfl⟩ := hrel
                by_cases hjn : j < n
                · obtain ⟨AW, cW, Y, dW, lY, hY, rY⟩ := KA.out.at hjn
                  obtain ⟨q0, hq0⟩ := bool_at lY hjn
                  obtain ⟨bw, ow, rfl, zw, _⟩ := rY.bool hq0
                  obtain ⟨p, hp⟩ := bool_at LX.out hjn
                  obtain ⟨dp, _⟩ := RX.out.boolAt hp
                  obtain ⟨sj, hsj⟩ := bool_at LS.out hjn
                  obtain ⟨dsj, _⟩ := KW.out.2.1.boolAt hsj
                  simp only [Nat.zero_add] at dsj
                  have RY := Lib.hid rY
                  have HY := Lib.hid hY
                  have LY := Lib.hid lY
                  have HP := Lib.hid hp
                  have hj' : (j : Int) < n := by omega
                  have OP : Hid (p = true → sv = false ∧ sj = false) := Lib.hid (by
                    rintro rfl
                    have h := ((HX.out j).1 hp).opens
                    simp only [isOpen, SV.out, hsj] at h
                    simpa using h)
                  clear hq0 hp hsj rY hY lY
                  cases p
                  · go_wp2_with fail
                    go_loopw [14] (fun i wd => ∃ x : Nat, x ≤ n ∧ i = .int .i64 x ∧ wd = wr) (fun i _ => n - (intOf i).toNat)
                    case atStart => exact ⟨0, by omega, rfl, rfl⟩
                    case round =>
                      obtain ⟨x, hx, rfl, rfl⟩ := hrel
                      by_cases hxn : x < n
                      · have hx' : (x : Int) < n := by omega
                        go_wp2_with fail
                        go_roundw
                        case rel => exact ⟨x + 1, by omega, by go_num, trivial⟩
                        case measure => simp [intOf]; omega
                      · obtain rfl : n = x := by omega
                        clear hxn
                        go_wp2_with fail
                        go_roundw
                        case rel => exact ⟨j + 1, by omega, by go_num, trivial⟩
                        case measure => simp [intOf]; omega
                  · obtain ⟨rfl, rfl⟩ := OP.out rfl
                    clear OP
                    go_wp2_with fail
                    go_loopw [14] (fun i wd => ∃ x : Nat, x ≤ n ∧ i = .int .i64 x ∧ wd = wr) (fun i _ => n - (intOf i).toNat)
                    case atStart => exact ⟨0, by omega, rfl, rfl⟩
                    case round =>
                      obtain ⟨x, hx, rfl, rfl⟩ := hrel
                      by_cases hxn : x < n
                      · have hx' : (x : Int) < n := by omega
                        obtain ⟨q, hq⟩ := bool_at LY.out hxn
                        obtain ⟨r, hr⟩ := bool_at LX.out hxn
                        obtain ⟨dy, _⟩ := RY.out.boolAt hq
                        obtain ⟨dr, _⟩ := RX.out.boolAt hr
                        have NO : Hid (q = true → r = true) := Lib.hid (by
                          rintro rfl
                          have := (HX.out x).2 (((HX.out j).1 HP.out).trans ((HY.out x).1 hq))
                          rw [hr] at this
                          exact Option.some.inj this)
                        clear hq hr
                        cases q
                        · go_wp2_with fail
                          go_roundw
                          case rel => exact ⟨x + 1, by omega, by go_num, trivial⟩
                          case measure => simp [intOf]; omega
                        · obtain rfl := NO.out rfl
                          clear NO
                          go_wp2_with fail
                          go_roundw
                          case rel => exact ⟨x + 1, by omega, by go_num, trivial⟩
                          case measure => simp [intOf]; omega
                      · obtain rfl : n = x := by omega
                        clear hxn
                        go_wp2_with fail
                        go_roundw
                        case rel => exact ⟨j + 1, by omega, by go_num, trivial⟩
                        case measure => simp [intOf]; omega
                · obtain rfl : n = j := by omega
                  clear hjn
                  go_wp2_with fail
                  go_roundw
                  case rel => exact ⟨v + 1, by omega, by go_num, trivial⟩
                  case measure => simp [intOf]; omega
        · obtain rfl : n = v := by omega
          clear hvn
          go_wp2_with fail
          go_ret
          exact ⟨rfl, grown_below KW.out.2.2⟩
end Go.Proofs.Ytidilepbepkpiaa
