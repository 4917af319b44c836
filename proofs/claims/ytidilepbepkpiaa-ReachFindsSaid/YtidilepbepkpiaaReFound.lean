/- The contract of found: the marks of a search. -/
import Derived.Test.YtidilepbepkpiaaReFind
import Derived.Test.YtidilepbepkpiaaReMade2
import Derived.Laws.Tables
import Derived.Laws.Rows
import Derived.Deep.Cut
namespace Go.Proofs.Ytidilepbepkpiaa
open Go.RowKit
set_option linter.unusedVariables false

/-- How many of the truth values in block b are false. -/
def falses (w : World) (b : Nat) : Nat := match w.heap[b]? with
  | some (.cells cs _ _) => cs.toList.countP (fun v => match v with | .bool false => true | _ => false)
  | _ => 0
theorem falses_at {w : World} {b : Nat} {m : List Bool} {T : TypeId} {z : Nat × Nat} (h : w.heap[b]? = some (.cells (bools m).toArray T z)) : falses w b = unmarked m := by
  unfold falses unmarked
  rw [h]
  simp only [bools]
  rw [List.countP_map]
  congr 1
  funext x
  cases x <;> rfl
theorem bools_arr_set (m : List Bool) (i : Nat) : ((bools m).toArray).setIfInBounds i (.bool true) = (bools (m.set i true)).toArray := by
  rw [← bools_set]; simp
/-- The last one is taken away. -/
theorem own_pop {w : World} {base e n c g : Nat} {xs : List Value} {x : Value} (h : w.ownsRow base e 1 (.slice (some ⟨g, 0, none⟩) (n + 1) c) (n + 1) (xs ++ [x])) : w.ownsRow base e 1 (.slice (some ⟨g, 0, none⟩) n c) n xs := by
  obtain ⟨h0, h1⟩ := h
  have hl : xs.length = n := by simp at h0; omega
  refine ⟨by omega, .inr ?_⟩
  rcases h1 with ⟨h1, _⟩ | ⟨g', cap, cur, hv, hb, hg, h1, h2, h3, h4⟩
  · cases h1
  · simp only [Value.slice.injEq, Option.some.injEq, Addr.mk.injEq, and_true, true_and] at hv
    obtain ⟨rfl, rfl⟩ := hv
    refine ⟨_, _, cur, rfl, hb, hg, by omega, h2, h3, ?_⟩
    have := congrArg (List.take n) h4
    rw [List.take_take, List.take_append_of_le_length (by omega), List.take_of_length_le (l := xs) (by omega), Nat.min_eq_left (by omega)] at this
    rw [Nat.mul_one]; exact this

def AnyArr (m : List Bool) : Value := .agg (bools m).toArray
def FoundP (g : Gr) (s : List Bool) (v : Nat) (w : World) (e : Ending) (w' : World) : Prop := ∃ m : List Bool, e = .returned (AnyArr m) ∧ m.length = 24 ∧ (∀ x : Nat, m[x]? = some true ↔ Reach g s v x) ∧ w.grownBy w' none

theorem grown_row {w w1 : World} {g : Nat} (h : w.grownBy w1 none) (hg : w.heap.size ≤ g) (cs : Array Value) : w.grownBy (w1.setRow g cs) none :=
  ⟨h.os, h.tape, h.output, by simpa using h.size, fun i hi hne => (setRow_other w1 g i cs (by omega)).trans (h.block i hi hne)⟩
theorem Try.info24 : (Try.prog.info? 50).map (·.size) = some 24 := by kernel_rfl
theorem bools_all (m : List Bool) : ((bools m).toArray).all (·.oneCell') = true := by
  rw [← Array.all_toList]
  exact List.all_eq_true.2 (bools_one m)
def sliceLen (v : Value) : Nat := match v with | .slice _ n _ => n | _ => 0
theorem unmarked_begin {v N : Nat} (hv : v < N) : unmarked ((List.replicate N false).set v true) + 1 = N := by
  rw [unmarked_set (by rw [List.getElem?_replicate, if_pos hv])]
  unfold unmarked
  rw [List.countP_eq_length.2 (fun b hb => by rw [List.mem_replicate] at hb; rw [hb.2]; rfl), List.length_replicate]
/-- The state of a search at the head of the loop: base and base + 1 are the blocks of the answer and of the marks. -/
def FoundAt (g : Gr) (s : List Bool) (v base : Nat) (o : Value) (wr : World) : Prop := ∃ (m : List Bool) (S : List Int) (gs cs : Nat), o = .slice (some ⟨gs, 0, none⟩) S.length cs ∧ m.length = 24 ∧ Srch g s v m S ∧
  wr.ownsRow (base + 2) 3 1 o S.length (ints S) ∧ wr.heap[base + 1]? = some (.cells (bools m).toArray 50 (0, 0)) ∧ wr.heap[base]? = some (.cells (bools (List.replicate 24 false)).toArray 50 (0, 0)) ∧ unmarked m + S.length ≤ 24

/-- The state inside: j edges of u have been followed. -/
def InAt (g : Gr) (s : List Bool) (v u j base D : Nat) (o : Value) (wr : World) : Prop := ∃ (m : List Bool) (S : List Int) (gs cs : Nat), o = .slice (some ⟨gs, 0, none⟩) S.length cs ∧ m.length = 24 ∧ SrchIn g s v u j m S ∧
  wr.ownsRow (base + 2) 3 1 o S.length (ints S) ∧ wr.heap[base + 1]? = some (.cells (bools m).toArray 50 (0, 0)) ∧ wr.heap[base]? = some (.cells (bools (List.replicate 24 false)).toArray 50 (0, 0)) ∧ unmarked m + S.length ≤ D

set_option maxHeartbeats 3200000 in
theorem found_any (a : Option Addr) (n cap : Nat) (g : Gr) (a1 : Option Addr) (c1 : Nat) (s : List Bool) (v : Nat) (w : World) (h : ListsR none w a n g) (hs : RowIn w a1 n 1 (bools s)) (hv : validB g = true) (hvn : v < n) :
    Calls Try.prog 28 #[.slice a n cap, .slice a1 n c1, .int .i64 v] w (FoundP g s v w) := by
  obtain ⟨hl, hm⟩ := h.len
  have H := Lib.hid h
  have S0 := Lib.hid hs
  have LS := Lib.hid hs.len1b
  have L := Lib.hid hl
  have V := Lib.hid hv
  have hn24 : n ≤ 24 := by have := (valid_iff.1 hv).1; omega
  obtain ⟨sv, hsv⟩ : ∃ b, s[v]? = some b := ⟨_, List.getElem?_eq_getElem (by rw [hs.len1b]; exact hvn)⟩
  obtain ⟨b1, o1, rfl, zb1, d1⟩ := hs.bool hsv
  have SV := Lib.hid hsv
  have hvn' : (v : Int) < n := by omega
  clear h hs hv hl hsv
  go_enter Try.func28, Try.ntmps28
  go_upto_region 2 with fail
  obtain ⟨W2, hW2⟩ : ∃ W2, W2 = (w.alloc (.cells #[.bool false, .bool false, .bool false, .bool false, .bool false, .bool false, .bool false, .bool false, .bool false, .bool false, .bool false, .bool false, .bool false, .bool false, .bool false, .bool false, .bool false, .bool false, .bool false, .bool false, .bool false, .bool false, .bool false, .bool false] 50)).alloc (.cells #[.bool false, .bool false, .bool false, .bool false, .bool false, .bool false, .bool false, .bool false, .bool false, .bool false, .bool false, .bool false, .bool false, .bool false, .bool false, .bool false, .bool false, .bool false, .bool false, .bool false, .bool false, .bool false, .bool false, .bool false] 50) := ⟨_, rfl⟩
  rw [← hW2]
  have hz : W2.heap[w.heap.size]? = some (.cells (bools (List.replicate 24 false)).toArray 50 (0, 0)) ∧ W2.heap[w.heap.size + 1]? = some (.cells (bools (List.replicate 24 false)).toArray 50 (0, 0)) ∧ w.grownBy W2 none := by
    rw [hW2]
    refine ⟨at_alloc _ (at_new w _), ?_, grown_alloc _ (grown_alloc _ (grown_refl _ _))⟩
    have := at_new (w.alloc (.cells #[.bool false, .bool false, .bool false, .bool false, .bool false, .bool false, .bool false, .bool false, .bool false, .bool false, .bool false, .bool false, .bool false, .bool false, .bool false, .bool false, .bool false, .bool false, .bool false, .bool false, .bool false, .bool false, .bool false, .bool false] 50)) (.cells #[.bool false, .bool false, .bool false, .bool false, .bool false, .bool false, .bool false, .bool false, .bool false, .bool false, .bool false, .bool false, .bool false, .bool false, .bool false, .bool false, .bool false, .bool false, .bool false, .bool false, .bool false, .bool false, .bool false, .bool false] 50)
    rw [World.size_alloc] at this
    exact this
  have Z := Lib.hid hz
  have d1' := (grown_cell Z.out.2.2 (lt_of_cell d1) (by simp)).trans d1
  have zb1' := Nat.lt_of_lt_of_le zb1 Z.out.2.2.size
  clear hW2 hz d1
  have hv24 : (v : Int) < 24 := by omega
  have hv24' : v < 24 := by omega
  cases sv
  · have q0 : (bools (List.replicate 24 false))[v]? = some (.bool false) := by unfold bools; rw [List.map_replicate, List.getElem?_replicate, if_pos hv24']
    have q1 : W2.cell? ⟨w.heap.size + 1, v, none⟩ = some (.bool false) := by rw [cell_at Z.out.2.1]; simpa using q0
    have q2 : W2.frozen? ⟨w.heap.size + 1, v, none⟩ = false := free_at Z.out.2.1
    have z2 := lt_of_at Z.out.2.1
    have B1 := at_set (j := v) (.bool true) Z.out.2.1
    rw [bools_arr_set] at B1
    have B2 := Lib.hid (at_alloc (.cells #[.int .i64 v] 3) B1)
    have B3 := Lib.hid (at_alloc (.cells #[.int .i64 v] 3) (at_set_other (p := ⟨w.heap.size + 1, v, none⟩) (.bool true) Z.out.1 (by simp)))
    have B4 := Lib.hid (grown_alloc (.cells #[.int .i64 v] 3) (grown_set (p := ⟨w.heap.size + 1, v, none⟩) (.bool true) Z.out.2.2 (.inl (by simp))))
    have B5 := Lib.hid (World.ownsRow_lit (base := w.heap.size + 2) (e := 3) (size := 1) (W2.setCell ⟨w.heap.size + 1, v, none⟩ (.bool true)) #[.int .i64 v] 1 (by simp; omega) (by unfold maxLen; omega) rfl)
    have I0 := Lib.hid (Srch.begin (g := g) (N := 24) SV.out hv24')
    clear q0 B1
    go_wp2_with fail
    go_loopw [8, 9, 11, 40] (fun o _ _ _ wr => FoundAt g s v w.heap.size o wr ∧ w.grownBy wr none) (fun o _ _ _ wr => falses wr (w.heap.size + 1) + sliceLen o)
    case atStart => exact ⟨⟨_, _, _, _, rfl, by simp, I0.out, by simpa [ints] using B5.out, B2.out, B3.out, by have := unmarked_begin hv24'; simp only [List.length_singleton]; omega⟩, B4.out⟩
    case round =>
      obtain ⟨⟨m, S, gs, cs, rfl, hm24, hI, hO, hB, hR, hle⟩, hG⟩ := hrel
      have O := Lib.hid hO
      have I := Lib.hid hI
      have MB := Lib.hid hB
      have MR := Lib.hid hR
      have G := Lib.hid hG
      have zG := hG.size
      have hcs : S.length ≤ cs ∧ cs ≤ 9223372036854775807 := by
        obtain ⟨hx, _⟩ := ownR_of_slice hO
        exact hx.capLe
      obtain ⟨hcs1, hcs2⟩ := hcs
      have hzb := lt_of_at hB
      clear hO hI hB hR hG B2 B3 B4 B5 I0 q1 q2 z2
      rcases List.eq_nil_or_concat S with rfl | ⟨S', x, rfl⟩
      · have FI := Lib.hid (I.out.final V.out)
        go_wp2_with (first
          | (refine wpList_load_row rfl 50 (.tmp 7) rfl _ rfl 50 _ (0, 0) _ MB.out Try.underlying50 rfl (by rw [Try.info24]; simp [bools, hm24]) ?_)
          | (refine wpList_store_row rfl 50 (.tmp 6) (.tmp 62) rfl _ _ rfl rfl 50 _ MR.out (by rw [Try.info24]; simp [bools, hm24]) (by simp [bools, hm24]) (bools_all _) ?_))
        exact bodyPost_ret (v := AnyArr m) (results_cell_row rfl _ _ _ _ _ _ _ rfl (setRow_heap _ _ _ _ _ _ MR.out) Try.underlying50 rfl (by rw [Try.info24]; simp [bools, hm24])) rfl ⟨_, rfl, hm24, FI.out, grown_row G.out (Nat.le_refl _) _⟩
      · rw [List.concat_eq_append] at O hcs1 hle I ⊢
        rw [List.length_append, List.length_singleton] at O hcs1 hle
        rw [ints_snoc] at O
        obtain ⟨u, rfl, hmu⟩ := I.out.todo x (by simp)
        have hu := (reach_lt (by rw [LS.out, L.out]) (I.out.sound u hmu)).2
        rw [L.out] at hu
        obtain ⟨l, hl⟩ : ∃ l, g[u]? = some l := ⟨_, List.getElem?_eq_getElem (by rw [L.out]; exact hu)⟩
        have AD := Lib.hid (adj_at hl)
        obtain ⟨b, off, A, c, rfl, zb, c0, hlc, hcm, hA, hrow⟩ := H.out.at hl
        have RW := Lib.hid hrow.1
        have c0' := (grown_cell G.out (lt_of_cell c0) (by simp)).trans c0
        have zb' := Nat.lt_of_lt_of_le zb G.out.size
        have e0 : wr.cell? ⟨gs, S'.length, none⟩ = some (.int .i64 u) := by
          rw [O.out.cellAt S'.length (by omega)]
          simp [ints]
        have zgs := lt_of_cell e0
        have OP := Lib.hid (own_pop O.out)
        have IP := Lib.hid I.out.pop
        have MEM := Lib.hid (okB_mem ((valid_iff.1 V.out).2 u (by rw [L.out]; exact hu)))
        have hu' : (u : Int) < n := by omega
        have hD : unmarked m + S'.length + 1 = falses wr (w.heap.size + 1) + (S'.length + 1) := by rw [falses_at MB.out]; omega
        have HD := Lib.hid hD
        have hle2 : unmarked m + S'.length + 1 ≤ 24 := by omega
        unfold maxLen at hcm
        simp only at zgs
        rw [List.length_append, List.length_singleton]
        clear hl hrow c0 hmu O I hD hle
        go_wp2_with fail
        go_loopw [8, 11, 40] (fun o _ i wq => (∃ j : Nat, j ≤ l.length ∧ i = .int .i64 j ∧ InAt g s v u j w.heap.size (unmarked m + S'.length) o wq) ∧ w.grownBy wq none) (fun _ _ i _ => l.length - (intOf i).toNat)
        case atStart => exact ⟨⟨0, by omega, rfl, m, S', gs, cs, rfl, hm24, IP.out, OP.out, MB.out, MR.out, Nat.le_refl _⟩, G.out⟩
        case round =>
          clear OP IP MB MR G e0 c0' zG
          obtain ⟨⟨j, hj, rfl, m, S, gs, cs, rfl, hm24, hI, hO, hB, hR, hle⟩, hG⟩ := hrel
          have O := Lib.hid hO
          have I := Lib.hid hI
          have MB := Lib.hid hB
          have MR := Lib.hid hR
          have G := Lib.hid hG
          have zG := hG.size
          have hcs : S.length ≤ cs ∧ cs ≤ 9223372036854775807 := by
            obtain ⟨hx, _⟩ := ownR_of_slice hO
            exact hx.capLe
          obtain ⟨hcs1, hcs2⟩ := hcs
          have hzb := lt_of_at hB
          clear hO hI hB hR hG
          by_cases hjl : j < l.length
          · obtain ⟨x, hx⟩ : ∃ x, l[j]? = some x := ⟨_, List.getElem?_eq_getElem hjl⟩
            obtain ⟨m1, m2, m3⟩ := MEM.out x (by rw [AD.out]; exact List.mem_of_getElem? hx)
            rw [L.out] at m2
            obtain ⟨y, rfl⟩ : ∃ y : Nat, x = y := ⟨x.toNat, by omega⟩
            have hyn : y < n := by omega
            have hy24 : y < 24 := by omega
            obtain ⟨bb, oo, rfl, zbb, d0⟩ := (RowIn.kept RW.out G.out).int hx
            obtain ⟨sy, hsy⟩ : ∃ b, s[y]? = some b := ⟨_, List.getElem?_eq_getElem (by rw [LS.out]; exact hyn)⟩
            obtain ⟨b1', o1', he, zb1'', d2⟩ := (RowIn.kept S0.out G.out).bool hsy
            obtain ⟨rfl, rfl⟩ : b1 = b1' ∧ o1 = o1' := by simpa using he
            obtain ⟨my, hmy⟩ : ∃ b, m[y]? = some b := ⟨_, List.getElem?_eq_getElem (by rw [hm24]; exact hy24)⟩
            have q1 : wr.cell? ⟨w.heap.size + 1, y, none⟩ = some (.bool my) := by rw [cell_at MB.out]; simp [bools, hmy]
            have q2 : wr.frozen? ⟨w.heap.size + 1, y, none⟩ = false := free_at MB.out
            have HX : Hid ((adj g u)[j]? = some (y : Int)) := Lib.hid (by rw [AD.out]; exact hx)
            have HS := Lib.hid hsy
            have HM := Lib.hid hmy
            have hj' : (j : Int) < (l.length : Int) := by omega
            have hyi : (y : Int) < 24 := by omega
            have hyi2 : (y : Int) < n := by omega
            clear hx hsy hmy he
            cases sy
            · cases my
              · have O1 : Hid ((wr.setCell ⟨w.heap.size + 1, y, none⟩ (.bool true)).ownsRow (w.heap.size + 2) 3 1 (.slice (some ⟨gs, 0, none⟩) S.length cs) S.length (ints S)) := Lib.hid (O.out.kept (row := some (w.heap.size + 1)) (grown_set _ (grown_refl wr _) (.inr rfl)) (.inr (fun h => by have := (O.out.lt _ h).1; omega)))
                have MB1 := Lib.hid (at_set (j := y) (.bool true) MB.out)
                have MR1 := Lib.hid (at_set_other (p := ⟨w.heap.size + 1, y, none⟩) (.bool true) MR.out (by simp))
                have G1 := Lib.hid (grown_set (p := ⟨w.heap.size + 1, y, none⟩) (.bool true) G.out (.inl (by simp)))
                have zz : (wr.setCell ⟨w.heap.size + 1, y, none⟩ (.bool true)).heap.size = wr.heap.size := by simp
                have hum := unmarked_set HM.out
                have hSl : S.length + 1 ≤ 24 := by omega
                rw [bools_arr_set] at MB1
                clear O MB MR G
                go_wp2_with (at_builtin; go_loud (refine wpList_append_in St_int rfl (.tmp 57) (.tmp 59) rfl rfl (O1.out.alloc (.cells #[.int .i64 y] 3)) rfl (cell_one _ _ zz.symm) (fun h => by cases h) (flat_one rfl) ?c1 ?c2 ?c3 ?_))
                case c1 => unfold maxLen; omega
                case c2 => omega
                case c3 => simp; omega
                intro v' w3 hown3 hg3 hloc
                clear hloc
                obtain ⟨g3, cp3, rfl, _, _⟩ := ownR_of_owns hown3 (by omega)
                have NB : ∀ b, b < w.heap.size + 2 → some b ≠ (Value.slice (some ⟨gs, 0, none⟩) S.length cs).ownBlock := fun b hb e => by have := (O1.out.lt b e.symm).1; omega
                have MB3 := Lib.hid (grown_at hg3 (at_alloc (.cells #[.int .i64 y] 3) MB1.out) (NB _ (by omega)))
                have MR3 := Lib.hid (grown_at hg3 (at_alloc (.cells #[.int .i64 y] 3) MR1.out) (NB _ (by omega)))
                have G3 := Lib.hid (grown_own (grown_alloc (.cells #[.int .i64 y] 3) G1.out) hg3 (fun g hg => by have := (O1.out.lt g hg).1; omega))
                have O3 : Hid (w3.ownsRow (w.heap.size + 2) 3 1 (.slice (some ⟨g3, 0, none⟩) (S.length + 1) cp3) (S.length + 1) (ints (S ++ [(y : Int)]))) := Lib.hid (by rw [ints_snoc]; exact hown3)
                have I3 := Lib.hid (I.out.mark (S' := S ++ [(y : Int)]) HX.out HS.out HM.out (fun z => by simp))
                clear hown3 hg3 O1 MB1 MR1 G1 NB I zz q1 q2
                go_wp2_with fail
                go_roundw
                case rel => exact ⟨⟨j + 1, by omega, by go_num, m.set y true, S ++ [(y : Int)], g3, cp3, by simp, by simpa using hm24, I3.out, by simpa using O3.out, MB3.out, MR3.out, by simp; omega⟩, G3.out⟩
                case measure => simp [intOf]; omega
              · have I1 := Lib.hid (I.out.skip HX.out (.inr HM.out))
                clear I
                go_wp2_with fail
                go_roundw
                case rel => exact ⟨⟨j + 1, by omega, by go_num, m, S, gs, cs, rfl, hm24, I1.out, O.out, MB.out, MR.out, hle⟩, G.out⟩
                case measure => simp [intOf]; omega
            · have I1 := Lib.hid (I.out.skip HX.out (.inl (fun h => by unfold isOpen at h; rw [HS.out] at h; cases h)))
              clear I
              go_wp2_with fail
              go_roundw
              case rel => exact ⟨⟨j + 1, by omega, by go_num, m, S, gs, cs, rfl, hm24, I1.out, O.out, MB.out, MR.out, hle⟩, G.out⟩
              case measure => simp [intOf]; omega
          · obtain rfl : j = l.length := by omega
            have ID := Lib.hid (I.out.done (by rw [AD.out]; exact Nat.le_refl _))
            clear hjl I
            go_wp2_with fail
            go_roundw
            case rel => exact ⟨⟨m, S, gs, cs, rfl, hm24, ID.out, O.out, MB.out, MR.out, by omega⟩, G.out⟩
            case measure => rw [falses_at MB.out]; simp only [sliceLen] at HD ⊢; have := HD.out; omega
  · have z2 := lt_of_at Z.out.1
    have N := Lib.hid (none_marked (g := g) (s := s) (v := v) (N := 24) (fun h => by unfold isOpen at h; rw [SV.out] at h; cases h))
    go_wp2_with (first
      | (refine wpList_load_row rfl 50 (.tmp 7) rfl _ rfl 50 _ (0, 0) _ Z.out.2.1 Try.underlying50 rfl (by kernel_rfl) ?_)
      | (refine wpList_store_row rfl 50 (.tmp 6) (.tmp 16) rfl _ _ rfl rfl 50 _ Z.out.1 (by kernel_rfl) rfl (by kernel_rfl) ?_))
    exact bodyPost_ret (v := AnyArr (List.replicate 24 false)) (results_cell_row rfl _ _ _ _ _ _ _ rfl (setRow_heap _ _ _ _ _ _ Z.out.1) Try.underlying50 rfl (by kernel_rfl)) rfl ⟨_, rfl, by simp, N.out, grown_row Z.out.2.2 (Nat.le_refl _) _⟩
end Go.Proofs.Ytidilepbepkpiaa
