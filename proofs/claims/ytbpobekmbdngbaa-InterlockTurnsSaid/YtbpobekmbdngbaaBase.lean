/- Plain lemmas for the walks of this seat: integers, worlds, blocks. -/
import Derived.Test.YtbpobekmbdngbaaRows
import Derived.WalkKit
import Derived.WalkSpells
import Derived.WalkLawsBesides
import Derived.Lib.Hide
import Derived.Deep.QuietTactic
import Derived.BigQuiet
import Derived.OpenShut
import Derived.Handy
namespace Go.Proofs.Ytbpobekmbdngbaa
open Go.RowKit
set_option linter.unusedVariables false

theorem ret_int {k : IntKind} {a b : Int} (h : a = b) : Ending.returned (.int k a) = .returned (.int k b) := by rw [h]
theorem ret_bool {a b : Bool} (h : a = b) : Ending.returned (.bool a) = .returned (.bool b) := by rw [h]

/-! ### Worlds that grow -/

theorem grown_refl (w : World) (r : Option Nat) : w.grownBy w r := ⟨rfl, rfl, rfl, Nat.le_refl _, fun _ _ _ => rfl⟩
theorem grown_trans {w w1 w2 : World} {r : Option Nat} (h : w.grownBy w1 r) (k : w1.grownBy w2 r) : w.grownBy w2 r :=
  ⟨k.os.trans h.os, k.tape.trans h.tape, k.output.trans h.output, Nat.le_trans h.size k.size, fun i hi hne => (k.block i (Nat.lt_of_lt_of_le hi h.size) hne).trans (h.block i hi hne)⟩
theorem grown_weak {w w1 : World} {r : Option Nat} (h : w.grownBy w1 none) : w.grownBy w1 r :=
  ⟨h.os, h.tape, h.output, h.size, fun i hi _ => h.block i hi (by simp)⟩
/-- A later write to a block that is new. -/
theorem grown_new {w w1 w2 : World} {r : Option Nat} {g : Nat} (h : w.grownBy w1 r) (k : w1.grownBy w2 (some g)) (hg : w.heap.size ≤ g) : w.grownBy w2 r :=
  ⟨k.os.trans h.os, k.tape.trans h.tape, k.output.trans h.output, Nat.le_trans h.size k.size,
    fun i hi hne => (k.block i (Nat.lt_of_lt_of_le hi h.size) (by intro e; simp at e; omega)).trans (h.block i hi hne)⟩
theorem grown_draw {w w1 : World} {r : Option Nat} (n : Nat) (h : w.grownBy w1 r) : w.grownBy (w1.drewN n) r :=
  ⟨h.os, h.tape, h.output, h.size, h.block⟩
theorem grown_drew {w w1 : World} {r : Option Nat} (h : w.grownBy w1 r) : w.grownBy w1.drew r :=
  ⟨h.os, h.tape, h.output, h.size, h.block⟩
theorem grown_alloc {w w1 : World} {r : Option Nat} (o : Obj) (h : w.grownBy w1 r) : w.grownBy (w1.alloc o) r :=
  grown_trans h (World.grownBy_alloc w1 o r)
theorem grown_set {w w1 : World} {r : Option Nat} {p : Addr} (v : Value) (h : w.grownBy w1 r) (hp : w.heap.size ≤ p.block ∨ some p.block = r) : w.grownBy (w1.setCell p v) r := by
  refine ⟨h.os, h.tape, h.output, by simp [World.setCell]; exact h.size, fun i hi hne => ?_⟩
  have hip : i ≠ p.block := by
    rintro rfl
    rcases hp with hp | hp
    · omega
    · exact hne hp
  rw [Below.heap_setCell _ _ _ _ hip]
  exact h.block i hi hne
theorem grown_below {w w1 : World} (h : w.grownBy w1 none) : Below w.heap.size w w1 :=
  ⟨h.os, h.tape, h.output, h.size, fun k hk => h.block k hk (by simp)⟩
theorem below_grown {w w1 : World} (h : Below w.heap.size w w1) : w.grownBy w1 none :=
  ⟨h.os, h.tape, h.output, h.size, fun k hk _ => h.block k hk⟩
theorem grown_cell {w w1 : World} {r : Option Nat} (h : w.grownBy w1 r) {a : Addr} (ha : a.block < w.heap.size) (hne : some a.block ≠ r) : w1.cell? a = w.cell? a :=
  World.cell?_of_block (h.block a.block ha hne)
theorem grown_at {w w1 : World} {r : Option Nat} (h : w.grownBy w1 r) {b : Nat} {o : Obj} (hb : w.heap[b]? = some o) (hne : some b ≠ r) : w1.heap[b]? = some o :=
  (h.block b (Array.getElem?_eq_some_iff.1 hb).1 hne).trans hb
theorem lt_of_at {w : World} {b : Nat} {o : Obj} (hb : w.heap[b]? = some o) : b < w.heap.size := (Array.getElem?_eq_some_iff.1 hb).1
theorem lt_of_cell {w : World} {a : Addr} {v : Value} (h : w.cell? a = some v) : a.block < w.heap.size := World.block_lt_of_cell? w a h

theorem at_alloc {w : World} {b : Nat} {o : Obj} (p : Obj) (hb : w.heap[b]? = some o) : (w.alloc p).heap[b]? = some o := by
  rw [Below.heap_alloc _ _ _ (lt_of_at hb)]; exact hb
theorem at_new (w : World) (p : Obj) : (w.alloc p).heap[w.heap.size]? = some p := by
  show (w.heap.push p)[w.heap.size]? = _; simp
theorem at_set {w : World} {b j : Nat} {cs : Array Value} {T : TypeId} {z : Nat × Nat} (v : Value) (hb : w.heap[b]? = some (.cells cs T z)) :
    (w.setCell ⟨b, j, none⟩ v).heap[b]? = some (.cells (cs.setIfInBounds j v) T z) := by
  simp [World.setCell, Array.getElem?_modify, hb]
theorem at_set_other {w : World} {b : Nat} {p : Addr} {o : Obj} (v : Value) (hb : w.heap[b]? = some o) (hne : b ≠ p.block) : (w.setCell p v).heap[b]? = some o := by
  rw [Below.heap_setCell _ _ _ _ hne]; exact hb
theorem cell_at {w : World} {b j : Nat} {cs : Array Value} {T : TypeId} {z : Nat × Nat} (hb : w.heap[b]? = some (.cells cs T z)) : w.cell? ⟨b, j, none⟩ = cs[j]? := by
  simp [World.cell?, hb]
theorem free_at {w : World} {b j : Nat} {cs : Array Value} {T : TypeId} (hb : w.heap[b]? = some (.cells cs T (0, 0))) : w.frozen? ⟨b, j, none⟩ = false := by
  simp [World.frozen?, hb]

/-- What the walk is told of a block of the call's own. -/
theorem rules_at {w : World} {b : Nat} {cs : Array Value} {T : TypeId} (hb : w.heap[b]? = some (.cells cs T (0, 0))) :
    (∀ j, w.cell? ⟨b, j, none⟩ = cs[j]?) ∧ (∀ j, w.frozen? ⟨b, j, none⟩ = false) :=
  ⟨fun _ => cell_at hb, fun _ => free_at hb⟩

/-! ### Numbers made of numbers -/

/-- blockwaymade.Cut. -/
def cut (v n : Int) : Int := if n ≤ 1 then 0 else if v.tmod n < 0 then v.tmod n + n else v.tmod n

theorem tmod_bd (v n : Int) (h : 1 < n) : -n < v.tmod n ∧ v.tmod n < n := by
  have h1 := Int.tmod_lt_of_pos v (show 0 < n by omega)
  have h2 := Int.lt_tmod_of_pos v (show 0 < n by omega)
  omega
theorem cut_bd (v n : Int) : 0 ≤ cut v n ∧ (cut v n < n ∨ cut v n = 0) := by
  unfold cut
  split
  · omega
  · have := tmod_bd v n (by omega)
    split <;> omega
theorem cut_in (v n : Int) (h : 1 ≤ n) : 0 ≤ cut v n ∧ cut v n < n := by
  have := cut_bd v n; omega
theorem cut_le {v n : Int} (h : n ≤ 1) : cut v n = 0 := by unfold cut; rw [if_pos h]
theorem cut_lt {v n : Int} (h : 1 < n) (h' : v.tmod n < 0) : cut v n = v.tmod n + n := by unfold cut; rw [if_neg (by omega), if_pos h']
theorem cut_ge {v n : Int} (h : 1 < n) (h' : 0 ≤ v.tmod n) : cut v n = v.tmod n := by unfold cut; rw [if_neg (by omega), if_neg (by omega)]

/-- What a tape answers before it is cut: the number at k, or a small one behind the end. -/
def tapeV (zs : List Int) (k : Nat) : Int := if k < zs.length then zs.getD k 0 else ((k : Int) * 7) % 11
/-- (*blockwaymade.Tape).Next at place k. -/
def tnext (zs : List Int) (k : Nat) (n : Int) : Int := cut (tapeV zs k) n
theorem tnext_in (zs : List Int) (k : Nat) (n : Int) (h : 1 ≤ n) : 0 ≤ tnext zs k n ∧ tnext zs k n < n := cut_in _ _ h
theorem tapeV_lt {zs : List Int} {k : Nat} (h : k < zs.length) : tapeV zs k = zs.getD k 0 := if_pos h
theorem tapeV_ge {zs : List Int} {k : Nat} (h : ¬ k < zs.length) : tapeV zs k = ((k : Int) * 7) % 11 := if_neg h

/-- Block B is a tape over the numbers zs, at place k. -/
structure TapeAt (w : World) (B T : Nat) (ad : Option Addr) (len cap : Nat) (zs : List Int) (k : Nat) : Prop where
  blk : w.heap[B]? = some (.cells #[.slice ad len cap, .int .i64 k] T (0, 0))
  len : len = zs.length
  cells : ∀ i, i < zs.length → ∃ b off, ad = some ⟨b, off, none⟩ ∧ b < B ∧ w.cell? ⟨b, off + i, none⟩ = some (.int .i64 (zs.getD i 0))
  bd : ∀ z ∈ zs, -9223372036854775808 ≤ z ∧ z ≤ 9223372036854775807
  small : k ≤ 1000000

theorem TapeAt.above {w w1 : World} {B T : Nat} {ad : Option Addr} {len cap : Nat} {zs : List Int} {k : Nat} {r : Option Nat} (h : TapeAt w B T ad len cap zs k) (hg : w.grownBy w1 r) (hr : ∀ g, r = some g → B < g) : TapeAt w1 B T ad len cap zs k :=
  ⟨grown_at hg h.blk (fun e => by have := hr B e.symm; omega), h.len, fun i hi => let ⟨b, off, e, hne, hc⟩ := h.cells i hi; ⟨b, off, e, hne, (grown_cell hg (lt_of_cell hc) (fun e => by have := hr b e.symm; omega)).trans hc⟩, h.bd, h.small⟩
theorem TapeAt.other {w w1 : World} {B T : Nat} {ad : Option Addr} {len cap : Nat} {zs : List Int} {k : Nat} (h : TapeAt w B T ad len cap zs k) (hg : w.grownBy w1 none) : TapeAt w1 B T ad len cap zs k :=
  h.above hg (by simp)
theorem TapeAt.set {w : World} {B T : Nat} {ad : Option Addr} {len cap : Nat} {zs : List Int} {k : Nat} (h : TapeAt w B T ad len cap zs k) {p : Addr} (hp : B < p.block) (v : Value) : TapeAt (w.setCell p v) B T ad len cap zs k :=
  h.above (r := some p.block) (grown_set v (grown_refl w _) (.inr rfl)) (by simp; omega)
theorem TapeAt.lt {w : World} {B T : Nat} {ad : Option Addr} {len cap : Nat} {zs : List Int} {k : Nat} (h : TapeAt w B T ad len cap zs k) : B < w.heap.size := lt_of_at h.blk

/-- What the walk is told of a slice of integers that came in: it is nil; or it leads to a row of cap cells, the numbers z (the first len are its elements). -/
def IsRow (k : IntKind) (w : World) (a : Option Addr) (len cap : Nat) (z : List Int) : Prop :=
  (a = none ∧ len = 0 ∧ cap = 0 ∧ z = []) ∨
  ∃ x, a = some x ∧ len ≤ cap ∧ cap ≤ maxLen ∧ z.length = cap ∧ (∀ i, i < z.length → w.cell? (x.add i) = some (.int k (z.getD i 0))) ∧ ∀ n ∈ z, (Lit.int k n).wf = true

theorem wf_i64 {n : Int} (h : (Lit.int .i64 n).wf = true) : -9223372036854775808 ≤ n ∧ n ≤ 9223372036854775807 := bounds_i64 h

/-- A tape over a slice that came in, in a new block. -/
theorem tape_new {w w1 : World} {a : Option Addr} {len cap : Nat} {z : List Int} (h : IsRow .i64 w a len cap z) (hg : w.grownBy w1 none) (T : TypeId) :
    TapeAt (w1.alloc (.cells #[.slice a len cap, .int .i64 0] T)) w1.heap.size T a len cap (z.take len) 0 := by
  rcases h with ⟨rfl, rfl, rfl, rfl⟩ | ⟨x, rfl, hl, hm, hz, hc, hwf⟩
  · exact ⟨at_new w1 _, by simp, by simp, by simp, by omega⟩
  · refine ⟨at_new w1 _, by simp; omega, fun i hi => ?_, fun n hn => wf_i64 (hwf n (List.mem_of_mem_take hn)), by omega⟩
    have hi' : i < len := by simp at hi; omega
    have hci := hc i (by omega)
    obtain ⟨b, off, spot⟩ := x
    have hspot : spot = none := by
      have h0 := hc 0 (by omega)
      simpa [Addr.add] using World.cell?_spot h0
    subst hspot
    have hadd : (⟨b, off, none⟩ : Addr).add i = ⟨b, off + i, none⟩ := by unfold Addr.add; split <;> simp_all
    rw [hadd] at hci
    have hlt := lt_of_cell hci
    simp only at hlt
    have hs := hg.size
    refine ⟨b, off, rfl, by omega, ?_⟩
    rw [World.cell?_alloc_lt _ _ _ (by simp only; omega), grown_cell hg (by simpa using hlt) (by simp), hci]
    simp [List.getD_eq_getElem?_getD, hi']
end Go.Proofs.Ytbpobekmbdngbaa
