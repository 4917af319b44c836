/- The sanity check of the frame laws returns true. -/
import Derived.Test.YtnhmnkldpmomfaaEncP
namespace Go.Proofs.Ytnhmnkldpmomfaa
open Go.RowKit
set_option linter.unusedVariables false

/-- 'string(b)' of a slice whose block holds the bytes xs. -/
theorem conv_at {w : World} {b n cap : Nat} {xs : List Int} {e : TypeId} {cs : Array Value} (hb : w.heap[b]? = some (.cells cs e (0, 0))) (hcs : ∀ i, i < n → cs[i]? = some (.int .u8 (xs.getD i 0))) (hn : xs.length = n) :
    (convert 31 9 (.slice (some ⟨b, 0, none⟩) n cap)).run Try.prog w = .ok (.string (strOfNums xs)) w :=
  run_convert_bytes_arg w 31 5 Try.underlying31 Try.underlying5 b 0 n cap xs hn (fun i hi => by rw [cell_at hb, Nat.zero_add]; exact hcs i hi) 9 Try.underlying9

theorem map_cells (xs : List Int) : ∀ i, i < xs.length → (xs.map (Value.int .u8)).toArray[i]? = some (.int .u8 (xs.getD i 0)) := by
  intro i hi
  simp [hi]

set_option maxHeartbeats 1000000 in
theorem known_any (w : World) :
    Calls Try.prog 7 #[] w fun e w' => e = .returned (.bool true) ∧ w.grownBy w' none := by
  have he := EncodeP_ok ⟨1, 1, 258, 7, 1⟩ (Fr.ok_mk (by omega))
  unfold Fr.val at he
  simp only at he
  have he' := Lib.hid he
  clear he
  go_enter Try.func7, Try.ntmps7
  go_wp2_with fail
  refine (he'.out _).mono ?_
  rintro e w1 ⟨b, rfl, hb1, hb2, hg⟩
  have hcs : ∀ i, i < 12 → (([1, 1, 0, 0, 0, 0, 0, 0, 1, 2, 7, 1] : List Int).map (Value.int .u8)).toArray[i]? = some (.int .u8 (([1, 1, 0, 0, 0, 0, 0, 0, 1, 2, 7, 1] : List Int).getD i 0)) := map_cells [1, 1, 0, 0, 0, 0, 0, 0, 1, 2, 7, 1]
  have kc := conv_at (cap := 12) (xs := [1, 1, 0, 0, 0, 0, 0, 0, 1, 2, 7, 1]) (w := w1) hb2 hcs rfl
  have kd := conv_at (cap := 12) (xs := [1, 1, 0, 0, 0, 0, 0, 0, 1, 2, 7, 1]) (at_new w1 (.cells #[.int .u8 1, .int .u8 1, .int .u8 0, .int .u8 0, .int .u8 0, .int .u8 0, .int .u8 0, .int .u8 0, .int .u8 1, .int .u8 2, .int .u8 7, .int .u8 1] 5)) hcs rfl
  clear he' hb2 hcs
  go_wp2
  go_ret
  exact ⟨rfl, grown_alloc _ hg⟩
end Go.Proofs.Ytnhmnkldpmomfaa
