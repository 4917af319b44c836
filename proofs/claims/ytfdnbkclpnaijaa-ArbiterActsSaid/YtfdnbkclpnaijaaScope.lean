/- Rules for a function with labels and jumps back and forth. -/
import Derived.Test.YtfdnbkclpnaijaaBase
namespace Go.Proofs.Ytfdnbkclpnaijaa
open Go.RowKit
set_option linter.unusedVariables false

/-- As Q; by a jump to a label: J. -/
def jumpsTo (J : Nat → Act → World → Prop) (Q : Exit → Act → World → Prop) : Exit → Act → World → Prop
  | .goto l, a, w => J l a w
  | e, a, w => Q e a w
section
variable {P : Program} {Q : Exit → Act → World → Prop} {a : Act} {w : World} {J : Nat → Act → World → Prop}
theorem jumpsTo_goto {l : Nat} (h : J l a w) : jumpsTo J Q (.goto l) a w := h
theorem jumpsTo_ret (h : Q .ret a w) : jumpsTo J Q .ret a w := h
theorem jumpsTo_normal (h : Q .normal a w) : jumpsTo J Q .normal a w := h

/-- A scope with any labels: J n l holds at a jump to l; each pass from a label lowers n. -/
theorem wp_scope_many {c : Code} (J : Nat → Nat → Act → World → Prop) (first : c.wp P (jumpsTo (fun l a w => ∃ n, J n l a w) Q) a w)
    (pass : ∀ n l a w, J n l a w → ∃ rest, findLabel c l = some rest ∧ rest.wp P (jumpsTo (fun l' a' w' => ∃ m, m < n ∧ J m l' a' w') Q) a w) : (Code.scope c).wp P Q a w := by
  intro b k cs
  have key : ∀ n l a w, J n l a w → ∃ rest, findLabel c l = some rest ∧ ∃ e a' w', Q e a' w' ∧ Arrives P (lone (b.at a (.code rest :: .inScope c :: k)) cs w) b k cs e a' w' := by
    intro n
    induction n using Nat.strongRecOn with
    | _ n ih =>
      intro l a w hJ
      obtain ⟨rest, hf, hp⟩ := pass n l a w hJ
      refine ⟨rest, hf, ?_⟩
      obtain ⟨e, a₁, w₁, hq, harr⟩ := hp b (.inScope c :: k) cs
      cases e with
      | normal => exact ⟨.normal, a₁, w₁, hq, Steps.trans harr (.one step_inScope)⟩
      | exit id => exact ⟨.exit id, a₁, w₁, hq, fun k' hk => harr k' (by simp [exitTo, hk])⟩
      | goto l' =>
        obtain ⟨m, hm, hJ'⟩ := hq
        obtain ⟨rest', hf', e₂, a₂, w₂, hq₂, harr₂⟩ := ih m hm l' a₁ w₁ hJ'
        exact ⟨e₂, a₂, w₂, hq₂, .of_steps (harr _ (by simp [gotoIn, hf'])) harr₂⟩
      | ret => exact ⟨_, a₁, w₁, hq, harr⟩
      | panic ch => exact ⟨_, a₁, w₁, hq, harr⟩
      | outgrown => exact ⟨_, a₁, w₁, hq, harr⟩
  obtain ⟨e, a₁, w₁, hq, harr⟩ := first b (.inScope c :: k) cs
  cases e with
  | normal => exact ⟨.normal, a₁, w₁, hq, .head step_scope (Steps.trans harr (.one step_inScope))⟩
  | exit id => exact ⟨.exit id, a₁, w₁, hq, fun k' hk => .head step_scope (harr k' (by simp [exitTo, hk]))⟩
  | goto l' =>
    obtain ⟨n, hJ'⟩ := hq
    obtain ⟨rest', hf', e₂, a₂, w₂, hq₂, harr₂⟩ := key n l' a₁ w₁ hJ'
    exact ⟨e₂, a₂, w₂, hq₂, .of_steps (.head step_scope (harr _ (by simp [gotoIn, hf']))) harr₂⟩
  | ret => exact ⟨_, a₁, w₁, hq, .of_steps (.one step_scope) harr⟩
  | panic ch => exact ⟨_, a₁, w₁, hq, .of_steps (.one step_scope) harr⟩
  | outgrown => exact ⟨_, a₁, w₁, hq, .of_steps (.one step_scope) harr⟩
end

/-- At most n jumps. -/
def passes (P : Program) (c : Code) (Q : Exit → Act → World → Prop) : Nat → Exit → Act → World → Prop
  | n + 1, .goto l, a, w => ∃ rest, findLabel c l = some rest ∧ rest.wp P (passes P c Q n) a w
  | 0, .goto _, _, _ => False
  | _, .normal, a, w => Q .normal a w
  | _, .exit id, a, w => Q (.exit id) a w
  | _, .ret, a, w => Q .ret a w
  | _, .panic ch, a, w => Q (.panic ch) a w
  | _, .outgrown, a, w => Q .outgrown a w

theorem passes_goto {P : Program} {c rest : Code} {Q : Exit → Act → World → Prop} {n l : Nat} {a : Act} {w : World} (hf : findLabel c l = some rest) (h : rest.wp P (passes P c Q n) a w) :
    passes P c Q (n + 1) (.goto l) a w := ⟨rest, hf, h⟩
theorem passes_ret {P : Program} {c : Code} {Q : Exit → Act → World → Prop} {n : Nat} {a : Act} {w : World} (h : Q .ret a w) : passes P c Q n .ret a w := by cases n <;> exact h

theorem wp_scope_passes {P : Program} {c : Code} {Q : Exit → Act → World → Prop} {a : Act} {w : World} (n : Nat) (h : c.wp P (passes P c Q n) a w) : (Code.scope c).wp P Q a w := by
  refine wp_scope_many (fun m l a w => ∃ rest, findLabel c l = some rest ∧ rest.wp P (passes P c Q m) a w) ?_ ?_
  · refine Code.wp_mono (fun e a w q => ?_) h
    cases e with
    | goto l =>
      cases n with
      | zero => exact q.elim
      | succ n => obtain ⟨rest, h1, h2⟩ := q; exact ⟨n, rest, h1, h2⟩
    | _ => cases n <;> exact q
  · rintro m l a w ⟨rest, h1, h2⟩
    refine ⟨rest, h1, Code.wp_mono (fun e a w q => ?_) h2⟩
    cases e with
    | goto l =>
      cases m with
      | zero => exact q.elim
      | succ m => obtain ⟨rest, h1, h2⟩ := q; exact ⟨m, by omega, rest, h1, h2⟩
    | _ => cases m <;> exact q
end Go.Proofs.Ytfdnbkclpnaijaa
