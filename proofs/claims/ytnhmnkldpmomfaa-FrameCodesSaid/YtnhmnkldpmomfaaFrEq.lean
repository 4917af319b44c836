/- '==' between two frames. -/
import Derived.Test.YtnhmnkldpmomfaaFrKnown
namespace Go.Proofs.Ytnhmnkldpmomfaa
open Go.RowKit
set_option linter.unusedVariables false

def frEqB (k1 r1 s1 c1 f1 k2 r2 s2 c2 f2 : Int) : Bool := k1 == k2 && (r1 == r2 && (s1 == s2 && (c1 == c2 && f1 == f2)))

theorem fr_binOp (k1 r1 s1 c1 f1 k2 r2 s2 c2 f2 : Int) (W : World) :
    (binOp .eql 26 (.agg #[.int .i64 k1, .int .i64 r1, .int .u64 s1, .int .i64 c1, .int .i64 f1]) (.agg #[.int .i64 k2, .int .i64 r2, .int .u64 s2, .int .i64 c2, .int .i64 f2])).run Try.prog W =
      .ok (.bool (frEqB k1 r1 s1 c1 f1 k2 r2 s2 c2 f2)) W := by
  unfold frEqB
  cases h1 : (k1 == k2) <;> cases h2 : (r1 == r2) <;> cases h3 : (s1 == s2) <;> cases h4 : (c1 == c2) <;> cases h5 : (f1 == f2) <;> simp [binOp, Op.equal, Op.maxDepth, go_sem, h1, h2, h3, h4, h5]
end Go.Proofs.Ytnhmnkldpmomfaa
