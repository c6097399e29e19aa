import Derived.Test.YtjdhldfeflmneaaGreatG0
import Derived.Test.YtjdhldfeflmneaaGreatAMDrawD
set_option linter.unusedVariables false
namespace Go.Proofs.YtjdhldfeflmneaaGreat
open Go.Proofs.YtjdhldfeflmneaaGreat.AM
/-- What 'base' computes. -/
def D0 : DF := fun f args => match f, args with
  | 109, [.int .u32 n] => some (.int .u32 (IntKind.u32.wrap (n - n.tmod 256)))
  | _, _ => none
theorem dOk : DOk Tryz.prog D0 := by
  intro f args v h K he hk
  unfold D0 at he
  split at he
  · rename_i n
    cases he
    refine F109_spec _ _ _ ?_
    unfold F109 F109_0
    rw [bin_rem (by decide), bin_sub]
    exact hk
  · cases he
end Go.Proofs.YtjdhldfeflmneaaGreat
