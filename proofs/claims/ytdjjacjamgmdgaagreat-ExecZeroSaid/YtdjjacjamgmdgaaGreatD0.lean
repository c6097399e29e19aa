import Derived.Test.YtdjjacjamgmdgaaGreatG0
import Derived.Test.YtdjjacjamgmdgaaGreatAMDrawD
set_option linter.unusedVariables false
namespace Go.Proofs.YtdjjacjamgmdgaaGreat
open Go.Proofs.YtdjjacjamgmdgaaGreat.AM
/-- What 'base' computes. -/
def D0 : DF := fun f args => match f, args with
  | 97, [.int .u32 n] => some (.int .u32 (IntKind.u32.wrap (n - n.tmod 256)))
  | _, _ => none
theorem dOk : DOk Tryz.prog D0 := by
  intro f args v h K he hk
  unfold D0 at he
  split at he
  · rename_i n
    cases he
    refine F97_spec _ _ _ ?_
    unfold F97 F97_0
    rw [bin_rem (by decide), bin_sub]
    exact hk
  · cases he
end Go.Proofs.YtdjjacjamgmdgaaGreat
