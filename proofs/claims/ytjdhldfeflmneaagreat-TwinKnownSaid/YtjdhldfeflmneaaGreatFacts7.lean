/-
  Facts of function 7 that its row asks: what the kernel reckons over all that the function reaches.
-/
import Derived.Test.YtjdhldfeflmneaaGreatRows
import Derived.KernelRfl
namespace Go.Proofs.YtjdhldfeflmneaaGreat
theorem inPlace7 : Tryz.prog.inPlace 7 = Rows.twinKnownRow.inPlace := by kernel_rfl
theorem unfollowed7 : Tryz.prog.unfollowed 7 = Rows.twinKnownRow.unfollowed := by kernel_rfl
theorem recurses7 : Tryz.prog.recurses 7 = Rows.twinKnownRow.recurses := by kernel_rfl
theorem named7 : Tryz.prog.varsNamed 7 = Rows.twinKnownRow.named := by kernel_rfl
end Go.Proofs.YtjdhldfeflmneaaGreat
