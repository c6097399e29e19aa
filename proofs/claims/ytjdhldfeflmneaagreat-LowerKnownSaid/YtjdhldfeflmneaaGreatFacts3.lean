/-
  Facts of function 3 that its row asks: what the kernel reckons over all that the function reaches.
-/
import Derived.Test.YtjdhldfeflmneaaGreatRows
import Derived.KernelRfl
namespace Go.Proofs.YtjdhldfeflmneaaGreat
theorem inPlace3 : Tryz.prog.inPlace 3 = Rows.lowerKnownRow.inPlace := by kernel_rfl
theorem unfollowed3 : Tryz.prog.unfollowed 3 = Rows.lowerKnownRow.unfollowed := by kernel_rfl
theorem recurses3 : Tryz.prog.recurses 3 = Rows.lowerKnownRow.recurses := by kernel_rfl
theorem named3 : Tryz.prog.varsNamed 3 = Rows.lowerKnownRow.named := by kernel_rfl
end Go.Proofs.YtjdhldfeflmneaaGreat
