/-
  Facts of function 5 that its row asks: what the kernel reckons over all that the function reaches.
-/
import Derived.Test.YtjdhldfeflmneaaGreatRows
import Derived.KernelRfl
namespace Go.Proofs.YtjdhldfeflmneaaGreat
theorem inPlace5 : Tryz.prog.inPlace 5 = Rows.plainKnownRow.inPlace := by kernel_rfl
theorem unfollowed5 : Tryz.prog.unfollowed 5 = Rows.plainKnownRow.unfollowed := by kernel_rfl
theorem recurses5 : Tryz.prog.recurses 5 = Rows.plainKnownRow.recurses := by kernel_rfl
theorem named5 : Tryz.prog.varsNamed 5 = Rows.plainKnownRow.named := by kernel_rfl
end Go.Proofs.YtjdhldfeflmneaaGreat
