/-
  Facts of function 4 that its row asks: what the kernel reckons over all that the function reaches.
-/
import Derived.Test.YtjdhldfeflmneaaGreatRows
import Derived.KernelRfl
namespace Go.Proofs.YtjdhldfeflmneaaGreat
theorem inPlace4 : Tryz.prog.inPlace 4 = Rows.weaveKnownRow.inPlace := by kernel_rfl
theorem unfollowed4 : Tryz.prog.unfollowed 4 = Rows.weaveKnownRow.unfollowed := by kernel_rfl
theorem recurses4 : Tryz.prog.recurses 4 = Rows.weaveKnownRow.recurses := by kernel_rfl
theorem named4 : Tryz.prog.varsNamed 4 = Rows.weaveKnownRow.named := by kernel_rfl
end Go.Proofs.YtjdhldfeflmneaaGreat
