/-
  Facts of function 6 that its row asks: what the kernel reckons over all that the function reaches.
-/
import Derived.Test.YtjdhldfeflmneaaGreatRows
import Derived.KernelRfl
namespace Go.Proofs.YtjdhldfeflmneaaGreat
theorem inPlace6 : Tryz.prog.inPlace 6 = Rows.slowKnownRow.inPlace := by kernel_rfl
theorem unfollowed6 : Tryz.prog.unfollowed 6 = Rows.slowKnownRow.unfollowed := by kernel_rfl
theorem recurses6 : Tryz.prog.recurses 6 = Rows.slowKnownRow.recurses := by kernel_rfl
theorem named6 : Tryz.prog.varsNamed 6 = Rows.slowKnownRow.named := by kernel_rfl
end Go.Proofs.YtjdhldfeflmneaaGreat
