/-
  Facts of the law's function that its row asks: what the kernel reckons over all that the function reaches.
-/
import Derived.Test.YtcohcmlidmaaoaaGreatRows
import Derived.KernelRfl
namespace Go.Proofs.YtcohcmlidmaaoaaGreat
theorem inPlace3 : Tryz.prog.inPlace 3 = Rows.execMarksRow.inPlace := by kernel_rfl
theorem unfollowed3 : Tryz.prog.unfollowed 3 = Rows.execMarksRow.unfollowed := by kernel_rfl
theorem recurses3 : Tryz.prog.recurses 3 = Rows.execMarksRow.recurses := by kernel_rfl
theorem named3 : Tryz.prog.varsNamed 3 = Rows.execMarksRow.named := by kernel_rfl
end Go.Proofs.YtcohcmlidmaaoaaGreat
