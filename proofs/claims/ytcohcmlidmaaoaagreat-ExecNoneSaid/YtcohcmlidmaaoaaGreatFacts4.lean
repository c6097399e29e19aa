/-
  Facts of the law's function that its row asks: what the kernel reckons over all that the function reaches.
-/
import Derived.Test.YtcohcmlidmaaoaaGreatRows
import Derived.KernelRfl
namespace Go.Proofs.YtcohcmlidmaaoaaGreat
theorem inPlace4 : Tryz.prog.inPlace 4 = Rows.execNoneRow.inPlace := by kernel_rfl
theorem unfollowed4 : Tryz.prog.unfollowed 4 = Rows.execNoneRow.unfollowed := by kernel_rfl
theorem recurses4 : Tryz.prog.recurses 4 = Rows.execNoneRow.recurses := by kernel_rfl
theorem named4 : Tryz.prog.varsNamed 4 = Rows.execNoneRow.named := by kernel_rfl
end Go.Proofs.YtcohcmlidmaaoaaGreat
