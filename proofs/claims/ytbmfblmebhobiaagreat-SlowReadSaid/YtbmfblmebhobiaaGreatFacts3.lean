/-
  Facts of function 3 that its row asks: what the kernel reckons over all that the function reaches.
-/
import Derived.Test.YtbmfblmebhobiaaGreatRows
import Derived.KernelRfl
namespace Go.Proofs.YtbmfblmebhobiaaGreat
theorem inPlace3 : Tryz.prog.inPlace 3 = Rows.slowReadRow.inPlace := by kernel_rfl
theorem unfollowed3 : Tryz.prog.unfollowed 3 = Rows.slowReadRow.unfollowed := by kernel_rfl
theorem recurses3 : Tryz.prog.recurses 3 = Rows.slowReadRow.recurses := by kernel_rfl
theorem named3 : Tryz.prog.varsNamed 3 = Rows.slowReadRow.named := by kernel_rfl
end Go.Proofs.YtbmfblmebhobiaaGreat
