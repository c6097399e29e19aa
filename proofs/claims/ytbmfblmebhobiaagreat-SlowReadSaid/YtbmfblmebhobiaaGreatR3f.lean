/-
  'SlowRead', by the executor: one of two runs.
-/
import Derived.Test.YtbmfblmebhobiaaGreatRB3
import Derived.KernelRfl
namespace Go.Proofs.YtbmfblmebhobiaaGreat
open Go.Proofs.YtbmfblmebhobiaaGreat.AM
theorem run3f : okT (runEWA Tryz.prog SL3 (nthN masks) (litOf 6 35 6 ps6) pl3 100000 3 (args3 false) eh3 3) = true := by kernel_rfl
end Go.Proofs.YtbmfblmebhobiaaGreat
