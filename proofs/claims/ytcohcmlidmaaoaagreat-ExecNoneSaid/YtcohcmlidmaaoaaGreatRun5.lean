/-
  'awake' of tincturelaw20, by the executor.
-/
import Derived.Test.YtcohcmlidmaaoaaGreatK1
import Derived.KernelRfl
namespace Go.Proofs.YtcohcmlidmaaoaaGreat
open Go.Proofs.YtcohcmlidmaaoaaGreat.AM
theorem run5 : okT (runC 5) = true := by kernel_rfl
theorem awake5 (h : H) : AM.Spec Tryz.prog 5 [] h fun v h' => v = .bool true ∧ Sub h h' := spec_c run5 h
end Go.Proofs.YtcohcmlidmaaoaaGreat
