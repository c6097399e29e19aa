/-
  'awake', by the executor.
-/
import Derived.Test.YtbmfblmebhobiaaGreatQS0
import Derived.Test.YtbmfblmebhobiaaGreatQS1
import Derived.Test.YtbmfblmebhobiaaGreatLI
import Derived.KernelRfl
namespace Go.Proofs.YtbmfblmebhobiaaGreat
open Go.Proofs.YtbmfblmebhobiaaGreat.AM
noncomputable def SA4 : CallF := orS (s_local qs0) (orS (s_local qs1) (SE))
theorem SA4_ok : CallOk Tryz.prog SA4 := orS_ok (s_local_ok CC_ok qs0_ok) (orS_ok (s_local_ok CC_ok qs1_ok) (SE_ok))
theorem run4 : okT (runEW Tryz.prog SA4 (nthN masks) (litOf 6 35 6 ps6) pl4 100000 4) = true := by kernel_rfl
theorem awake4 (h : H) : AM.Spec Tryz.prog 4 [] h fun v h' => v = .bool true ∧ Sub h h' := spec_trueW mixed SA4_ok lit6 run4 h
end Go.Proofs.YtbmfblmebhobiaaGreat
