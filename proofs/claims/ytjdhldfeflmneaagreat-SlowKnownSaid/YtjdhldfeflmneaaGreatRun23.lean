/-
  'awake', by the executor.
-/
import Derived.Test.YtjdhldfeflmneaaGreatQS0
import Derived.Test.YtjdhldfeflmneaaGreatQS1
import Derived.Test.YtjdhldfeflmneaaGreatE4
import Derived.Test.YtjdhldfeflmneaaGreatLI
import Derived.KernelRfl
namespace Go.Proofs.YtjdhldfeflmneaaGreat
open Go.Proofs.YtjdhldfeflmneaaGreat.AM
noncomputable def SA23 : CallF := orS (s_local qs0) (orS (s_local qs1) (SE4))
theorem SA23_ok : CallOk Tryz.prog SA23 := orS_ok (s_local_ok CC_ok qs0_ok) (orS_ok (s_local_ok CC_ok qs1_ok) (SE4_ok))
theorem run23 : okT (runEW Tryz.prog SA23 (nthN masks) (litOf 25 28 6 ps25) pl25 100000 23) = true := by kernel_rfl
theorem awake23 (h : H) : AM.Spec Tryz.prog 23 [] h fun v h' => v = .bool true ∧ Sub h h' := spec_trueW mixed SA23_ok lit25 run23 h
end Go.Proofs.YtjdhldfeflmneaaGreat
