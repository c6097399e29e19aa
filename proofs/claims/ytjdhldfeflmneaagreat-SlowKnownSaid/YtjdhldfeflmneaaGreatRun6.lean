/-
  'SlowKnown', by the executor.
-/
import Derived.Test.YtjdhldfeflmneaaGreatQS0
import Derived.Test.YtjdhldfeflmneaaGreatQS2
import Derived.Test.YtjdhldfeflmneaaGreatRun23
import Derived.Test.YtjdhldfeflmneaaGreatQR0
import Derived.Test.YtjdhldfeflmneaaGreatQR2
import Derived.Test.YtjdhldfeflmneaaGreatLI
import Derived.KernelRfl
namespace Go.Proofs.YtjdhldfeflmneaaGreat
open Go.Proofs.YtjdhldfeflmneaaGreat.AM
noncomputable def SL6 : CallF := orS (s_local qs0) (orS (s_local qs2) (orS (s_local qsr0) (orS (s_local qsr2) (ST 23 SE4))))
theorem SL6_ok : CallOk Tryz.prog SL6 := orS_ok (s_local_ok CC_ok qs0_ok) (orS_ok (s_local_ok CC_ok qs2_ok) (orS_ok (s_local_ok CC4_ok qsr0_ok) (orS_ok (s_local_ok CC4_ok qsr2_ok) (ST_ok SE4_ok awake23))))
theorem run6 : okT (runEW Tryz.prog SL6 (nthN masks) (litOf 25 28 6 ps25) pl25 100000 6) = true := by kernel_rfl
theorem law6 (h : H) : AM.Spec Tryz.prog 6 [] h fun v h' => v = .bool true ∧ Sub h h' := spec_trueW mixed SL6_ok lit25 run6 h
end Go.Proofs.YtjdhldfeflmneaaGreat
