/-
  'PlainKnown', by the executor.
-/
import Derived.Test.YtjdhldfeflmneaaGreatQP1
import Derived.Test.YtjdhldfeflmneaaGreatQP2
import Derived.Test.YtjdhldfeflmneaaGreatQP3
import Derived.Test.YtjdhldfeflmneaaGreatRun19
import Derived.KernelRfl
namespace Go.Proofs.YtjdhldfeflmneaaGreat
open Go.Proofs.YtjdhldfeflmneaaGreat.AM
noncomputable def SL5 : CallF := orS (s_local qp1) (orS (s_local qp2) (orS (s_local qp3) (ST 19 SE4)))
theorem SL5_ok : CallOk Tryz.prog SL5 := orS_ok (s_local_ok CC_ok qp1_ok) (orS_ok (s_local_ok CC_ok qp2_ok) (orS_ok (s_local_ok CC_ok qp3_ok) (ST_ok SE4_ok awake19)))
theorem run5 : okT (runE Tryz.prog SL5 (nthN masks) 100000 5) = true := by kernel_rfl
theorem law5 (h : H) : AM.Spec Tryz.prog 5 [] h fun v h' => v = .bool true ∧ Sub h h' := spec_true mixed SL5_ok run5 h
end Go.Proofs.YtjdhldfeflmneaaGreat
