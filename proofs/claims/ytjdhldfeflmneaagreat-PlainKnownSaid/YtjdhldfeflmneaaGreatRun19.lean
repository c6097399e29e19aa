/-
  'awake', by the executor.
-/
import Derived.Test.YtjdhldfeflmneaaGreatQP0
import Derived.Test.YtjdhldfeflmneaaGreatE4
import Derived.KernelRfl
namespace Go.Proofs.YtjdhldfeflmneaaGreat
open Go.Proofs.YtjdhldfeflmneaaGreat.AM
noncomputable def SA19 : CallF := orS (s_local qp0) (SE4)
theorem SA19_ok : CallOk Tryz.prog SA19 := orS_ok (s_local_ok CC_ok qp0_ok) (SE4_ok)
theorem run19 : okT (runE Tryz.prog SA19 (nthN masks) 100000 19) = true := by kernel_rfl
theorem awake19 (h : H) : AM.Spec Tryz.prog 19 [] h fun v h' => v = .bool true ∧ Sub h h' := spec_true mixed SA19_ok run19 h
end Go.Proofs.YtjdhldfeflmneaaGreat
