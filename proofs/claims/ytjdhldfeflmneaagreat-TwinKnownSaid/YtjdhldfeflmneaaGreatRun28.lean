/-
  'awake', by the executor.
-/
import Derived.Test.YtjdhldfeflmneaaGreatQT0
import Derived.Test.YtjdhldfeflmneaaGreatQT1
import Derived.Test.YtjdhldfeflmneaaGreatQM1
import Derived.Test.YtjdhldfeflmneaaGreatQM2
import Derived.Test.YtjdhldfeflmneaaGreatE6
import Derived.KernelRfl
namespace Go.Proofs.YtjdhldfeflmneaaGreat
open Go.Proofs.YtjdhldfeflmneaaGreat.AM
noncomputable def SA28 : CallF := orS (s_local qt0) (orS (s_local qt1) (orS (s_local qrun1) (orS (s_local qrun2) (SE4))))
theorem SA28_ok : CallOk Tryz.prog SA28 := orS_ok (s_local_ok CC_ok qt0_ok) (orS_ok (s_local_ok CC_ok qt1_ok) (orS_ok (s_local_ok CR1_ok qrun1_ok) (orS_ok (s_local_ok CR2_ok qrun2_ok) (SE4_ok))))
theorem run28 : okT (runE Tryz.prog SA28 (nthN masks) 100000 28) = true := by kernel_rfl
theorem awake28 (h : H) : AM.Spec Tryz.prog 28 [] h fun v h' => v = .bool true ∧ Sub h h' := spec_true mixed SA28_ok run28 h
end Go.Proofs.YtjdhldfeflmneaaGreat
