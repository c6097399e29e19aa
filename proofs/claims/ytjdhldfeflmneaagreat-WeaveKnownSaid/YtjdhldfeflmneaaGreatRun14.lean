/-
  'awake', by the executor.
-/
import Derived.Test.YtjdhldfeflmneaaGreatQW0
import Derived.Test.YtjdhldfeflmneaaGreatK2
import Derived.KernelRfl
namespace Go.Proofs.YtjdhldfeflmneaaGreat
open Go.Proofs.YtjdhldfeflmneaaGreat.AM
noncomputable def SA14 : CallF := orS (s_local qw_awake) (SE)
theorem SA14_ok : CallOk Tryz.prog SA14 := orS_ok (s_local_ok CC_ok qw_awake_ok) (SE_ok)
theorem run14 : okT (runE Tryz.prog SA14 (nthN masks) 100000 14) = true := by kernel_rfl
theorem awake14 (h : H) : AM.Spec Tryz.prog 14 [] h fun v h' => v = .bool true ∧ Sub h h' := spec_true mixed SA14_ok run14 h
end Go.Proofs.YtjdhldfeflmneaaGreat
