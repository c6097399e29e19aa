/-
  'WeaveKnown', by the executor.
-/
import Derived.Test.YtjdhldfeflmneaaGreatQW1
import Derived.Test.YtjdhldfeflmneaaGreatQW2
import Derived.Test.YtjdhldfeflmneaaGreatRun14
import Derived.KernelRfl
namespace Go.Proofs.YtjdhldfeflmneaaGreat
open Go.Proofs.YtjdhldfeflmneaaGreat.AM
noncomputable def SL4 : CallF := orS (s_local qw_m) (orS (s_local qw_n) (ST 14 SE))
theorem SL4_ok : CallOk Tryz.prog SL4 := orS_ok (s_local_ok CC_ok qw_m_ok) (orS_ok (s_local_ok CC_ok qw_n_ok) (ST_ok SE_ok awake14))
theorem run4 : okT (runE Tryz.prog SL4 (nthN masks) 100000 4) = true := by kernel_rfl
theorem law4 (h : H) : AM.Spec Tryz.prog 4 [] h fun v h' => v = .bool true ∧ Sub h h' := spec_true mixed SL4_ok run4 h
end Go.Proofs.YtjdhldfeflmneaaGreat
