/-
  'LowerKnown' by the executor.
-/
import Derived.Test.YtjdhldfeflmneaaGreatRun8
import Derived.Test.YtjdhldfeflmneaaGreatQP1
import Derived.KernelRfl
namespace Go.Proofs.YtjdhldfeflmneaaGreat
open Go.Proofs.YtjdhldfeflmneaaGreat.AM
noncomputable def SL : CallF := orS (s_local q_pair1) SD
theorem SL_ok : CallOk Tryz.prog SL := orS_ok (s_local_ok CC_ok q_pair1_ok) SD_ok
noncomputable def runL (f : Nat) : Res := runE Tryz.prog SL (nthN masks) 100000 f
theorem spec_l {f : Nat} (he : okT (runL f) = true) (h : H) : AM.Spec Tryz.prog f [] h fun v h' => v = .bool true ∧ Sub h h' := spec_true mixed SL_ok he h
theorem run3 : okT (runL 3) = true := by kernel_rfl
end Go.Proofs.YtjdhldfeflmneaaGreat
