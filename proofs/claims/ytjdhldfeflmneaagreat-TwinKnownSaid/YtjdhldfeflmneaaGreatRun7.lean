/-
  'TwinKnown', by the executor.
-/
import Derived.Test.YtjdhldfeflmneaaGreatQT2
import Derived.Test.YtjdhldfeflmneaaGreatQT3
import Derived.Test.YtjdhldfeflmneaaGreatQM3
import Derived.Test.YtjdhldfeflmneaaGreatQM4
import Derived.Test.YtjdhldfeflmneaaGreatRun28
import Derived.KernelRfl
namespace Go.Proofs.YtjdhldfeflmneaaGreat
open Go.Proofs.YtjdhldfeflmneaaGreat.AM
noncomputable def SL7 : CallF := orS (s_local qt2) (orS (s_local qt3) (orS (s_local qrun3) (orS (s_local qrun4) (ST 28 SE4))))
theorem SL7_ok : CallOk Tryz.prog SL7 := orS_ok (s_local_ok CC_ok qt2_ok) (orS_ok (s_local_ok CC_ok qt3_ok) (orS_ok (s_local_ok CR3_ok qrun3_ok) (orS_ok (s_local_ok CR4_ok qrun4_ok) (ST_ok SE4_ok awake28))))
theorem run7 : okT (runE Tryz.prog SL7 (nthN masks) 100000 7) = true := by kernel_rfl
theorem law7 (h : H) : AM.Spec Tryz.prog 7 [] h fun v h' => v = .bool true ∧ Sub h h' := spec_true mixed SL7_ok run7 h
end Go.Proofs.YtjdhldfeflmneaaGreat
