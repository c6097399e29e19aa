/-
  A call of twin.Run, run once.
-/
import Derived.Test.YtjdhldfeflmneaaGreatQX1
import Derived.Test.YtjdhldfeflmneaaGreatQY1
import Derived.KernelRfl
namespace Go.Proofs.YtjdhldfeflmneaaGreat
open Go.Proofs.YtjdhldfeflmneaaGreat.AM
noncomputable def CR1 : CallF := callS Tryz.prog (orS (s_local qm1) (orS (s_local qg1) SE4)) (nthN masks)
theorem CR1_ok : CallOk Tryz.prog CR1 := callS_ok (orS_ok (s_local_ok CC6_ok qm1_ok) (orS_ok (s_local_ok CC6_ok qg1_ok) SE4_ok)) _
theorem qrun1_ok : LQ.Ok CR1 qrun1 := ⟨by kernel_rfl, by kernel_rfl, by kernel_rfl⟩
end Go.Proofs.YtjdhldfeflmneaaGreat
