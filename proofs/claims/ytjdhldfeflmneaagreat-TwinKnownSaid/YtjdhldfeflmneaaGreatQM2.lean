/-
  A call of twin.Run, run once.
-/
import Derived.Test.YtjdhldfeflmneaaGreatQX2
import Derived.Test.YtjdhldfeflmneaaGreatQY2
import Derived.KernelRfl
namespace Go.Proofs.YtjdhldfeflmneaaGreat
open Go.Proofs.YtjdhldfeflmneaaGreat.AM
noncomputable def CR2 : CallF := callS Tryz.prog (orS (s_local qm2) (orS (s_local qg2) SE4)) (nthN masks)
theorem CR2_ok : CallOk Tryz.prog CR2 := callS_ok (orS_ok (s_local_ok CC6_ok qm2_ok) (orS_ok (s_local_ok CC6_ok qg2_ok) SE4_ok)) _
theorem qrun2_ok : LQ.Ok CR2 qrun2 := ⟨by kernel_rfl, by kernel_rfl, by kernel_rfl⟩
end Go.Proofs.YtjdhldfeflmneaaGreat
