/-
  A call of twin.Run, run once.
-/
import Derived.Test.YtjdhldfeflmneaaGreatQX3
import Derived.Test.YtjdhldfeflmneaaGreatQY3
import Derived.KernelRfl
namespace Go.Proofs.YtjdhldfeflmneaaGreat
open Go.Proofs.YtjdhldfeflmneaaGreat.AM
noncomputable def CR3 : CallF := callS Tryz.prog (orS (s_local qm3) (orS (s_local qg3) SE4)) (nthN masks)
theorem CR3_ok : CallOk Tryz.prog CR3 := callS_ok (orS_ok (s_local_ok CC6_ok qm3_ok) (orS_ok (s_local_ok CC6_ok qg3_ok) SE4_ok)) _
theorem qrun3_ok : LQ.Ok CR3 qrun3 := ⟨by kernel_rfl, by kernel_rfl, by kernel_rfl⟩
end Go.Proofs.YtjdhldfeflmneaaGreat
