/-
  A call of twin.Run, run once.
-/
import Derived.Test.YtjdhldfeflmneaaGreatQD4
import Derived.Test.YtjdhldfeflmneaaGreatE6
import Derived.KernelRfl
namespace Go.Proofs.YtjdhldfeflmneaaGreat
open Go.Proofs.YtjdhldfeflmneaaGreat.AM
noncomputable def CR4 : CallF := callS Tryz.prog (SE4) (nthN masks)
theorem CR4_ok : CallOk Tryz.prog CR4 := callS_ok (SE4_ok) _
theorem qrun4_ok : LQ.Ok CR4 qrun4 := ⟨by kernel_rfl, by kernel_rfl, by kernel_rfl⟩
end Go.Proofs.YtjdhldfeflmneaaGreat
