/-
  A call by the executor with all summaries.
-/
import Derived.Test.YtjdhldfeflmneaaGreatE4
namespace Go.Proofs.YtjdhldfeflmneaaGreat
open Go.Proofs.YtjdhldfeflmneaaGreat.AM
noncomputable def CC4 : CallF := callS Tryz.prog SE4 (nthN masks)
theorem CC4_ok : CallOk Tryz.prog CC4 := callS_ok SE4_ok _
end Go.Proofs.YtjdhldfeflmneaaGreat
