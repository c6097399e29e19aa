/-
  A call by the executor with all summaries, and with twin.memory.
-/
import Derived.Test.YtjdhldfeflmneaaGreatTM
namespace Go.Proofs.YtjdhldfeflmneaaGreat
open Go.Proofs.YtjdhldfeflmneaaGreat.AM
noncomputable def SE6 : CallF := orS s_mem85 SE4
theorem SE6_ok : CallOk Tryz.prog SE6 := orS_ok s_mem85_ok SE4_ok
noncomputable def CC6 : CallF := callS Tryz.prog SE6 (nthN masks)
theorem CC6_ok : CallOk Tryz.prog CC6 := callS_ok SE6_ok _
end Go.Proofs.YtjdhldfeflmneaaGreat
