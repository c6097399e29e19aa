/-
  The executor over this program, with pages in their order and a page's bytes.
-/
import Derived.Test.YtjdhldfeflmneaaGreatBY1
namespace Go.Proofs.YtjdhldfeflmneaaGreat
open Go.Proofs.YtjdhldfeflmneaaGreat.AM
noncomputable section
def SE4 : CallF := orS s_pages (orS s_bytes SE)
theorem SE4_ok : CallOk Tryz.prog SE4 := orS_ok s_pages_ok (orS_ok s_bytes_ok SE_ok)
end
end Go.Proofs.YtjdhldfeflmneaaGreat
