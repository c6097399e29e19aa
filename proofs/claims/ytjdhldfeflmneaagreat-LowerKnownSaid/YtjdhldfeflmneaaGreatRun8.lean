/-
  'awake' of tincturelaw21, by the executor.
-/
import Derived.Test.YtjdhldfeflmneaaGreatE2
import Derived.KernelRfl
namespace Go.Proofs.YtjdhldfeflmneaaGreat
open Go.Proofs.YtjdhldfeflmneaaGreat.AM
theorem run8 : okT (runC 8) = true := by kernel_rfl
noncomputable def SD : CallF := ST 8 (SC Tryz.prog (nthN masks))
theorem SD_ok : CallOk Tryz.prog SD := ST_ok (SC_ok _) fun h => spec_c run8 h
noncomputable def runD (f : Nat) : Res := runE Tryz.prog SD (nthN masks) 100000 f
theorem spec_d {f : Nat} (he : okT (runD f) = true) (h : H) : AM.Spec Tryz.prog f [] h fun v h' => v = .bool true ∧ Sub h h' := spec_true mixed SD_ok he h
end Go.Proofs.YtjdhldfeflmneaaGreat
