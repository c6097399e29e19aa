/-
  Facts of the whole program that each row asks.
-/
import Derived.Test.YtbmfblmebhobiaaGreatRows
import Derived.KernelRfl
import Derived.ProofKit
namespace Go.Proofs.YtbmfblmebhobiaaGreat
theorem Tryz.own : ownKnob Tryz.prog.godebug = none := by kernel_rfl
theorem Tryz.laidOut : laidOutB Tryz.prog = true := by kernel_rfl
theorem P_mapsRowed : mapsRowed Tryz.prog = true := by kernel_rfl
theorem P_stopsHeard : Tryz.prog.stopsHeard = true := by kernel_rfl
theorem P_mayEnter : Tryz.prog.mayEnter = true := by kernel_rfl
theorem P_liftsFinal : Tryz.prog.liftsFinal = Rows.slowReadRow.lifted := by kernel_rfl
end Go.Proofs.YtbmfblmebhobiaaGreat
