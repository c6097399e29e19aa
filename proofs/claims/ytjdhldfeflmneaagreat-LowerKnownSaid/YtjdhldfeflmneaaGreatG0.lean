/-
  Functions of the program, taken apart over the abstract memory: each piece of the loaded code as a proposition; printed by a program (gen.py).
-/
import Derived.Test.YtjdhldfeflmneaaGreatProg
import Derived.Test.YtjdhldfeflmneaaGreatAMFunc
import Derived.KernelRfl
set_option linter.unusedVariables false
namespace Go.Proofs.YtjdhldfeflmneaaGreat
open Go.Proofs.YtjdhldfeflmneaaGreat.AM
theorem mixed : Tryz.prog.follows .mixedOrders = true := by kernel_rfl
/-! #### 109: tincture/mem.base -/
def F109_0 (x0 : Value) (h : H) (Kn : Value → H → Prop) (Kr : Value → H → Prop) : Prop :=
  o_bin Tryz.prog .rem 27 x0 (.int .u32 256) fun v5 => o_bin Tryz.prog .sub 27 x0 v5 fun v6 => Kr v6 h
theorem F109_0_ok (Kn Kr) (t : T) (h : H) (H0 : F109_0 (t 0) h Kn Kr) : Wp Tryz.prog 7 (bodyOf Tryz.f109.body) (mkQ (fun t h => Kn (t 2) h) (fun t h => Kr (t 2) h) ke0) t h :=
  wpEqF H0 (by kernel_rfl)
def F109 (x0 : Value) (h : H) (Q : Value → H → Prop) : Prop := F109_0 x0 h (fun v h => Q v h) (fun v h => Q v h)
theorem F109_spec (x0 : Value) (h : H) (Q : Value → H → Prop) (H0 : F109 x0 h Q) : AM.Spec Tryz.prog 109 [x0] h Q :=
  spec_wp mixed (fn := Tryz.f109) Tryz.func109 (c := bodyOf Tryz.f109.body) (rs := [2]) (N := 7) (by kernel_rfl) (by kernel_rfl) (by kernel_rfl) (by kernel_rfl) (by kernel_rfl) (Nat.le_of_ble_eq_true rfl) (F109_0_ok (fun v h => Q v h) (fun v h => Q v h) (tinit [x0]) h H0) (by kernel_rfl)
end Go.Proofs.YtjdhldfeflmneaaGreat
