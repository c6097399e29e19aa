/-
  A function that makes a list of numbers, for regions that draw their order.
-/
import Derived.Test.YtbmfblmebhobiaaGreatX11
import Derived.Test.YtbmfblmebhobiaaGreatK2
import Derived.KernelRfl
set_option linter.unusedVariables false
set_option maxRecDepth 100000
namespace Go.Proofs.YtbmfblmebhobiaaGreat
open Go.Proofs.YtbmfblmebhobiaaGreat.AM
def F6_0 (h : H) (Kn : Value → H → Prop) (Kr : Value → H → Prop) : Prop :=
  o_buildSlice Tryz.prog 35 6 [(0, (.int .u32 66999)), (1, (.int .u32 4195859)), (2, (.int .u32 66062483)), (3, (.int .u32 115)), (4, (.int .u32 369283)), (5, (.int .u32 163943))] h fun v1 h => Kr v1 h
theorem F6_0_ok (Kn Kr) (t : T) (h : H) (H0 : F6_0  h Kn Kr) : Wp Tryz.prog 2 (bodyOf Tryz.f6.body) (mkQ (fun t h => Kn (t 0) h) (fun t h => Kr (t 0) h) ke0) t h :=
  wpEqF H0 (by kernel_rfl)
def F6 (h : H) (Q : Value → H → Prop) : Prop := F6_0  h (fun v h => Q v h) (fun v h => Q v h)
theorem F6_spec (h : H) (Q : Value → H → Prop) (H0 : F6  h Q) : AM.Spec Tryz.prog 6 [] h Q :=
  spec_wp mixed (fn := Tryz.f6) Tryz.func6 (c := bodyOf Tryz.f6.body) (rs := [0]) (N := 2) (by kernel_rfl) (by kernel_rfl) (by kernel_rfl) (by kernel_rfl) (by kernel_rfl) (Nat.le_of_ble_eq_true rfl) (F6_0_ok (fun v h => Q v h) (fun v h => Q v h) (tinit []) h H0) (by kernel_rfl)
def ps6 : Array (Nat × Operand) := #[(0, .const (.int .u32 66999)), (1, .const (.int .u32 4195859)), (2, .const (.int .u32 66062483)), (3, .const (.int .u32 115)), (4, .const (.int .u32 369283)), (5, .const (.int .u32 163943))]
def pl4 : List (Nat × Nat) := [(3, 0), (1, 1), (2, 0), (0, 1), (4, 2), (5, 0), (6, 0), (7, 0), (8, 0), (9, 0)]
def pl3 : List (Nat × Nat) := [(4, 0), (1, 0), (2, 1), (3, 0), (0, 1), (5, 2), (6, 0), (7, 0), (8, 0), (9, 0), (10, 0)]
theorem lit6 : IsLit Tryz.prog 6 35 6 ps6 := ⟨by kernel_rfl, fun t h K ho => F6_spec _ _ ho⟩
end Go.Proofs.YtbmfblmebhobiaaGreat
