/-
  cmp.Less at uint32.
-/
import Derived.Test.YtcohcmlidmaaoaaGreatProg
import Derived.Test.YtcohcmlidmaaoaaGreatK1
import Derived.KernelRfl
set_option linter.unusedVariables false
set_option maxRecDepth 100000
namespace Go.Proofs.YtcohcmlidmaaoaaGreat
open Go.Proofs.YtcohcmlidmaaoaaGreat.AM
/-! #### 355: cmp.isNaN[uint32] -/
def F190_0 (x0 : Value) (h : H) (Kn : Value → H → Prop) (Kr : Value → H → Prop) : Prop :=
  o_bin Tryz.prog .neq 27 x0 x0 fun v5 => Kr v5 h
theorem F190_0_ok (Kn Kr) (t : T) (h : H) (H0 : F190_0 (t 0) h Kn Kr) : Wp Tryz.prog 6 (bodyOf Tryz.f190.body) (mkQ (fun t h => Kn (t 2) h) (fun t h => Kr (t 2) h) ke0) t h :=
  wpEqF H0 (by kernel_rfl)
def F190 (x0 : Value) (h : H) (Q : Value → H → Prop) : Prop := F190_0 x0 h (fun v h => Q v h) (fun v h => Q v h)
theorem F190_spec (x0 : Value) (h : H) (Q : Value → H → Prop) (H0 : F190 x0 h Q) : AM.Spec Tryz.prog 190 [x0] h Q :=
  spec_wp mixed (fn := Tryz.f190) Tryz.func190 (c := bodyOf Tryz.f190.body) (rs := [2]) (N := 6) (by kernel_rfl) (by kernel_rfl) (by kernel_rfl) (by kernel_rfl) (by kernel_rfl) (Nat.le_of_ble_eq_true rfl) (F190_0_ok (fun v h => Q v h) (fun v h => Q v h) (tinit [x0]) h H0) (by kernel_rfl)
def F179_0 (x0 x1 : Value) (h : H) (Kn : Value → H → Prop) (Kr : Value → H → Prop) : Prop :=
  o_call Tryz.prog 190 [x0] h fun v6 h => o_guard v6 true (fun k5 => o_call Tryz.prog 190 [x1] h fun v9 h => o_un Tryz.prog .not v9 fun v10 => k5 v10 h) (fun v10 h => o_pick v6 v10 (.bool false) fun v11 => o_guard v11 false (fun k10 => o_bin Tryz.prog .lss 27 x0 x1 fun v15 => k10 v15 h) (fun v15 h => o_pick v11 (.bool true) v15 fun v16 => Kr v16 h) h) h
theorem F179_0_ok (Kn Kr) (t : T) (h : H) (H0 : F179_0 (t 0) (t 1) h Kn Kr) : Wp Tryz.prog 17 (bodyOf Tryz.f179.body) (mkQ (fun t h => Kn (t 4) h) (fun t h => Kr (t 4) h) ke0) t h :=
  wpEqF H0 (by kernel_rfl)
def F179 (x0 x1 : Value) (h : H) (Q : Value → H → Prop) : Prop := F179_0 x0 x1 h (fun v h => Q v h) (fun v h => Q v h)
theorem F179_spec (x0 x1 : Value) (h : H) (Q : Value → H → Prop) (H0 : F179 x0 x1 h Q) : AM.Spec Tryz.prog 179 [x0, x1] h Q :=
  spec_wp mixed (fn := Tryz.f179) Tryz.func179 (c := bodyOf Tryz.f179.body) (rs := [4]) (N := 17) (by kernel_rfl) (by kernel_rfl) (by kernel_rfl) (by kernel_rfl) (by kernel_rfl) (Nat.le_of_ble_eq_true rfl) (F179_0_ok (fun v h => Q v h) (fun v h => Q v h) (tinit [x0, x1]) h H0) (by kernel_rfl)
theorem isNaN_ok {x : Int} {h : H} {Q : Value → H → Prop} (hq : Q (.bool false) h) : AM.Spec Tryz.prog 190 [.int .u32 x] h Q := by
  refine F190_spec _ _ _ ?_
  unfold F190 F190_0
  rw [bin_neq]
  simpa using hq
theorem less_ok {x y : Int} {h : H} {Q : Value → H → Prop} (hq : Q (.bool (decide (x < y))) h) : AM.Spec Tryz.prog 179 [.int .u32 x, .int .u32 y] h Q := by
  refine F179_spec _ _ _ _ ?_
  unfold F179 F179_0
  refine ⟨rfl, isNaN_ok ?_⟩
  rw [guard_ft]
  show o_guard (.bool false) false (fun k10 => o_bin Tryz.prog .lss 27 (.int .u32 x) (.int .u32 y) fun v15 => k10 v15 h) (fun v15 h => o_pick (.bool false) (.bool true) v15 fun v16 => Q v16 h) h
  rw [guard_ff]
  simp only [bin_lss]
  exact hq
def DS : DF := fun f args => match f, args with
  | 179, [.int .u32 x, .int .u32 y] => some (.bool (decide (x < y)))
  | _, _ => none
theorem dsOk : DOk Tryz.prog DS := by
  intro f args v h K he hk
  unfold DS at he
  split at he
  · cases he
    exact less_ok hk
  · cases he
theorem dLess {x y : Int} {h : H} {K : Value → H → Prop} : o_dcall DS 179 [.int .u32 x, .int .u32 y] h K = K (.bool (decide (x < y))) h := by
  simp only [o_dcall, DS, List.all_cons, List.all_nil, bx_int, Bool.and_self, true_and]
end Go.Proofs.YtcohcmlidmaaoaaGreat
