import Derived.Test.YtbmfblmebhobiaaGreatProg
import Derived.Test.YtbmfblmebhobiaaGreatM9
import Derived.KernelRfl
import Derived.WalkKit
import Derived.Laws.Externs
import Derived.MapKept
import Derived.Test.YtbmfblmebhobiaaGreatK1
/-
  maps.Clone, walked over the loaded program: its instances.
-/
set_option linter.unusedSimpArgs false
set_option linter.unusedVariables false
namespace Go.Proofs.YtbmfblmebhobiaaGreat
open Go.RowKit Go.Proofs.YtbmfblmebhobiaaGreat.AM
theorem run_eqInMap {P : Program} (w : World) (d : Nat) (t k e : TypeId) (p : Option Nat) (h : P.underlying t = some (.map k e)) : (Op.equalIn (d + 1) t (.map p) (.map none)).run P w = .ok p.isNone w := by
  cases p <;> simp [Op.equalIn, run_underlying h]
theorem run_nilmap {P : Program} (w : World) (t k e : TypeId) (p : Option Nat) (h : P.underlying t = some (.map k e)) : (binOp .eql t (.map p) (.map none)).run P w = .ok (.bool p.isNone) w := by
  simp only [binOp]
  simp [show Op.equal t (.map p) (.map none) = Op.equalIn (9999 + 1) t (.map p) (.map none) from rfl, run_eqInMap w 9999 t k e p h]
theorem run_assertMap {P : Program} (w : World) (t xT k e : TypeId) (v : Value) (h : P.underlying t = some (.map k e)) : (Instr.typeAssert (.iface t v) xT t false).run P w = .ok v w := by
  simp [Instr.typeAssert, run_underlying h, go_sem, Result.andThen]
theorem run_clone {P : Program} (w : World) {r : Nat} {es : Array MapEntry} {clock : Nat} (t : TypeId) (hb : w.heap[r]? = some (.map es clock)) :
    (Extern.MapsClone.clone #[.iface t (.map (some r))]).run P w = .ok (.iface t (.map (some w.heap.size))) (w.alloc (.map es clock)) := by
  have e : Extern.MapsClone.clone #[.iface t (.map (some r))] = (getObj r >>= fun o => match o with
      | .map entries clock => (newObj (.map entries clock) >>= fun n => pure (.iface t (.map (some n))))
      | _ => stuck "maps.clone: a map expected") := rfl
  rw [e]
  simp [MapKept.run_getObj_map hb, Result.andThen, go_sem]
set_option maxRecDepth 100000 in
set_option maxHeartbeats 2000000 in
theorem clone109_some (b : Nat) (es : Array MapEntry) (clock : Nat) (w : World) (hb : w.heap[b]? = some (.map es clock)) :
    Calls Tryz.prog 109 #[.map (some b)] w fun e w' => e = .returned (.map (some w.heap.size)) ∧ w' = w.alloc (.map es clock) := by
  have hq := fun w => run_nilmap (P := Tryz.prog) w 174 _ _ (some b) Tryz.underlying174
  go_enter Tryz.func109, Tryz.ntmps109
  go_wp2
  rw [run_callFunc_extern Tryz.func149 (by kernel_rfl) (by kernel_rfl) (by kernel_rfl) (e := Extern.MapsClone.clone) (by kernel_rfl), run_clone w 174 hb]
  simp only [Result.andThen]
  rw [Oper.upon_value]
  go_wp2
  rw [run_assertMap _ 174 _ _ _ _ Tryz.underlying174]
  simp only [Result.andThen]
  rw [Oper.upon_value]
  go_wp2
  go_ret
  exact ⟨rfl, rfl⟩
set_option maxRecDepth 100000 in
set_option maxHeartbeats 2000000 in
theorem clone109_none (w : World) : Calls Tryz.prog 109 #[.map none] w fun e w' => e = .returned (.map none) ∧ w' = w := by
  have hq := fun w => run_nilmap (P := Tryz.prog) w 174 _ _ none Tryz.underlying174
  go_enter Tryz.func109, Tryz.ntmps109
  go_wp2
  go_ret
  exact ⟨rfl, rfl⟩
theorem clone109 : IsClone Tryz.prog 109 := ⟨clone109_some, clone109_none⟩
set_option maxRecDepth 100000 in
set_option maxHeartbeats 2000000 in
theorem clone111_some (b : Nat) (es : Array MapEntry) (clock : Nat) (w : World) (hb : w.heap[b]? = some (.map es clock)) :
    Calls Tryz.prog 111 #[.map (some b)] w fun e w' => e = .returned (.map (some w.heap.size)) ∧ w' = w.alloc (.map es clock) := by
  have hq := fun w => run_nilmap (P := Tryz.prog) w 166 _ _ (some b) Tryz.underlying166
  go_enter Tryz.func111, Tryz.ntmps111
  go_wp2
  rw [run_callFunc_extern Tryz.func149 (by kernel_rfl) (by kernel_rfl) (by kernel_rfl) (e := Extern.MapsClone.clone) (by kernel_rfl), run_clone w 166 hb]
  simp only [Result.andThen]
  rw [Oper.upon_value]
  go_wp2
  rw [run_assertMap _ 166 _ _ _ _ Tryz.underlying166]
  simp only [Result.andThen]
  rw [Oper.upon_value]
  go_wp2
  go_ret
  exact ⟨rfl, rfl⟩
set_option maxRecDepth 100000 in
set_option maxHeartbeats 2000000 in
theorem clone111_none (w : World) : Calls Tryz.prog 111 #[.map none] w fun e w' => e = .returned (.map none) ∧ w' = w := by
  have hq := fun w => run_nilmap (P := Tryz.prog) w 166 _ _ none Tryz.underlying166
  go_enter Tryz.func111, Tryz.ntmps111
  go_wp2
  go_ret
  exact ⟨rfl, rfl⟩
theorem clone111 : IsClone Tryz.prog 111 := ⟨clone111_some, clone111_none⟩
set_option maxRecDepth 100000 in
set_option maxHeartbeats 2000000 in
theorem clone112_some (b : Nat) (es : Array MapEntry) (clock : Nat) (w : World) (hb : w.heap[b]? = some (.map es clock)) :
    Calls Tryz.prog 112 #[.map (some b)] w fun e w' => e = .returned (.map (some w.heap.size)) ∧ w' = w.alloc (.map es clock) := by
  have hq := fun w => run_nilmap (P := Tryz.prog) w 167 _ _ (some b) Tryz.underlying167
  go_enter Tryz.func112, Tryz.ntmps112
  go_wp2
  rw [run_callFunc_extern Tryz.func149 (by kernel_rfl) (by kernel_rfl) (by kernel_rfl) (e := Extern.MapsClone.clone) (by kernel_rfl), run_clone w 167 hb]
  simp only [Result.andThen]
  rw [Oper.upon_value]
  go_wp2
  rw [run_assertMap _ 167 _ _ _ _ Tryz.underlying167]
  simp only [Result.andThen]
  rw [Oper.upon_value]
  go_wp2
  go_ret
  exact ⟨rfl, rfl⟩
set_option maxRecDepth 100000 in
set_option maxHeartbeats 2000000 in
theorem clone112_none (w : World) : Calls Tryz.prog 112 #[.map none] w fun e w' => e = .returned (.map none) ∧ w' = w := by
  have hq := fun w => run_nilmap (P := Tryz.prog) w 167 _ _ none Tryz.underlying167
  go_enter Tryz.func112, Tryz.ntmps112
  go_wp2
  go_ret
  exact ⟨rfl, rfl⟩
theorem clone112 : IsClone Tryz.prog 112 := ⟨clone112_some, clone112_none⟩
noncomputable def SK : CallF := orS (s_clone 109) (orS (s_clone 111) (s_clone 112))
theorem SK_ok : CallOk Tryz.prog SK := orS_ok (s_clone_ok clone109) (orS_ok (s_clone_ok clone111) (s_clone_ok clone112))
end Go.Proofs.YtbmfblmebhobiaaGreat

/-
  The executor over this program, with copies of maps.
-/
namespace Go.Proofs.YtbmfblmebhobiaaGreat
open Go.Proofs.YtbmfblmebhobiaaGreat.AM
noncomputable section
def SE : CallF := orS SK (SC Tryz.prog (nthN masks))
theorem SE_ok : CallOk Tryz.prog SE := orS_ok SK_ok (SC_ok _)
end
end Go.Proofs.YtbmfblmebhobiaaGreat

