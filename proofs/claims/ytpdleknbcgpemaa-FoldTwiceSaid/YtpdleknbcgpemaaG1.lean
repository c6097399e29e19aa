/-
  Functions of the program, taken apart over the abstract memory: each piece of the loaded code as a proposition; printed by a program (gen.py).
-/
import Derived.Test.YtpdleknbcgpemaaProg
import Derived.Test.YtpdleknbcgpemaaAMFunc
import Derived.KernelRfl
set_option linter.unusedVariables false
namespace Go.Proofs.Ytpdleknbcgpemaa
open Go.Proofs.Ytpdleknbcgpemaa.AM
theorem mixed : Try.prog.follows .mixedOrders = true := by kernel_rfl
/-! #### 3: tincture/tincturelaw24.DropGood -/
def F3_0 (x0 : Value) (h : H) (Kn : Value → H → Prop) (Kr : Value → H → Prop) : Prop :=
  o_call Try.prog 8 [] h fun v4 h => o_un Try.prog .not v4 fun v5 => o_if v5 (Kr (.bool false) h) (o_lenSl x0 fun v7 => o_bin Try.prog .gtr 3 v7 (.int .i64 80) fun v8 => o_if v8 (Kr (.bool true) h) (o_buildSlice Try.prog 22 0 [] h fun v9 h => o_append 29 5 40 v9 x0 h fun v11 h => o_call Try.prog 9 [v11] h fun v12 h => o_call Try.prog 10 [x0] h fun v14 h => o_un Try.prog .not v14 fun v15 => o_if v15 (o_call Try.prog 11 [v12, x0] h fun v18 h => Kr v18 h) (o_call Try.prog 10 [v12] h fun v20 h => o_guard v20 true (fun k7 => o_lenSl v12 fun v23 => o_lenSl x0 fun v25 => o_bin Try.prog .leq 3 v23 v25 fun v26 => k7 v26 h) (fun v26 h => o_pick v20 v26 (.bool false) fun v27 => o_guard v27 true (fun k11 => o_call Try.prog 12 [v12] h fun v30 h => k11 v30 h) (fun v30 h => o_pick v27 v30 (.bool false) fun v31 => Kr v31 h) h) h)))
theorem F3_0_ok (Kn Kr) (t : T) (h : H) (H0 : F3_0 (t 0) h Kn Kr) : Wp Try.prog 32 (bodyOf Try.f3.body) (mkQ (fun t h => Kn (t 2) h) (fun t h => Kr (t 2) h) ke0) t h :=
  wpEqF H0 (by kernel_rfl)
def F3 (x0 : Value) (h : H) (Q : Value → H → Prop) : Prop := F3_0 x0 h (fun v h => Q v h) (fun v h => Q v h)
theorem F3_spec (x0 : Value) (h : H) (Q : Value → H → Prop) (H0 : F3 x0 h Q) : AM.Spec Try.prog 3 [x0] h Q :=
  spec_wp mixed (fn := Try.f3) Try.func3 (c := bodyOf Try.f3.body) (rs := [2]) (N := 32) (by kernel_rfl) (by kernel_rfl) (by kernel_rfl) (by kernel_rfl) (by kernel_rfl) (Nat.le_of_ble_eq_true rfl) (F3_0_ok (fun v h => Q v h) (fun v h => Q v h) (tinit [x0]) h H0) (by kernel_rfl)
/-! #### 4: tincture/tincturelaw24.DropTwice -/
def F4_0 (x0 : Value) (h : H) (Kn : Value → H → Prop) (Kr : Value → H → Prop) : Prop :=
  o_call Try.prog 8 [] h fun v5 h => o_un Try.prog .not v5 fun v6 => o_if v6 (Kr (.bool false) h) (o_lenSl x0 fun v8 => o_bin Try.prog .gtr 3 v8 (.int .i64 80) fun v9 => o_guard v9 false (fun k6 => o_call Try.prog 10 [x0] h fun v12 h => o_un Try.prog .not v12 fun v13 => k6 v13 h) (fun v13 h => o_pick v9 (.bool true) v13 fun v14 => o_if v14 (Kr (.bool true) h) (o_call Try.prog 9 [x0] h fun v16 h => o_call Try.prog 9 [v16] h fun v18 h => o_lenSl v18 fun v20 => o_lenSl v16 fun v22 => o_bin Try.prog .leq 3 v20 v22 fun v23 => o_guard v23 true (fun k7 => o_call Try.prog 10 [v18] h fun v26 h => k7 v26 h) (fun v26 h => o_pick v23 v26 (.bool false) fun v27 => o_guard v27 true (fun k11 => o_call Try.prog 12 [v18] h fun v30 h => k11 v30 h) (fun v30 h => o_pick v27 v30 (.bool false) fun v31 => Kr v31 h) h) h)) h)
theorem F4_0_ok (Kn Kr) (t : T) (h : H) (H0 : F4_0 (t 0) h Kn Kr) : Wp Try.prog 32 (bodyOf Try.f4.body) (mkQ (fun t h => Kn (t 2) h) (fun t h => Kr (t 2) h) ke0) t h :=
  wpEqF H0 (by kernel_rfl)
def F4 (x0 : Value) (h : H) (Q : Value → H → Prop) : Prop := F4_0 x0 h (fun v h => Q v h) (fun v h => Q v h)
theorem F4_spec (x0 : Value) (h : H) (Q : Value → H → Prop) (H0 : F4 x0 h Q) : AM.Spec Try.prog 4 [x0] h Q :=
  spec_wp mixed (fn := Try.f4) Try.func4 (c := bodyOf Try.f4.body) (rs := [2]) (N := 32) (by kernel_rfl) (by kernel_rfl) (by kernel_rfl) (by kernel_rfl) (by kernel_rfl) (Nat.le_of_ble_eq_true rfl) (F4_0_ok (fun v h => Q v h) (fun v h => Q v h) (tinit [x0]) h H0) (by kernel_rfl)
/-! #### 5: tincture/tincturelaw23.FoldGood -/
def F5_0 (x0 : Value) (h : H) (Kn : Value → H → Prop) (Kr : Value → H → Prop) : Prop :=
  o_call Try.prog 13 [] h fun v4 h => o_un Try.prog .not v4 fun v5 => o_if v5 (Kr (.bool false) h) (o_lenSl x0 fun v7 => o_bin Try.prog .gtr 3 v7 (.int .i64 80) fun v8 => o_if v8 (Kr (.bool true) h) (o_buildSlice Try.prog 22 0 [] h fun v9 h => o_append 29 5 40 v9 x0 h fun v11 h => o_call Try.prog 14 [v11] h fun v12 h => o_call Try.prog 10 [x0] h fun v14 h => o_un Try.prog .not v14 fun v15 => o_if v15 (o_call Try.prog 15 [v12, x0] h fun v18 h => Kr v18 h) (o_call Try.prog 10 [v12] h fun v20 h => o_guard v20 true (fun k7 => o_lenSl v12 fun v23 => o_lenSl x0 fun v25 => o_bin Try.prog .leq 3 v23 v25 fun v26 => k7 v26 h) (fun v26 h => o_pick v20 v26 (.bool false) fun v27 => o_guard v27 true (fun k11 => o_call Try.prog 16 [v12] h fun v30 h => k11 v30 h) (fun v30 h => o_pick v27 v30 (.bool false) fun v31 => Kr v31 h) h) h)))
theorem F5_0_ok (Kn Kr) (t : T) (h : H) (H0 : F5_0 (t 0) h Kn Kr) : Wp Try.prog 32 (bodyOf Try.f5.body) (mkQ (fun t h => Kn (t 2) h) (fun t h => Kr (t 2) h) ke0) t h :=
  wpEqF H0 (by kernel_rfl)
def F5 (x0 : Value) (h : H) (Q : Value → H → Prop) : Prop := F5_0 x0 h (fun v h => Q v h) (fun v h => Q v h)
theorem F5_spec (x0 : Value) (h : H) (Q : Value → H → Prop) (H0 : F5 x0 h Q) : AM.Spec Try.prog 5 [x0] h Q :=
  spec_wp mixed (fn := Try.f5) Try.func5 (c := bodyOf Try.f5.body) (rs := [2]) (N := 32) (by kernel_rfl) (by kernel_rfl) (by kernel_rfl) (by kernel_rfl) (by kernel_rfl) (Nat.le_of_ble_eq_true rfl) (F5_0_ok (fun v h => Q v h) (fun v h => Q v h) (tinit [x0]) h H0) (by kernel_rfl)
/-! #### 6: tincture/tincturelaw23.FoldTwice -/
def F6_0 (x0 : Value) (h : H) (Kn : Value → H → Prop) (Kr : Value → H → Prop) : Prop :=
  o_call Try.prog 13 [] h fun v5 h => o_un Try.prog .not v5 fun v6 => o_if v6 (Kr (.bool false) h) (o_lenSl x0 fun v8 => o_bin Try.prog .gtr 3 v8 (.int .i64 80) fun v9 => o_guard v9 false (fun k6 => o_call Try.prog 10 [x0] h fun v12 h => o_un Try.prog .not v12 fun v13 => k6 v13 h) (fun v13 h => o_pick v9 (.bool true) v13 fun v14 => o_if v14 (Kr (.bool true) h) (o_call Try.prog 14 [x0] h fun v16 h => o_call Try.prog 14 [v16] h fun v18 h => o_lenSl v18 fun v20 => o_lenSl v16 fun v22 => o_bin Try.prog .leq 3 v20 v22 fun v23 => o_guard v23 true (fun k7 => o_call Try.prog 10 [v18] h fun v26 h => k7 v26 h) (fun v26 h => o_pick v23 v26 (.bool false) fun v27 => o_guard v27 true (fun k11 => o_call Try.prog 16 [v18] h fun v30 h => k11 v30 h) (fun v30 h => o_pick v27 v30 (.bool false) fun v31 => Kr v31 h) h) h)) h)
theorem F6_0_ok (Kn Kr) (t : T) (h : H) (H0 : F6_0 (t 0) h Kn Kr) : Wp Try.prog 32 (bodyOf Try.f6.body) (mkQ (fun t h => Kn (t 2) h) (fun t h => Kr (t 2) h) ke0) t h :=
  wpEqF H0 (by kernel_rfl)
def F6 (x0 : Value) (h : H) (Q : Value → H → Prop) : Prop := F6_0 x0 h (fun v h => Q v h) (fun v h => Q v h)
theorem F6_spec (x0 : Value) (h : H) (Q : Value → H → Prop) (H0 : F6 x0 h Q) : AM.Spec Try.prog 6 [x0] h Q :=
  spec_wp mixed (fn := Try.f6) Try.func6 (c := bodyOf Try.f6.body) (rs := [2]) (N := 32) (by kernel_rfl) (by kernel_rfl) (by kernel_rfl) (by kernel_rfl) (by kernel_rfl) (Nat.le_of_ble_eq_true rfl) (F6_0_ok (fun v h => Q v h) (fun v h => Q v h) (tinit [x0]) h H0) (by kernel_rfl)
/-! #### 7: tincture/tincturelaw24.DropFolds -/
def F7_0 (x0 : Value) (h : H) (Kn : Value → H → Prop) (Kr : Value → H → Prop) : Prop :=
  o_call Try.prog 8 [] h fun v6 h => o_un Try.prog .not v6 fun v7 => o_if v7 (Kr (.bool false) h) (o_lenSl x0 fun v9 => o_bin Try.prog .gtr 3 v9 (.int .i64 80) fun v10 => o_guard v10 false (fun k6 => o_call Try.prog 10 [x0] h fun v13 h => o_un Try.prog .not v13 fun v14 => k6 v14 h) (fun v14 h => o_pick v10 (.bool true) v14 fun v15 => o_if v15 (Kr (.bool true) h) (o_call Try.prog 14 [x0] h fun v17 h => o_call Try.prog 9 [v17] h fun v19 h => o_call Try.prog 14 [v19] h fun v21 h => o_call Try.prog 10 [v19] h fun v23 h => o_guard v23 true (fun k4 => o_call Try.prog 10 [v21] h fun v26 h => k4 v26 h) (fun v26 h => o_pick v23 v26 (.bool false) fun v27 => o_guard v27 true (fun k11 => o_lenSl v19 fun v30 => o_lenSl v17 fun v32 => o_bin Try.prog .leq 3 v30 v32 fun v33 => k11 v33 h) (fun v33 h => o_pick v27 v33 (.bool false) fun v34 => o_guard v34 true (fun k18 => o_lenSl v17 fun v37 => o_lenSl x0 fun v39 => o_bin Try.prog .leq 3 v37 v39 fun v40 => k18 v40 h) (fun v40 h => o_pick v34 v40 (.bool false) fun v41 => o_guard v41 true (fun k25 => o_lenSl v21 fun v44 => o_lenSl v19 fun v46 => o_bin Try.prog .leq 3 v44 v46 fun v47 => k25 v47 h) (fun v47 h => o_pick v41 v47 (.bool false) fun v48 => o_guard v48 true (fun k29 => o_call Try.prog 12 [v19] h fun v51 h => k29 v51 h) (fun v51 h => o_pick v48 v51 (.bool false) fun v52 => Kr v52 h) h) h) h) h) h)) h)
theorem F7_0_ok (Kn Kr) (t : T) (h : H) (H0 : F7_0 (t 0) h Kn Kr) : Wp Try.prog 53 (bodyOf Try.f7.body) (mkQ (fun t h => Kn (t 2) h) (fun t h => Kr (t 2) h) ke0) t h :=
  wpEqF H0 (by kernel_rfl)
def F7 (x0 : Value) (h : H) (Q : Value → H → Prop) : Prop := F7_0 x0 h (fun v h => Q v h) (fun v h => Q v h)
theorem F7_spec (x0 : Value) (h : H) (Q : Value → H → Prop) (H0 : F7 x0 h Q) : AM.Spec Try.prog 7 [x0] h Q :=
  spec_wp mixed (fn := Try.f7) Try.func7 (c := bodyOf Try.f7.body) (rs := [2]) (N := 53) (by kernel_rfl) (by kernel_rfl) (by kernel_rfl) (by kernel_rfl) (by kernel_rfl) (Nat.le_of_ble_eq_true rfl) (F7_0_ok (fun v h => Q v h) (fun v h => Q v h) (tinit [x0]) h H0) (by kernel_rfl)
/-! #### 8: tincture/tincturelaw24.awake -/
def F8_0 (h : H) (Kn : Value → H → Prop) (Kr : Value → H → Prop) : Prop :=
  o_build Try.prog 29 [(0, (.int .i64 8))] fun v2 => o_build Try.prog 29 [(0, (.int .i64 1)), (4, (.int .u32 2))] fun v3 => o_build Try.prog 29 [(0, (.int .i64 1)), (1, (.int .i64 1)), (4, (.int .u32 3))] fun v4 => o_build Try.prog 29 [(0, (.int .i64 3)), (2, (.int .i64 1)), (4, (.int .u32 5))] fun v5 => o_build Try.prog 29 [(0, (.int .i64 12)), (4, (.int .u32 4))] fun v6 => o_buildSlice Try.prog 22 5 [(0, v2), (1, v3), (2, v4), (3, v5), (4, v6)] h fun v7 h => o_call Try.prog 9 [v7] h fun v8 h => o_call Try.prog 10 [v8] h fun v10 h => o_guard v10 true (fun k4 => o_call Try.prog 12 [v8] h fun v13 h => k4 v13 h) (fun v13 h => o_pick v10 v13 (.bool false) fun v14 => o_guard v14 true (fun k9 => o_lenSl v8 fun v17 => o_bin Try.prog .eql 3 v17 (.int .i64 4) fun v18 => k9 v18 h) (fun v18 h => o_pick v14 v18 (.bool false) fun v19 => Kr v19 h) h) h
theorem F8_0_ok (Kn Kr) (t : T) (h : H) (H0 : F8_0  h Kn Kr) : Wp Try.prog 20 (bodyOf Try.f8.body) (mkQ (fun t h => Kn (t 0) h) (fun t h => Kr (t 0) h) ke0) t h :=
  wpEqF H0 (by kernel_rfl)
def F8 (h : H) (Q : Value → H → Prop) : Prop := F8_0  h (fun v h => Q v h) (fun v h => Q v h)
theorem F8_spec (h : H) (Q : Value → H → Prop) (H0 : F8  h Q) : AM.Spec Try.prog 8 [] h Q :=
  spec_wp mixed (fn := Try.f8) Try.func8 (c := bodyOf Try.f8.body) (rs := [0]) (N := 20) (by kernel_rfl) (by kernel_rfl) (by kernel_rfl) (by kernel_rfl) (by kernel_rfl) (Nat.le_of_ble_eq_true rfl) (F8_0_ok (fun v h => Q v h) (fun v h => Q v h) (tinit []) h H0) (by kernel_rfl)
/-! #### 9: tincture/drop.Make -/
def F9_8 (x3 x4 x6 : Value) (h : H) (Kn : Value → Value → Value → H → Prop) (Kr : H → Prop) (Ke1 : H → Prop) : Prop :=
  o_load true 5 x6 h fun v31 => o_call Try.prog 20 [v31] h fun v32 h => o_extract v32 0 fun v33 => o_extract v32 1 fun v34 => o_if v34 (o_indexAddr (some 256) 1 x3 v33 fun v37 => o_store 1 v37 (.bool false) h fun h => Kn x3 x4 x6 h) (Kn x3 x4 x6 h)
theorem F9_8_ok (Kn Kr Ke1) (t : T) (h : H) (H0 : F9_8 (t 3) (t 4) (t 6) h Kn Kr Ke1) : Wp Try.prog 55 (seqL (rest 1 (blkC (rfB (blkC (rest 1 (seqL (rest 4 (bodyOf Try.f9.body))))))))) (mkQ (fun t h => Kn (t 3) (t 4) (t 6) h) (fun t h => Kr  h) (keAdd 1 (fun t h => Ke1  h) ke0)) t h :=
  wpEqF H0 (by kernel_rfl)
def F9_13 (x3 x4 x6 x39 x40 x41 : Value) (h : H) (Kn : Value → Value → Value → Value → Value → Value → H → Prop) (Kr : H → Prop) (Ke2 : Value → Value → H → Prop) (Ke1 : H → Prop) : Prop :=
  o_bin Try.prog .lss 3 x41 x40 fun v42 => o_if v42 (o_indexAddr none 1 x39 x41 fun v43 => o_load false 1 v43 h fun v44 => o_indexAddr (some 256) 1 x3 v44 fun v46 => o_store 1 v46 (.bool true) h fun h => o_bin Try.prog .add 3 x41 (.int .i64 1) fun v47 => Kn x3 x4 x6 x39 x40 v47 h) (Ke2 x4 x6 h)
theorem F9_13_ok (Kn Kr Ke2 Ke1) (t : T) (h : H) (H0 : F9_13 (t 3) (t 4) (t 6) (t 39) (t 40) (t 41) h Kn Kr Ke2 Ke1) : Wp Try.prog 55 (lopC (blkC (rest 1 (seqL (seqR (rest 1 (blkC (rfB (blkC (rest 1 (seqL (rest 4 (bodyOf Try.f9.body))))))))))))) (mkQ (fun t h => Kn (t 3) (t 4) (t 6) (t 39) (t 40) (t 41) h) (fun t h => Kr  h) (keAdd 2 (fun t h => Ke2 (t 4) (t 6) h) (keAdd 1 (fun t h => Ke1  h) ke0))) t h :=
  wpEqF H0 (by kernel_rfl)
def F9_12 (x3 x4 x6 x39 x40 x41 : Value) (h : H) (Kn : Value → Value → H → Prop) (Kr : H → Prop) (Ke2 : Value → Value → H → Prop) (Ke1 : H → Prop) : Prop :=
  sloop (S := Value × Value × Value × Value × Value × Value) (fun s h K => F9_13 s.1 s.2.1 s.2.2.1 s.2.2.2.1 s.2.2.2.2.1 s.2.2.2.2.2 h (fun y3 y4 y6 y39 y40 y41 h => K (y3, y4, y6, y39, y40, y41) h) Kr Ke2 Ke1) (x3, x4, x6, x39, x40, x41) h
theorem F9_12_ok (Kn Kr Ke2 Ke1) (t : T) (h : H) (H0 : F9_12 (t 3) (t 4) (t 6) (t 39) (t 40) (t 41) h Kn Kr Ke2 Ke1) : Wp Try.prog 55 (blkC (rest 1 (seqL (seqR (rest 1 (blkC (rfB (blkC (rest 1 (seqL (rest 4 (bodyOf Try.f9.body)))))))))))) (mkQ (fun t h => Kn (t 4) (t 6) h) (fun t h => Kr  h) (keAdd 2 (fun t h => Ke2 (t 4) (t 6) h) (keAdd 1 (fun t h => Ke1  h) ke0))) t h :=
  loop_ok (fun t => (t 3, t 4, t 6, t 39, t 40, t 41)) (by kernel_rfl) (fun t h K H1 => F9_13_ok (fun y3 y4 y6 y39 y40 y41 h => K (y3, y4, y6, y39, y40, y41) h) Kr Ke2 Ke1 t h H1) H0
def F9_11 (x3 x4 x6 x39 x40 x41 : Value) (h : H) (Kn : Value → Value → H → Prop) (Kr : H → Prop) (Ke1 : H → Prop) : Prop :=
  F9_12 x3 x4 x6 x39 x40 x41 h Kn Kr Kn Ke1
theorem F9_11_ok (Kn Kr Ke1) (t : T) (h : H) (H0 : F9_11 (t 3) (t 4) (t 6) (t 39) (t 40) (t 41) h Kn Kr Ke1) : Wp Try.prog 55 (rest 1 (seqL (seqR (rest 1 (blkC (rfB (blkC (rest 1 (seqL (rest 4 (bodyOf Try.f9.body))))))))))) (mkQ (fun t h => Kn (t 4) (t 6) h) (fun t h => Kr  h) (keAdd 1 (fun t h => Ke1  h) ke0)) t h :=
  block_ok 2 (by kernel_rfl) (by kernel_rfl) (F9_12_ok Kn Kr Kn Ke1 t h H0)
def F9_10 (x3 x4 x6 : Value) (h : H) (Kn : Value → Value → H → Prop) (Kr : H → Prop) (Ke1 : H → Prop) : Prop :=
  o_load true 5 x6 h fun v38 => o_call Try.prog 21 [v38] h fun v39 h => o_lenSl v39 fun v40 => F9_11 x3 x4 x6 v39 v40 (.int .i64 0) h Kn Kr Ke1
theorem F9_10_ok (Kn Kr Ke1) (t : T) (h : H) (H0 : F9_10 (t 3) (t 4) (t 6) h Kn Kr Ke1) : Wp Try.prog 55 (seqL (seqR (rest 1 (blkC (rfB (blkC (rest 1 (seqL (rest 4 (bodyOf Try.f9.body)))))))))) (mkQ (fun t h => Kn (t 4) (t 6) h) (fun t h => Kr  h) (keAdd 1 (fun t h => Ke1  h) ke0)) t h :=
  awpTo_okF 1 H0 (by kernel_rfl) (fun t h (H1 : F9_11 (t 3) (t 4) (t 6) (t 39) (t 40) (t 41) h Kn Kr Ke1) => F9_11_ok Kn Kr Ke1 t h H1) (by kernel_rfl)
def F9_14 (x4 x6 : Value) (h : H) (Kn : H → Prop) (Kr : H → Prop) (Ke1 : H → Prop) : Prop :=
  o_load false 1 x4 h fun v48 => o_load true 5 x6 h fun v49 => o_buildSlice Try.prog 22 1 [(0, v49)] h fun v50 h => o_append 29 5 40 v48 v50 h fun v51 h => o_store 1 x4 v51 h fun h => Kn h
theorem F9_14_ok (Kn Kr Ke1) (t : T) (h : H) (H0 : F9_14 (t 4) (t 6) h Kn Kr Ke1) : Wp Try.prog 55 (seqR (seqR (rest 1 (blkC (rfB (blkC (rest 1 (seqL (rest 4 (bodyOf Try.f9.body)))))))))) (mkQ (fun t h => Kn  h) (fun t h => Kr  h) (keAdd 1 (fun t h => Ke1  h) ke0)) t h :=
  wpEqF H0 (by kernel_rfl)
def F9_9 (x3 x4 x6 : Value) (h : H) (Kn : H → Prop) (Kr : H → Prop) (Ke1 : H → Prop) : Prop :=
  F9_10 x3 x4 x6 h (fun y4 y6 h => F9_14 y4 y6 h Kn Kr Ke1) Kr Ke1
theorem F9_9_ok (Kn Kr Ke1) (t : T) (h : H) (H0 : F9_9 (t 3) (t 4) (t 6) h Kn Kr Ke1) : Wp Try.prog 55 (seqR (rest 1 (blkC (rfB (blkC (rest 1 (seqL (rest 4 (bodyOf Try.f9.body))))))))) (mkQ (fun t h => Kn  h) (fun t h => Kr  h) (keAdd 1 (fun t h => Ke1  h) ke0)) t h :=
  seq_ok (by kernel_rfl) (fun t h H1 => F9_14_ok Kn Kr Ke1 t h H1) (F9_10_ok (fun y4 y6 h => F9_14 y4 y6 h Kn Kr Ke1) Kr Ke1 t h H0)
def F9_7 (x3 x4 x6 : Value) (h : H) (Kn : H → Prop) (Kr : H → Prop) (Ke1 : H → Prop) : Prop :=
  F9_8 x3 x4 x6 h (fun y3 y4 y6 h => F9_9 y3 y4 y6 h Kn Kr Ke1) Kr Ke1
theorem F9_7_ok (Kn Kr Ke1) (t : T) (h : H) (H0 : F9_7 (t 3) (t 4) (t 6) h Kn Kr Ke1) : Wp Try.prog 55 (rest 1 (blkC (rfB (blkC (rest 1 (seqL (rest 4 (bodyOf Try.f9.body)))))))) (mkQ (fun t h => Kn  h) (fun t h => Kr  h) (keAdd 1 (fun t h => Ke1  h) ke0)) t h :=
  seq_ok (by kernel_rfl) (fun t h H1 => F9_9_ok Kn Kr Ke1 t h H1) (F9_8_ok (fun y3 y4 y6 h => F9_9 y3 y4 y6 h Kn Kr Ke1) Kr Ke1 t h H0)
def F9_6 (x3 x4 x6 : Value) (h : H) (Kn : H → Prop) (Kr : H → Prop) (Ke1 : H → Prop) : Prop :=
  o_fieldAddr 0 x6 fun v20 => o_load false 1 v20 h fun v21 => o_call Try.prog 19 [v21] h fun v22 h => o_guard v22 true (fun k8 => o_fieldAddr 1 x6 fun v24 => o_load false 1 v24 h fun v25 => o_indexAddr (some 256) 1 x3 v25 fun v26 => o_load false 1 v26 h fun v27 => o_un Try.prog .not v27 fun v28 => k8 v28 h) (fun v28 h => o_pick v22 v28 (.bool false) fun v29 => o_if v29 (Ke1 h) (F9_7 x3 x4 x6 h Kn Kr Ke1)) h
theorem F9_6_ok (Kn Kr Ke1) (t : T) (h : H) (H0 : F9_6 (t 3) (t 4) (t 6) h Kn Kr Ke1) : Wp Try.prog 55 (blkC (rfB (blkC (rest 1 (seqL (rest 4 (bodyOf Try.f9.body))))))) (mkQ (fun t h => Kn  h) (fun t h => Kr  h) (keAdd 1 (fun t h => Ke1  h) ke0)) t h :=
  awpTo_okF 1 H0 (by kernel_rfl) (fun t h (H1 : F9_7 (t 3) (t 4) (t 6) h Kn Kr Ke1) => F9_7_ok Kn Kr Ke1 t h H1) (by kernel_rfl)
def F9_5 (x3 x4 x6 : Value) (h : H) (Kn : H → Prop) (Kr : H → Prop) : Prop :=
  F9_6 x3 x4 x6 h Kn Kr Kn
theorem F9_5_ok (Kn Kr) (t : T) (h : H) (H0 : F9_5 (t 3) (t 4) (t 6) h Kn Kr) : Wp Try.prog 55 (rfB (blkC (rest 1 (seqL (rest 4 (bodyOf Try.f9.body)))))) (mkQ (fun t h => Kn  h) (fun t h => Kr  h) ke0) t h :=
  block_ok 1 (by kernel_rfl) (by kernel_rfl) (F9_6_ok Kn Kr Kn t h H0)
def F9_15 (x3 x4 x19 : Value) (h : H) (Kn : Value → Value → Value → H → Prop) (Kr : H → Prop) : Prop :=
  o_new [.int .i64 0, .int .i64 0, .int .i64 0, .int .i64 0, .int .u32 0] 29 .exact h fun b6 h => o_store 5 (.pointer (some ⟨b6, 0, none⟩)) x19 h fun h => Kn x3 x4 (.pointer (some ⟨b6, 0, none⟩)) h
theorem F9_15_ok (Kn Kr) (t : T) (h : H) (H0 : F9_15 (t 3) (t 4) (t 19) h Kn Kr) : Wp Try.prog 55 (rfA (blkC (rest 1 (seqL (rest 4 (bodyOf Try.f9.body)))))) (mkQ (fun t h => Kn (t 3) (t 4) (t 6) h) (fun t h => Kr  h) ke0) t h :=
  wpEqF H0 (by kernel_rfl)
def F9_4r (x3 x4 : Value) (L : LObj) (l : Nat) (a0 a1 : Value) (h : H) (K : Value → H → Prop) : Prop :=
  F9_15 x3 x4 a1 h (fun y3 y4 y6 h => h l = some (L .ready none) ∧ F9_5 y3 y4 y6 (upd h l (L .busy none)) (roundK L l K) (roundR L l K)) (fun _ => False)
theorem F9_4r_ok (t : T) (l : Nat) (a0 a1 : Value) (h : H) (K : Value → H → Prop) (H0 : F9_4r (t 3) (t 4) (rfL (blkC (rest 1 (seqL (rest 4 (bodyOf Try.f9.body))))) t 55) l a0 a1 h K) : Round Try.prog 55 (blkC (rest 1 (seqL (rest 4 (bodyOf Try.f9.body))))) t l [a0, a1] h K :=
  ⟨by kernel_rfl, F9_15_ok (fun y3 y4 y6 h => h l = some (rfL (blkC (rest 1 (seqL (rest 4 (bodyOf Try.f9.body))))) t 55 .ready none) ∧ F9_5 y3 y4 y6 (upd h l (rfL (blkC (rest 1 (seqL (rest 4 (bodyOf Try.f9.body))))) t 55 .busy none)) (roundK (rfL (blkC (rest 1 (seqL (rest 4 (bodyOf Try.f9.body))))) t 55) l K) (roundR (rfL (blkC (rest 1 (seqL (rest 4 (bodyOf Try.f9.body))))) t 55) l K)) (fun _ => False) (tround 55 t (rfPs (blkC (rest 1 (seqL (rest 4 (bodyOf Try.f9.body)))))) [a0, a1]) h (byEq H0 (by kernel_rfl)) |>.weaken fun t1 h1 hh => ⟨hh.1, F9_5_ok _ _ t1 _ hh.2⟩⟩
def F9_4 (x2 x3 x4 x17 x55 : Value) (h : H) (Kn : Value → Value → H → Prop) (Kr : Value → Value → H → Prop) (Ke0 : Value → Value → H → Prop) : Prop :=
  o_rangeFunc Try.prog (fun L l args h K => match args with | [a0, a1] => F9_4r x3 x4 L l a0 a1 h K | _ => False) x17 x55 h (fun m h => Kn x4 m h) (fun m h => Kr x2 m h)
theorem F9_4_ok (Kn Kr Ke0) (t : T) (h : H) (H0 : F9_4 (t 2) (t 3) (t 4) (t 17) (t 55) h Kn Kr Ke0) : Wp Try.prog 55 (blkC (rest 1 (seqL (rest 4 (bodyOf Try.f9.body))))) (mkQ (fun t h => Kn (t 4) (t 55) h) (fun t h => Kr (t 2) (t 55) h) (keAdd 0 (fun t h => Ke0 (t 4) (t 55) h) ke0)) t h := by
  refine range_ok mixed (R := (fun L l args h K => match args with | [a0, a1] => F9_4r (t 3) (t 4) L l a0 a1 h K | _ => False)) H0 (by kernel_rfl) (by kernel_rfl) (by kernel_rfl) (by kernel_rfl) (fun l args h K H1 => ?_) (by kernel_rfl)
  rcases args with _ | ⟨a0, _ | ⟨a1, _ | ⟨z, zs⟩⟩⟩
  · exact absurd H1 id
  · exact absurd H1 id
  · exact F9_4r_ok t l a0 a1 h K H1
  · exact absurd H1 id
def F9_3 (x2 x3 x4 x17 x55 : Value) (h : H) (Kn : Value → Value → H → Prop) (Kr : Value → Value → H → Prop) : Prop :=
  F9_4 x2 x3 x4 x17 x55 h Kn Kr Kn
theorem F9_3_ok (Kn Kr) (t : T) (h : H) (H0 : F9_3 (t 2) (t 3) (t 4) (t 17) (t 55) h Kn Kr) : Wp Try.prog 55 (rest 1 (seqL (rest 4 (bodyOf Try.f9.body)))) (mkQ (fun t h => Kn (t 4) (t 55) h) (fun t h => Kr (t 2) (t 55) h) ke0) t h :=
  block_ok 0 (by kernel_rfl) (by kernel_rfl) (F9_4_ok Kn Kr Kn t h H0)
def F9_2 (x0 x2 x3 x4 x55 : Value) (h : H) (Kn : Value → Value → H → Prop) (Kr : Value → Value → H → Prop) : Prop :=
  o_call Try.prog 18 [x0] h fun v17 h => F9_3 x2 x3 x4 v17 x55 h Kn Kr
theorem F9_2_ok (Kn Kr) (t : T) (h : H) (H0 : F9_2 (t 0) (t 2) (t 3) (t 4) (t 55) h Kn Kr) : Wp Try.prog 55 (seqL (rest 4 (bodyOf Try.f9.body))) (mkQ (fun t h => Kn (t 4) (t 55) h) (fun t h => Kr (t 2) (t 55) h) ke0) t h :=
  awpTo_okF 1 H0 (by kernel_rfl) (fun t h (H1 : F9_3 (t 2) (t 3) (t 4) (t 17) (t 55) h Kn Kr) => F9_3_ok Kn Kr t h H1) (by kernel_rfl)
def F9_16 (x4 x55 : Value) (h : H) (Kn : Value → Value → H → Prop) (Kr : Value → Value → H → Prop) : Prop :=
  o_load false 1 x4 h fun v52 => o_call Try.prog 22 [v52] h fun v53 h => o_load false 1 x4 h fun v54 => Kr v54 x55 h
theorem F9_16_ok (Kn Kr) (t : T) (h : H) (H0 : F9_16 (t 4) (t 55) h Kn Kr) : Wp Try.prog 55 (seqR (rest 4 (bodyOf Try.f9.body))) (mkQ (fun t h => Kn (t 2) (t 55) h) (fun t h => Kr (t 2) (t 55) h) ke0) t h :=
  wpEqF H0 (by kernel_rfl)
def F9_1 (x0 x2 x3 x4 x55 : Value) (h : H) (Kn : Value → Value → H → Prop) (Kr : Value → Value → H → Prop) : Prop :=
  F9_2 x0 x2 x3 x4 x55 h (fun y4 y55 h => F9_16 y4 y55 h Kn Kr) Kr
theorem F9_1_ok (Kn Kr) (t : T) (h : H) (H0 : F9_1 (t 0) (t 2) (t 3) (t 4) (t 55) h Kn Kr) : Wp Try.prog 55 (rest 4 (bodyOf Try.f9.body)) (mkQ (fun t h => Kn (t 2) (t 55) h) (fun t h => Kr (t 2) (t 55) h) ke0) t h :=
  seq_ok (by kernel_rfl) (fun t h H1 => F9_16_ok Kn Kr t h H1) (F9_2_ok (fun y4 y55 h => F9_16 y4 y55 h Kn Kr) Kr t h H0)
def F9_0 (x0 x55 : Value) (h : H) (Kn : Value → Value → H → Prop) (Kr : Value → Value → H → Prop) : Prop :=
  o_call Try.prog 10 [x0] h fun v12 h => o_un Try.prog .not v12 fun v13 => o_if v13 (o_call Try.prog 17 [x0] h fun v15 h => Kr v15 x55 h) (o_new (List.replicate 256 ((.bool false) : Value)) 30 .exact h fun b3 h => o_new [.slice none 0 0] 22 .exact h fun b4 h => F9_1 x0 (.slice none 0 0) (.pointer (some ⟨b3, 0, none⟩)) (.pointer (some ⟨b4, 0, none⟩)) x55 h Kn Kr)
theorem F9_0_ok (Kn Kr) (t : T) (h : H) (H0 : F9_0 (t 0) (t 55) h Kn Kr) : Wp Try.prog 55 (bodyOf Try.f9.body) (mkQ (fun t h => Kn (t 2) (t 55) h) (fun t h => Kr (t 2) (t 55) h) ke0) t h :=
  awpTo_okF 4 H0 (by kernel_rfl) (fun t h (H1 : F9_1 (t 0) (t 2) (t 3) (t 4) (t 55) h Kn Kr) => F9_1_ok Kn Kr t h H1) (by kernel_rfl)
def F9 (x0 : Value) (h : H) (Q : Value → H → Prop) : Prop := F9_0 x0 undef h (fun y2 y55 h => o_ret y55 h (fun h => Q y2 h)) (fun y2 y55 h => o_ret y55 h (fun h => Q y2 h))
theorem F9_spec (x0 : Value) (h : H) (Q : Value → H → Prop) (H0 : F9 x0 h Q) : AM.Spec Try.prog 9 [x0] h Q :=
  spec_wpm mixed (fn := Try.f9) Try.func9 (c := bodyOf Try.f9.body) (rs := [2]) (N := 55) (by kernel_rfl) (by kernel_rfl) (by kernel_rfl) (by kernel_rfl) (by kernel_rfl) (Nat.le_of_ble_eq_true rfl) (F9_0_ok (fun y2 y55 h => o_ret y55 h (fun h => Q y2 h)) (fun y2 y55 h => o_ret y55 h (fun h => Q y2 h)) (tinit [x0]) h H0) (by kernel_rfl)
/-! #### 10: tincture/ir.Good -/
def F10_7 (x0 x3 x24 x25 x26 : Value) (h : H) (Kn : Value → Value → Value → Value → Value → H → Prop) (Kr : Value → H → Prop) (Ke0 : Value → H → Prop) : Prop :=
  o_indexAddr none 5 x24 x26 fun v28 => o_load true 5 v28 h fun v29 => o_new [.int .i64 0, .int .i64 0, .int .i64 0, .int .i64 0, .int .u32 0] 29 .exact h fun b5 h => o_store 5 (.pointer (some ⟨b5, 0, none⟩)) v29 h fun h => o_load true 5 (.pointer (some ⟨b5, 0, none⟩)) h fun v30 => o_call Try.prog 23 [v30] h fun v31 h => o_un Try.prog .not v31 fun v32 => o_guard v32 false (fun k13 => o_fieldAddr 0 (.pointer (some ⟨b5, 0, none⟩)) fun v34 => o_load false 1 v34 h fun v35 => o_call Try.prog 24 [v35] h fun v36 h => o_guard v36 true (fun k12 => o_fieldAddr 1 (.pointer (some ⟨b5, 0, none⟩)) fun v38 => o_load false 1 v38 h fun v39 => o_indexAddr (some 256) 1 x3 v39 fun v40 => o_load false 1 v40 h fun v41 => o_un Try.prog .not v41 fun v42 => k12 v42 h) (fun v42 h => o_pick v36 v42 (.bool false) fun v43 => k13 v43 h) h) (fun v43 h => o_pick v32 (.bool true) v43 fun v44 => o_if v44 (Kr (.bool false) h) (o_load true 5 (.pointer (some ⟨b5, 0, none⟩)) h fun v45 => o_call Try.prog 21 [v45] h fun v46 h => List.all [] plainC = true ∧ List.all [x3] plainC = true ∧ o_call Try.prog 25 [v46, (.func (.func 26) #[] #[x3])] h fun v48 h => o_if v48 (Kr (.bool false) h) (o_load true 5 (.pointer (some ⟨b5, 0, none⟩)) h fun v50 => o_call Try.prog 20 [v50] h fun v51 h => o_extract v51 0 fun v52 => o_extract v51 1 fun v53 => o_if v53 (o_indexAddr (some 256) 1 x3 v52 fun v56 => o_store 1 v56 (.bool true) h fun h => Kn x0 x3 x24 x25 x26 h) (Kn x0 x3 x24 x25 x26 h)))) h
theorem F10_7_ok (Kn Kr Ke0) (t : T) (h : H) (H0 : F10_7 (t 0) (t 3) (t 24) (t 25) (t 26) h Kn Kr Ke0) : Wp Try.prog 71 (seqL (rest 2 (lopC (blkC (rest 1 (seqL (rest 3 (bodyOf Try.f10.body)))))))) (mkQ (fun t h => Kn (t 0) (t 3) (t 24) (t 25) (t 26) h) (fun t h => Kr (t 2) h) (keAdd 0 (fun t h => Ke0 (t 0) h) ke0)) t h :=
  wpEqF H0 (by kernel_rfl)
def F10_8 (x0 x3 x24 x25 x26 : Value) (h : H) (Kn : Value → Value → Value → Value → Value → H → Prop) (Kr : Value → H → Prop) (Ke0 : Value → H → Prop) : Prop :=
  o_bin Try.prog .add 3 x26 (.int .i64 1) fun v57 => Kn x0 x3 x24 x25 v57 h
theorem F10_8_ok (Kn Kr Ke0) (t : T) (h : H) (H0 : F10_8 (t 0) (t 3) (t 24) (t 25) (t 26) h Kn Kr Ke0) : Wp Try.prog 71 (seqR (rest 2 (lopC (blkC (rest 1 (seqL (rest 3 (bodyOf Try.f10.body)))))))) (mkQ (fun t h => Kn (t 0) (t 3) (t 24) (t 25) (t 26) h) (fun t h => Kr (t 2) h) (keAdd 0 (fun t h => Ke0 (t 0) h) ke0)) t h :=
  wpEqF H0 (by kernel_rfl)
def F10_6 (x0 x3 x24 x25 x26 : Value) (h : H) (Kn : Value → Value → Value → Value → Value → H → Prop) (Kr : Value → H → Prop) (Ke0 : Value → H → Prop) : Prop :=
  F10_7 x0 x3 x24 x25 x26 h (fun y0 y3 y24 y25 y26 h => F10_8 y0 y3 y24 y25 y26 h Kn Kr Ke0) Kr Ke0
theorem F10_6_ok (Kn Kr Ke0) (t : T) (h : H) (H0 : F10_6 (t 0) (t 3) (t 24) (t 25) (t 26) h Kn Kr Ke0) : Wp Try.prog 71 (rest 2 (lopC (blkC (rest 1 (seqL (rest 3 (bodyOf Try.f10.body))))))) (mkQ (fun t h => Kn (t 0) (t 3) (t 24) (t 25) (t 26) h) (fun t h => Kr (t 2) h) (keAdd 0 (fun t h => Ke0 (t 0) h) ke0)) t h :=
  seq_ok (by kernel_rfl) (fun t h H1 => F10_8_ok Kn Kr Ke0 t h H1) (F10_7_ok (fun y0 y3 y24 y25 y26 h => F10_8 y0 y3 y24 y25 y26 h Kn Kr Ke0) Kr Ke0 t h H0)
def F10_5 (x0 x3 x24 x25 x26 : Value) (h : H) (Kn : Value → Value → Value → Value → Value → H → Prop) (Kr : Value → H → Prop) (Ke0 : Value → H → Prop) : Prop :=
  o_bin Try.prog .lss 3 x26 x25 fun v27 => o_if v27 (F10_6 x0 x3 x24 x25 x26 h Kn Kr Ke0) (Ke0 x0 h)
theorem F10_5_ok (Kn Kr Ke0) (t : T) (h : H) (H0 : F10_5 (t 0) (t 3) (t 24) (t 25) (t 26) h Kn Kr Ke0) : Wp Try.prog 71 (lopC (blkC (rest 1 (seqL (rest 3 (bodyOf Try.f10.body)))))) (mkQ (fun t h => Kn (t 0) (t 3) (t 24) (t 25) (t 26) h) (fun t h => Kr (t 2) h) (keAdd 0 (fun t h => Ke0 (t 0) h) ke0)) t h :=
  awpTo_okF 2 H0 (by kernel_rfl) (fun t h (H1 : F10_6 (t 0) (t 3) (t 24) (t 25) (t 26) h Kn Kr Ke0) => F10_6_ok Kn Kr Ke0 t h H1) (by kernel_rfl)
def F10_4 (x0 x3 x24 x25 x26 : Value) (h : H) (Kn : Value → H → Prop) (Kr : Value → H → Prop) (Ke0 : Value → H → Prop) : Prop :=
  sloop (S := Value × Value × Value × Value × Value) (fun s h K => F10_5 s.1 s.2.1 s.2.2.1 s.2.2.2.1 s.2.2.2.2 h (fun y0 y3 y24 y25 y26 h => K (y0, y3, y24, y25, y26) h) Kr Ke0) (x0, x3, x24, x25, x26) h
theorem F10_4_ok (Kn Kr Ke0) (t : T) (h : H) (H0 : F10_4 (t 0) (t 3) (t 24) (t 25) (t 26) h Kn Kr Ke0) : Wp Try.prog 71 (blkC (rest 1 (seqL (rest 3 (bodyOf Try.f10.body))))) (mkQ (fun t h => Kn (t 0) h) (fun t h => Kr (t 2) h) (keAdd 0 (fun t h => Ke0 (t 0) h) ke0)) t h :=
  loop_ok (fun t => (t 0, t 3, t 24, t 25, t 26)) (by kernel_rfl) (fun t h K H1 => F10_5_ok (fun y0 y3 y24 y25 y26 h => K (y0, y3, y24, y25, y26) h) Kr Ke0 t h H1) H0
def F10_3 (x0 x3 x24 x25 x26 : Value) (h : H) (Kn : Value → H → Prop) (Kr : Value → H → Prop) : Prop :=
  F10_4 x0 x3 x24 x25 x26 h Kn Kr Kn
theorem F10_3_ok (Kn Kr) (t : T) (h : H) (H0 : F10_3 (t 0) (t 3) (t 24) (t 25) (t 26) h Kn Kr) : Wp Try.prog 71 (rest 1 (seqL (rest 3 (bodyOf Try.f10.body)))) (mkQ (fun t h => Kn (t 0) h) (fun t h => Kr (t 2) h) ke0) t h :=
  block_ok 0 (by kernel_rfl) (by kernel_rfl) (F10_4_ok Kn Kr Kn t h H0)
def F10_2 (x0 x3 : Value) (h : H) (Kn : Value → H → Prop) (Kr : Value → H → Prop) : Prop :=
  o_lenSl x0 fun v25 => F10_3 x0 x3 x0 v25 (.int .i64 0) h Kn Kr
theorem F10_2_ok (Kn Kr) (t : T) (h : H) (H0 : F10_2 (t 0) (t 3) h Kn Kr) : Wp Try.prog 71 (seqL (rest 3 (bodyOf Try.f10.body))) (mkQ (fun t h => Kn (t 0) h) (fun t h => Kr (t 2) h) ke0) t h :=
  awpTo_okF 1 H0 (by kernel_rfl) (fun t h (H1 : F10_3 (t 0) (t 3) (t 24) (t 25) (t 26) h Kn Kr) => F10_3_ok Kn Kr t h H1) (by kernel_rfl)
def F10_9 (x0 : Value) (h : H) (Kn : Value → H → Prop) (Kr : Value → H → Prop) : Prop :=
  o_lenSl x0 fun v60 => o_bin Try.prog .sub 3 v60 (.int .i64 1) fun v61 => o_indexAddr none 5 x0 v61 fun v62 => o_fieldAddr 0 v62 fun v63 => o_load false 1 v63 h fun v64 => o_bin Try.prog .geq 3 v64 (.int .i64 11) fun v66 => o_guard v66 true (fun k4 => o_bin Try.prog .leq 3 v64 (.int .i64 13) fun v69 => k4 v69 h) (fun v69 h => o_pick v66 v69 (.bool false) fun v70 => Kr v70 h) h
theorem F10_9_ok (Kn Kr) (t : T) (h : H) (H0 : F10_9 (t 0) h Kn Kr) : Wp Try.prog 71 (seqR (rest 3 (bodyOf Try.f10.body))) (mkQ (fun t h => Kn (t 2) h) (fun t h => Kr (t 2) h) ke0) t h :=
  wpEqF H0 (by kernel_rfl)
def F10_1 (x0 x3 : Value) (h : H) (Kn : Value → H → Prop) (Kr : Value → H → Prop) : Prop :=
  F10_2 x0 x3 h (fun y0 h => F10_9 y0 h Kn Kr) Kr
theorem F10_1_ok (Kn Kr) (t : T) (h : H) (H0 : F10_1 (t 0) (t 3) h Kn Kr) : Wp Try.prog 71 (rest 3 (bodyOf Try.f10.body)) (mkQ (fun t h => Kn (t 2) h) (fun t h => Kr (t 2) h) ke0) t h :=
  seq_ok (by kernel_rfl) (fun t h H1 => F10_9_ok Kn Kr t h H1) (F10_2_ok (fun y0 h => F10_9 y0 h Kn Kr) Kr t h H0)
def F10_0 (x0 : Value) (h : H) (Kn : Value → H → Prop) (Kr : Value → H → Prop) : Prop :=
  o_lenSl x0 fun v10 => o_bin Try.prog .eql 3 v10 (.int .i64 0) fun v11 => o_guard v11 false (fun k6 => o_lenSl x0 fun v14 => o_bin Try.prog .gtr 3 v14 (.int .i64 2000) fun v15 => k6 v15 h) (fun v15 h => o_pick v11 (.bool true) v15 fun v16 => o_guard v16 false (fun k13 => o_indexAddr none 5 x0 (.int .i64 0) fun v19 => o_fieldAddr 0 v19 fun v20 => o_load false 1 v20 h fun v21 => o_bin Try.prog .neq 3 v21 (.int .i64 8) fun v22 => k13 v22 h) (fun v22 h => o_pick v16 (.bool true) v22 fun v23 => o_if v23 (Kr (.bool false) h) (o_new (List.replicate 256 ((.bool false) : Value)) 30 .exact h fun b3 h => F10_1 x0 (.pointer (some ⟨b3, 0, none⟩)) h Kn Kr)) h) h
theorem F10_0_ok (Kn Kr) (t : T) (h : H) (H0 : F10_0 (t 0) h Kn Kr) : Wp Try.prog 71 (bodyOf Try.f10.body) (mkQ (fun t h => Kn (t 2) h) (fun t h => Kr (t 2) h) ke0) t h :=
  awpTo_okF 3 H0 (by kernel_rfl) (fun t h (H1 : F10_1 (t 0) (t 3) h Kn Kr) => F10_1_ok Kn Kr t h H1) (by kernel_rfl)
def F10 (x0 : Value) (h : H) (Q : Value → H → Prop) : Prop := F10_0 x0 h (fun v h => Q v h) (fun v h => Q v h)
theorem F10_spec (x0 : Value) (h : H) (Q : Value → H → Prop) (H0 : F10 x0 h Q) : AM.Spec Try.prog 10 [x0] h Q :=
  spec_wp mixed (fn := Try.f10) Try.func10 (c := bodyOf Try.f10.body) (rs := [2]) (N := 71) (by kernel_rfl) (by kernel_rfl) (by kernel_rfl) (by kernel_rfl) (by kernel_rfl) (Nat.le_of_ble_eq_true rfl) (F10_0_ok (fun v h => Q v h) (fun v h => Q v h) (tinit [x0]) h H0) (by kernel_rfl)
/-! #### 11: tincture/tincturelaw24.equal -/
def F11_9 (x0 x1 x5 : Value) (h : H) (Kn : Value → Value → Value → Value → H → Prop) (Kr : Value → H → Prop) (Ke1 : Value → Value → Value → H → Prop) (Ke0 : H → Prop) : Prop :=
  o_indexAddr none 5 x0 x5 fun v19 => o_load true 5 v19 h fun v20 => o_indexAddr none 5 x1 x5 fun v23 => o_load true 5 v23 h fun v24 => o_bin Try.prog .neq 29 v20 v24 fun v25 => Kn x0 x1 x5 v25 h
theorem F11_9_ok (Kn Kr Ke1 Ke0) (t : T) (h : H) (H0 : F11_9 (t 0) (t 1) (t 5) h Kn Kr Ke1 Ke0) : Wp Try.prog 26 (seqL (blkC (seqL (rest 1 (lopC (blkC (rest 1 (seqL (rest 2 (bodyOf Try.f11.body)))))))))) (mkQ (fun t h => Kn (t 0) (t 1) (t 5) (t 25) h) (fun t h => Kr (t 4) h) (keAdd 1 (fun t h => Ke1 (t 0) (t 1) (t 5) h) (keAdd 0 (fun t h => Ke0  h) ke0))) t h :=
  draw_okF (by kernel_rfl) (by kernel_rfl) H0 (by kernel_rfl)
def F11_10 (x0 x1 x5 x25 : Value) (h : H) (Kn : Value → Value → Value → H → Prop) (Kr : Value → H → Prop) (Ke1 : Value → Value → Value → H → Prop) (Ke0 : H → Prop) : Prop :=
  o_if x25 (Kr (.bool false) h) (Kn x0 x1 x5 h)
theorem F11_10_ok (Kn Kr Ke1 Ke0) (t : T) (h : H) (H0 : F11_10 (t 0) (t 1) (t 5) (t 25) h Kn Kr Ke1 Ke0) : Wp Try.prog 26 (seqR (blkC (seqL (rest 1 (lopC (blkC (rest 1 (seqL (rest 2 (bodyOf Try.f11.body)))))))))) (mkQ (fun t h => Kn (t 0) (t 1) (t 5) h) (fun t h => Kr (t 4) h) (keAdd 1 (fun t h => Ke1 (t 0) (t 1) (t 5) h) (keAdd 0 (fun t h => Ke0  h) ke0))) t h :=
  wpEqF H0 (by kernel_rfl)
def F11_8 (x0 x1 x5 : Value) (h : H) (Kn : Value → Value → Value → H → Prop) (Kr : Value → H → Prop) (Ke1 : Value → Value → Value → H → Prop) (Ke0 : H → Prop) : Prop :=
  F11_9 x0 x1 x5 h (fun y0 y1 y5 y25 h => F11_10 y0 y1 y5 y25 h Kn Kr Ke1 Ke0) Kr Ke1 Ke0
theorem F11_8_ok (Kn Kr Ke1 Ke0) (t : T) (h : H) (H0 : F11_8 (t 0) (t 1) (t 5) h Kn Kr Ke1 Ke0) : Wp Try.prog 26 (blkC (seqL (rest 1 (lopC (blkC (rest 1 (seqL (rest 2 (bodyOf Try.f11.body))))))))) (mkQ (fun t h => Kn (t 0) (t 1) (t 5) h) (fun t h => Kr (t 4) h) (keAdd 1 (fun t h => Ke1 (t 0) (t 1) (t 5) h) (keAdd 0 (fun t h => Ke0  h) ke0))) t h :=
  seq_ok (by kernel_rfl) (fun t h H1 => F11_10_ok Kn Kr Ke1 Ke0 t h H1) (F11_9_ok (fun y0 y1 y5 y25 h => F11_10 y0 y1 y5 y25 h Kn Kr Ke1 Ke0) Kr Ke1 Ke0 t h H0)
def F11_7 (x0 x1 x5 : Value) (h : H) (Kn : Value → Value → Value → H → Prop) (Kr : Value → H → Prop) (Ke0 : H → Prop) : Prop :=
  F11_8 x0 x1 x5 h Kn Kr Kn Ke0
theorem F11_7_ok (Kn Kr Ke0) (t : T) (h : H) (H0 : F11_7 (t 0) (t 1) (t 5) h Kn Kr Ke0) : Wp Try.prog 26 (seqL (rest 1 (lopC (blkC (rest 1 (seqL (rest 2 (bodyOf Try.f11.body)))))))) (mkQ (fun t h => Kn (t 0) (t 1) (t 5) h) (fun t h => Kr (t 4) h) (keAdd 0 (fun t h => Ke0  h) ke0)) t h :=
  block_ok 1 (by kernel_rfl) (by kernel_rfl) (F11_8_ok Kn Kr Kn Ke0 t h H0)
def F11_11 (x0 x1 x5 : Value) (h : H) (Kn : Value → Value → Value → H → Prop) (Kr : Value → H → Prop) (Ke0 : H → Prop) : Prop :=
  o_bin Try.prog .add 3 x5 (.int .i64 1) fun v16 => Kn x0 x1 v16 h
theorem F11_11_ok (Kn Kr Ke0) (t : T) (h : H) (H0 : F11_11 (t 0) (t 1) (t 5) h Kn Kr Ke0) : Wp Try.prog 26 (seqR (rest 1 (lopC (blkC (rest 1 (seqL (rest 2 (bodyOf Try.f11.body)))))))) (mkQ (fun t h => Kn (t 0) (t 1) (t 5) h) (fun t h => Kr (t 4) h) (keAdd 0 (fun t h => Ke0  h) ke0)) t h :=
  wpEqF H0 (by kernel_rfl)
def F11_6 (x0 x1 x5 : Value) (h : H) (Kn : Value → Value → Value → H → Prop) (Kr : Value → H → Prop) (Ke0 : H → Prop) : Prop :=
  F11_7 x0 x1 x5 h (fun y0 y1 y5 h => F11_11 y0 y1 y5 h Kn Kr Ke0) Kr Ke0
theorem F11_6_ok (Kn Kr Ke0) (t : T) (h : H) (H0 : F11_6 (t 0) (t 1) (t 5) h Kn Kr Ke0) : Wp Try.prog 26 (rest 1 (lopC (blkC (rest 1 (seqL (rest 2 (bodyOf Try.f11.body))))))) (mkQ (fun t h => Kn (t 0) (t 1) (t 5) h) (fun t h => Kr (t 4) h) (keAdd 0 (fun t h => Ke0  h) ke0)) t h :=
  seq_ok (by kernel_rfl) (fun t h H1 => F11_11_ok Kn Kr Ke0 t h H1) (F11_7_ok (fun y0 y1 y5 h => F11_11 y0 y1 y5 h Kn Kr Ke0) Kr Ke0 t h H0)
def F11_5 (x0 x1 x5 : Value) (h : H) (Kn : Value → Value → Value → H → Prop) (Kr : Value → H → Prop) (Ke0 : H → Prop) : Prop :=
  o_lenSl x0 fun v13 => o_bin Try.prog .lss 3 x5 v13 fun v14 => o_if v14 (F11_6 x0 x1 x5 h Kn Kr Ke0) (Ke0 h)
theorem F11_5_ok (Kn Kr Ke0) (t : T) (h : H) (H0 : F11_5 (t 0) (t 1) (t 5) h Kn Kr Ke0) : Wp Try.prog 26 (lopC (blkC (rest 1 (seqL (rest 2 (bodyOf Try.f11.body)))))) (mkQ (fun t h => Kn (t 0) (t 1) (t 5) h) (fun t h => Kr (t 4) h) (keAdd 0 (fun t h => Ke0  h) ke0)) t h :=
  awpTo_okF 1 H0 (by kernel_rfl) (fun t h (H1 : F11_6 (t 0) (t 1) (t 5) h Kn Kr Ke0) => F11_6_ok Kn Kr Ke0 t h H1) (by kernel_rfl)
def F11_4 (x0 x1 x5 : Value) (h : H) (Kn : H → Prop) (Kr : Value → H → Prop) (Ke0 : H → Prop) : Prop :=
  sloop (S := Value × Value × Value) (fun s h K => F11_5 s.1 s.2.1 s.2.2 h (fun y0 y1 y5 h => K (y0, y1, y5) h) Kr Ke0) (x0, x1, x5) h
theorem F11_4_ok (Kn Kr Ke0) (t : T) (h : H) (H0 : F11_4 (t 0) (t 1) (t 5) h Kn Kr Ke0) : Wp Try.prog 26 (blkC (rest 1 (seqL (rest 2 (bodyOf Try.f11.body))))) (mkQ (fun t h => Kn  h) (fun t h => Kr (t 4) h) (keAdd 0 (fun t h => Ke0  h) ke0)) t h :=
  loop_ok (fun t => (t 0, t 1, t 5)) (by kernel_rfl) (fun t h K H1 => F11_5_ok (fun y0 y1 y5 h => K (y0, y1, y5) h) Kr Ke0 t h H1) H0
def F11_3 (x0 x1 x5 : Value) (h : H) (Kn : H → Prop) (Kr : Value → H → Prop) : Prop :=
  F11_4 x0 x1 x5 h Kn Kr Kn
theorem F11_3_ok (Kn Kr) (t : T) (h : H) (H0 : F11_3 (t 0) (t 1) (t 5) h Kn Kr) : Wp Try.prog 26 (rest 1 (seqL (rest 2 (bodyOf Try.f11.body)))) (mkQ (fun t h => Kn  h) (fun t h => Kr (t 4) h) ke0) t h :=
  block_ok 0 (by kernel_rfl) (by kernel_rfl) (F11_4_ok Kn Kr Kn t h H0)
def F11_2 (x0 x1 : Value) (h : H) (Kn : H → Prop) (Kr : Value → H → Prop) : Prop :=
  F11_3 x0 x1 (.int .i64 0) h Kn Kr
theorem F11_2_ok (Kn Kr) (t : T) (h : H) (H0 : F11_2 (t 0) (t 1) h Kn Kr) : Wp Try.prog 26 (seqL (rest 2 (bodyOf Try.f11.body))) (mkQ (fun t h => Kn  h) (fun t h => Kr (t 4) h) ke0) t h :=
  awpTo_okF 1 H0 (by kernel_rfl) (fun t h (H1 : F11_3 (t 0) (t 1) (t 5) h Kn Kr) => F11_3_ok Kn Kr t h H1) (by kernel_rfl)
def F11_12 (h : H) (Kn : Value → H → Prop) (Kr : Value → H → Prop) : Prop :=
  Kr (.bool true) h
theorem F11_12_ok (Kn Kr) (t : T) (h : H) (H0 : F11_12  h Kn Kr) : Wp Try.prog 26 (seqR (rest 2 (bodyOf Try.f11.body))) (mkQ (fun t h => Kn (t 4) h) (fun t h => Kr (t 4) h) ke0) t h :=
  wpEqF H0 (by kernel_rfl)
def F11_1 (x0 x1 : Value) (h : H) (Kn : Value → H → Prop) (Kr : Value → H → Prop) : Prop :=
  F11_2 x0 x1 h (fun  h => F11_12  h Kn Kr) Kr
theorem F11_1_ok (Kn Kr) (t : T) (h : H) (H0 : F11_1 (t 0) (t 1) h Kn Kr) : Wp Try.prog 26 (rest 2 (bodyOf Try.f11.body)) (mkQ (fun t h => Kn (t 4) h) (fun t h => Kr (t 4) h) ke0) t h :=
  seq_ok (by kernel_rfl) (fun t h H1 => F11_12_ok Kn Kr t h H1) (F11_2_ok (fun  h => F11_12  h Kn Kr) Kr t h H0)
def F11_0 (x0 x1 : Value) (h : H) (Kn : Value → H → Prop) (Kr : Value → H → Prop) : Prop :=
  o_lenSl x0 fun v7 => o_lenSl x1 fun v9 => o_bin Try.prog .neq 3 v7 v9 fun v10 => o_if v10 (Kr (.bool false) h) (F11_1 x0 x1 h Kn Kr)
theorem F11_0_ok (Kn Kr) (t : T) (h : H) (H0 : F11_0 (t 0) (t 1) h Kn Kr) : Wp Try.prog 26 (bodyOf Try.f11.body) (mkQ (fun t h => Kn (t 4) h) (fun t h => Kr (t 4) h) ke0) t h :=
  awpTo_okF 2 H0 (by kernel_rfl) (fun t h (H1 : F11_1 (t 0) (t 1) h Kn Kr) => F11_1_ok Kn Kr t h H1) (by kernel_rfl)
def F11 (x0 x1 : Value) (h : H) (Q : Value → H → Prop) : Prop := F11_0 x0 x1 h (fun v h => Q v h) (fun v h => Q v h)
theorem F11_spec (x0 x1 : Value) (h : H) (Q : Value → H → Prop) (H0 : F11 x0 x1 h Q) : AM.Spec Try.prog 11 [x0, x1] h Q :=
  spec_wp mixed (fn := Try.f11) Try.func11 (c := bodyOf Try.f11.body) (rs := [4]) (N := 26) (by kernel_rfl) (by kernel_rfl) (by kernel_rfl) (by kernel_rfl) (by kernel_rfl) (Nat.le_of_ble_eq_true rfl) (F11_0_ok (fun v h => Q v h) (fun v h => Q v h) (tinit [x0, x1]) h H0) (by kernel_rfl)
/-! #### 12: tincture/tincturelaw24.clean -/
def F12_24 (x0 x3 x4 x5 x6 x7 : Value) (h : H) (Kn : Value → Value → Value → Value → Value → Value → H → Prop) (Kr : Value → H → Prop) (Ke5 : Value → Value → Value → Value → Value → Value → H → Prop) (Ke4 : Value → Value → Value → Value → H → Prop) (Ke3 : Value → Value → Value → Value → H → Prop) (Ke2 : Value → Value → Value → H → Prop) (Ke1 : Value → Value → H → Prop) (Ke0 : H → Prop) : Prop :=
  o_guard x4 false (fun k11 => o_indexAddr none 1 x6 x7 fun v73 => o_load false 1 v73 h fun v74 => o_indexAddr none 5 x0 x3 fun v77 => o_fieldAddr 1 v77 fun v78 => o_load false 1 v78 h fun v79 => o_bin Try.prog .eql 3 v74 v79 fun v80 => k11 v80 h) (fun v80 h => o_pick x4 (.bool true) v80 fun v81 => Kn x0 x3 v81 x5 x6 x7 h) h
theorem F12_24_ok (Kn Kr Ke5 Ke4 Ke3 Ke2 Ke1 Ke0) (t : T) (h : H) (H0 : F12_24 (t 0) (t 3) (t 4) (t 5) (t 6) (t 7) h Kn Kr Ke5 Ke4 Ke3 Ke2 Ke1 Ke0) : Wp Try.prog 106 (blkC (seqL (rest 1 (lopC (blkC (rest 1 (seqL (rest 1 (blkC (seqL (rest 1 (lopC (blkC (rest 1 (seqL (rest 2 (blkC (seqL (rest 1 (lopC (blkC (rest 1 (seqL (rest 1 (bodyOf Try.f12.body))))))))))))))))))))))))) (mkQ (fun t h => Kn (t 0) (t 3) (t 4) (t 5) (t 6) (t 7) h) (fun t h => Kr (t 2) h) (keAdd 5 (fun t h => Ke5 (t 0) (t 3) (t 4) (t 5) (t 6) (t 7) h) (keAdd 4 (fun t h => Ke4 (t 0) (t 3) (t 4) (t 5) h) (keAdd 3 (fun t h => Ke3 (t 0) (t 3) (t 4) (t 5) h) (keAdd 2 (fun t h => Ke2 (t 0) (t 3) (t 4) h) (keAdd 1 (fun t h => Ke1 (t 0) (t 3) h) (keAdd 0 (fun t h => Ke0  h) ke0))))))) t h :=
  draw_okF (by kernel_rfl) (by kernel_rfl) H0 (by kernel_rfl)
def F12_23 (x0 x3 x4 x5 x6 x7 : Value) (h : H) (Kn : Value → Value → Value → Value → Value → Value → H → Prop) (Kr : Value → H → Prop) (Ke4 : Value → Value → Value → Value → H → Prop) (Ke3 : Value → Value → Value → Value → H → Prop) (Ke2 : Value → Value → Value → H → Prop) (Ke1 : Value → Value → H → Prop) (Ke0 : H → Prop) : Prop :=
  F12_24 x0 x3 x4 x5 x6 x7 h Kn Kr Kn Ke4 Ke3 Ke2 Ke1 Ke0
theorem F12_23_ok (Kn Kr Ke4 Ke3 Ke2 Ke1 Ke0) (t : T) (h : H) (H0 : F12_23 (t 0) (t 3) (t 4) (t 5) (t 6) (t 7) h Kn Kr Ke4 Ke3 Ke2 Ke1 Ke0) : Wp Try.prog 106 (seqL (rest 1 (lopC (blkC (rest 1 (seqL (rest 1 (blkC (seqL (rest 1 (lopC (blkC (rest 1 (seqL (rest 2 (blkC (seqL (rest 1 (lopC (blkC (rest 1 (seqL (rest 1 (bodyOf Try.f12.body)))))))))))))))))))))))) (mkQ (fun t h => Kn (t 0) (t 3) (t 4) (t 5) (t 6) (t 7) h) (fun t h => Kr (t 2) h) (keAdd 4 (fun t h => Ke4 (t 0) (t 3) (t 4) (t 5) h) (keAdd 3 (fun t h => Ke3 (t 0) (t 3) (t 4) (t 5) h) (keAdd 2 (fun t h => Ke2 (t 0) (t 3) (t 4) h) (keAdd 1 (fun t h => Ke1 (t 0) (t 3) h) (keAdd 0 (fun t h => Ke0  h) ke0)))))) t h :=
  block_ok 5 (by kernel_rfl) (by kernel_rfl) (F12_24_ok Kn Kr Kn Ke4 Ke3 Ke2 Ke1 Ke0 t h H0)
def F12_25 (x0 x3 x4 x5 x6 x7 : Value) (h : H) (Kn : Value → Value → Value → Value → Value → Value → H → Prop) (Kr : Value → H → Prop) (Ke4 : Value → Value → Value → Value → H → Prop) (Ke3 : Value → Value → Value → Value → H → Prop) (Ke2 : Value → Value → Value → H → Prop) (Ke1 : Value → Value → H → Prop) (Ke0 : H → Prop) : Prop :=
  o_bin Try.prog .add 3 x7 (.int .i64 1) fun v68 => Kn x0 x3 x4 x5 x6 v68 h
theorem F12_25_ok (Kn Kr Ke4 Ke3 Ke2 Ke1 Ke0) (t : T) (h : H) (H0 : F12_25 (t 0) (t 3) (t 4) (t 5) (t 6) (t 7) h Kn Kr Ke4 Ke3 Ke2 Ke1 Ke0) : Wp Try.prog 106 (seqR (rest 1 (lopC (blkC (rest 1 (seqL (rest 1 (blkC (seqL (rest 1 (lopC (blkC (rest 1 (seqL (rest 2 (blkC (seqL (rest 1 (lopC (blkC (rest 1 (seqL (rest 1 (bodyOf Try.f12.body)))))))))))))))))))))))) (mkQ (fun t h => Kn (t 0) (t 3) (t 4) (t 5) (t 6) (t 7) h) (fun t h => Kr (t 2) h) (keAdd 4 (fun t h => Ke4 (t 0) (t 3) (t 4) (t 5) h) (keAdd 3 (fun t h => Ke3 (t 0) (t 3) (t 4) (t 5) h) (keAdd 2 (fun t h => Ke2 (t 0) (t 3) (t 4) h) (keAdd 1 (fun t h => Ke1 (t 0) (t 3) h) (keAdd 0 (fun t h => Ke0  h) ke0)))))) t h :=
  wpEqF H0 (by kernel_rfl)
def F12_22 (x0 x3 x4 x5 x6 x7 : Value) (h : H) (Kn : Value → Value → Value → Value → Value → Value → H → Prop) (Kr : Value → H → Prop) (Ke4 : Value → Value → Value → Value → H → Prop) (Ke3 : Value → Value → Value → Value → H → Prop) (Ke2 : Value → Value → Value → H → Prop) (Ke1 : Value → Value → H → Prop) (Ke0 : H → Prop) : Prop :=
  F12_23 x0 x3 x4 x5 x6 x7 h (fun y0 y3 y4 y5 y6 y7 h => F12_25 y0 y3 y4 y5 y6 y7 h Kn Kr Ke4 Ke3 Ke2 Ke1 Ke0) Kr Ke4 Ke3 Ke2 Ke1 Ke0
theorem F12_22_ok (Kn Kr Ke4 Ke3 Ke2 Ke1 Ke0) (t : T) (h : H) (H0 : F12_22 (t 0) (t 3) (t 4) (t 5) (t 6) (t 7) h Kn Kr Ke4 Ke3 Ke2 Ke1 Ke0) : Wp Try.prog 106 (rest 1 (lopC (blkC (rest 1 (seqL (rest 1 (blkC (seqL (rest 1 (lopC (blkC (rest 1 (seqL (rest 2 (blkC (seqL (rest 1 (lopC (blkC (rest 1 (seqL (rest 1 (bodyOf Try.f12.body))))))))))))))))))))))) (mkQ (fun t h => Kn (t 0) (t 3) (t 4) (t 5) (t 6) (t 7) h) (fun t h => Kr (t 2) h) (keAdd 4 (fun t h => Ke4 (t 0) (t 3) (t 4) (t 5) h) (keAdd 3 (fun t h => Ke3 (t 0) (t 3) (t 4) (t 5) h) (keAdd 2 (fun t h => Ke2 (t 0) (t 3) (t 4) h) (keAdd 1 (fun t h => Ke1 (t 0) (t 3) h) (keAdd 0 (fun t h => Ke0  h) ke0)))))) t h :=
  seq_ok (by kernel_rfl) (fun t h H1 => F12_25_ok Kn Kr Ke4 Ke3 Ke2 Ke1 Ke0 t h H1) (F12_23_ok (fun y0 y3 y4 y5 y6 y7 h => F12_25 y0 y3 y4 y5 y6 y7 h Kn Kr Ke4 Ke3 Ke2 Ke1 Ke0) Kr Ke4 Ke3 Ke2 Ke1 Ke0 t h H0)
def F12_21 (x0 x3 x4 x5 x6 x7 : Value) (h : H) (Kn : Value → Value → Value → Value → Value → Value → H → Prop) (Kr : Value → H → Prop) (Ke4 : Value → Value → Value → Value → H → Prop) (Ke3 : Value → Value → Value → Value → H → Prop) (Ke2 : Value → Value → Value → H → Prop) (Ke1 : Value → Value → H → Prop) (Ke0 : H → Prop) : Prop :=
  o_lenSl x6 fun v65 => o_bin Try.prog .lss 3 x7 v65 fun v66 => o_if v66 (F12_22 x0 x3 x4 x5 x6 x7 h Kn Kr Ke4 Ke3 Ke2 Ke1 Ke0) (Ke4 x0 x3 x4 x5 h)
theorem F12_21_ok (Kn Kr Ke4 Ke3 Ke2 Ke1 Ke0) (t : T) (h : H) (H0 : F12_21 (t 0) (t 3) (t 4) (t 5) (t 6) (t 7) h Kn Kr Ke4 Ke3 Ke2 Ke1 Ke0) : Wp Try.prog 106 (lopC (blkC (rest 1 (seqL (rest 1 (blkC (seqL (rest 1 (lopC (blkC (rest 1 (seqL (rest 2 (blkC (seqL (rest 1 (lopC (blkC (rest 1 (seqL (rest 1 (bodyOf Try.f12.body)))))))))))))))))))))) (mkQ (fun t h => Kn (t 0) (t 3) (t 4) (t 5) (t 6) (t 7) h) (fun t h => Kr (t 2) h) (keAdd 4 (fun t h => Ke4 (t 0) (t 3) (t 4) (t 5) h) (keAdd 3 (fun t h => Ke3 (t 0) (t 3) (t 4) (t 5) h) (keAdd 2 (fun t h => Ke2 (t 0) (t 3) (t 4) h) (keAdd 1 (fun t h => Ke1 (t 0) (t 3) h) (keAdd 0 (fun t h => Ke0  h) ke0)))))) t h :=
  awpTo_okF 1 H0 (by kernel_rfl) (fun t h (H1 : F12_22 (t 0) (t 3) (t 4) (t 5) (t 6) (t 7) h Kn Kr Ke4 Ke3 Ke2 Ke1 Ke0) => F12_22_ok Kn Kr Ke4 Ke3 Ke2 Ke1 Ke0 t h H1) (by kernel_rfl)
def F12_20 (x0 x3 x4 x5 x6 x7 : Value) (h : H) (Kn : Value → Value → Value → Value → H → Prop) (Kr : Value → H → Prop) (Ke4 : Value → Value → Value → Value → H → Prop) (Ke3 : Value → Value → Value → Value → H → Prop) (Ke2 : Value → Value → Value → H → Prop) (Ke1 : Value → Value → H → Prop) (Ke0 : H → Prop) : Prop :=
  sloop (S := Value × Value × Value × Value × Value × Value) (fun s h K => F12_21 s.1 s.2.1 s.2.2.1 s.2.2.2.1 s.2.2.2.2.1 s.2.2.2.2.2 h (fun y0 y3 y4 y5 y6 y7 h => K (y0, y3, y4, y5, y6, y7) h) Kr Ke4 Ke3 Ke2 Ke1 Ke0) (x0, x3, x4, x5, x6, x7) h
theorem F12_20_ok (Kn Kr Ke4 Ke3 Ke2 Ke1 Ke0) (t : T) (h : H) (H0 : F12_20 (t 0) (t 3) (t 4) (t 5) (t 6) (t 7) h Kn Kr Ke4 Ke3 Ke2 Ke1 Ke0) : Wp Try.prog 106 (blkC (rest 1 (seqL (rest 1 (blkC (seqL (rest 1 (lopC (blkC (rest 1 (seqL (rest 2 (blkC (seqL (rest 1 (lopC (blkC (rest 1 (seqL (rest 1 (bodyOf Try.f12.body))))))))))))))))))))) (mkQ (fun t h => Kn (t 0) (t 3) (t 4) (t 5) h) (fun t h => Kr (t 2) h) (keAdd 4 (fun t h => Ke4 (t 0) (t 3) (t 4) (t 5) h) (keAdd 3 (fun t h => Ke3 (t 0) (t 3) (t 4) (t 5) h) (keAdd 2 (fun t h => Ke2 (t 0) (t 3) (t 4) h) (keAdd 1 (fun t h => Ke1 (t 0) (t 3) h) (keAdd 0 (fun t h => Ke0  h) ke0)))))) t h :=
  loop_ok (fun t => (t 0, t 3, t 4, t 5, t 6, t 7)) (by kernel_rfl) (fun t h K H1 => F12_21_ok (fun y0 y3 y4 y5 y6 y7 h => K (y0, y3, y4, y5, y6, y7) h) Kr Ke4 Ke3 Ke2 Ke1 Ke0 t h H1) H0
def F12_19 (x0 x3 x4 x5 x6 x7 : Value) (h : H) (Kn : Value → Value → Value → Value → H → Prop) (Kr : Value → H → Prop) (Ke3 : Value → Value → Value → Value → H → Prop) (Ke2 : Value → Value → Value → H → Prop) (Ke1 : Value → Value → H → Prop) (Ke0 : H → Prop) : Prop :=
  F12_20 x0 x3 x4 x5 x6 x7 h Kn Kr Kn Ke3 Ke2 Ke1 Ke0
theorem F12_19_ok (Kn Kr Ke3 Ke2 Ke1 Ke0) (t : T) (h : H) (H0 : F12_19 (t 0) (t 3) (t 4) (t 5) (t 6) (t 7) h Kn Kr Ke3 Ke2 Ke1 Ke0) : Wp Try.prog 106 (rest 1 (seqL (rest 1 (blkC (seqL (rest 1 (lopC (blkC (rest 1 (seqL (rest 2 (blkC (seqL (rest 1 (lopC (blkC (rest 1 (seqL (rest 1 (bodyOf Try.f12.body)))))))))))))))))))) (mkQ (fun t h => Kn (t 0) (t 3) (t 4) (t 5) h) (fun t h => Kr (t 2) h) (keAdd 3 (fun t h => Ke3 (t 0) (t 3) (t 4) (t 5) h) (keAdd 2 (fun t h => Ke2 (t 0) (t 3) (t 4) h) (keAdd 1 (fun t h => Ke1 (t 0) (t 3) h) (keAdd 0 (fun t h => Ke0  h) ke0))))) t h :=
  block_ok 4 (by kernel_rfl) (by kernel_rfl) (F12_20_ok Kn Kr Kn Ke3 Ke2 Ke1 Ke0 t h H0)
def F12_18 (x0 x3 x4 x5 x6 : Value) (h : H) (Kn : Value → Value → Value → Value → H → Prop) (Kr : Value → H → Prop) (Ke3 : Value → Value → Value → Value → H → Prop) (Ke2 : Value → Value → Value → H → Prop) (Ke1 : Value → Value → H → Prop) (Ke0 : H → Prop) : Prop :=
  F12_19 x0 x3 x4 x5 x6 (.int .i64 0) h Kn Kr Ke3 Ke2 Ke1 Ke0
theorem F12_18_ok (Kn Kr Ke3 Ke2 Ke1 Ke0) (t : T) (h : H) (H0 : F12_18 (t 0) (t 3) (t 4) (t 5) (t 6) h Kn Kr Ke3 Ke2 Ke1 Ke0) : Wp Try.prog 106 (seqL (rest 1 (blkC (seqL (rest 1 (lopC (blkC (rest 1 (seqL (rest 2 (blkC (seqL (rest 1 (lopC (blkC (rest 1 (seqL (rest 1 (bodyOf Try.f12.body))))))))))))))))))) (mkQ (fun t h => Kn (t 0) (t 3) (t 4) (t 5) h) (fun t h => Kr (t 2) h) (keAdd 3 (fun t h => Ke3 (t 0) (t 3) (t 4) (t 5) h) (keAdd 2 (fun t h => Ke2 (t 0) (t 3) (t 4) h) (keAdd 1 (fun t h => Ke1 (t 0) (t 3) h) (keAdd 0 (fun t h => Ke0  h) ke0))))) t h :=
  awpTo_okF 1 H0 (by kernel_rfl) (fun t h (H1 : F12_19 (t 0) (t 3) (t 4) (t 5) (t 6) (t 7) h Kn Kr Ke3 Ke2 Ke1 Ke0) => F12_19_ok Kn Kr Ke3 Ke2 Ke1 Ke0 t h H1) (by kernel_rfl)
def F12_26 (x0 x3 x4 x5 : Value) (h : H) (Kn : Value → Value → Value → Value → H → Prop) (Kr : Value → H → Prop) (Ke3 : Value → Value → Value → Value → H → Prop) (Ke2 : Value → Value → Value → H → Prop) (Ke1 : Value → Value → H → Prop) (Ke0 : H → Prop) : Prop :=
  o_indexAddr none 5 x0 x5 fun v85 => o_load true 5 v85 h fun v86 => o_call Try.prog 20 [v86] h fun v87 h => o_extract v87 0 fun v88 => o_extract v87 1 fun v89 => o_guard v89 true (fun k8 => o_indexAddr none 5 x0 x3 fun v95 => o_fieldAddr 1 v95 fun v96 => o_load false 1 v96 h fun v97 => o_bin Try.prog .eql 3 v88 v97 fun v98 => k8 v98 h) (fun v98 h => o_pick v89 v98 (.bool false) fun v99 => o_guard v99 true (fun k12 => o_un Try.prog .not x4 fun v102 => k12 v102 h) (fun v102 h => o_pick v99 v102 (.bool false) fun v103 => o_if v103 (Ke2 x0 x3 x4 h) (Kn x0 x3 x4 x5 h)) h) h
theorem F12_26_ok (Kn Kr Ke3 Ke2 Ke1 Ke0) (t : T) (h : H) (H0 : F12_26 (t 0) (t 3) (t 4) (t 5) h Kn Kr Ke3 Ke2 Ke1 Ke0) : Wp Try.prog 106 (seqR (rest 1 (blkC (seqL (rest 1 (lopC (blkC (rest 1 (seqL (rest 2 (blkC (seqL (rest 1 (lopC (blkC (rest 1 (seqL (rest 1 (bodyOf Try.f12.body))))))))))))))))))) (mkQ (fun t h => Kn (t 0) (t 3) (t 4) (t 5) h) (fun t h => Kr (t 2) h) (keAdd 3 (fun t h => Ke3 (t 0) (t 3) (t 4) (t 5) h) (keAdd 2 (fun t h => Ke2 (t 0) (t 3) (t 4) h) (keAdd 1 (fun t h => Ke1 (t 0) (t 3) h) (keAdd 0 (fun t h => Ke0  h) ke0))))) t h :=
  wpEqF H0 (by kernel_rfl)
def F12_17 (x0 x3 x4 x5 x6 : Value) (h : H) (Kn : Value → Value → Value → Value → H → Prop) (Kr : Value → H → Prop) (Ke3 : Value → Value → Value → Value → H → Prop) (Ke2 : Value → Value → Value → H → Prop) (Ke1 : Value → Value → H → Prop) (Ke0 : H → Prop) : Prop :=
  F12_18 x0 x3 x4 x5 x6 h (fun y0 y3 y4 y5 h => F12_26 y0 y3 y4 y5 h Kn Kr Ke3 Ke2 Ke1 Ke0) Kr Ke3 Ke2 Ke1 Ke0
theorem F12_17_ok (Kn Kr Ke3 Ke2 Ke1 Ke0) (t : T) (h : H) (H0 : F12_17 (t 0) (t 3) (t 4) (t 5) (t 6) h Kn Kr Ke3 Ke2 Ke1 Ke0) : Wp Try.prog 106 (rest 1 (blkC (seqL (rest 1 (lopC (blkC (rest 1 (seqL (rest 2 (blkC (seqL (rest 1 (lopC (blkC (rest 1 (seqL (rest 1 (bodyOf Try.f12.body)))))))))))))))))) (mkQ (fun t h => Kn (t 0) (t 3) (t 4) (t 5) h) (fun t h => Kr (t 2) h) (keAdd 3 (fun t h => Ke3 (t 0) (t 3) (t 4) (t 5) h) (keAdd 2 (fun t h => Ke2 (t 0) (t 3) (t 4) h) (keAdd 1 (fun t h => Ke1 (t 0) (t 3) h) (keAdd 0 (fun t h => Ke0  h) ke0))))) t h :=
  seq_ok (by kernel_rfl) (fun t h H1 => F12_26_ok Kn Kr Ke3 Ke2 Ke1 Ke0 t h H1) (F12_18_ok (fun y0 y3 y4 y5 h => F12_26 y0 y3 y4 y5 h Kn Kr Ke3 Ke2 Ke1 Ke0) Kr Ke3 Ke2 Ke1 Ke0 t h H0)
def F12_16 (x0 x3 x4 x5 : Value) (h : H) (Kn : Value → Value → Value → Value → H → Prop) (Kr : Value → H → Prop) (Ke3 : Value → Value → Value → Value → H → Prop) (Ke2 : Value → Value → Value → H → Prop) (Ke1 : Value → Value → H → Prop) (Ke0 : H → Prop) : Prop :=
  o_indexAddr none 5 x0 x5 fun v60 => o_load true 5 v60 h fun v61 => o_call Try.prog 21 [v61] h fun v62 h => F12_17 x0 x3 x4 x5 v62 h Kn Kr Ke3 Ke2 Ke1 Ke0
theorem F12_16_ok (Kn Kr Ke3 Ke2 Ke1 Ke0) (t : T) (h : H) (H0 : F12_16 (t 0) (t 3) (t 4) (t 5) h Kn Kr Ke3 Ke2 Ke1 Ke0) : Wp Try.prog 106 (blkC (seqL (rest 1 (lopC (blkC (rest 1 (seqL (rest 2 (blkC (seqL (rest 1 (lopC (blkC (rest 1 (seqL (rest 1 (bodyOf Try.f12.body))))))))))))))))) (mkQ (fun t h => Kn (t 0) (t 3) (t 4) (t 5) h) (fun t h => Kr (t 2) h) (keAdd 3 (fun t h => Ke3 (t 0) (t 3) (t 4) (t 5) h) (keAdd 2 (fun t h => Ke2 (t 0) (t 3) (t 4) h) (keAdd 1 (fun t h => Ke1 (t 0) (t 3) h) (keAdd 0 (fun t h => Ke0  h) ke0))))) t h :=
  awpTo_okF 1 H0 (by kernel_rfl) (fun t h (H1 : F12_17 (t 0) (t 3) (t 4) (t 5) (t 6) h Kn Kr Ke3 Ke2 Ke1 Ke0) => F12_17_ok Kn Kr Ke3 Ke2 Ke1 Ke0 t h H1) (by kernel_rfl)
def F12_15 (x0 x3 x4 x5 : Value) (h : H) (Kn : Value → Value → Value → Value → H → Prop) (Kr : Value → H → Prop) (Ke2 : Value → Value → Value → H → Prop) (Ke1 : Value → Value → H → Prop) (Ke0 : H → Prop) : Prop :=
  F12_16 x0 x3 x4 x5 h Kn Kr Kn Ke2 Ke1 Ke0
theorem F12_15_ok (Kn Kr Ke2 Ke1 Ke0) (t : T) (h : H) (H0 : F12_15 (t 0) (t 3) (t 4) (t 5) h Kn Kr Ke2 Ke1 Ke0) : Wp Try.prog 106 (seqL (rest 1 (lopC (blkC (rest 1 (seqL (rest 2 (blkC (seqL (rest 1 (lopC (blkC (rest 1 (seqL (rest 1 (bodyOf Try.f12.body)))))))))))))))) (mkQ (fun t h => Kn (t 0) (t 3) (t 4) (t 5) h) (fun t h => Kr (t 2) h) (keAdd 2 (fun t h => Ke2 (t 0) (t 3) (t 4) h) (keAdd 1 (fun t h => Ke1 (t 0) (t 3) h) (keAdd 0 (fun t h => Ke0  h) ke0)))) t h :=
  block_ok 3 (by kernel_rfl) (by kernel_rfl) (F12_16_ok Kn Kr Kn Ke2 Ke1 Ke0 t h H0)
def F12_27 (x0 x3 x4 x5 : Value) (h : H) (Kn : Value → Value → Value → Value → H → Prop) (Kr : Value → H → Prop) (Ke2 : Value → Value → Value → H → Prop) (Ke1 : Value → Value → H → Prop) (Ke0 : H → Prop) : Prop :=
  o_bin Try.prog .add 3 x5 (.int .i64 1) fun v57 => Kn x0 x3 x4 v57 h
theorem F12_27_ok (Kn Kr Ke2 Ke1 Ke0) (t : T) (h : H) (H0 : F12_27 (t 0) (t 3) (t 4) (t 5) h Kn Kr Ke2 Ke1 Ke0) : Wp Try.prog 106 (seqR (rest 1 (lopC (blkC (rest 1 (seqL (rest 2 (blkC (seqL (rest 1 (lopC (blkC (rest 1 (seqL (rest 1 (bodyOf Try.f12.body)))))))))))))))) (mkQ (fun t h => Kn (t 0) (t 3) (t 4) (t 5) h) (fun t h => Kr (t 2) h) (keAdd 2 (fun t h => Ke2 (t 0) (t 3) (t 4) h) (keAdd 1 (fun t h => Ke1 (t 0) (t 3) h) (keAdd 0 (fun t h => Ke0  h) ke0)))) t h :=
  wpEqF H0 (by kernel_rfl)
def F12_14 (x0 x3 x4 x5 : Value) (h : H) (Kn : Value → Value → Value → Value → H → Prop) (Kr : Value → H → Prop) (Ke2 : Value → Value → Value → H → Prop) (Ke1 : Value → Value → H → Prop) (Ke0 : H → Prop) : Prop :=
  F12_15 x0 x3 x4 x5 h (fun y0 y3 y4 y5 h => F12_27 y0 y3 y4 y5 h Kn Kr Ke2 Ke1 Ke0) Kr Ke2 Ke1 Ke0
theorem F12_14_ok (Kn Kr Ke2 Ke1 Ke0) (t : T) (h : H) (H0 : F12_14 (t 0) (t 3) (t 4) (t 5) h Kn Kr Ke2 Ke1 Ke0) : Wp Try.prog 106 (rest 1 (lopC (blkC (rest 1 (seqL (rest 2 (blkC (seqL (rest 1 (lopC (blkC (rest 1 (seqL (rest 1 (bodyOf Try.f12.body))))))))))))))) (mkQ (fun t h => Kn (t 0) (t 3) (t 4) (t 5) h) (fun t h => Kr (t 2) h) (keAdd 2 (fun t h => Ke2 (t 0) (t 3) (t 4) h) (keAdd 1 (fun t h => Ke1 (t 0) (t 3) h) (keAdd 0 (fun t h => Ke0  h) ke0)))) t h :=
  seq_ok (by kernel_rfl) (fun t h H1 => F12_27_ok Kn Kr Ke2 Ke1 Ke0 t h H1) (F12_15_ok (fun y0 y3 y4 y5 h => F12_27 y0 y3 y4 y5 h Kn Kr Ke2 Ke1 Ke0) Kr Ke2 Ke1 Ke0 t h H0)
def F12_13 (x0 x3 x4 x5 : Value) (h : H) (Kn : Value → Value → Value → Value → H → Prop) (Kr : Value → H → Prop) (Ke2 : Value → Value → Value → H → Prop) (Ke1 : Value → Value → H → Prop) (Ke0 : H → Prop) : Prop :=
  o_lenSl x0 fun v50 => o_bin Try.prog .lss 3 x5 v50 fun v51 => o_guard v51 true (fun k6 => o_un Try.prog .not x4 fun v54 => k6 v54 h) (fun v54 h => o_pick v51 v54 (.bool false) fun v55 => o_if v55 (F12_14 x0 x3 x4 x5 h Kn Kr Ke2 Ke1 Ke0) (Ke2 x0 x3 x4 h)) h
theorem F12_13_ok (Kn Kr Ke2 Ke1 Ke0) (t : T) (h : H) (H0 : F12_13 (t 0) (t 3) (t 4) (t 5) h Kn Kr Ke2 Ke1 Ke0) : Wp Try.prog 106 (lopC (blkC (rest 1 (seqL (rest 2 (blkC (seqL (rest 1 (lopC (blkC (rest 1 (seqL (rest 1 (bodyOf Try.f12.body)))))))))))))) (mkQ (fun t h => Kn (t 0) (t 3) (t 4) (t 5) h) (fun t h => Kr (t 2) h) (keAdd 2 (fun t h => Ke2 (t 0) (t 3) (t 4) h) (keAdd 1 (fun t h => Ke1 (t 0) (t 3) h) (keAdd 0 (fun t h => Ke0  h) ke0)))) t h :=
  awpTo_okF 1 H0 (by kernel_rfl) (fun t h (H1 : F12_14 (t 0) (t 3) (t 4) (t 5) h Kn Kr Ke2 Ke1 Ke0) => F12_14_ok Kn Kr Ke2 Ke1 Ke0 t h H1) (by kernel_rfl)
def F12_12 (x0 x3 x4 x5 : Value) (h : H) (Kn : Value → Value → Value → H → Prop) (Kr : Value → H → Prop) (Ke2 : Value → Value → Value → H → Prop) (Ke1 : Value → Value → H → Prop) (Ke0 : H → Prop) : Prop :=
  sloop (S := Value × Value × Value × Value) (fun s h K => F12_13 s.1 s.2.1 s.2.2.1 s.2.2.2 h (fun y0 y3 y4 y5 h => K (y0, y3, y4, y5) h) Kr Ke2 Ke1 Ke0) (x0, x3, x4, x5) h
theorem F12_12_ok (Kn Kr Ke2 Ke1 Ke0) (t : T) (h : H) (H0 : F12_12 (t 0) (t 3) (t 4) (t 5) h Kn Kr Ke2 Ke1 Ke0) : Wp Try.prog 106 (blkC (rest 1 (seqL (rest 2 (blkC (seqL (rest 1 (lopC (blkC (rest 1 (seqL (rest 1 (bodyOf Try.f12.body))))))))))))) (mkQ (fun t h => Kn (t 0) (t 3) (t 4) h) (fun t h => Kr (t 2) h) (keAdd 2 (fun t h => Ke2 (t 0) (t 3) (t 4) h) (keAdd 1 (fun t h => Ke1 (t 0) (t 3) h) (keAdd 0 (fun t h => Ke0  h) ke0)))) t h :=
  loop_ok (fun t => (t 0, t 3, t 4, t 5)) (by kernel_rfl) (fun t h K H1 => F12_13_ok (fun y0 y3 y4 y5 h => K (y0, y3, y4, y5) h) Kr Ke2 Ke1 Ke0 t h H1) H0
def F12_11 (x0 x3 x4 x5 : Value) (h : H) (Kn : Value → Value → Value → H → Prop) (Kr : Value → H → Prop) (Ke1 : Value → Value → H → Prop) (Ke0 : H → Prop) : Prop :=
  F12_12 x0 x3 x4 x5 h Kn Kr Kn Ke1 Ke0
theorem F12_11_ok (Kn Kr Ke1 Ke0) (t : T) (h : H) (H0 : F12_11 (t 0) (t 3) (t 4) (t 5) h Kn Kr Ke1 Ke0) : Wp Try.prog 106 (rest 1 (seqL (rest 2 (blkC (seqL (rest 1 (lopC (blkC (rest 1 (seqL (rest 1 (bodyOf Try.f12.body)))))))))))) (mkQ (fun t h => Kn (t 0) (t 3) (t 4) h) (fun t h => Kr (t 2) h) (keAdd 1 (fun t h => Ke1 (t 0) (t 3) h) (keAdd 0 (fun t h => Ke0  h) ke0))) t h :=
  block_ok 2 (by kernel_rfl) (by kernel_rfl) (F12_12_ok Kn Kr Kn Ke1 Ke0 t h H0)
def F12_10 (x0 x3 x4 : Value) (h : H) (Kn : Value → Value → Value → H → Prop) (Kr : Value → H → Prop) (Ke1 : Value → Value → H → Prop) (Ke0 : H → Prop) : Prop :=
  o_bin Try.prog .add 3 x3 (.int .i64 1) fun v47 => F12_11 x0 x3 x4 v47 h Kn Kr Ke1 Ke0
theorem F12_10_ok (Kn Kr Ke1 Ke0) (t : T) (h : H) (H0 : F12_10 (t 0) (t 3) (t 4) h Kn Kr Ke1 Ke0) : Wp Try.prog 106 (seqL (rest 2 (blkC (seqL (rest 1 (lopC (blkC (rest 1 (seqL (rest 1 (bodyOf Try.f12.body))))))))))) (mkQ (fun t h => Kn (t 0) (t 3) (t 4) h) (fun t h => Kr (t 2) h) (keAdd 1 (fun t h => Ke1 (t 0) (t 3) h) (keAdd 0 (fun t h => Ke0  h) ke0))) t h :=
  awpTo_okF 1 H0 (by kernel_rfl) (fun t h (H1 : F12_11 (t 0) (t 3) (t 4) (t 5) h Kn Kr Ke1 Ke0) => F12_11_ok Kn Kr Ke1 Ke0 t h H1) (by kernel_rfl)
def F12_28 (x0 x3 x4 : Value) (h : H) (Kn : Value → Value → H → Prop) (Kr : Value → H → Prop) (Ke1 : Value → Value → H → Prop) (Ke0 : H → Prop) : Prop :=
  o_un Try.prog .not x4 fun v105 => o_if v105 (Kr (.bool false) h) (Kn x0 x3 h)
theorem F12_28_ok (Kn Kr Ke1 Ke0) (t : T) (h : H) (H0 : F12_28 (t 0) (t 3) (t 4) h Kn Kr Ke1 Ke0) : Wp Try.prog 106 (seqR (rest 2 (blkC (seqL (rest 1 (lopC (blkC (rest 1 (seqL (rest 1 (bodyOf Try.f12.body))))))))))) (mkQ (fun t h => Kn (t 0) (t 3) h) (fun t h => Kr (t 2) h) (keAdd 1 (fun t h => Ke1 (t 0) (t 3) h) (keAdd 0 (fun t h => Ke0  h) ke0))) t h :=
  wpEqF H0 (by kernel_rfl)
def F12_9 (x0 x3 x4 : Value) (h : H) (Kn : Value → Value → H → Prop) (Kr : Value → H → Prop) (Ke1 : Value → Value → H → Prop) (Ke0 : H → Prop) : Prop :=
  F12_10 x0 x3 x4 h (fun y0 y3 y4 h => F12_28 y0 y3 y4 h Kn Kr Ke1 Ke0) Kr Ke1 Ke0
theorem F12_9_ok (Kn Kr Ke1 Ke0) (t : T) (h : H) (H0 : F12_9 (t 0) (t 3) (t 4) h Kn Kr Ke1 Ke0) : Wp Try.prog 106 (rest 2 (blkC (seqL (rest 1 (lopC (blkC (rest 1 (seqL (rest 1 (bodyOf Try.f12.body)))))))))) (mkQ (fun t h => Kn (t 0) (t 3) h) (fun t h => Kr (t 2) h) (keAdd 1 (fun t h => Ke1 (t 0) (t 3) h) (keAdd 0 (fun t h => Ke0  h) ke0))) t h :=
  seq_ok (by kernel_rfl) (fun t h H1 => F12_28_ok Kn Kr Ke1 Ke0 t h H1) (F12_10_ok (fun y0 y3 y4 h => F12_28 y0 y3 y4 h Kn Kr Ke1 Ke0) Kr Ke1 Ke0 t h H0)
def F12_8 (x0 x3 : Value) (h : H) (Kn : Value → Value → H → Prop) (Kr : Value → H → Prop) (Ke1 : Value → Value → H → Prop) (Ke0 : H → Prop) : Prop :=
  o_indexAddr none 5 x0 x3 fun v18 => o_fieldAddr 0 v18 fun v19 => o_load false 1 v19 h fun v20 => o_bin Try.prog .neq 3 v20 (.int .i64 1) fun v21 => o_guard v21 true (fun k12 => o_indexAddr none 5 x0 x3 fun v25 => o_fieldAddr 0 v25 fun v26 => o_load false 1 v26 h fun v27 => o_bin Try.prog .neq 3 v27 (.int .i64 2) fun v28 => k12 v28 h) (fun v28 h => o_pick v21 v28 (.bool false) fun v29 => o_guard v29 true (fun k20 => o_indexAddr none 5 x0 x3 fun v33 => o_fieldAddr 0 v33 fun v34 => o_load false 1 v34 h fun v35 => o_bin Try.prog .neq 3 v35 (.int .i64 4) fun v36 => k20 v36 h) (fun v36 h => o_pick v29 v36 (.bool false) fun v37 => o_guard v37 true (fun k28 => o_indexAddr none 5 x0 x3 fun v41 => o_fieldAddr 0 v41 fun v42 => o_load false 1 v42 h fun v43 => o_bin Try.prog .neq 3 v43 (.int .i64 5) fun v44 => k28 v44 h) (fun v44 h => o_pick v37 v44 (.bool false) fun v45 => o_if v45 (Ke1 x0 x3 h) (F12_9 x0 x3 (.bool false) h Kn Kr Ke1 Ke0)) h) h) h
theorem F12_8_ok (Kn Kr Ke1 Ke0) (t : T) (h : H) (H0 : F12_8 (t 0) (t 3) h Kn Kr Ke1 Ke0) : Wp Try.prog 106 (blkC (seqL (rest 1 (lopC (blkC (rest 1 (seqL (rest 1 (bodyOf Try.f12.body))))))))) (mkQ (fun t h => Kn (t 0) (t 3) h) (fun t h => Kr (t 2) h) (keAdd 1 (fun t h => Ke1 (t 0) (t 3) h) (keAdd 0 (fun t h => Ke0  h) ke0))) t h :=
  awpTo_okF 2 H0 (by kernel_rfl) (fun t h (H1 : F12_9 (t 0) (t 3) (t 4) h Kn Kr Ke1 Ke0) => F12_9_ok Kn Kr Ke1 Ke0 t h H1) (by kernel_rfl)
def F12_7 (x0 x3 : Value) (h : H) (Kn : Value → Value → H → Prop) (Kr : Value → H → Prop) (Ke0 : H → Prop) : Prop :=
  F12_8 x0 x3 h Kn Kr Kn Ke0
theorem F12_7_ok (Kn Kr Ke0) (t : T) (h : H) (H0 : F12_7 (t 0) (t 3) h Kn Kr Ke0) : Wp Try.prog 106 (seqL (rest 1 (lopC (blkC (rest 1 (seqL (rest 1 (bodyOf Try.f12.body)))))))) (mkQ (fun t h => Kn (t 0) (t 3) h) (fun t h => Kr (t 2) h) (keAdd 0 (fun t h => Ke0  h) ke0)) t h :=
  block_ok 1 (by kernel_rfl) (by kernel_rfl) (F12_8_ok Kn Kr Kn Ke0 t h H0)
def F12_29 (x0 x3 : Value) (h : H) (Kn : Value → Value → H → Prop) (Kr : Value → H → Prop) (Ke0 : H → Prop) : Prop :=
  o_bin Try.prog .add 3 x3 (.int .i64 1) fun v15 => Kn x0 v15 h
theorem F12_29_ok (Kn Kr Ke0) (t : T) (h : H) (H0 : F12_29 (t 0) (t 3) h Kn Kr Ke0) : Wp Try.prog 106 (seqR (rest 1 (lopC (blkC (rest 1 (seqL (rest 1 (bodyOf Try.f12.body)))))))) (mkQ (fun t h => Kn (t 0) (t 3) h) (fun t h => Kr (t 2) h) (keAdd 0 (fun t h => Ke0  h) ke0)) t h :=
  wpEqF H0 (by kernel_rfl)
def F12_6 (x0 x3 : Value) (h : H) (Kn : Value → Value → H → Prop) (Kr : Value → H → Prop) (Ke0 : H → Prop) : Prop :=
  F12_7 x0 x3 h (fun y0 y3 h => F12_29 y0 y3 h Kn Kr Ke0) Kr Ke0
theorem F12_6_ok (Kn Kr Ke0) (t : T) (h : H) (H0 : F12_6 (t 0) (t 3) h Kn Kr Ke0) : Wp Try.prog 106 (rest 1 (lopC (blkC (rest 1 (seqL (rest 1 (bodyOf Try.f12.body))))))) (mkQ (fun t h => Kn (t 0) (t 3) h) (fun t h => Kr (t 2) h) (keAdd 0 (fun t h => Ke0  h) ke0)) t h :=
  seq_ok (by kernel_rfl) (fun t h H1 => F12_29_ok Kn Kr Ke0 t h H1) (F12_7_ok (fun y0 y3 h => F12_29 y0 y3 h Kn Kr Ke0) Kr Ke0 t h H0)
def F12_5 (x0 x3 : Value) (h : H) (Kn : Value → Value → H → Prop) (Kr : Value → H → Prop) (Ke0 : H → Prop) : Prop :=
  o_lenSl x0 fun v12 => o_bin Try.prog .lss 3 x3 v12 fun v13 => o_if v13 (F12_6 x0 x3 h Kn Kr Ke0) (Ke0 h)
theorem F12_5_ok (Kn Kr Ke0) (t : T) (h : H) (H0 : F12_5 (t 0) (t 3) h Kn Kr Ke0) : Wp Try.prog 106 (lopC (blkC (rest 1 (seqL (rest 1 (bodyOf Try.f12.body)))))) (mkQ (fun t h => Kn (t 0) (t 3) h) (fun t h => Kr (t 2) h) (keAdd 0 (fun t h => Ke0  h) ke0)) t h :=
  awpTo_okF 1 H0 (by kernel_rfl) (fun t h (H1 : F12_6 (t 0) (t 3) h Kn Kr Ke0) => F12_6_ok Kn Kr Ke0 t h H1) (by kernel_rfl)
def F12_4 (x0 x3 : Value) (h : H) (Kn : H → Prop) (Kr : Value → H → Prop) (Ke0 : H → Prop) : Prop :=
  sloop (S := Value × Value) (fun s h K => F12_5 s.1 s.2 h (fun y0 y3 h => K (y0, y3) h) Kr Ke0) (x0, x3) h
theorem F12_4_ok (Kn Kr Ke0) (t : T) (h : H) (H0 : F12_4 (t 0) (t 3) h Kn Kr Ke0) : Wp Try.prog 106 (blkC (rest 1 (seqL (rest 1 (bodyOf Try.f12.body))))) (mkQ (fun t h => Kn  h) (fun t h => Kr (t 2) h) (keAdd 0 (fun t h => Ke0  h) ke0)) t h :=
  loop_ok (fun t => (t 0, t 3)) (by kernel_rfl) (fun t h K H1 => F12_5_ok (fun y0 y3 h => K (y0, y3) h) Kr Ke0 t h H1) H0
def F12_3 (x0 x3 : Value) (h : H) (Kn : H → Prop) (Kr : Value → H → Prop) : Prop :=
  F12_4 x0 x3 h Kn Kr Kn
theorem F12_3_ok (Kn Kr) (t : T) (h : H) (H0 : F12_3 (t 0) (t 3) h Kn Kr) : Wp Try.prog 106 (rest 1 (seqL (rest 1 (bodyOf Try.f12.body)))) (mkQ (fun t h => Kn  h) (fun t h => Kr (t 2) h) ke0) t h :=
  block_ok 0 (by kernel_rfl) (by kernel_rfl) (F12_4_ok Kn Kr Kn t h H0)
def F12_2 (x0 : Value) (h : H) (Kn : H → Prop) (Kr : Value → H → Prop) : Prop :=
  F12_3 x0 (.int .i64 0) h Kn Kr
theorem F12_2_ok (Kn Kr) (t : T) (h : H) (H0 : F12_2 (t 0) h Kn Kr) : Wp Try.prog 106 (seqL (rest 1 (bodyOf Try.f12.body))) (mkQ (fun t h => Kn  h) (fun t h => Kr (t 2) h) ke0) t h :=
  awpTo_okF 1 H0 (by kernel_rfl) (fun t h (H1 : F12_3 (t 0) (t 3) h Kn Kr) => F12_3_ok Kn Kr t h H1) (by kernel_rfl)
def F12_30 (h : H) (Kn : Value → H → Prop) (Kr : Value → H → Prop) : Prop :=
  Kr (.bool true) h
theorem F12_30_ok (Kn Kr) (t : T) (h : H) (H0 : F12_30  h Kn Kr) : Wp Try.prog 106 (seqR (rest 1 (bodyOf Try.f12.body))) (mkQ (fun t h => Kn (t 2) h) (fun t h => Kr (t 2) h) ke0) t h :=
  wpEqF H0 (by kernel_rfl)
def F12_1 (x0 : Value) (h : H) (Kn : Value → H → Prop) (Kr : Value → H → Prop) : Prop :=
  F12_2 x0 h (fun  h => F12_30  h Kn Kr) Kr
theorem F12_1_ok (Kn Kr) (t : T) (h : H) (H0 : F12_1 (t 0) h Kn Kr) : Wp Try.prog 106 (rest 1 (bodyOf Try.f12.body)) (mkQ (fun t h => Kn (t 2) h) (fun t h => Kr (t 2) h) ke0) t h :=
  seq_ok (by kernel_rfl) (fun t h H1 => F12_30_ok Kn Kr t h H1) (F12_2_ok (fun  h => F12_30  h Kn Kr) Kr t h H0)
def F12_0 (x0 : Value) (h : H) (Kn : Value → H → Prop) (Kr : Value → H → Prop) : Prop :=
  F12_1 x0 h Kn Kr
theorem F12_0_ok (Kn Kr) (t : T) (h : H) (H0 : F12_0 (t 0) h Kn Kr) : Wp Try.prog 106 (bodyOf Try.f12.body) (mkQ (fun t h => Kn (t 2) h) (fun t h => Kr (t 2) h) ke0) t h :=
  awpTo_okF 1 H0 (by kernel_rfl) (fun t h (H1 : F12_1 (t 0) h Kn Kr) => F12_1_ok Kn Kr t h H1) (by kernel_rfl)
def F12 (x0 : Value) (h : H) (Q : Value → H → Prop) : Prop := F12_0 x0 h (fun v h => Q v h) (fun v h => Q v h)
theorem F12_spec (x0 : Value) (h : H) (Q : Value → H → Prop) (H0 : F12 x0 h Q) : AM.Spec Try.prog 12 [x0] h Q :=
  spec_wp mixed (fn := Try.f12) Try.func12 (c := bodyOf Try.f12.body) (rs := [2]) (N := 106) (by kernel_rfl) (by kernel_rfl) (by kernel_rfl) (by kernel_rfl) (by kernel_rfl) (Nat.le_of_ble_eq_true rfl) (F12_0_ok (fun v h => Q v h) (fun v h => Q v h) (tinit [x0]) h H0) (by kernel_rfl)
/-! #### 13: tincture/tincturelaw23.awake -/
def F13_0 (h : H) (Kn : Value → H → Prop) (Kr : Value → H → Prop) : Prop :=
  o_build Try.prog 29 [(0, (.int .i64 8))] fun v2 => o_build Try.prog 29 [(0, (.int .i64 1)), (4, (.int .u32 2))] fun v3 => o_build Try.prog 29 [(0, (.int .i64 1)), (1, (.int .i64 1)), (4, (.int .u32 3))] fun v4 => o_build Try.prog 29 [(0, (.int .i64 4)), (1, (.int .i64 2)), (3, (.int .i64 1))] fun v5 => o_build Try.prog 29 [(0, (.int .i64 3)), (2, (.int .i64 2)), (4, (.int .u32 5))] fun v6 => o_build Try.prog 29 [(0, (.int .i64 12)), (4, (.int .u32 4))] fun v7 => o_buildSlice Try.prog 22 6 [(0, v2), (1, v3), (2, v4), (3, v5), (4, v6), (5, v7)] h fun v8 h => o_call Try.prog 14 [v8] h fun v9 h => o_call Try.prog 10 [v9] h fun v11 h => o_guard v11 true (fun k4 => o_call Try.prog 16 [v9] h fun v14 h => k4 v14 h) (fun v14 h => o_pick v11 v14 (.bool false) fun v15 => o_guard v15 true (fun k9 => o_lenSl v9 fun v18 => o_bin Try.prog .leq 3 v18 (.int .i64 6) fun v19 => k9 v19 h) (fun v19 h => o_pick v15 v19 (.bool false) fun v20 => o_guard v20 true (fun k14 => o_lenSl v9 fun v23 => o_bin Try.prog .geq 3 v23 (.int .i64 4) fun v24 => k14 v24 h) (fun v24 h => o_pick v20 v24 (.bool false) fun v25 => Kr v25 h) h) h) h
theorem F13_0_ok (Kn Kr) (t : T) (h : H) (H0 : F13_0  h Kn Kr) : Wp Try.prog 26 (bodyOf Try.f13.body) (mkQ (fun t h => Kn (t 0) h) (fun t h => Kr (t 0) h) ke0) t h :=
  wpEqF H0 (by kernel_rfl)
def F13 (h : H) (Q : Value → H → Prop) : Prop := F13_0  h (fun v h => Q v h) (fun v h => Q v h)
theorem F13_spec (h : H) (Q : Value → H → Prop) (H0 : F13  h Q) : AM.Spec Try.prog 13 [] h Q :=
  spec_wp mixed (fn := Try.f13) Try.func13 (c := bodyOf Try.f13.body) (rs := [0]) (N := 26) (by kernel_rfl) (by kernel_rfl) (by kernel_rfl) (by kernel_rfl) (by kernel_rfl) (Nat.le_of_ble_eq_true rfl) (F13_0_ok (fun v h => Q v h) (fun v h => Q v h) (tinit []) h H0) (by kernel_rfl)
/-! #### 14: tincture/fold.Make -/
def F14_10 (x3 x4 x5 x6 x18 x19 x20 : Value) (h : H) (Kn : Value → Value → Value → Value → Value → Value → H → Prop) (Kr : Value → H → Prop) (Ke1 : Value → Value → Value → Value → Value → H → Prop) (Ke0 : Value → H → Prop) : Prop :=
  o_load true 5 x6 h fun v27 => o_call Try.prog 27 [x4, v27] h fun v28 h => o_extract v28 0 fun v29 => o_extract v28 1 fun v30 => o_if v30 (o_fieldAddr 1 x6 fun v32 => o_load false 1 v32 h fun v33 => o_build Try.prog 29 [(0, (.int .i64 1)), (1, v33), (4, v29)] fun v35 => o_store 5 x6 v35 h fun h => o_load true 5 x6 h fun v38 => o_indexAddr none 5 x3 x5 fun v39 => o_store 5 v39 v38 h fun h => Kn x3 x4 x6 x18 x19 x20 h) (Kn x3 x4 x6 x18 x19 x20 h)
theorem F14_10_ok (Kn Kr Ke1 Ke0) (t : T) (h : H) (H0 : F14_10 (t 3) (t 4) (t 5) (t 6) (t 18) (t 19) (t 20) h Kn Kr Ke1 Ke0) : Wp Try.prog 59 (seqL (rest 1 (blkC (seqL (rest 2 (lopC (blkC (rest 1 (seqL (rest 4 (bodyOf Try.f14.body))))))))))) (mkQ (fun t h => Kn (t 3) (t 4) (t 6) (t 18) (t 19) (t 20) h) (fun t h => Kr (t 2) h) (keAdd 1 (fun t h => Ke1 (t 3) (t 4) (t 18) (t 19) (t 20) h) (keAdd 0 (fun t h => Ke0 (t 3) h) ke0))) t h :=
  wpEqF H0 (by kernel_rfl)
def F14_11 (x3 x4 x6 x18 x19 x20 : Value) (h : H) (Kn : Value → Value → Value → Value → Value → H → Prop) (Kr : Value → H → Prop) (Ke1 : Value → Value → Value → Value → Value → H → Prop) (Ke0 : Value → H → Prop) : Prop :=
  o_load true 5 x6 h fun v41 => o_call Try.prog 20 [v41] h fun v42 h => o_extract v42 0 fun v43 => o_extract v42 1 fun v44 => o_fieldAddr 0 x6 fun v46 => o_load false 1 v46 h fun v47 => o_bin Try.prog .eql 3 v47 (.int .i64 1) fun v48 => o_if v48 (o_fieldAddr 4 x6 fun v51 => o_load false 1 v51 h fun v52 => o_mapUpdate (.int .i64) x4 v43 v52 h fun h => Kn x3 x4 x18 x19 x20 h) (o_if v44 (o_delete (.int .i64) x4 v43 h fun h => Kn x3 x4 x18 x19 x20 h) (Kn x3 x4 x18 x19 x20 h))
theorem F14_11_ok (Kn Kr Ke1 Ke0) (t : T) (h : H) (H0 : F14_11 (t 3) (t 4) (t 6) (t 18) (t 19) (t 20) h Kn Kr Ke1 Ke0) : Wp Try.prog 59 (seqR (rest 1 (blkC (seqL (rest 2 (lopC (blkC (rest 1 (seqL (rest 4 (bodyOf Try.f14.body))))))))))) (mkQ (fun t h => Kn (t 3) (t 4) (t 18) (t 19) (t 20) h) (fun t h => Kr (t 2) h) (keAdd 1 (fun t h => Ke1 (t 3) (t 4) (t 18) (t 19) (t 20) h) (keAdd 0 (fun t h => Ke0 (t 3) h) ke0))) t h :=
  wpEqF H0 (by kernel_rfl)
def F14_9 (x3 x4 x5 x6 x18 x19 x20 : Value) (h : H) (Kn : Value → Value → Value → Value → Value → H → Prop) (Kr : Value → H → Prop) (Ke1 : Value → Value → Value → Value → Value → H → Prop) (Ke0 : Value → H → Prop) : Prop :=
  F14_10 x3 x4 x5 x6 x18 x19 x20 h (fun y3 y4 y6 y18 y19 y20 h => F14_11 y3 y4 y6 y18 y19 y20 h Kn Kr Ke1 Ke0) Kr Ke1 Ke0
theorem F14_9_ok (Kn Kr Ke1 Ke0) (t : T) (h : H) (H0 : F14_9 (t 3) (t 4) (t 5) (t 6) (t 18) (t 19) (t 20) h Kn Kr Ke1 Ke0) : Wp Try.prog 59 (rest 1 (blkC (seqL (rest 2 (lopC (blkC (rest 1 (seqL (rest 4 (bodyOf Try.f14.body)))))))))) (mkQ (fun t h => Kn (t 3) (t 4) (t 18) (t 19) (t 20) h) (fun t h => Kr (t 2) h) (keAdd 1 (fun t h => Ke1 (t 3) (t 4) (t 18) (t 19) (t 20) h) (keAdd 0 (fun t h => Ke0 (t 3) h) ke0))) t h :=
  seq_ok (by kernel_rfl) (fun t h H1 => F14_11_ok Kn Kr Ke1 Ke0 t h H1) (F14_10_ok (fun y3 y4 y6 y18 y19 y20 h => F14_11 y3 y4 y6 y18 y19 y20 h Kn Kr Ke1 Ke0) Kr Ke1 Ke0 t h H0)
def F14_8 (x3 x4 x18 x19 x20 : Value) (h : H) (Kn : Value → Value → Value → Value → Value → H → Prop) (Kr : Value → H → Prop) (Ke1 : Value → Value → Value → Value → Value → H → Prop) (Ke0 : Value → H → Prop) : Prop :=
  o_indexAddr none 5 x18 x20 fun v23 => o_load true 5 v23 h fun v24 => o_new [.int .i64 0, .int .i64 0, .int .i64 0, .int .i64 0, .int .u32 0] 29 .exact h fun b6 h => o_store 5 (.pointer (some ⟨b6, 0, none⟩)) v24 h fun h => F14_9 x3 x4 x20 (.pointer (some ⟨b6, 0, none⟩)) x18 x19 x20 h Kn Kr Ke1 Ke0
theorem F14_8_ok (Kn Kr Ke1 Ke0) (t : T) (h : H) (H0 : F14_8 (t 3) (t 4) (t 18) (t 19) (t 20) h Kn Kr Ke1 Ke0) : Wp Try.prog 59 (blkC (seqL (rest 2 (lopC (blkC (rest 1 (seqL (rest 4 (bodyOf Try.f14.body))))))))) (mkQ (fun t h => Kn (t 3) (t 4) (t 18) (t 19) (t 20) h) (fun t h => Kr (t 2) h) (keAdd 1 (fun t h => Ke1 (t 3) (t 4) (t 18) (t 19) (t 20) h) (keAdd 0 (fun t h => Ke0 (t 3) h) ke0))) t h :=
  awpTo_okF 1 H0 (by kernel_rfl) (fun t h (H1 : F14_9 (t 3) (t 4) (t 5) (t 6) (t 18) (t 19) (t 20) h Kn Kr Ke1 Ke0) => F14_9_ok Kn Kr Ke1 Ke0 t h H1) (by kernel_rfl)
def F14_7 (x3 x4 x18 x19 x20 : Value) (h : H) (Kn : Value → Value → Value → Value → Value → H → Prop) (Kr : Value → H → Prop) (Ke0 : Value → H → Prop) : Prop :=
  F14_8 x3 x4 x18 x19 x20 h Kn Kr Kn Ke0
theorem F14_7_ok (Kn Kr Ke0) (t : T) (h : H) (H0 : F14_7 (t 3) (t 4) (t 18) (t 19) (t 20) h Kn Kr Ke0) : Wp Try.prog 59 (seqL (rest 2 (lopC (blkC (rest 1 (seqL (rest 4 (bodyOf Try.f14.body)))))))) (mkQ (fun t h => Kn (t 3) (t 4) (t 18) (t 19) (t 20) h) (fun t h => Kr (t 2) h) (keAdd 0 (fun t h => Ke0 (t 3) h) ke0)) t h :=
  block_ok 1 (by kernel_rfl) (by kernel_rfl) (F14_8_ok Kn Kr Kn Ke0 t h H0)
def F14_12 (x3 x4 x18 x19 x20 : Value) (h : H) (Kn : Value → Value → Value → Value → Value → H → Prop) (Kr : Value → H → Prop) (Ke0 : Value → H → Prop) : Prop :=
  o_bin Try.prog .add 3 x20 (.int .i64 1) fun v57 => Kn x3 x4 x18 x19 v57 h
theorem F14_12_ok (Kn Kr Ke0) (t : T) (h : H) (H0 : F14_12 (t 3) (t 4) (t 18) (t 19) (t 20) h Kn Kr Ke0) : Wp Try.prog 59 (seqR (rest 2 (lopC (blkC (rest 1 (seqL (rest 4 (bodyOf Try.f14.body)))))))) (mkQ (fun t h => Kn (t 3) (t 4) (t 18) (t 19) (t 20) h) (fun t h => Kr (t 2) h) (keAdd 0 (fun t h => Ke0 (t 3) h) ke0)) t h :=
  wpEqF H0 (by kernel_rfl)
def F14_6 (x3 x4 x18 x19 x20 : Value) (h : H) (Kn : Value → Value → Value → Value → Value → H → Prop) (Kr : Value → H → Prop) (Ke0 : Value → H → Prop) : Prop :=
  F14_7 x3 x4 x18 x19 x20 h (fun y3 y4 y18 y19 y20 h => F14_12 y3 y4 y18 y19 y20 h Kn Kr Ke0) Kr Ke0
theorem F14_6_ok (Kn Kr Ke0) (t : T) (h : H) (H0 : F14_6 (t 3) (t 4) (t 18) (t 19) (t 20) h Kn Kr Ke0) : Wp Try.prog 59 (rest 2 (lopC (blkC (rest 1 (seqL (rest 4 (bodyOf Try.f14.body))))))) (mkQ (fun t h => Kn (t 3) (t 4) (t 18) (t 19) (t 20) h) (fun t h => Kr (t 2) h) (keAdd 0 (fun t h => Ke0 (t 3) h) ke0)) t h :=
  seq_ok (by kernel_rfl) (fun t h H1 => F14_12_ok Kn Kr Ke0 t h H1) (F14_7_ok (fun y3 y4 y18 y19 y20 h => F14_12 y3 y4 y18 y19 y20 h Kn Kr Ke0) Kr Ke0 t h H0)
def F14_5 (x3 x4 x18 x19 x20 : Value) (h : H) (Kn : Value → Value → Value → Value → Value → H → Prop) (Kr : Value → H → Prop) (Ke0 : Value → H → Prop) : Prop :=
  o_bin Try.prog .lss 3 x20 x19 fun v21 => o_if v21 (F14_6 x3 x4 x18 x19 x20 h Kn Kr Ke0) (Ke0 x3 h)
theorem F14_5_ok (Kn Kr Ke0) (t : T) (h : H) (H0 : F14_5 (t 3) (t 4) (t 18) (t 19) (t 20) h Kn Kr Ke0) : Wp Try.prog 59 (lopC (blkC (rest 1 (seqL (rest 4 (bodyOf Try.f14.body)))))) (mkQ (fun t h => Kn (t 3) (t 4) (t 18) (t 19) (t 20) h) (fun t h => Kr (t 2) h) (keAdd 0 (fun t h => Ke0 (t 3) h) ke0)) t h :=
  awpTo_okF 2 H0 (by kernel_rfl) (fun t h (H1 : F14_6 (t 3) (t 4) (t 18) (t 19) (t 20) h Kn Kr Ke0) => F14_6_ok Kn Kr Ke0 t h H1) (by kernel_rfl)
def F14_4 (x3 x4 x18 x19 x20 : Value) (h : H) (Kn : Value → H → Prop) (Kr : Value → H → Prop) (Ke0 : Value → H → Prop) : Prop :=
  sloop (S := Value × Value × Value × Value × Value) (fun s h K => F14_5 s.1 s.2.1 s.2.2.1 s.2.2.2.1 s.2.2.2.2 h (fun y3 y4 y18 y19 y20 h => K (y3, y4, y18, y19, y20) h) Kr Ke0) (x3, x4, x18, x19, x20) h
theorem F14_4_ok (Kn Kr Ke0) (t : T) (h : H) (H0 : F14_4 (t 3) (t 4) (t 18) (t 19) (t 20) h Kn Kr Ke0) : Wp Try.prog 59 (blkC (rest 1 (seqL (rest 4 (bodyOf Try.f14.body))))) (mkQ (fun t h => Kn (t 3) h) (fun t h => Kr (t 2) h) (keAdd 0 (fun t h => Ke0 (t 3) h) ke0)) t h :=
  loop_ok (fun t => (t 3, t 4, t 18, t 19, t 20)) (by kernel_rfl) (fun t h K H1 => F14_5_ok (fun y3 y4 y18 y19 y20 h => K (y3, y4, y18, y19, y20) h) Kr Ke0 t h H1) H0
def F14_3 (x3 x4 x18 x19 x20 : Value) (h : H) (Kn : Value → H → Prop) (Kr : Value → H → Prop) : Prop :=
  F14_4 x3 x4 x18 x19 x20 h Kn Kr Kn
theorem F14_3_ok (Kn Kr) (t : T) (h : H) (H0 : F14_3 (t 3) (t 4) (t 18) (t 19) (t 20) h Kn Kr) : Wp Try.prog 59 (rest 1 (seqL (rest 4 (bodyOf Try.f14.body)))) (mkQ (fun t h => Kn (t 3) h) (fun t h => Kr (t 2) h) ke0) t h :=
  block_ok 0 (by kernel_rfl) (by kernel_rfl) (F14_4_ok Kn Kr Kn t h H0)
def F14_2 (x3 x4 : Value) (h : H) (Kn : Value → H → Prop) (Kr : Value → H → Prop) : Prop :=
  o_lenSl x3 fun v19 => F14_3 x3 x4 x3 v19 (.int .i64 0) h Kn Kr
theorem F14_2_ok (Kn Kr) (t : T) (h : H) (H0 : F14_2 (t 3) (t 4) h Kn Kr) : Wp Try.prog 59 (seqL (rest 4 (bodyOf Try.f14.body))) (mkQ (fun t h => Kn (t 3) h) (fun t h => Kr (t 2) h) ke0) t h :=
  awpTo_okF 1 H0 (by kernel_rfl) (fun t h (H1 : F14_3 (t 3) (t 4) (t 18) (t 19) (t 20) h Kn Kr) => F14_3_ok Kn Kr t h H1) (by kernel_rfl)
def F14_13 (x3 : Value) (h : H) (Kn : Value → H → Prop) (Kr : Value → H → Prop) : Prop :=
  Kr x3 h
theorem F14_13_ok (Kn Kr) (t : T) (h : H) (H0 : F14_13 (t 3) h Kn Kr) : Wp Try.prog 59 (seqR (rest 4 (bodyOf Try.f14.body))) (mkQ (fun t h => Kn (t 2) h) (fun t h => Kr (t 2) h) ke0) t h :=
  wpEqF H0 (by kernel_rfl)
def F14_1 (x3 x4 : Value) (h : H) (Kn : Value → H → Prop) (Kr : Value → H → Prop) : Prop :=
  F14_2 x3 x4 h (fun y3 h => F14_13 y3 h Kn Kr) Kr
theorem F14_1_ok (Kn Kr) (t : T) (h : H) (H0 : F14_1 (t 3) (t 4) h Kn Kr) : Wp Try.prog 59 (rest 4 (bodyOf Try.f14.body)) (mkQ (fun t h => Kn (t 2) h) (fun t h => Kr (t 2) h) ke0) t h :=
  seq_ok (by kernel_rfl) (fun t h H1 => F14_13_ok Kn Kr t h H1) (F14_2_ok (fun y3 h => F14_13 y3 h Kn Kr) Kr t h H0)
def F14_0 (x0 : Value) (h : H) (Kn : Value → H → Prop) (Kr : Value → H → Prop) : Prop :=
  o_call Try.prog 17 [x0] h fun v12 h => o_call Try.prog 10 [x0] h fun v14 h => o_un Try.prog .not v14 fun v15 => o_if v15 (Kr v12 h) (o_newObj (.map (.int .i64) [] 0) h fun b17 h => F14_1 v12 (.map (some b17)) h Kn Kr)
theorem F14_0_ok (Kn Kr) (t : T) (h : H) (H0 : F14_0 (t 0) h Kn Kr) : Wp Try.prog 59 (bodyOf Try.f14.body) (mkQ (fun t h => Kn (t 2) h) (fun t h => Kr (t 2) h) ke0) t h :=
  awpTo_okF 4 H0 (by kernel_rfl) (fun t h (H1 : F14_1 (t 3) (t 4) h Kn Kr) => F14_1_ok Kn Kr t h H1) (by kernel_rfl)
def F14 (x0 : Value) (h : H) (Q : Value → H → Prop) : Prop := F14_0 x0 h (fun v h => Q v h) (fun v h => Q v h)
theorem F14_spec (x0 : Value) (h : H) (Q : Value → H → Prop) (H0 : F14 x0 h Q) : AM.Spec Try.prog 14 [x0] h Q :=
  spec_wp mixed (fn := Try.f14) Try.func14 (c := bodyOf Try.f14.body) (rs := [2]) (N := 59) (by kernel_rfl) (by kernel_rfl) (by kernel_rfl) (by kernel_rfl) (by kernel_rfl) (Nat.le_of_ble_eq_true rfl) (F14_0_ok (fun v h => Q v h) (fun v h => Q v h) (tinit [x0]) h H0) (by kernel_rfl)
/-! #### 15: tincture/tincturelaw23.equal -/
def F15_9 (x0 x1 x5 : Value) (h : H) (Kn : Value → Value → Value → Value → H → Prop) (Kr : Value → H → Prop) (Ke1 : Value → Value → Value → H → Prop) (Ke0 : H → Prop) : Prop :=
  o_indexAddr none 5 x0 x5 fun v19 => o_load true 5 v19 h fun v20 => o_indexAddr none 5 x1 x5 fun v23 => o_load true 5 v23 h fun v24 => o_bin Try.prog .neq 29 v20 v24 fun v25 => Kn x0 x1 x5 v25 h
theorem F15_9_ok (Kn Kr Ke1 Ke0) (t : T) (h : H) (H0 : F15_9 (t 0) (t 1) (t 5) h Kn Kr Ke1 Ke0) : Wp Try.prog 26 (seqL (blkC (seqL (rest 1 (lopC (blkC (rest 1 (seqL (rest 2 (bodyOf Try.f15.body)))))))))) (mkQ (fun t h => Kn (t 0) (t 1) (t 5) (t 25) h) (fun t h => Kr (t 4) h) (keAdd 1 (fun t h => Ke1 (t 0) (t 1) (t 5) h) (keAdd 0 (fun t h => Ke0  h) ke0))) t h :=
  draw_okF (by kernel_rfl) (by kernel_rfl) H0 (by kernel_rfl)
def F15_10 (x0 x1 x5 x25 : Value) (h : H) (Kn : Value → Value → Value → H → Prop) (Kr : Value → H → Prop) (Ke1 : Value → Value → Value → H → Prop) (Ke0 : H → Prop) : Prop :=
  o_if x25 (Kr (.bool false) h) (Kn x0 x1 x5 h)
theorem F15_10_ok (Kn Kr Ke1 Ke0) (t : T) (h : H) (H0 : F15_10 (t 0) (t 1) (t 5) (t 25) h Kn Kr Ke1 Ke0) : Wp Try.prog 26 (seqR (blkC (seqL (rest 1 (lopC (blkC (rest 1 (seqL (rest 2 (bodyOf Try.f15.body)))))))))) (mkQ (fun t h => Kn (t 0) (t 1) (t 5) h) (fun t h => Kr (t 4) h) (keAdd 1 (fun t h => Ke1 (t 0) (t 1) (t 5) h) (keAdd 0 (fun t h => Ke0  h) ke0))) t h :=
  wpEqF H0 (by kernel_rfl)
def F15_8 (x0 x1 x5 : Value) (h : H) (Kn : Value → Value → Value → H → Prop) (Kr : Value → H → Prop) (Ke1 : Value → Value → Value → H → Prop) (Ke0 : H → Prop) : Prop :=
  F15_9 x0 x1 x5 h (fun y0 y1 y5 y25 h => F15_10 y0 y1 y5 y25 h Kn Kr Ke1 Ke0) Kr Ke1 Ke0
theorem F15_8_ok (Kn Kr Ke1 Ke0) (t : T) (h : H) (H0 : F15_8 (t 0) (t 1) (t 5) h Kn Kr Ke1 Ke0) : Wp Try.prog 26 (blkC (seqL (rest 1 (lopC (blkC (rest 1 (seqL (rest 2 (bodyOf Try.f15.body))))))))) (mkQ (fun t h => Kn (t 0) (t 1) (t 5) h) (fun t h => Kr (t 4) h) (keAdd 1 (fun t h => Ke1 (t 0) (t 1) (t 5) h) (keAdd 0 (fun t h => Ke0  h) ke0))) t h :=
  seq_ok (by kernel_rfl) (fun t h H1 => F15_10_ok Kn Kr Ke1 Ke0 t h H1) (F15_9_ok (fun y0 y1 y5 y25 h => F15_10 y0 y1 y5 y25 h Kn Kr Ke1 Ke0) Kr Ke1 Ke0 t h H0)
def F15_7 (x0 x1 x5 : Value) (h : H) (Kn : Value → Value → Value → H → Prop) (Kr : Value → H → Prop) (Ke0 : H → Prop) : Prop :=
  F15_8 x0 x1 x5 h Kn Kr Kn Ke0
theorem F15_7_ok (Kn Kr Ke0) (t : T) (h : H) (H0 : F15_7 (t 0) (t 1) (t 5) h Kn Kr Ke0) : Wp Try.prog 26 (seqL (rest 1 (lopC (blkC (rest 1 (seqL (rest 2 (bodyOf Try.f15.body)))))))) (mkQ (fun t h => Kn (t 0) (t 1) (t 5) h) (fun t h => Kr (t 4) h) (keAdd 0 (fun t h => Ke0  h) ke0)) t h :=
  block_ok 1 (by kernel_rfl) (by kernel_rfl) (F15_8_ok Kn Kr Kn Ke0 t h H0)
def F15_11 (x0 x1 x5 : Value) (h : H) (Kn : Value → Value → Value → H → Prop) (Kr : Value → H → Prop) (Ke0 : H → Prop) : Prop :=
  o_bin Try.prog .add 3 x5 (.int .i64 1) fun v16 => Kn x0 x1 v16 h
theorem F15_11_ok (Kn Kr Ke0) (t : T) (h : H) (H0 : F15_11 (t 0) (t 1) (t 5) h Kn Kr Ke0) : Wp Try.prog 26 (seqR (rest 1 (lopC (blkC (rest 1 (seqL (rest 2 (bodyOf Try.f15.body)))))))) (mkQ (fun t h => Kn (t 0) (t 1) (t 5) h) (fun t h => Kr (t 4) h) (keAdd 0 (fun t h => Ke0  h) ke0)) t h :=
  wpEqF H0 (by kernel_rfl)
def F15_6 (x0 x1 x5 : Value) (h : H) (Kn : Value → Value → Value → H → Prop) (Kr : Value → H → Prop) (Ke0 : H → Prop) : Prop :=
  F15_7 x0 x1 x5 h (fun y0 y1 y5 h => F15_11 y0 y1 y5 h Kn Kr Ke0) Kr Ke0
theorem F15_6_ok (Kn Kr Ke0) (t : T) (h : H) (H0 : F15_6 (t 0) (t 1) (t 5) h Kn Kr Ke0) : Wp Try.prog 26 (rest 1 (lopC (blkC (rest 1 (seqL (rest 2 (bodyOf Try.f15.body))))))) (mkQ (fun t h => Kn (t 0) (t 1) (t 5) h) (fun t h => Kr (t 4) h) (keAdd 0 (fun t h => Ke0  h) ke0)) t h :=
  seq_ok (by kernel_rfl) (fun t h H1 => F15_11_ok Kn Kr Ke0 t h H1) (F15_7_ok (fun y0 y1 y5 h => F15_11 y0 y1 y5 h Kn Kr Ke0) Kr Ke0 t h H0)
def F15_5 (x0 x1 x5 : Value) (h : H) (Kn : Value → Value → Value → H → Prop) (Kr : Value → H → Prop) (Ke0 : H → Prop) : Prop :=
  o_lenSl x0 fun v13 => o_bin Try.prog .lss 3 x5 v13 fun v14 => o_if v14 (F15_6 x0 x1 x5 h Kn Kr Ke0) (Ke0 h)
theorem F15_5_ok (Kn Kr Ke0) (t : T) (h : H) (H0 : F15_5 (t 0) (t 1) (t 5) h Kn Kr Ke0) : Wp Try.prog 26 (lopC (blkC (rest 1 (seqL (rest 2 (bodyOf Try.f15.body)))))) (mkQ (fun t h => Kn (t 0) (t 1) (t 5) h) (fun t h => Kr (t 4) h) (keAdd 0 (fun t h => Ke0  h) ke0)) t h :=
  awpTo_okF 1 H0 (by kernel_rfl) (fun t h (H1 : F15_6 (t 0) (t 1) (t 5) h Kn Kr Ke0) => F15_6_ok Kn Kr Ke0 t h H1) (by kernel_rfl)
def F15_4 (x0 x1 x5 : Value) (h : H) (Kn : H → Prop) (Kr : Value → H → Prop) (Ke0 : H → Prop) : Prop :=
  sloop (S := Value × Value × Value) (fun s h K => F15_5 s.1 s.2.1 s.2.2 h (fun y0 y1 y5 h => K (y0, y1, y5) h) Kr Ke0) (x0, x1, x5) h
theorem F15_4_ok (Kn Kr Ke0) (t : T) (h : H) (H0 : F15_4 (t 0) (t 1) (t 5) h Kn Kr Ke0) : Wp Try.prog 26 (blkC (rest 1 (seqL (rest 2 (bodyOf Try.f15.body))))) (mkQ (fun t h => Kn  h) (fun t h => Kr (t 4) h) (keAdd 0 (fun t h => Ke0  h) ke0)) t h :=
  loop_ok (fun t => (t 0, t 1, t 5)) (by kernel_rfl) (fun t h K H1 => F15_5_ok (fun y0 y1 y5 h => K (y0, y1, y5) h) Kr Ke0 t h H1) H0
def F15_3 (x0 x1 x5 : Value) (h : H) (Kn : H → Prop) (Kr : Value → H → Prop) : Prop :=
  F15_4 x0 x1 x5 h Kn Kr Kn
theorem F15_3_ok (Kn Kr) (t : T) (h : H) (H0 : F15_3 (t 0) (t 1) (t 5) h Kn Kr) : Wp Try.prog 26 (rest 1 (seqL (rest 2 (bodyOf Try.f15.body)))) (mkQ (fun t h => Kn  h) (fun t h => Kr (t 4) h) ke0) t h :=
  block_ok 0 (by kernel_rfl) (by kernel_rfl) (F15_4_ok Kn Kr Kn t h H0)
def F15_2 (x0 x1 : Value) (h : H) (Kn : H → Prop) (Kr : Value → H → Prop) : Prop :=
  F15_3 x0 x1 (.int .i64 0) h Kn Kr
theorem F15_2_ok (Kn Kr) (t : T) (h : H) (H0 : F15_2 (t 0) (t 1) h Kn Kr) : Wp Try.prog 26 (seqL (rest 2 (bodyOf Try.f15.body))) (mkQ (fun t h => Kn  h) (fun t h => Kr (t 4) h) ke0) t h :=
  awpTo_okF 1 H0 (by kernel_rfl) (fun t h (H1 : F15_3 (t 0) (t 1) (t 5) h Kn Kr) => F15_3_ok Kn Kr t h H1) (by kernel_rfl)
def F15_12 (h : H) (Kn : Value → H → Prop) (Kr : Value → H → Prop) : Prop :=
  Kr (.bool true) h
theorem F15_12_ok (Kn Kr) (t : T) (h : H) (H0 : F15_12  h Kn Kr) : Wp Try.prog 26 (seqR (rest 2 (bodyOf Try.f15.body))) (mkQ (fun t h => Kn (t 4) h) (fun t h => Kr (t 4) h) ke0) t h :=
  wpEqF H0 (by kernel_rfl)
def F15_1 (x0 x1 : Value) (h : H) (Kn : Value → H → Prop) (Kr : Value → H → Prop) : Prop :=
  F15_2 x0 x1 h (fun  h => F15_12  h Kn Kr) Kr
theorem F15_1_ok (Kn Kr) (t : T) (h : H) (H0 : F15_1 (t 0) (t 1) h Kn Kr) : Wp Try.prog 26 (rest 2 (bodyOf Try.f15.body)) (mkQ (fun t h => Kn (t 4) h) (fun t h => Kr (t 4) h) ke0) t h :=
  seq_ok (by kernel_rfl) (fun t h H1 => F15_12_ok Kn Kr t h H1) (F15_2_ok (fun  h => F15_12  h Kn Kr) Kr t h H0)
def F15_0 (x0 x1 : Value) (h : H) (Kn : Value → H → Prop) (Kr : Value → H → Prop) : Prop :=
  o_lenSl x0 fun v7 => o_lenSl x1 fun v9 => o_bin Try.prog .neq 3 v7 v9 fun v10 => o_if v10 (Kr (.bool false) h) (F15_1 x0 x1 h Kn Kr)
theorem F15_0_ok (Kn Kr) (t : T) (h : H) (H0 : F15_0 (t 0) (t 1) h Kn Kr) : Wp Try.prog 26 (bodyOf Try.f15.body) (mkQ (fun t h => Kn (t 4) h) (fun t h => Kr (t 4) h) ke0) t h :=
  awpTo_okF 2 H0 (by kernel_rfl) (fun t h (H1 : F15_1 (t 0) (t 1) h Kn Kr) => F15_1_ok Kn Kr t h H1) (by kernel_rfl)
def F15 (x0 x1 : Value) (h : H) (Q : Value → H → Prop) : Prop := F15_0 x0 x1 h (fun v h => Q v h) (fun v h => Q v h)
theorem F15_spec (x0 x1 : Value) (h : H) (Q : Value → H → Prop) (H0 : F15 x0 x1 h Q) : AM.Spec Try.prog 15 [x0, x1] h Q :=
  spec_wp mixed (fn := Try.f15) Try.func15 (c := bodyOf Try.f15.body) (rs := [4]) (N := 26) (by kernel_rfl) (by kernel_rfl) (by kernel_rfl) (by kernel_rfl) (by kernel_rfl) (Nat.le_of_ble_eq_true rfl) (F15_0_ok (fun v h => Q v h) (fun v h => Q v h) (tinit [x0, x1]) h H0) (by kernel_rfl)
/-! #### 16: tincture/tincturelaw23.clean -/
def F16_7 (x0 x3 x4 : Value) (h : H) (Kn : Value → Value → Value → H → Prop) (Kr : Value → H → Prop) (Ke0 : H → Prop) : Prop :=
  o_indexAddr none 5 x0 x4 fun v16 => o_load true 5 v16 h fun v17 => o_new [.int .i64 0, .int .i64 0, .int .i64 0, .int .i64 0, .int .u32 0] 29 .exact h fun b5 h => o_store 5 (.pointer (some ⟨b5, 0, none⟩)) v17 h fun h => o_fieldAddr 0 (.pointer (some ⟨b5, 0, none⟩)) fun v18 => o_load false 1 v18 h fun v19 => o_bin Try.prog .eql 3 v19 (.int .i64 4) fun v20 => o_guard v20 false (fun k6 => o_fieldAddr 0 (.pointer (some ⟨b5, 0, none⟩)) fun v22 => o_load false 1 v22 h fun v23 => o_bin Try.prog .eql 3 v23 (.int .i64 5) fun v24 => k6 v24 h) (fun v24 h => o_pick v20 (.bool true) v24 fun v25 => o_guard v25 true (fun k12 => o_fieldAddr 2 (.pointer (some ⟨b5, 0, none⟩)) fun v27 => o_load false 1 v27 h fun v28 => o_indexAddr (some 256) 1 x3 v28 fun v29 => o_load false 1 v29 h fun v30 => k12 v30 h) (fun v30 h => o_pick v25 v30 (.bool false) fun v31 => o_guard v31 true (fun k18 => o_fieldAddr 3 (.pointer (some ⟨b5, 0, none⟩)) fun v33 => o_load false 1 v33 h fun v34 => o_indexAddr (some 256) 1 x3 v34 fun v35 => o_load false 1 v35 h fun v36 => k18 v36 h) (fun v36 h => o_pick v31 v36 (.bool false) fun v37 => o_if v37 (Kr (.bool false) h) (o_load true 5 (.pointer (some ⟨b5, 0, none⟩)) h fun v39 => o_call Try.prog 20 [v39] h fun v40 h => o_extract v40 0 fun v41 => o_extract v40 1 fun v42 => o_if v42 (o_fieldAddr 0 (.pointer (some ⟨b5, 0, none⟩)) fun v45 => o_load false 1 v45 h fun v46 => o_bin Try.prog .eql 3 v46 (.int .i64 1) fun v47 => o_indexAddr (some 256) 1 x3 v41 fun v48 => o_store 1 v48 v47 h fun h => Kn x0 x3 x4 h) (Kn x0 x3 x4 h))) h) h) h
theorem F16_7_ok (Kn Kr Ke0) (t : T) (h : H) (H0 : F16_7 (t 0) (t 3) (t 4) h Kn Kr Ke0) : Wp Try.prog 49 (seqL (rest 1 (lopC (blkC (rest 1 (seqL (rest 2 (bodyOf Try.f16.body)))))))) (mkQ (fun t h => Kn (t 0) (t 3) (t 4) h) (fun t h => Kr (t 2) h) (keAdd 0 (fun t h => Ke0  h) ke0)) t h :=
  wpEqF H0 (by kernel_rfl)
def F16_8 (x0 x3 x4 : Value) (h : H) (Kn : Value → Value → Value → H → Prop) (Kr : Value → H → Prop) (Ke0 : H → Prop) : Prop :=
  o_bin Try.prog .add 3 x4 (.int .i64 1) fun v13 => Kn x0 x3 v13 h
theorem F16_8_ok (Kn Kr Ke0) (t : T) (h : H) (H0 : F16_8 (t 0) (t 3) (t 4) h Kn Kr Ke0) : Wp Try.prog 49 (seqR (rest 1 (lopC (blkC (rest 1 (seqL (rest 2 (bodyOf Try.f16.body)))))))) (mkQ (fun t h => Kn (t 0) (t 3) (t 4) h) (fun t h => Kr (t 2) h) (keAdd 0 (fun t h => Ke0  h) ke0)) t h :=
  wpEqF H0 (by kernel_rfl)
def F16_6 (x0 x3 x4 : Value) (h : H) (Kn : Value → Value → Value → H → Prop) (Kr : Value → H → Prop) (Ke0 : H → Prop) : Prop :=
  F16_7 x0 x3 x4 h (fun y0 y3 y4 h => F16_8 y0 y3 y4 h Kn Kr Ke0) Kr Ke0
theorem F16_6_ok (Kn Kr Ke0) (t : T) (h : H) (H0 : F16_6 (t 0) (t 3) (t 4) h Kn Kr Ke0) : Wp Try.prog 49 (rest 1 (lopC (blkC (rest 1 (seqL (rest 2 (bodyOf Try.f16.body))))))) (mkQ (fun t h => Kn (t 0) (t 3) (t 4) h) (fun t h => Kr (t 2) h) (keAdd 0 (fun t h => Ke0  h) ke0)) t h :=
  seq_ok (by kernel_rfl) (fun t h H1 => F16_8_ok Kn Kr Ke0 t h H1) (F16_7_ok (fun y0 y3 y4 h => F16_8 y0 y3 y4 h Kn Kr Ke0) Kr Ke0 t h H0)
def F16_5 (x0 x3 x4 : Value) (h : H) (Kn : Value → Value → Value → H → Prop) (Kr : Value → H → Prop) (Ke0 : H → Prop) : Prop :=
  o_lenSl x0 fun v10 => o_bin Try.prog .lss 3 x4 v10 fun v11 => o_if v11 (F16_6 x0 x3 x4 h Kn Kr Ke0) (Ke0 h)
theorem F16_5_ok (Kn Kr Ke0) (t : T) (h : H) (H0 : F16_5 (t 0) (t 3) (t 4) h Kn Kr Ke0) : Wp Try.prog 49 (lopC (blkC (rest 1 (seqL (rest 2 (bodyOf Try.f16.body)))))) (mkQ (fun t h => Kn (t 0) (t 3) (t 4) h) (fun t h => Kr (t 2) h) (keAdd 0 (fun t h => Ke0  h) ke0)) t h :=
  awpTo_okF 1 H0 (by kernel_rfl) (fun t h (H1 : F16_6 (t 0) (t 3) (t 4) h Kn Kr Ke0) => F16_6_ok Kn Kr Ke0 t h H1) (by kernel_rfl)
def F16_4 (x0 x3 x4 : Value) (h : H) (Kn : H → Prop) (Kr : Value → H → Prop) (Ke0 : H → Prop) : Prop :=
  sloop (S := Value × Value × Value) (fun s h K => F16_5 s.1 s.2.1 s.2.2 h (fun y0 y3 y4 h => K (y0, y3, y4) h) Kr Ke0) (x0, x3, x4) h
theorem F16_4_ok (Kn Kr Ke0) (t : T) (h : H) (H0 : F16_4 (t 0) (t 3) (t 4) h Kn Kr Ke0) : Wp Try.prog 49 (blkC (rest 1 (seqL (rest 2 (bodyOf Try.f16.body))))) (mkQ (fun t h => Kn  h) (fun t h => Kr (t 2) h) (keAdd 0 (fun t h => Ke0  h) ke0)) t h :=
  loop_ok (fun t => (t 0, t 3, t 4)) (by kernel_rfl) (fun t h K H1 => F16_5_ok (fun y0 y3 y4 h => K (y0, y3, y4) h) Kr Ke0 t h H1) H0
def F16_3 (x0 x3 x4 : Value) (h : H) (Kn : H → Prop) (Kr : Value → H → Prop) : Prop :=
  F16_4 x0 x3 x4 h Kn Kr Kn
theorem F16_3_ok (Kn Kr) (t : T) (h : H) (H0 : F16_3 (t 0) (t 3) (t 4) h Kn Kr) : Wp Try.prog 49 (rest 1 (seqL (rest 2 (bodyOf Try.f16.body)))) (mkQ (fun t h => Kn  h) (fun t h => Kr (t 2) h) ke0) t h :=
  block_ok 0 (by kernel_rfl) (by kernel_rfl) (F16_4_ok Kn Kr Kn t h H0)
def F16_2 (x0 x3 : Value) (h : H) (Kn : H → Prop) (Kr : Value → H → Prop) : Prop :=
  F16_3 x0 x3 (.int .i64 0) h Kn Kr
theorem F16_2_ok (Kn Kr) (t : T) (h : H) (H0 : F16_2 (t 0) (t 3) h Kn Kr) : Wp Try.prog 49 (seqL (rest 2 (bodyOf Try.f16.body))) (mkQ (fun t h => Kn  h) (fun t h => Kr (t 2) h) ke0) t h :=
  awpTo_okF 1 H0 (by kernel_rfl) (fun t h (H1 : F16_3 (t 0) (t 3) (t 4) h Kn Kr) => F16_3_ok Kn Kr t h H1) (by kernel_rfl)
def F16_9 (h : H) (Kn : Value → H → Prop) (Kr : Value → H → Prop) : Prop :=
  Kr (.bool true) h
theorem F16_9_ok (Kn Kr) (t : T) (h : H) (H0 : F16_9  h Kn Kr) : Wp Try.prog 49 (seqR (rest 2 (bodyOf Try.f16.body))) (mkQ (fun t h => Kn (t 2) h) (fun t h => Kr (t 2) h) ke0) t h :=
  wpEqF H0 (by kernel_rfl)
def F16_1 (x0 x3 : Value) (h : H) (Kn : Value → H → Prop) (Kr : Value → H → Prop) : Prop :=
  F16_2 x0 x3 h (fun  h => F16_9  h Kn Kr) Kr
theorem F16_1_ok (Kn Kr) (t : T) (h : H) (H0 : F16_1 (t 0) (t 3) h Kn Kr) : Wp Try.prog 49 (rest 2 (bodyOf Try.f16.body)) (mkQ (fun t h => Kn (t 2) h) (fun t h => Kr (t 2) h) ke0) t h :=
  seq_ok (by kernel_rfl) (fun t h H1 => F16_9_ok Kn Kr t h H1) (F16_2_ok (fun  h => F16_9  h Kn Kr) Kr t h H0)
def F16_0 (x0 : Value) (h : H) (Kn : Value → H → Prop) (Kr : Value → H → Prop) : Prop :=
  o_new (List.replicate 256 ((.bool false) : Value)) 30 .exact h fun b3 h => F16_1 x0 (.pointer (some ⟨b3, 0, none⟩)) h Kn Kr
theorem F16_0_ok (Kn Kr) (t : T) (h : H) (H0 : F16_0 (t 0) h Kn Kr) : Wp Try.prog 49 (bodyOf Try.f16.body) (mkQ (fun t h => Kn (t 2) h) (fun t h => Kr (t 2) h) ke0) t h :=
  awpTo_okF 2 H0 (by kernel_rfl) (fun t h (H1 : F16_1 (t 0) (t 3) h Kn Kr) => F16_1_ok Kn Kr t h H1) (by kernel_rfl)
def F16 (x0 : Value) (h : H) (Q : Value → H → Prop) : Prop := F16_0 x0 h (fun v h => Q v h) (fun v h => Q v h)
theorem F16_spec (x0 : Value) (h : H) (Q : Value → H → Prop) (H0 : F16 x0 h Q) : AM.Spec Try.prog 16 [x0] h Q :=
  spec_wp mixed (fn := Try.f16) Try.func16 (c := bodyOf Try.f16.body) (rs := [2]) (N := 49) (by kernel_rfl) (by kernel_rfl) (by kernel_rfl) (by kernel_rfl) (by kernel_rfl) (Nat.le_of_ble_eq_true rfl) (F16_0_ok (fun v h => Q v h) (fun v h => Q v h) (tinit [x0]) h H0) (by kernel_rfl)
/-! #### 17: slices.Clone[[]tincture/ir.Node,tincture/ir.Node] -/
def F17_0 (x0 : Value) (h : H) (Kn : Value → H → Prop) (Kr : Value → H → Prop) : Prop :=
  o_bin Try.prog .eql 22 x0 (.slice none 0 0) fun v4 => o_if v4 (Kr (.slice none 0 0) h) (o_buildSlice Try.prog 22 0 [] h fun v5 h => o_append 29 5 40 v5 x0 h fun v7 h => Kr v7 h)
theorem F17_0_ok (Kn Kr) (t : T) (h : H) (H0 : F17_0 (t 0) h Kn Kr) : Wp Try.prog 8 (bodyOf Try.f17.body) (mkQ (fun t h => Kn (t 2) h) (fun t h => Kr (t 2) h) ke0) t h :=
  wpEqF H0 (by kernel_rfl)
def F17 (x0 : Value) (h : H) (Q : Value → H → Prop) : Prop := F17_0 x0 h (fun v h => Q v h) (fun v h => Q v h)
theorem F17_spec (x0 : Value) (h : H) (Q : Value → H → Prop) (H0 : F17 x0 h Q) : AM.Spec Try.prog 17 [x0] h Q :=
  spec_wp mixed (fn := Try.f17) Try.func17 (c := bodyOf Try.f17.body) (rs := [2]) (N := 8) (by kernel_rfl) (by kernel_rfl) (by kernel_rfl) (by kernel_rfl) (by kernel_rfl) (Nat.le_of_ble_eq_true rfl) (F17_0_ok (fun v h => Q v h) (fun v h => Q v h) (tinit [x0]) h H0) (by kernel_rfl)
/-! #### 18: slices.Backward[[]tincture/ir.Node,tincture/ir.Node] -/
def F18_0 (x0 : Value) (h : H) (Kn : Value → H → Prop) (Kr : Value → H → Prop) : Prop :=
  boxV x0 = true ∧ o_new (Value.cells x0).toList 22 .exact h fun b1 h => List.all [] plainC = true ∧ List.all [(.pointer (some ⟨b1, 0, none⟩))] plainC = true ∧ Kr (.func (.func 28) #[] #[(.pointer (some ⟨b1, 0, none⟩))]) h
theorem F18_0_ok (Kn Kr) (t : T) (h : H) (H0 : F18_0 (t 0) h Kn Kr) : Wp Try.prog 4 (bodyOf Try.f18.body) (mkQ (fun t h => Kn (t 2) h) (fun t h => Kr (t 2) h) ke0) t h :=
  wpEqF H0 (by kernel_rfl)
def F18 (x0 : Value) (h : H) (Q : Value → H → Prop) : Prop := F18_0 x0 h (fun v h => Q v h) (fun v h => Q v h)
theorem F18_spec (x0 : Value) (h : H) (Q : Value → H → Prop) (H0 : F18 x0 h Q) : AM.Spec Try.prog 18 [x0] h Q :=
  spec_wp mixed (fn := Try.f18) Try.func18 (c := bodyOf Try.f18.body) (rs := [2]) (N := 4) (by kernel_rfl) (by kernel_rfl) (by kernel_rfl) (by kernel_rfl) (by kernel_rfl) (Nat.le_of_ble_eq_true rfl) (F18_0_ok (fun v h => Q v h) (fun v h => Q v h) (tinit [x0]) h H0) (by kernel_rfl)
/-! #### 19: tincture/drop.idle -/
def F19_5 (x3 : Value) (h : H) (Kn : Value → H → Prop) (Kr : Value → H → Prop) (Ke0 : H → Prop) : Prop :=
  o_bin Try.prog .eql 3 x3 (.int .i64 1) fun v5 => o_if v5 (Kn v5 h) (o_bin Try.prog .eql 3 x3 (.int .i64 2) fun v6 => o_if v6 (Kn v6 h) (o_bin Try.prog .eql 3 x3 (.int .i64 4) fun v7 => o_if v7 (Kn v7 h) (o_bin Try.prog .eql 3 x3 (.int .i64 5) fun v8 => o_if v8 (Kn v8 h) (o_bin Try.prog .eql 3 x3 (.int .i64 14) fun v9 => o_if v9 (Kn v9 h) (o_bin Try.prog .eql 3 x3 (.int .i64 16) fun v10 => o_if v10 (Kn v10 h) (o_bin Try.prog .eql 3 x3 (.int .i64 17) fun v11 => o_if v11 (Kn v11 h) (o_bin Try.prog .eql 3 x3 (.int .i64 19) fun v12 => Kn v12 h)))))))
theorem F19_5_ok (Kn Kr Ke0) (t : T) (h : H) (H0 : F19_5 (t 3) h Kn Kr Ke0) : Wp Try.prog 13 (seqL (blkC (rest 1 (seqL (rest 1 (bodyOf Try.f19.body)))))) (mkQ (fun t h => Kn (t 4) h) (fun t h => Kr (t 2) h) (keAdd 0 (fun t h => Ke0  h) ke0)) t h :=
  wpEqF H0 (by kernel_rfl)
theorem F19_5_or {a : Int} {h : H} {Kn Kr Ke0} : F19_5 (.int .i64 a) h Kn Kr Ke0 = Kn  (.bool (decide (a = 1) || (decide (a = 2) || (decide (a = 4) || (decide (a = 5) || (decide (a = 14) || (decide (a = 16) || (decide (a = 17) || decide (a = 19))))))))) h := by
  simp only [F19_5, bin_eql, if_or]
def F19_6 (x4 : Value) (h : H) (Kn : H → Prop) (Kr : Value → H → Prop) (Ke0 : H → Prop) : Prop :=
  o_if x4 (Kr (.bool true) h) (Kn h)
theorem F19_6_ok (Kn Kr Ke0) (t : T) (h : H) (H0 : F19_6 (t 4) h Kn Kr Ke0) : Wp Try.prog 13 (seqR (blkC (rest 1 (seqL (rest 1 (bodyOf Try.f19.body)))))) (mkQ (fun t h => Kn  h) (fun t h => Kr (t 2) h) (keAdd 0 (fun t h => Ke0  h) ke0)) t h :=
  wpEqF H0 (by kernel_rfl)
def F19_4 (x3 : Value) (h : H) (Kn : H → Prop) (Kr : Value → H → Prop) (Ke0 : H → Prop) : Prop :=
  F19_5 x3 h (fun y4 h => F19_6 y4 h Kn Kr Ke0) Kr Ke0
theorem F19_4_ok (Kn Kr Ke0) (t : T) (h : H) (H0 : F19_4 (t 3) h Kn Kr Ke0) : Wp Try.prog 13 (blkC (rest 1 (seqL (rest 1 (bodyOf Try.f19.body))))) (mkQ (fun t h => Kn  h) (fun t h => Kr (t 2) h) (keAdd 0 (fun t h => Ke0  h) ke0)) t h :=
  seq_ok (by kernel_rfl) (fun t h H1 => F19_6_ok Kn Kr Ke0 t h H1) (F19_5_ok (fun y4 h => F19_6 y4 h Kn Kr Ke0) Kr Ke0 t h H0)
def F19_3 (x3 : Value) (h : H) (Kn : H → Prop) (Kr : Value → H → Prop) : Prop :=
  F19_4 x3 h Kn Kr Kn
theorem F19_3_ok (Kn Kr) (t : T) (h : H) (H0 : F19_3 (t 3) h Kn Kr) : Wp Try.prog 13 (rest 1 (seqL (rest 1 (bodyOf Try.f19.body)))) (mkQ (fun t h => Kn  h) (fun t h => Kr (t 2) h) ke0) t h :=
  block_ok 0 (by kernel_rfl) (by kernel_rfl) (F19_4_ok Kn Kr Kn t h H0)
def F19_2 (x0 : Value) (h : H) (Kn : H → Prop) (Kr : Value → H → Prop) : Prop :=
  F19_3 x0 h Kn Kr
theorem F19_2_ok (Kn Kr) (t : T) (h : H) (H0 : F19_2 (t 0) h Kn Kr) : Wp Try.prog 13 (seqL (rest 1 (bodyOf Try.f19.body))) (mkQ (fun t h => Kn  h) (fun t h => Kr (t 2) h) ke0) t h :=
  awpTo_okF 1 H0 (by kernel_rfl) (fun t h (H1 : F19_3 (t 3) h Kn Kr) => F19_3_ok Kn Kr t h H1) (by kernel_rfl)
def F19_7 (h : H) (Kn : Value → H → Prop) (Kr : Value → H → Prop) : Prop :=
  Kr (.bool false) h
theorem F19_7_ok (Kn Kr) (t : T) (h : H) (H0 : F19_7  h Kn Kr) : Wp Try.prog 13 (seqR (rest 1 (bodyOf Try.f19.body))) (mkQ (fun t h => Kn (t 2) h) (fun t h => Kr (t 2) h) ke0) t h :=
  wpEqF H0 (by kernel_rfl)
def F19_1 (x0 : Value) (h : H) (Kn : Value → H → Prop) (Kr : Value → H → Prop) : Prop :=
  F19_2 x0 h (fun  h => F19_7  h Kn Kr) Kr
theorem F19_1_ok (Kn Kr) (t : T) (h : H) (H0 : F19_1 (t 0) h Kn Kr) : Wp Try.prog 13 (rest 1 (bodyOf Try.f19.body)) (mkQ (fun t h => Kn (t 2) h) (fun t h => Kr (t 2) h) ke0) t h :=
  seq_ok (by kernel_rfl) (fun t h H1 => F19_7_ok Kn Kr t h H1) (F19_2_ok (fun  h => F19_7  h Kn Kr) Kr t h H0)
def F19_0 (x0 : Value) (h : H) (Kn : Value → H → Prop) (Kr : Value → H → Prop) : Prop :=
  F19_1 x0 h Kn Kr
theorem F19_0_ok (Kn Kr) (t : T) (h : H) (H0 : F19_0 (t 0) h Kn Kr) : Wp Try.prog 13 (bodyOf Try.f19.body) (mkQ (fun t h => Kn (t 2) h) (fun t h => Kr (t 2) h) ke0) t h :=
  awpTo_okF 1 H0 (by kernel_rfl) (fun t h (H1 : F19_1 (t 0) h Kn Kr) => F19_1_ok Kn Kr t h H1) (by kernel_rfl)
def F19 (x0 : Value) (h : H) (Q : Value → H → Prop) : Prop := F19_0 x0 h (fun v h => Q v h) (fun v h => Q v h)
theorem F19_spec (x0 : Value) (h : H) (Q : Value → H → Prop) (H0 : F19 x0 h Q) : AM.Spec Try.prog 19 [x0] h Q :=
  spec_wp mixed (fn := Try.f19) Try.func19 (c := bodyOf Try.f19.body) (rs := [2]) (N := 13) (by kernel_rfl) (by kernel_rfl) (by kernel_rfl) (by kernel_rfl) (by kernel_rfl) (Nat.le_of_ble_eq_true rfl) (F19_0_ok (fun v h => Q v h) (fun v h => Q v h) (tinit [x0]) h H0) (by kernel_rfl)
/-! #### 20: tincture/ir.Writes -/
def F20_5 (x1 x5 : Value) (h : H) (Kn : Value → Value → H → Prop) (Kr : Value → Value → H → Prop) (Ke0 : H → Prop) : Prop :=
  o_bin Try.prog .eql 3 x5 (.int .i64 1) fun v7 => o_if v7 (Kn x1 v7 h) (o_bin Try.prog .eql 3 x5 (.int .i64 2) fun v8 => o_if v8 (Kn x1 v8 h) (o_bin Try.prog .eql 3 x5 (.int .i64 4) fun v9 => o_if v9 (Kn x1 v9 h) (o_bin Try.prog .eql 3 x5 (.int .i64 5) fun v10 => o_if v10 (Kn x1 v10 h) (o_bin Try.prog .eql 3 x5 (.int .i64 6) fun v11 => Kn x1 v11 h))))
theorem F20_5_ok (Kn Kr Ke0) (t : T) (h : H) (H0 : F20_5 (t 1) (t 5) h Kn Kr Ke0) : Wp Try.prog 14 (seqL (blkC (rest 1 (seqL (rest 1 (bodyOf Try.f20.body)))))) (mkQ (fun t h => Kn (t 1) (t 6) h) (fun t h => Kr (t 2) (t 3) h) (keAdd 0 (fun t h => Ke0  h) ke0)) t h :=
  wpEqF H0 (by kernel_rfl)
theorem F20_5_or {a : Int} {x1 : Value} {h : H} {Kn Kr Ke0} : F20_5 x1 (.int .i64 a) h Kn Kr Ke0 = Kn x1 (.bool (decide (a = 1) || (decide (a = 2) || (decide (a = 4) || (decide (a = 5) || decide (a = 6)))))) h := by
  simp only [F20_5, bin_eql, if_or]
def F20_6 (x1 x6 : Value) (h : H) (Kn : H → Prop) (Kr : Value → Value → H → Prop) (Ke0 : H → Prop) : Prop :=
  o_if x6 (o_fieldAddr 1 x1 fun v12 => o_load false 1 v12 h fun v13 => Kr v13 (.bool true) h) (Kn h)
theorem F20_6_ok (Kn Kr Ke0) (t : T) (h : H) (H0 : F20_6 (t 1) (t 6) h Kn Kr Ke0) : Wp Try.prog 14 (seqR (blkC (rest 1 (seqL (rest 1 (bodyOf Try.f20.body)))))) (mkQ (fun t h => Kn  h) (fun t h => Kr (t 2) (t 3) h) (keAdd 0 (fun t h => Ke0  h) ke0)) t h :=
  wpEqF H0 (by kernel_rfl)
def F20_4 (x1 x5 : Value) (h : H) (Kn : H → Prop) (Kr : Value → Value → H → Prop) (Ke0 : H → Prop) : Prop :=
  F20_5 x1 x5 h (fun y1 y6 h => F20_6 y1 y6 h Kn Kr Ke0) Kr Ke0
theorem F20_4_ok (Kn Kr Ke0) (t : T) (h : H) (H0 : F20_4 (t 1) (t 5) h Kn Kr Ke0) : Wp Try.prog 14 (blkC (rest 1 (seqL (rest 1 (bodyOf Try.f20.body))))) (mkQ (fun t h => Kn  h) (fun t h => Kr (t 2) (t 3) h) (keAdd 0 (fun t h => Ke0  h) ke0)) t h :=
  seq_ok (by kernel_rfl) (fun t h H1 => F20_6_ok Kn Kr Ke0 t h H1) (F20_5_ok (fun y1 y6 h => F20_6 y1 y6 h Kn Kr Ke0) Kr Ke0 t h H0)
def F20_3 (x1 x5 : Value) (h : H) (Kn : H → Prop) (Kr : Value → Value → H → Prop) : Prop :=
  F20_4 x1 x5 h Kn Kr Kn
theorem F20_3_ok (Kn Kr) (t : T) (h : H) (H0 : F20_3 (t 1) (t 5) h Kn Kr) : Wp Try.prog 14 (rest 1 (seqL (rest 1 (bodyOf Try.f20.body)))) (mkQ (fun t h => Kn  h) (fun t h => Kr (t 2) (t 3) h) ke0) t h :=
  block_ok 0 (by kernel_rfl) (by kernel_rfl) (F20_4_ok Kn Kr Kn t h H0)
def F20_2 (x1 : Value) (h : H) (Kn : H → Prop) (Kr : Value → Value → H → Prop) : Prop :=
  o_fieldAddr 0 x1 fun v4 => o_load false 1 v4 h fun v5 => F20_3 x1 v5 h Kn Kr
theorem F20_2_ok (Kn Kr) (t : T) (h : H) (H0 : F20_2 (t 1) h Kn Kr) : Wp Try.prog 14 (seqL (rest 1 (bodyOf Try.f20.body))) (mkQ (fun t h => Kn  h) (fun t h => Kr (t 2) (t 3) h) ke0) t h :=
  awpTo_okF 1 H0 (by kernel_rfl) (fun t h (H1 : F20_3 (t 1) (t 5) h Kn Kr) => F20_3_ok Kn Kr t h H1) (by kernel_rfl)
def F20_7 (h : H) (Kn : Value → Value → H → Prop) (Kr : Value → Value → H → Prop) : Prop :=
  Kr (.int .i64 0) (.bool false) h
theorem F20_7_ok (Kn Kr) (t : T) (h : H) (H0 : F20_7  h Kn Kr) : Wp Try.prog 14 (seqR (rest 1 (bodyOf Try.f20.body))) (mkQ (fun t h => Kn (t 2) (t 3) h) (fun t h => Kr (t 2) (t 3) h) ke0) t h :=
  wpEqF H0 (by kernel_rfl)
def F20_1 (x1 : Value) (h : H) (Kn : Value → Value → H → Prop) (Kr : Value → Value → H → Prop) : Prop :=
  F20_2 x1 h (fun  h => F20_7  h Kn Kr) Kr
theorem F20_1_ok (Kn Kr) (t : T) (h : H) (H0 : F20_1 (t 1) h Kn Kr) : Wp Try.prog 14 (rest 1 (bodyOf Try.f20.body)) (mkQ (fun t h => Kn (t 2) (t 3) h) (fun t h => Kr (t 2) (t 3) h) ke0) t h :=
  seq_ok (by kernel_rfl) (fun t h H1 => F20_7_ok Kn Kr t h H1) (F20_2_ok (fun  h => F20_7  h Kn Kr) Kr t h H0)
def F20_0 (x0 : Value) (h : H) (Kn : Value → Value → H → Prop) (Kr : Value → Value → H → Prop) : Prop :=
  boxV x0 = true ∧ o_new (Value.cells x0).toList 29 .exact h fun b1 h => F20_1 (.pointer (some ⟨b1, 0, none⟩)) h Kn Kr
theorem F20_0_ok (Kn Kr) (t : T) (h : H) (H0 : F20_0 (t 0) h Kn Kr) : Wp Try.prog 14 (bodyOf Try.f20.body) (mkQ (fun t h => Kn (t 2) (t 3) h) (fun t h => Kr (t 2) (t 3) h) ke0) t h :=
  awpTo_okF 1 H0 (by kernel_rfl) (fun t h (H1 : F20_1 (t 1) h Kn Kr) => F20_1_ok Kn Kr t h H1) (by kernel_rfl)
def F20 (x0 : Value) (h : H) (Q : Value → H → Prop) : Prop := F20_0 x0 h (fun y2 y3 h => bif [y2, y3].all boxV then Q (.tuple #[y2, y3]) h else False) (fun y2 y3 h => bif [y2, y3].all boxV then Q (.tuple #[y2, y3]) h else False)
theorem F20_spec (x0 : Value) (h : H) (Q : Value → H → Prop) (H0 : F20 x0 h Q) : AM.Spec Try.prog 20 [x0] h Q :=
  spec_wp mixed (fn := Try.f20) Try.func20 (c := bodyOf Try.f20.body) (rs := [2, 3]) (N := 14) (by kernel_rfl) (by kernel_rfl) (by kernel_rfl) (by kernel_rfl) (by kernel_rfl) (Nat.le_of_ble_eq_true rfl) (F20_0_ok (fun y2 y3 h => bif [y2, y3].all boxV then Q (.tuple #[y2, y3]) h else False) (fun y2 y3 h => bif [y2, y3].all boxV then Q (.tuple #[y2, y3]) h else False) (tinit [x0]) h H0) (by kernel_rfl)
/-! #### 21: tincture/ir.Reads -/
def F21_2 (x1 x4 x5 x6 : Value) (h : H) (Kn : Value → Value → Value → H → Prop) (Kr : Value → H → Prop) : Prop :=
  o_if x4 (o_fieldAddr 2 x1 fun v16 => o_load false 1 v16 h fun v17 => o_buildSlice Try.prog 37 1 [(0, v17)] h fun v18 h => o_append 3 1 8 x6 v18 h fun v19 h => Kn x1 x5 v19 h) (Kn x1 x5 x6 h)
theorem F21_2_ok (Kn Kr) (t : T) (h : H) (H0 : F21_2 (t 1) (t 4) (t 5) (t 6) h Kn Kr) : Wp Try.prog 35 (seqL (rest 3 (bodyOf Try.f21.body))) (mkQ (fun t h => Kn (t 1) (t 5) (t 6) h) (fun t h => Kr (t 2) h) ke0) t h :=
  wpEqF H0 (by kernel_rfl)
def F21_4 (x1 x5 x6 : Value) (h : H) (Kn : Value → Value → H → Prop) (Kr : Value → H → Prop) : Prop :=
  o_if x5 (o_fieldAddr 3 x1 fun v22 => o_load false 1 v22 h fun v23 => o_buildSlice Try.prog 37 1 [(0, v23)] h fun v24 h => o_append 3 1 8 x6 v24 h fun v25 h => Kn x1 v25 h) (Kn x1 x6 h)
theorem F21_4_ok (Kn Kr) (t : T) (h : H) (H0 : F21_4 (t 1) (t 5) (t 6) h Kn Kr) : Wp Try.prog 35 (seqL (seqR (rest 3 (bodyOf Try.f21.body)))) (mkQ (fun t h => Kn (t 1) (t 6) h) (fun t h => Kr (t 2) h) ke0) t h :=
  wpEqF H0 (by kernel_rfl)
def F21_6 (x1 x6 : Value) (h : H) (Kn : Value → H → Prop) (Kr : Value → H → Prop) : Prop :=
  o_fieldAddr 0 x1 fun v26 => o_load false 1 v26 h fun v27 => o_bin Try.prog .eql 3 v27 (.int .i64 19) fun v28 => o_if v28 (o_fieldAddr 1 x1 fun v30 => o_load false 1 v30 h fun v31 => o_buildSlice Try.prog 37 1 [(0, v31)] h fun v32 h => o_append 3 1 8 x6 v32 h fun v33 h => Kn v33 h) (Kn x6 h)
theorem F21_6_ok (Kn Kr) (t : T) (h : H) (H0 : F21_6 (t 1) (t 6) h Kn Kr) : Wp Try.prog 35 (seqL (seqR (seqR (rest 3 (bodyOf Try.f21.body))))) (mkQ (fun t h => Kn (t 6) h) (fun t h => Kr (t 2) h) ke0) t h :=
  wpEqF H0 (by kernel_rfl)
def F21_7 (x6 : Value) (h : H) (Kn : Value → H → Prop) (Kr : Value → H → Prop) : Prop :=
  Kr x6 h
theorem F21_7_ok (Kn Kr) (t : T) (h : H) (H0 : F21_7 (t 6) h Kn Kr) : Wp Try.prog 35 (seqR (seqR (seqR (rest 3 (bodyOf Try.f21.body))))) (mkQ (fun t h => Kn (t 2) h) (fun t h => Kr (t 2) h) ke0) t h :=
  wpEqF H0 (by kernel_rfl)
def F21_5 (x1 x6 : Value) (h : H) (Kn : Value → H → Prop) (Kr : Value → H → Prop) : Prop :=
  F21_6 x1 x6 h (fun y6 h => F21_7 y6 h Kn Kr) Kr
theorem F21_5_ok (Kn Kr) (t : T) (h : H) (H0 : F21_5 (t 1) (t 6) h Kn Kr) : Wp Try.prog 35 (seqR (seqR (rest 3 (bodyOf Try.f21.body)))) (mkQ (fun t h => Kn (t 2) h) (fun t h => Kr (t 2) h) ke0) t h :=
  seq_ok (by kernel_rfl) (fun t h H1 => F21_7_ok Kn Kr t h H1) (F21_6_ok (fun y6 h => F21_7 y6 h Kn Kr) Kr t h H0)
def F21_3 (x1 x5 x6 : Value) (h : H) (Kn : Value → H → Prop) (Kr : Value → H → Prop) : Prop :=
  F21_4 x1 x5 x6 h (fun y1 y6 h => F21_5 y1 y6 h Kn Kr) Kr
theorem F21_3_ok (Kn Kr) (t : T) (h : H) (H0 : F21_3 (t 1) (t 5) (t 6) h Kn Kr) : Wp Try.prog 35 (seqR (rest 3 (bodyOf Try.f21.body))) (mkQ (fun t h => Kn (t 2) h) (fun t h => Kr (t 2) h) ke0) t h :=
  seq_ok (by kernel_rfl) (fun t h H1 => F21_5_ok Kn Kr t h H1) (F21_4_ok (fun y1 y6 h => F21_5 y1 y6 h Kn Kr) Kr t h H0)
def F21_1 (x1 x4 x5 x6 : Value) (h : H) (Kn : Value → H → Prop) (Kr : Value → H → Prop) : Prop :=
  F21_2 x1 x4 x5 x6 h (fun y1 y5 y6 h => F21_3 y1 y5 y6 h Kn Kr) Kr
theorem F21_1_ok (Kn Kr) (t : T) (h : H) (H0 : F21_1 (t 1) (t 4) (t 5) (t 6) h Kn Kr) : Wp Try.prog 35 (rest 3 (bodyOf Try.f21.body)) (mkQ (fun t h => Kn (t 2) h) (fun t h => Kr (t 2) h) ke0) t h :=
  seq_ok (by kernel_rfl) (fun t h H1 => F21_3_ok Kn Kr t h H1) (F21_2_ok (fun y1 y5 y6 h => F21_3 y1 y5 y6 h Kn Kr) Kr t h H0)
def F21_0 (x0 : Value) (h : H) (Kn : Value → H → Prop) (Kr : Value → H → Prop) : Prop :=
  boxV x0 = true ∧ o_new (Value.cells x0).toList 29 .exact h fun b1 h => o_fieldAddr 0 (.pointer (some ⟨b1, 0, none⟩)) fun v8 => o_load false 1 v8 h fun v9 => o_call Try.prog 29 [v9] h fun v10 h => o_extract v10 0 fun v11 => o_extract v10 1 fun v12 => o_extract v10 2 fun v13 => F21_1 (.pointer (some ⟨b1, 0, none⟩)) v12 v13 (.slice none 0 0) h Kn Kr
theorem F21_0_ok (Kn Kr) (t : T) (h : H) (H0 : F21_0 (t 0) h Kn Kr) : Wp Try.prog 35 (bodyOf Try.f21.body) (mkQ (fun t h => Kn (t 2) h) (fun t h => Kr (t 2) h) ke0) t h :=
  awpTo_okF 3 H0 (by kernel_rfl) (fun t h (H1 : F21_1 (t 1) (t 4) (t 5) (t 6) h Kn Kr) => F21_1_ok Kn Kr t h H1) (by kernel_rfl)
def F21 (x0 : Value) (h : H) (Q : Value → H → Prop) : Prop := F21_0 x0 h (fun v h => Q v h) (fun v h => Q v h)
theorem F21_spec (x0 : Value) (h : H) (Q : Value → H → Prop) (H0 : F21 x0 h Q) : AM.Spec Try.prog 21 [x0] h Q :=
  spec_wp mixed (fn := Try.f21) Try.func21 (c := bodyOf Try.f21.body) (rs := [2]) (N := 35) (by kernel_rfl) (by kernel_rfl) (by kernel_rfl) (by kernel_rfl) (by kernel_rfl) (Nat.le_of_ble_eq_true rfl) (F21_0_ok (fun v h => Q v h) (fun v h => Q v h) (tinit [x0]) h H0) (by kernel_rfl)
/-! #### 22: slices.Reverse[[]tincture/ir.Node,tincture/ir.Node] -/
def F22_6 (x0 x2 x3 : Value) (h : H) (Kn : Value → Value → Value → H → Prop) (Kr : H → Prop) (Ke1 : Value → Value → Value → H → Prop) (Ke0 : H → Prop) : Prop :=
  o_indexAddr none 5 x0 x3 fun v20 => o_load true 5 v20 h fun v21 => o_indexAddr none 5 x0 x2 fun v24 => o_load true 5 v24 h fun v25 => o_indexAddr none 5 x0 x2 fun v26 => o_store 5 v26 v21 h fun h => o_indexAddr none 5 x0 x3 fun v27 => o_store 5 v27 v25 h fun h => Kn x0 x2 x3 h
theorem F22_6_ok (Kn Kr Ke1 Ke0) (t : T) (h : H) (H0 : F22_6 (t 0) (t 2) (t 3) h Kn Kr Ke1 Ke0) : Wp Try.prog 28 (blkC (seqL (rest 1 (lopC (blkC (rest 1 (bodyOf Try.f22.body))))))) (mkQ (fun t h => Kn (t 0) (t 2) (t 3) h) (fun t h => Kr  h) (keAdd 1 (fun t h => Ke1 (t 0) (t 2) (t 3) h) (keAdd 0 (fun t h => Ke0  h) ke0))) t h :=
  draw_okF (by kernel_rfl) (by kernel_rfl) H0 (by kernel_rfl)
def F22_5 (x0 x2 x3 : Value) (h : H) (Kn : Value → Value → Value → H → Prop) (Kr : H → Prop) (Ke0 : H → Prop) : Prop :=
  F22_6 x0 x2 x3 h Kn Kr Kn Ke0
theorem F22_5_ok (Kn Kr Ke0) (t : T) (h : H) (H0 : F22_5 (t 0) (t 2) (t 3) h Kn Kr Ke0) : Wp Try.prog 28 (seqL (rest 1 (lopC (blkC (rest 1 (bodyOf Try.f22.body)))))) (mkQ (fun t h => Kn (t 0) (t 2) (t 3) h) (fun t h => Kr  h) (keAdd 0 (fun t h => Ke0  h) ke0)) t h :=
  block_ok 1 (by kernel_rfl) (by kernel_rfl) (F22_6_ok Kn Kr Kn Ke0 t h H0)
def F22_7 (x0 x2 x3 : Value) (h : H) (Kn : Value → Value → Value → H → Prop) (Kr : H → Prop) (Ke0 : H → Prop) : Prop :=
  o_bin Try.prog .add 3 x2 (.int .i64 1) fun v11 => o_bin Try.prog .sub 3 x3 (.int .i64 1) fun v13 => Kn x0 v11 v13 h
theorem F22_7_ok (Kn Kr Ke0) (t : T) (h : H) (H0 : F22_7 (t 0) (t 2) (t 3) h Kn Kr Ke0) : Wp Try.prog 28 (seqR (rest 1 (lopC (blkC (rest 1 (bodyOf Try.f22.body)))))) (mkQ (fun t h => Kn (t 0) (t 2) (t 3) h) (fun t h => Kr  h) (keAdd 0 (fun t h => Ke0  h) ke0)) t h :=
  wpEqF H0 (by kernel_rfl)
def F22_4 (x0 x2 x3 : Value) (h : H) (Kn : Value → Value → Value → H → Prop) (Kr : H → Prop) (Ke0 : H → Prop) : Prop :=
  F22_5 x0 x2 x3 h (fun y0 y2 y3 h => F22_7 y0 y2 y3 h Kn Kr Ke0) Kr Ke0
theorem F22_4_ok (Kn Kr Ke0) (t : T) (h : H) (H0 : F22_4 (t 0) (t 2) (t 3) h Kn Kr Ke0) : Wp Try.prog 28 (rest 1 (lopC (blkC (rest 1 (bodyOf Try.f22.body))))) (mkQ (fun t h => Kn (t 0) (t 2) (t 3) h) (fun t h => Kr  h) (keAdd 0 (fun t h => Ke0  h) ke0)) t h :=
  seq_ok (by kernel_rfl) (fun t h H1 => F22_7_ok Kn Kr Ke0 t h H1) (F22_5_ok (fun y0 y2 y3 h => F22_7 y0 y2 y3 h Kn Kr Ke0) Kr Ke0 t h H0)
def F22_3 (x0 x2 x3 : Value) (h : H) (Kn : Value → Value → Value → H → Prop) (Kr : H → Prop) (Ke0 : H → Prop) : Prop :=
  o_bin Try.prog .lss 3 x2 x3 fun v9 => o_if v9 (F22_4 x0 x2 x3 h Kn Kr Ke0) (Ke0 h)
theorem F22_3_ok (Kn Kr Ke0) (t : T) (h : H) (H0 : F22_3 (t 0) (t 2) (t 3) h Kn Kr Ke0) : Wp Try.prog 28 (lopC (blkC (rest 1 (bodyOf Try.f22.body)))) (mkQ (fun t h => Kn (t 0) (t 2) (t 3) h) (fun t h => Kr  h) (keAdd 0 (fun t h => Ke0  h) ke0)) t h :=
  awpTo_okF 1 H0 (by kernel_rfl) (fun t h (H1 : F22_4 (t 0) (t 2) (t 3) h Kn Kr Ke0) => F22_4_ok Kn Kr Ke0 t h H1) (by kernel_rfl)
def F22_2 (x0 x2 x3 : Value) (h : H) (Kn : H → Prop) (Kr : H → Prop) (Ke0 : H → Prop) : Prop :=
  sloop (S := Value × Value × Value) (fun s h K => F22_3 s.1 s.2.1 s.2.2 h (fun y0 y2 y3 h => K (y0, y2, y3) h) Kr Ke0) (x0, x2, x3) h
theorem F22_2_ok (Kn Kr Ke0) (t : T) (h : H) (H0 : F22_2 (t 0) (t 2) (t 3) h Kn Kr Ke0) : Wp Try.prog 28 (blkC (rest 1 (bodyOf Try.f22.body))) (mkQ (fun t h => Kn  h) (fun t h => Kr  h) (keAdd 0 (fun t h => Ke0  h) ke0)) t h :=
  loop_ok (fun t => (t 0, t 2, t 3)) (by kernel_rfl) (fun t h K H1 => F22_3_ok (fun y0 y2 y3 h => K (y0, y2, y3) h) Kr Ke0 t h H1) H0
def F22_1 (x0 x2 x3 : Value) (h : H) (Kn : H → Prop) (Kr : H → Prop) : Prop :=
  F22_2 x0 x2 x3 h Kn Kr Kn
theorem F22_1_ok (Kn Kr) (t : T) (h : H) (H0 : F22_1 (t 0) (t 2) (t 3) h Kn Kr) : Wp Try.prog 28 (rest 1 (bodyOf Try.f22.body)) (mkQ (fun t h => Kn  h) (fun t h => Kr  h) ke0) t h :=
  block_ok 0 (by kernel_rfl) (by kernel_rfl) (F22_2_ok Kn Kr Kn t h H0)
def F22_0 (x0 : Value) (h : H) (Kn : H → Prop) (Kr : H → Prop) : Prop :=
  o_lenSl x0 fun v5 => o_bin Try.prog .sub 3 v5 (.int .i64 1) fun v6 => F22_1 x0 (.int .i64 0) v6 h Kn Kr
theorem F22_0_ok (Kn Kr) (t : T) (h : H) (H0 : F22_0 (t 0) h Kn Kr) : Wp Try.prog 28 (bodyOf Try.f22.body) (mkQ (fun t h => Kn  h) (fun t h => Kr  h) ke0) t h :=
  awpTo_okF 1 H0 (by kernel_rfl) (fun t h (H1 : F22_1 (t 0) (t 2) (t 3) h Kn Kr) => F22_1_ok Kn Kr t h H1) (by kernel_rfl)
def F22 (x0 : Value) (h : H) (Q : Value → H → Prop) : Prop := F22_0 x0 h (fun h => bif [].all boxV then Q (.tuple #[]) h else False) (fun h => bif [].all boxV then Q (.tuple #[]) h else False)
theorem F22_spec (x0 : Value) (h : H) (Q : Value → H → Prop) (H0 : F22 x0 h Q) : AM.Spec Try.prog 22 [x0] h Q :=
  spec_wp mixed (fn := Try.f22) Try.func22 (c := bodyOf Try.f22.body) (rs := []) (N := 28) (by kernel_rfl) (by kernel_rfl) (by kernel_rfl) (by kernel_rfl) (by kernel_rfl) (Nat.le_of_ble_eq_true rfl) (F22_0_ok (fun h => bif [].all boxV then Q (.tuple #[]) h else False) (fun h => bif [].all boxV then Q (.tuple #[]) h else False) (tinit [x0]) h H0) (by kernel_rfl)
/-! #### 23: tincture/ir.formed -/
def F23_0 (x0 : Value) (h : H) (Kn : Value → H → Prop) (Kr : Value → H → Prop) : Prop :=
  boxV x0 = true ∧ o_new (Value.cells x0).toList 29 .exact h fun b1 h => o_fieldAddr 0 (.pointer (some ⟨b1, 0, none⟩)) fun v7 => o_load false 1 v7 h fun v8 => o_call Try.prog 29 [v8] h fun v9 h => o_extract v9 0 fun v10 => o_extract v9 1 fun v11 => o_extract v9 2 fun v12 => o_fieldAddr 0 (.pointer (some ⟨b1, 0, none⟩)) fun v13 => o_load false 1 v13 h fun v14 => o_bin Try.prog .geq 3 v14 (.int .i64 1) fun v15 => o_guard v15 true (fun k6 => o_fieldAddr 0 (.pointer (some ⟨b1, 0, none⟩)) fun v17 => o_load false 1 v17 h fun v18 => o_bin Try.prog .leq 3 v18 (.int .i64 21) fun v19 => k6 v19 h) (fun v19 h => o_pick v15 v19 (.bool false) fun v20 => o_guard v20 true (fun k10 => o_load true 5 (.pointer (some ⟨b1, 0, none⟩)) h fun v22 => o_call Try.prog 30 [v22] h fun v23 h => k10 v23 h) (fun v23 h => o_pick v20 v23 (.bool false) fun v24 => o_guard v24 true (fun k16 => o_fieldAddr 1 (.pointer (some ⟨b1, 0, none⟩)) fun v27 => o_load false 1 v27 h fun v28 => o_call Try.prog 31 [v10, v28] h fun v29 h => k16 v29 h) (fun v29 h => o_pick v24 v29 (.bool false) fun v30 => o_guard v30 true (fun k22 => o_fieldAddr 2 (.pointer (some ⟨b1, 0, none⟩)) fun v33 => o_load false 1 v33 h fun v34 => o_call Try.prog 31 [v11, v34] h fun v35 h => k22 v35 h) (fun v35 h => o_pick v30 v35 (.bool false) fun v36 => o_guard v36 true (fun k28 => o_fieldAddr 3 (.pointer (some ⟨b1, 0, none⟩)) fun v39 => o_load false 1 v39 h fun v40 => o_call Try.prog 31 [v12, v40] h fun v41 h => k28 v41 h) (fun v41 h => o_pick v36 v41 (.bool false) fun v42 => Kr v42 h) h) h) h) h) h
theorem F23_0_ok (Kn Kr) (t : T) (h : H) (H0 : F23_0 (t 0) h Kn Kr) : Wp Try.prog 43 (bodyOf Try.f23.body) (mkQ (fun t h => Kn (t 2) h) (fun t h => Kr (t 2) h) ke0) t h :=
  wpEqF H0 (by kernel_rfl)
def F23 (x0 : Value) (h : H) (Q : Value → H → Prop) : Prop := F23_0 x0 h (fun v h => Q v h) (fun v h => Q v h)
theorem F23_spec (x0 : Value) (h : H) (Q : Value → H → Prop) (H0 : F23 x0 h Q) : AM.Spec Try.prog 23 [x0] h Q :=
  spec_wp mixed (fn := Try.f23) Try.func23 (c := bodyOf Try.f23.body) (rs := [2]) (N := 43) (by kernel_rfl) (by kernel_rfl) (by kernel_rfl) (by kernel_rfl) (by kernel_rfl) (Nat.le_of_ble_eq_true rfl) (F23_0_ok (fun v h => Q v h) (fun v h => Q v h) (tinit [x0]) h H0) (by kernel_rfl)
/-! #### 24: tincture/ir.tags -/
def F24_0 (x0 : Value) (h : H) (Kn : Value → H → Prop) (Kr : Value → H → Prop) : Prop :=
  o_bin Try.prog .eql 3 x0 (.int .i64 14) fun v4 => o_guard v4 false (fun k4 => o_bin Try.prog .eql 3 x0 (.int .i64 16) fun v7 => k4 v7 h) (fun v7 h => o_pick v4 (.bool true) v7 fun v8 => o_guard v8 false (fun k8 => o_bin Try.prog .eql 3 x0 (.int .i64 17) fun v11 => k8 v11 h) (fun v11 h => o_pick v8 (.bool true) v11 fun v12 => o_guard v12 false (fun k12 => o_bin Try.prog .eql 3 x0 (.int .i64 19) fun v15 => k12 v15 h) (fun v15 h => o_pick v12 (.bool true) v15 fun v16 => Kr v16 h) h) h) h
theorem F24_0_ok (Kn Kr) (t : T) (h : H) (H0 : F24_0 (t 0) h Kn Kr) : Wp Try.prog 17 (bodyOf Try.f24.body) (mkQ (fun t h => Kn (t 2) h) (fun t h => Kr (t 2) h) ke0) t h :=
  wpEqF H0 (by kernel_rfl)
def F24 (x0 : Value) (h : H) (Q : Value → H → Prop) : Prop := F24_0 x0 h (fun v h => Q v h) (fun v h => Q v h)
theorem F24_spec (x0 : Value) (h : H) (Q : Value → H → Prop) (H0 : F24 x0 h Q) : AM.Spec Try.prog 24 [x0] h Q :=
  spec_wp mixed (fn := Try.f24) Try.func24 (c := bodyOf Try.f24.body) (rs := [2]) (N := 17) (by kernel_rfl) (by kernel_rfl) (by kernel_rfl) (by kernel_rfl) (by kernel_rfl) (Nat.le_of_ble_eq_true rfl) (F24_0_ok (fun v h => Q v h) (fun v h => Q v h) (tinit [x0]) h H0) (by kernel_rfl)
/-! #### 25: slices.ContainsFunc[[]int,int] -/
def F25_0 (x0 x1 : Value) (h : H) (Kn : Value → H → Prop) (Kr : Value → H → Prop) : Prop :=
  o_call Try.prog 32 [x0, x1] h fun v7 h => o_bin Try.prog .geq 3 v7 (.int .i64 0) fun v8 => Kr v8 h
theorem F25_0_ok (Kn Kr) (t : T) (h : H) (H0 : F25_0 (t 0) (t 1) h Kn Kr) : Wp Try.prog 9 (bodyOf Try.f25.body) (mkQ (fun t h => Kn (t 4) h) (fun t h => Kr (t 4) h) ke0) t h :=
  wpEqF H0 (by kernel_rfl)
def F25 (x0 x1 : Value) (h : H) (Q : Value → H → Prop) : Prop := F25_0 x0 x1 h (fun v h => Q v h) (fun v h => Q v h)
theorem F25_spec (x0 x1 : Value) (h : H) (Q : Value → H → Prop) (H0 : F25 x0 x1 h Q) : AM.Spec Try.prog 25 [x0, x1] h Q :=
  spec_wp mixed (fn := Try.f25) Try.func25 (c := bodyOf Try.f25.body) (rs := [4]) (N := 9) (by kernel_rfl) (by kernel_rfl) (by kernel_rfl) (by kernel_rfl) (by kernel_rfl) (Nat.le_of_ble_eq_true rfl) (F25_0_ok (fun v h => Q v h) (fun v h => Q v h) (tinit [x0, x1]) h H0) (by kernel_rfl)
/-! #### 26: tincture/ir.Good$1 -/
def F26_0 (x0 x1 : Value) (h : H) (Kn : Value → H → Prop) (Kr : Value → H → Prop) : Prop :=
  o_indexAddr (some 256) 1 x1 x0 fun v5 => o_load false 1 v5 h fun v6 => o_un Try.prog .not v6 fun v7 => Kr v7 h
theorem F26_0_ok (Kn Kr) (t : T) (h : H) (H0 : F26_0 (t 0) (t 1) h Kn Kr) : Wp Try.prog 8 (bodyOf Try.f26.body) (mkQ (fun t h => Kn (t 3) h) (fun t h => Kr (t 3) h) ke0) t h :=
  wpEqF H0 (by kernel_rfl)
def F26 (x0 x1 : Value) (h : H) (Q : Value → H → Prop) : Prop := F26_0 x0 x1 h (fun v h => Q v h) (fun v h => Q v h)
theorem F26_spec (x0 x1 : Value) (h : H) (Q : Value → H → Prop) (H0 : F26 x0 x1 h Q) : AM.Spec Try.prog 26 [x0, x1] h Q :=
  spec_wp mixed (fn := Try.f26) Try.func26 (c := bodyOf Try.f26.body) (rs := [3]) (N := 8) (by kernel_rfl) (by kernel_rfl) (by kernel_rfl) (by kernel_rfl) (by kernel_rfl) (Nat.le_of_ble_eq_true rfl) (F26_0_ok (fun v h => Q v h) (fun v h => Q v h) (tinit [x0, x1]) h H0) (by kernel_rfl)
/-! #### 27: (tincture/fold.known).value -/
def F27_0 (x0 x1 : Value) (h : H) (Kn : Value → Value → H → Prop) (Kr : Value → Value → H → Prop) : Prop :=
  boxV x1 = true ∧ o_new (Value.cells x1).toList 29 .exact h fun b3 h => o_load true 5 (.pointer (some ⟨b3, 0, none⟩)) h fun v15 => o_call Try.prog 33 [x0, v15] h fun v16 h => o_extract v16 0 fun v17 => o_extract v16 1 fun v18 => o_extract v16 2 fun v19 => o_un Try.prog .not v19 fun v21 => o_if v21 (Kr (.int .u32 0) (.bool false) h) (o_fieldAddr 0 (.pointer (some ⟨b3, 0, none⟩)) fun v22 => o_load false 1 v22 h fun v23 => o_bin Try.prog .eql 3 v23 (.int .i64 4) fun v25 => o_if v25 (o_fieldAddr 4 (.pointer (some ⟨b3, 0, none⟩)) fun v27 => o_load false 1 v27 h fun v28 => o_conv .i64 v28 fun v29 => o_call Try.prog 34 [v29, v17, v18] h fun v32 h => o_extract v32 0 fun v33 => o_extract v32 1 fun v34 => Kr v33 (.bool true) h) (o_bin Try.prog .eql 3 v23 (.int .i64 5) fun v37 => o_if v37 (o_fieldAddr 4 (.pointer (some ⟨b3, 0, none⟩)) fun v39 => o_load false 1 v39 h fun v40 => o_conv .i64 v40 fun v41 => o_call Try.prog 35 [v41, v17, v18] h fun v44 h => o_extract v44 0 fun v45 => o_extract v44 1 fun v46 => o_if v45 (Kr (.int .u32 1) (.bool true) h) (Kr (.int .u32 0) (.bool true) h)) (Kr (.int .u32 0) (.bool false) h)))
theorem F27_0_ok (Kn Kr) (t : T) (h : H) (H0 : F27_0 (t 0) (t 1) h Kn Kr) : Wp Try.prog 48 (bodyOf Try.f27.body) (mkQ (fun t h => Kn (t 4) (t 5) h) (fun t h => Kr (t 4) (t 5) h) ke0) t h :=
  wpEqF H0 (by kernel_rfl)
def F27 (x0 x1 : Value) (h : H) (Q : Value → H → Prop) : Prop := F27_0 x0 x1 h (fun y4 y5 h => bif [y4, y5].all boxV then Q (.tuple #[y4, y5]) h else False) (fun y4 y5 h => bif [y4, y5].all boxV then Q (.tuple #[y4, y5]) h else False)
theorem F27_spec (x0 x1 : Value) (h : H) (Q : Value → H → Prop) (H0 : F27 x0 x1 h Q) : AM.Spec Try.prog 27 [x0, x1] h Q :=
  spec_wp mixed (fn := Try.f27) Try.func27 (c := bodyOf Try.f27.body) (rs := [4, 5]) (N := 48) (by kernel_rfl) (by kernel_rfl) (by kernel_rfl) (by kernel_rfl) (by kernel_rfl) (Nat.le_of_ble_eq_true rfl) (F27_0_ok (fun y4 y5 h => bif [y4, y5].all boxV then Q (.tuple #[y4, y5]) h else False) (fun y4 y5 h => bif [y4, y5].all boxV then Q (.tuple #[y4, y5]) h else False) (tinit [x0, x1]) h H0) (by kernel_rfl)
/-! #### 28: slices.Backward[[]tincture/ir.Node,tincture/ir.Node]$1 -/
def F28_3 (x0 x1 x3 : Value) (h : H) (Kn : Value → Value → Value → H → Prop) (Kr : H → Prop) (Ke0 : H → Prop) : Prop :=
  o_bin Try.prog .geq 3 x3 (.int .i64 0) fun v8 => o_if v8 (o_load false 1 x1 h fun v13 => o_indexAddr none 5 v13 x3 fun v15 => o_load true 5 v15 h fun v16 => o_dyn Try.prog x0 [x3, v16] h fun v17 h => o_un Try.prog .not v17 fun v18 => o_if v18 (Kr h) (o_bin Try.prog .sub 3 x3 (.int .i64 1) fun v10 => Kn x0 x1 v10 h)) (Ke0 h)
theorem F28_3_ok (Kn Kr Ke0) (t : T) (h : H) (H0 : F28_3 (t 0) (t 1) (t 3) h Kn Kr Ke0) : Wp Try.prog 19 (lopC (blkC (rest 1 (bodyOf Try.f28.body)))) (mkQ (fun t h => Kn (t 0) (t 1) (t 3) h) (fun t h => Kr  h) (keAdd 0 (fun t h => Ke0  h) ke0)) t h :=
  wpEqF H0 (by kernel_rfl)
def F28_2 (x0 x1 x3 : Value) (h : H) (Kn : H → Prop) (Kr : H → Prop) (Ke0 : H → Prop) : Prop :=
  sloop (S := Value × Value × Value) (fun s h K => F28_3 s.1 s.2.1 s.2.2 h (fun y0 y1 y3 h => K (y0, y1, y3) h) Kr Ke0) (x0, x1, x3) h
theorem F28_2_ok (Kn Kr Ke0) (t : T) (h : H) (H0 : F28_2 (t 0) (t 1) (t 3) h Kn Kr Ke0) : Wp Try.prog 19 (blkC (rest 1 (bodyOf Try.f28.body))) (mkQ (fun t h => Kn  h) (fun t h => Kr  h) (keAdd 0 (fun t h => Ke0  h) ke0)) t h :=
  loop_ok (fun t => (t 0, t 1, t 3)) (by kernel_rfl) (fun t h K H1 => F28_3_ok (fun y0 y1 y3 h => K (y0, y1, y3) h) Kr Ke0 t h H1) H0
def F28_1 (x0 x1 x3 : Value) (h : H) (Kn : H → Prop) (Kr : H → Prop) : Prop :=
  F28_2 x0 x1 x3 h Kn Kr Kn
theorem F28_1_ok (Kn Kr) (t : T) (h : H) (H0 : F28_1 (t 0) (t 1) (t 3) h Kn Kr) : Wp Try.prog 19 (rest 1 (bodyOf Try.f28.body)) (mkQ (fun t h => Kn  h) (fun t h => Kr  h) ke0) t h :=
  block_ok 0 (by kernel_rfl) (by kernel_rfl) (F28_2_ok Kn Kr Kn t h H0)
def F28_0 (x0 x1 : Value) (h : H) (Kn : H → Prop) (Kr : H → Prop) : Prop :=
  o_load false 1 x1 h fun v4 => o_lenSl v4 fun v5 => o_bin Try.prog .sub 3 v5 (.int .i64 1) fun v6 => F28_1 x0 x1 v6 h Kn Kr
theorem F28_0_ok (Kn Kr) (t : T) (h : H) (H0 : F28_0 (t 0) (t 1) h Kn Kr) : Wp Try.prog 19 (bodyOf Try.f28.body) (mkQ (fun t h => Kn  h) (fun t h => Kr  h) ke0) t h :=
  awpTo_okF 1 H0 (by kernel_rfl) (fun t h (H1 : F28_1 (t 0) (t 1) (t 3) h Kn Kr) => F28_1_ok Kn Kr t h H1) (by kernel_rfl)
def F28 (x0 x1 : Value) (h : H) (Q : Value → H → Prop) : Prop := F28_0 x0 x1 h (fun h => bif [].all boxV then Q (.tuple #[]) h else False) (fun h => bif [].all boxV then Q (.tuple #[]) h else False)
theorem F28_spec (x0 x1 : Value) (h : H) (Q : Value → H → Prop) (H0 : F28 x0 x1 h Q) : AM.Spec Try.prog 28 [x0, x1] h Q :=
  spec_wp mixed (fn := Try.f28) Try.func28 (c := bodyOf Try.f28.body) (rs := []) (N := 19) (by kernel_rfl) (by kernel_rfl) (by kernel_rfl) (by kernel_rfl) (by kernel_rfl) (Nat.le_of_ble_eq_true rfl) (F28_0_ok (fun h => bif [].all boxV then Q (.tuple #[]) h else False) (fun h => bif [].all boxV then Q (.tuple #[]) h else False) (tinit [x0, x1]) h H0) (by kernel_rfl)
/-! #### 29: tincture/ir.has -/
def F29_5 (x5 : Value) (h : H) (Kn : Value → Value → H → Prop) (Kr : Value → Value → Value → H → Prop) (Ke0 : H → Prop) : Prop :=
  o_bin Try.prog .eql 3 x5 (.int .i64 1) fun v7 => o_if v7 (Kn x5 v7 h) (o_bin Try.prog .eql 3 x5 (.int .i64 2) fun v8 => o_if v8 (Kn x5 v8 h) (o_bin Try.prog .eql 3 x5 (.int .i64 14) fun v9 => Kn x5 v9 h))
theorem F29_5_ok (Kn Kr Ke0) (t : T) (h : H) (H0 : F29_5 (t 5) h Kn Kr Ke0) : Wp Try.prog 28 (seqL (blkC (rest 1 (seqL (rest 1 (bodyOf Try.f29.body)))))) (mkQ (fun t h => Kn (t 5) (t 6) h) (fun t h => Kr (t 2) (t 3) (t 4) h) (keAdd 0 (fun t h => Ke0  h) ke0)) t h :=
  wpEqF H0 (by kernel_rfl)
theorem F29_5_or {a : Int} {h : H} {Kn Kr Ke0} : F29_5 (.int .i64 a) h Kn Kr Ke0 = Kn (.int .i64 a) (.bool (decide (a = 1) || (decide (a = 2) || decide (a = 14)))) h := by
  simp only [F29_5, bin_eql, if_or]
def F29_7 (h : H) (Kn : H → Prop) (Kr : Value → Value → Value → H → Prop) (Ke0 : H → Prop) : Prop :=
  Kr (.bool true) (.bool false) (.bool false) h
theorem F29_7_ok (Kn Kr Ke0) (t : T) (h : H) (H0 : F29_7  h Kn Kr Ke0) : Wp Try.prog 28 (cndX (seqR (blkC (rest 1 (seqL (rest 1 (bodyOf Try.f29.body))))))) (mkQ (fun t h => Kn  h) (fun t h => Kr (t 2) (t 3) (t 4) h) (keAdd 0 (fun t h => Ke0  h) ke0)) t h :=
  wpEqF H0 (by kernel_rfl)
def F29_9 (x5 : Value) (h : H) (Kn : Value → Value → H → Prop) (Kr : Value → Value → Value → H → Prop) (Ke0 : H → Prop) : Prop :=
  o_bin Try.prog .eql 3 x5 (.int .i64 4) fun v11 => o_if v11 (Kn x5 v11 h) (o_bin Try.prog .eql 3 x5 (.int .i64 5) fun v12 => o_if v12 (Kn x5 v12 h) (o_bin Try.prog .eql 3 x5 (.int .i64 16) fun v13 => Kn x5 v13 h))
theorem F29_9_ok (Kn Kr Ke0) (t : T) (h : H) (H0 : F29_9 (t 5) h Kn Kr Ke0) : Wp Try.prog 28 (seqL (cndY (seqR (blkC (rest 1 (seqL (rest 1 (bodyOf Try.f29.body)))))))) (mkQ (fun t h => Kn (t 5) (t 10) h) (fun t h => Kr (t 2) (t 3) (t 4) h) (keAdd 0 (fun t h => Ke0  h) ke0)) t h :=
  wpEqF H0 (by kernel_rfl)
theorem F29_9_or {a : Int} {h : H} {Kn Kr Ke0} : F29_9 (.int .i64 a) h Kn Kr Ke0 = Kn (.int .i64 a) (.bool (decide (a = 4) || (decide (a = 5) || decide (a = 16)))) h := by
  simp only [F29_9, bin_eql, if_or]
def F29_11 (h : H) (Kn : H → Prop) (Kr : Value → Value → Value → H → Prop) (Ke0 : H → Prop) : Prop :=
  Kr (.bool true) (.bool true) (.bool true) h
theorem F29_11_ok (Kn Kr Ke0) (t : T) (h : H) (H0 : F29_11  h Kn Kr Ke0) : Wp Try.prog 28 (cndX (seqR (cndY (seqR (blkC (rest 1 (seqL (rest 1 (bodyOf Try.f29.body))))))))) (mkQ (fun t h => Kn  h) (fun t h => Kr (t 2) (t 3) (t 4) h) (keAdd 0 (fun t h => Ke0  h) ke0)) t h :=
  wpEqF H0 (by kernel_rfl)
def F29_13 (x5 : Value) (h : H) (Kn : Value → Value → H → Prop) (Kr : Value → Value → Value → H → Prop) (Ke0 : H → Prop) : Prop :=
  o_bin Try.prog .eql 3 x5 (.int .i64 6) fun v15 => o_if v15 (Kn x5 v15 h) (o_bin Try.prog .eql 3 x5 (.int .i64 17) fun v16 => o_if v16 (Kn x5 v16 h) (o_bin Try.prog .eql 3 x5 (.int .i64 19) fun v17 => Kn x5 v17 h))
theorem F29_13_ok (Kn Kr Ke0) (t : T) (h : H) (H0 : F29_13 (t 5) h Kn Kr Ke0) : Wp Try.prog 28 (seqL (cndY (seqR (cndY (seqR (blkC (rest 1 (seqL (rest 1 (bodyOf Try.f29.body)))))))))) (mkQ (fun t h => Kn (t 5) (t 14) h) (fun t h => Kr (t 2) (t 3) (t 4) h) (keAdd 0 (fun t h => Ke0  h) ke0)) t h :=
  wpEqF H0 (by kernel_rfl)
theorem F29_13_or {a : Int} {h : H} {Kn Kr Ke0} : F29_13 (.int .i64 a) h Kn Kr Ke0 = Kn (.int .i64 a) (.bool (decide (a = 6) || (decide (a = 17) || decide (a = 19)))) h := by
  simp only [F29_13, bin_eql, if_or]
def F29_15 (h : H) (Kn : H → Prop) (Kr : Value → Value → Value → H → Prop) (Ke0 : H → Prop) : Prop :=
  Kr (.bool true) (.bool true) (.bool false) h
theorem F29_15_ok (Kn Kr Ke0) (t : T) (h : H) (H0 : F29_15  h Kn Kr Ke0) : Wp Try.prog 28 (cndX (seqR (cndY (seqR (cndY (seqR (blkC (rest 1 (seqL (rest 1 (bodyOf Try.f29.body))))))))))) (mkQ (fun t h => Kn  h) (fun t h => Kr (t 2) (t 3) (t 4) h) (keAdd 0 (fun t h => Ke0  h) ke0)) t h :=
  wpEqF H0 (by kernel_rfl)
def F29_17 (x5 : Value) (h : H) (Kn : Value → Value → H → Prop) (Kr : Value → Value → Value → H → Prop) (Ke0 : H → Prop) : Prop :=
  o_bin Try.prog .eql 3 x5 (.int .i64 7) fun v19 => o_if v19 (Kn x5 v19 h) (o_bin Try.prog .eql 3 x5 (.int .i64 18) fun v20 => Kn x5 v20 h)
theorem F29_17_ok (Kn Kr Ke0) (t : T) (h : H) (H0 : F29_17 (t 5) h Kn Kr Ke0) : Wp Try.prog 28 (seqL (cndY (seqR (cndY (seqR (cndY (seqR (blkC (rest 1 (seqL (rest 1 (bodyOf Try.f29.body)))))))))))) (mkQ (fun t h => Kn (t 5) (t 18) h) (fun t h => Kr (t 2) (t 3) (t 4) h) (keAdd 0 (fun t h => Ke0  h) ke0)) t h :=
  wpEqF H0 (by kernel_rfl)
theorem F29_17_or {a : Int} {h : H} {Kn Kr Ke0} : F29_17 (.int .i64 a) h Kn Kr Ke0 = Kn (.int .i64 a) (.bool (decide (a = 7) || decide (a = 18))) h := by
  simp only [F29_17, bin_eql, if_or]
def F29_19 (h : H) (Kn : H → Prop) (Kr : Value → Value → Value → H → Prop) (Ke0 : H → Prop) : Prop :=
  Kr (.bool false) (.bool true) (.bool true) h
theorem F29_19_ok (Kn Kr Ke0) (t : T) (h : H) (H0 : F29_19  h Kn Kr Ke0) : Wp Try.prog 28 (cndX (seqR (cndY (seqR (cndY (seqR (cndY (seqR (blkC (rest 1 (seqL (rest 1 (bodyOf Try.f29.body))))))))))))) (mkQ (fun t h => Kn  h) (fun t h => Kr (t 2) (t 3) (t 4) h) (keAdd 0 (fun t h => Ke0  h) ke0)) t h :=
  wpEqF H0 (by kernel_rfl)
def F29_21 (x5 : Value) (h : H) (Kn : Value → H → Prop) (Kr : Value → Value → Value → H → Prop) (Ke0 : H → Prop) : Prop :=
  o_bin Try.prog .eql 3 x5 (.int .i64 3) fun v22 => o_if v22 (Kn v22 h) (o_bin Try.prog .eql 3 x5 (.int .i64 15) fun v23 => o_if v23 (Kn v23 h) (o_bin Try.prog .eql 3 x5 (.int .i64 10) fun v24 => o_if v24 (Kn v24 h) (o_bin Try.prog .eql 3 x5 (.int .i64 11) fun v25 => o_if v25 (Kn v25 h) (o_bin Try.prog .eql 3 x5 (.int .i64 20) fun v26 => o_if v26 (Kn v26 h) (o_bin Try.prog .eql 3 x5 (.int .i64 21) fun v27 => Kn v27 h)))))
theorem F29_21_ok (Kn Kr Ke0) (t : T) (h : H) (H0 : F29_21 (t 5) h Kn Kr Ke0) : Wp Try.prog 28 (seqL (cndY (seqR (cndY (seqR (cndY (seqR (cndY (seqR (blkC (rest 1 (seqL (rest 1 (bodyOf Try.f29.body)))))))))))))) (mkQ (fun t h => Kn (t 21) h) (fun t h => Kr (t 2) (t 3) (t 4) h) (keAdd 0 (fun t h => Ke0  h) ke0)) t h :=
  wpEqF H0 (by kernel_rfl)
theorem F29_21_or {a : Int} {h : H} {Kn Kr Ke0} : F29_21 (.int .i64 a) h Kn Kr Ke0 = Kn  (.bool (decide (a = 3) || (decide (a = 15) || (decide (a = 10) || (decide (a = 11) || (decide (a = 20) || decide (a = 21))))))) h := by
  simp only [F29_21, bin_eql, if_or]
def F29_22 (x21 : Value) (h : H) (Kn : H → Prop) (Kr : Value → Value → Value → H → Prop) (Ke0 : H → Prop) : Prop :=
  o_if x21 (Kr (.bool false) (.bool true) (.bool false) h) (Kn h)
theorem F29_22_ok (Kn Kr Ke0) (t : T) (h : H) (H0 : F29_22 (t 21) h Kn Kr Ke0) : Wp Try.prog 28 (seqR (cndY (seqR (cndY (seqR (cndY (seqR (cndY (seqR (blkC (rest 1 (seqL (rest 1 (bodyOf Try.f29.body)))))))))))))) (mkQ (fun t h => Kn  h) (fun t h => Kr (t 2) (t 3) (t 4) h) (keAdd 0 (fun t h => Ke0  h) ke0)) t h :=
  wpEqF H0 (by kernel_rfl)
def F29_20 (x5 : Value) (h : H) (Kn : H → Prop) (Kr : Value → Value → Value → H → Prop) (Ke0 : H → Prop) : Prop :=
  F29_21 x5 h (fun y21 h => F29_22 y21 h Kn Kr Ke0) Kr Ke0
theorem F29_20_ok (Kn Kr Ke0) (t : T) (h : H) (H0 : F29_20 (t 5) h Kn Kr Ke0) : Wp Try.prog 28 (cndY (seqR (cndY (seqR (cndY (seqR (cndY (seqR (blkC (rest 1 (seqL (rest 1 (bodyOf Try.f29.body))))))))))))) (mkQ (fun t h => Kn  h) (fun t h => Kr (t 2) (t 3) (t 4) h) (keAdd 0 (fun t h => Ke0  h) ke0)) t h :=
  seq_ok (by kernel_rfl) (fun t h H1 => F29_22_ok Kn Kr Ke0 t h H1) (F29_21_ok (fun y21 h => F29_22 y21 h Kn Kr Ke0) Kr Ke0 t h H0)
def F29_18 (x5 x18 : Value) (h : H) (Kn : H → Prop) (Kr : Value → Value → Value → H → Prop) (Ke0 : H → Prop) : Prop :=
  o_if x18 (F29_19  h Kn Kr Ke0) (F29_20 x5 h Kn Kr Ke0)
theorem F29_18_ok (Kn Kr Ke0) (t : T) (h : H) (H0 : F29_18 (t 5) (t 18) h Kn Kr Ke0) : Wp Try.prog 28 (seqR (cndY (seqR (cndY (seqR (cndY (seqR (blkC (rest 1 (seqL (rest 1 (bodyOf Try.f29.body)))))))))))) (mkQ (fun t h => Kn  h) (fun t h => Kr (t 2) (t 3) (t 4) h) (keAdd 0 (fun t h => Ke0  h) ke0)) t h :=
  cond_ok H0 (by kernel_rfl) (F29_19_ok Kn Kr Ke0 t h) (F29_20_ok Kn Kr Ke0 t h) (by kernel_rfl)
def F29_16 (x5 : Value) (h : H) (Kn : H → Prop) (Kr : Value → Value → Value → H → Prop) (Ke0 : H → Prop) : Prop :=
  F29_17 x5 h (fun y5 y18 h => F29_18 y5 y18 h Kn Kr Ke0) Kr Ke0
theorem F29_16_ok (Kn Kr Ke0) (t : T) (h : H) (H0 : F29_16 (t 5) h Kn Kr Ke0) : Wp Try.prog 28 (cndY (seqR (cndY (seqR (cndY (seqR (blkC (rest 1 (seqL (rest 1 (bodyOf Try.f29.body))))))))))) (mkQ (fun t h => Kn  h) (fun t h => Kr (t 2) (t 3) (t 4) h) (keAdd 0 (fun t h => Ke0  h) ke0)) t h :=
  seq_ok (by kernel_rfl) (fun t h H1 => F29_18_ok Kn Kr Ke0 t h H1) (F29_17_ok (fun y5 y18 h => F29_18 y5 y18 h Kn Kr Ke0) Kr Ke0 t h H0)
def F29_14 (x5 x14 : Value) (h : H) (Kn : H → Prop) (Kr : Value → Value → Value → H → Prop) (Ke0 : H → Prop) : Prop :=
  o_if x14 (F29_15  h Kn Kr Ke0) (F29_16 x5 h Kn Kr Ke0)
theorem F29_14_ok (Kn Kr Ke0) (t : T) (h : H) (H0 : F29_14 (t 5) (t 14) h Kn Kr Ke0) : Wp Try.prog 28 (seqR (cndY (seqR (cndY (seqR (blkC (rest 1 (seqL (rest 1 (bodyOf Try.f29.body)))))))))) (mkQ (fun t h => Kn  h) (fun t h => Kr (t 2) (t 3) (t 4) h) (keAdd 0 (fun t h => Ke0  h) ke0)) t h :=
  cond_ok H0 (by kernel_rfl) (F29_15_ok Kn Kr Ke0 t h) (F29_16_ok Kn Kr Ke0 t h) (by kernel_rfl)
def F29_12 (x5 : Value) (h : H) (Kn : H → Prop) (Kr : Value → Value → Value → H → Prop) (Ke0 : H → Prop) : Prop :=
  F29_13 x5 h (fun y5 y14 h => F29_14 y5 y14 h Kn Kr Ke0) Kr Ke0
theorem F29_12_ok (Kn Kr Ke0) (t : T) (h : H) (H0 : F29_12 (t 5) h Kn Kr Ke0) : Wp Try.prog 28 (cndY (seqR (cndY (seqR (blkC (rest 1 (seqL (rest 1 (bodyOf Try.f29.body))))))))) (mkQ (fun t h => Kn  h) (fun t h => Kr (t 2) (t 3) (t 4) h) (keAdd 0 (fun t h => Ke0  h) ke0)) t h :=
  seq_ok (by kernel_rfl) (fun t h H1 => F29_14_ok Kn Kr Ke0 t h H1) (F29_13_ok (fun y5 y14 h => F29_14 y5 y14 h Kn Kr Ke0) Kr Ke0 t h H0)
def F29_10 (x5 x10 : Value) (h : H) (Kn : H → Prop) (Kr : Value → Value → Value → H → Prop) (Ke0 : H → Prop) : Prop :=
  o_if x10 (F29_11  h Kn Kr Ke0) (F29_12 x5 h Kn Kr Ke0)
theorem F29_10_ok (Kn Kr Ke0) (t : T) (h : H) (H0 : F29_10 (t 5) (t 10) h Kn Kr Ke0) : Wp Try.prog 28 (seqR (cndY (seqR (blkC (rest 1 (seqL (rest 1 (bodyOf Try.f29.body)))))))) (mkQ (fun t h => Kn  h) (fun t h => Kr (t 2) (t 3) (t 4) h) (keAdd 0 (fun t h => Ke0  h) ke0)) t h :=
  cond_ok H0 (by kernel_rfl) (F29_11_ok Kn Kr Ke0 t h) (F29_12_ok Kn Kr Ke0 t h) (by kernel_rfl)
def F29_8 (x5 : Value) (h : H) (Kn : H → Prop) (Kr : Value → Value → Value → H → Prop) (Ke0 : H → Prop) : Prop :=
  F29_9 x5 h (fun y5 y10 h => F29_10 y5 y10 h Kn Kr Ke0) Kr Ke0
theorem F29_8_ok (Kn Kr Ke0) (t : T) (h : H) (H0 : F29_8 (t 5) h Kn Kr Ke0) : Wp Try.prog 28 (cndY (seqR (blkC (rest 1 (seqL (rest 1 (bodyOf Try.f29.body))))))) (mkQ (fun t h => Kn  h) (fun t h => Kr (t 2) (t 3) (t 4) h) (keAdd 0 (fun t h => Ke0  h) ke0)) t h :=
  seq_ok (by kernel_rfl) (fun t h H1 => F29_10_ok Kn Kr Ke0 t h H1) (F29_9_ok (fun y5 y10 h => F29_10 y5 y10 h Kn Kr Ke0) Kr Ke0 t h H0)
def F29_6 (x5 x6 : Value) (h : H) (Kn : H → Prop) (Kr : Value → Value → Value → H → Prop) (Ke0 : H → Prop) : Prop :=
  o_if x6 (F29_7  h Kn Kr Ke0) (F29_8 x5 h Kn Kr Ke0)
theorem F29_6_ok (Kn Kr Ke0) (t : T) (h : H) (H0 : F29_6 (t 5) (t 6) h Kn Kr Ke0) : Wp Try.prog 28 (seqR (blkC (rest 1 (seqL (rest 1 (bodyOf Try.f29.body)))))) (mkQ (fun t h => Kn  h) (fun t h => Kr (t 2) (t 3) (t 4) h) (keAdd 0 (fun t h => Ke0  h) ke0)) t h :=
  cond_ok H0 (by kernel_rfl) (F29_7_ok Kn Kr Ke0 t h) (F29_8_ok Kn Kr Ke0 t h) (by kernel_rfl)
def F29_4 (x5 : Value) (h : H) (Kn : H → Prop) (Kr : Value → Value → Value → H → Prop) (Ke0 : H → Prop) : Prop :=
  F29_5 x5 h (fun y5 y6 h => F29_6 y5 y6 h Kn Kr Ke0) Kr Ke0
theorem F29_4_ok (Kn Kr Ke0) (t : T) (h : H) (H0 : F29_4 (t 5) h Kn Kr Ke0) : Wp Try.prog 28 (blkC (rest 1 (seqL (rest 1 (bodyOf Try.f29.body))))) (mkQ (fun t h => Kn  h) (fun t h => Kr (t 2) (t 3) (t 4) h) (keAdd 0 (fun t h => Ke0  h) ke0)) t h :=
  seq_ok (by kernel_rfl) (fun t h H1 => F29_6_ok Kn Kr Ke0 t h H1) (F29_5_ok (fun y5 y6 h => F29_6 y5 y6 h Kn Kr Ke0) Kr Ke0 t h H0)
def F29_3 (x5 : Value) (h : H) (Kn : H → Prop) (Kr : Value → Value → Value → H → Prop) : Prop :=
  F29_4 x5 h Kn Kr Kn
theorem F29_3_ok (Kn Kr) (t : T) (h : H) (H0 : F29_3 (t 5) h Kn Kr) : Wp Try.prog 28 (rest 1 (seqL (rest 1 (bodyOf Try.f29.body)))) (mkQ (fun t h => Kn  h) (fun t h => Kr (t 2) (t 3) (t 4) h) ke0) t h :=
  block_ok 0 (by kernel_rfl) (by kernel_rfl) (F29_4_ok Kn Kr Kn t h H0)
def F29_2 (x0 : Value) (h : H) (Kn : H → Prop) (Kr : Value → Value → Value → H → Prop) : Prop :=
  F29_3 x0 h Kn Kr
theorem F29_2_ok (Kn Kr) (t : T) (h : H) (H0 : F29_2 (t 0) h Kn Kr) : Wp Try.prog 28 (seqL (rest 1 (bodyOf Try.f29.body))) (mkQ (fun t h => Kn  h) (fun t h => Kr (t 2) (t 3) (t 4) h) ke0) t h :=
  awpTo_okF 1 H0 (by kernel_rfl) (fun t h (H1 : F29_3 (t 5) h Kn Kr) => F29_3_ok Kn Kr t h H1) (by kernel_rfl)
def F29_23 (h : H) (Kn : Value → Value → Value → H → Prop) (Kr : Value → Value → Value → H → Prop) : Prop :=
  Kr (.bool false) (.bool false) (.bool false) h
theorem F29_23_ok (Kn Kr) (t : T) (h : H) (H0 : F29_23  h Kn Kr) : Wp Try.prog 28 (seqR (rest 1 (bodyOf Try.f29.body))) (mkQ (fun t h => Kn (t 2) (t 3) (t 4) h) (fun t h => Kr (t 2) (t 3) (t 4) h) ke0) t h :=
  wpEqF H0 (by kernel_rfl)
def F29_1 (x0 : Value) (h : H) (Kn : Value → Value → Value → H → Prop) (Kr : Value → Value → Value → H → Prop) : Prop :=
  F29_2 x0 h (fun  h => F29_23  h Kn Kr) Kr
theorem F29_1_ok (Kn Kr) (t : T) (h : H) (H0 : F29_1 (t 0) h Kn Kr) : Wp Try.prog 28 (rest 1 (bodyOf Try.f29.body)) (mkQ (fun t h => Kn (t 2) (t 3) (t 4) h) (fun t h => Kr (t 2) (t 3) (t 4) h) ke0) t h :=
  seq_ok (by kernel_rfl) (fun t h H1 => F29_23_ok Kn Kr t h H1) (F29_2_ok (fun  h => F29_23  h Kn Kr) Kr t h H0)
def F29_0 (x0 : Value) (h : H) (Kn : Value → Value → Value → H → Prop) (Kr : Value → Value → Value → H → Prop) : Prop :=
  F29_1 x0 h Kn Kr
theorem F29_0_ok (Kn Kr) (t : T) (h : H) (H0 : F29_0 (t 0) h Kn Kr) : Wp Try.prog 28 (bodyOf Try.f29.body) (mkQ (fun t h => Kn (t 2) (t 3) (t 4) h) (fun t h => Kr (t 2) (t 3) (t 4) h) ke0) t h :=
  awpTo_okF 1 H0 (by kernel_rfl) (fun t h (H1 : F29_1 (t 0) h Kn Kr) => F29_1_ok Kn Kr t h H1) (by kernel_rfl)
def F29 (x0 : Value) (h : H) (Q : Value → H → Prop) : Prop := F29_0 x0 h (fun y2 y3 y4 h => bif [y2, y3, y4].all boxV then Q (.tuple #[y2, y3, y4]) h else False) (fun y2 y3 y4 h => bif [y2, y3, y4].all boxV then Q (.tuple #[y2, y3, y4]) h else False)
theorem F29_spec (x0 : Value) (h : H) (Q : Value → H → Prop) (H0 : F29 x0 h Q) : AM.Spec Try.prog 29 [x0] h Q :=
  spec_wp mixed (fn := Try.f29) Try.func29 (c := bodyOf Try.f29.body) (rs := [2, 3, 4]) (N := 28) (by kernel_rfl) (by kernel_rfl) (by kernel_rfl) (by kernel_rfl) (by kernel_rfl) (Nat.le_of_ble_eq_true rfl) (F29_0_ok (fun y2 y3 y4 h => bif [y2, y3, y4].all boxV then Q (.tuple #[y2, y3, y4]) h else False) (fun y2 y3 y4 h => bif [y2, y3, y4].all boxV then Q (.tuple #[y2, y3, y4]) h else False) (tinit [x0]) h H0) (by kernel_rfl)
/-! #### 30: tincture/ir.value -/
def F30_5 (x1 x4 : Value) (h : H) (Kn : Value → Value → Value → H → Prop) (Kr : Value → H → Prop) (Ke0 : Value → H → Prop) : Prop :=
  o_bin Try.prog .eql 3 x4 (.int .i64 1) fun v6 => o_if v6 (Kn x1 x4 v6 h) (o_bin Try.prog .eql 3 x4 (.int .i64 8) fun v7 => o_if v7 (Kn x1 x4 v7 h) (o_bin Try.prog .eql 3 x4 (.int .i64 10) fun v8 => o_if v8 (Kn x1 x4 v8 h) (o_bin Try.prog .eql 3 x4 (.int .i64 12) fun v9 => Kn x1 x4 v9 h)))
theorem F30_5_ok (Kn Kr Ke0) (t : T) (h : H) (H0 : F30_5 (t 1) (t 4) h Kn Kr Ke0) : Wp Try.prog 98 (seqL (blkC (rest 1 (seqL (rest 1 (bodyOf Try.f30.body)))))) (mkQ (fun t h => Kn (t 1) (t 4) (t 5) h) (fun t h => Kr (t 2) h) (keAdd 0 (fun t h => Ke0 (t 1) h) ke0)) t h :=
  wpEqF H0 (by kernel_rfl)
theorem F30_5_or {a : Int} {x1 : Value} {h : H} {Kn Kr Ke0} : F30_5 x1 (.int .i64 a) h Kn Kr Ke0 = Kn x1 (.int .i64 a) (.bool (decide (a = 1) || (decide (a = 8) || (decide (a = 10) || decide (a = 12))))) h := by
  simp only [F30_5, bin_eql, if_or]
def F30_7 (h : H) (Kn : Value → H → Prop) (Kr : Value → H → Prop) (Ke0 : Value → H → Prop) : Prop :=
  Kr (.bool true) h
theorem F30_7_ok (Kn Kr Ke0) (t : T) (h : H) (H0 : F30_7  h Kn Kr Ke0) : Wp Try.prog 98 (cndX (seqR (blkC (rest 1 (seqL (rest 1 (bodyOf Try.f30.body))))))) (mkQ (fun t h => Kn (t 1) h) (fun t h => Kr (t 2) h) (keAdd 0 (fun t h => Ke0 (t 1) h) ke0)) t h :=
  wpEqF H0 (by kernel_rfl)
def F30_9 (x1 x4 : Value) (h : H) (Kn : Value → Value → Value → H → Prop) (Kr : Value → H → Prop) (Ke0 : Value → H → Prop) : Prop :=
  o_bin Try.prog .eql 3 x4 (.int .i64 2) fun v11 => o_if v11 (Kn x1 x4 v11 h) (o_bin Try.prog .eql 3 x4 (.int .i64 14) fun v12 => Kn x1 x4 v12 h)
theorem F30_9_ok (Kn Kr Ke0) (t : T) (h : H) (H0 : F30_9 (t 1) (t 4) h Kn Kr Ke0) : Wp Try.prog 98 (seqL (cndY (seqR (blkC (rest 1 (seqL (rest 1 (bodyOf Try.f30.body)))))))) (mkQ (fun t h => Kn (t 1) (t 4) (t 10) h) (fun t h => Kr (t 2) h) (keAdd 0 (fun t h => Ke0 (t 1) h) ke0)) t h :=
  wpEqF H0 (by kernel_rfl)
theorem F30_9_or {a : Int} {x1 : Value} {h : H} {Kn Kr Ke0} : F30_9 x1 (.int .i64 a) h Kn Kr Ke0 = Kn x1 (.int .i64 a) (.bool (decide (a = 2) || decide (a = 14))) h := by
  simp only [F30_9, bin_eql, if_or]
def F30_11 (x1 : Value) (h : H) (Kn : Value → H → Prop) (Kr : Value → H → Prop) (Ke0 : Value → H → Prop) : Prop :=
  o_fieldAddr 4 x1 fun v13 => o_load false 1 v13 h fun v14 => o_bin Try.prog .leq 27 v14 (.int .u32 31) fun v15 => Kr v15 h
theorem F30_11_ok (Kn Kr Ke0) (t : T) (h : H) (H0 : F30_11 (t 1) h Kn Kr Ke0) : Wp Try.prog 98 (cndX (seqR (cndY (seqR (blkC (rest 1 (seqL (rest 1 (bodyOf Try.f30.body))))))))) (mkQ (fun t h => Kn (t 1) h) (fun t h => Kr (t 2) h) (keAdd 0 (fun t h => Ke0 (t 1) h) ke0)) t h :=
  wpEqF H0 (by kernel_rfl)
def F30_13 (x1 x4 : Value) (h : H) (Kn : Value → Value → Value → H → Prop) (Kr : Value → H → Prop) (Ke0 : Value → H → Prop) : Prop :=
  o_bin Try.prog .eql 3 x4 (.int .i64 3) fun v17 => o_if v17 (Kn x1 x4 v17 h) (o_bin Try.prog .eql 3 x4 (.int .i64 15) fun v18 => Kn x1 x4 v18 h)
theorem F30_13_ok (Kn Kr Ke0) (t : T) (h : H) (H0 : F30_13 (t 1) (t 4) h Kn Kr Ke0) : Wp Try.prog 98 (seqL (cndY (seqR (cndY (seqR (blkC (rest 1 (seqL (rest 1 (bodyOf Try.f30.body)))))))))) (mkQ (fun t h => Kn (t 1) (t 4) (t 16) h) (fun t h => Kr (t 2) h) (keAdd 0 (fun t h => Ke0 (t 1) h) ke0)) t h :=
  wpEqF H0 (by kernel_rfl)
theorem F30_13_or {a : Int} {x1 : Value} {h : H} {Kn Kr Ke0} : F30_13 x1 (.int .i64 a) h Kn Kr Ke0 = Kn x1 (.int .i64 a) (.bool (decide (a = 3) || decide (a = 15))) h := by
  simp only [F30_13, bin_eql, if_or]
def F30_15 (x1 : Value) (h : H) (Kn : Value → H → Prop) (Kr : Value → H → Prop) (Ke0 : Value → H → Prop) : Prop :=
  o_fieldAddr 4 x1 fun v19 => o_load false 1 v19 h fun v20 => o_bin Try.prog .geq 27 v20 (.int .u32 1) fun v21 => o_guard v21 true (fun k6 => o_fieldAddr 4 x1 fun v23 => o_load false 1 v23 h fun v24 => o_bin Try.prog .leq 27 v24 (.int .u32 31) fun v25 => k6 v25 h) (fun v25 h => o_pick v21 v25 (.bool false) fun v26 => Kr v26 h) h
theorem F30_15_ok (Kn Kr Ke0) (t : T) (h : H) (H0 : F30_15 (t 1) h Kn Kr Ke0) : Wp Try.prog 98 (cndX (seqR (cndY (seqR (cndY (seqR (blkC (rest 1 (seqL (rest 1 (bodyOf Try.f30.body))))))))))) (mkQ (fun t h => Kn (t 1) h) (fun t h => Kr (t 2) h) (keAdd 0 (fun t h => Ke0 (t 1) h) ke0)) t h :=
  wpEqF H0 (by kernel_rfl)
def F30_17 (x1 x4 : Value) (h : H) (Kn : Value → Value → Value → H → Prop) (Kr : Value → H → Prop) (Ke0 : Value → H → Prop) : Prop :=
  o_bin Try.prog .eql 3 x4 (.int .i64 4) fun v28 => o_if v28 (Kn x1 x4 v28 h) (o_bin Try.prog .eql 3 x4 (.int .i64 16) fun v29 => Kn x1 x4 v29 h)
theorem F30_17_ok (Kn Kr Ke0) (t : T) (h : H) (H0 : F30_17 (t 1) (t 4) h Kn Kr Ke0) : Wp Try.prog 98 (seqL (cndY (seqR (cndY (seqR (cndY (seqR (blkC (rest 1 (seqL (rest 1 (bodyOf Try.f30.body)))))))))))) (mkQ (fun t h => Kn (t 1) (t 4) (t 27) h) (fun t h => Kr (t 2) h) (keAdd 0 (fun t h => Ke0 (t 1) h) ke0)) t h :=
  wpEqF H0 (by kernel_rfl)
theorem F30_17_or {a : Int} {x1 : Value} {h : H} {Kn Kr Ke0} : F30_17 x1 (.int .i64 a) h Kn Kr Ke0 = Kn x1 (.int .i64 a) (.bool (decide (a = 4) || decide (a = 16))) h := by
  simp only [F30_17, bin_eql, if_or]
def F30_19 (x1 : Value) (h : H) (Kn : Value → H → Prop) (Kr : Value → H → Prop) (Ke0 : Value → H → Prop) : Prop :=
  o_fieldAddr 4 x1 fun v30 => o_load false 1 v30 h fun v31 => o_bin Try.prog .leq 27 v31 (.int .u32 17) fun v32 => Kr v32 h
theorem F30_19_ok (Kn Kr Ke0) (t : T) (h : H) (H0 : F30_19 (t 1) h Kn Kr Ke0) : Wp Try.prog 98 (cndX (seqR (cndY (seqR (cndY (seqR (cndY (seqR (blkC (rest 1 (seqL (rest 1 (bodyOf Try.f30.body))))))))))))) (mkQ (fun t h => Kn (t 1) h) (fun t h => Kr (t 2) h) (keAdd 0 (fun t h => Ke0 (t 1) h) ke0)) t h :=
  wpEqF H0 (by kernel_rfl)
def F30_22 (x1 : Value) (h : H) (Kn : Value → H → Prop) (Kr : Value → H → Prop) (Ke0 : Value → H → Prop) : Prop :=
  o_fieldAddr 4 x1 fun v35 => o_load false 1 v35 h fun v36 => o_bin Try.prog .leq 27 v36 (.int .u32 7) fun v37 => o_guard v37 true (fun k6 => o_fieldAddr 4 x1 fun v39 => o_load false 1 v39 h fun v40 => o_bin Try.prog .neq 27 v40 (.int .u32 2) fun v41 => k6 v41 h) (fun v41 h => o_pick v37 v41 (.bool false) fun v42 => o_guard v42 true (fun k11 => o_fieldAddr 4 x1 fun v44 => o_load false 1 v44 h fun v45 => o_bin Try.prog .neq 27 v45 (.int .u32 3) fun v46 => k11 v46 h) (fun v46 h => o_pick v42 v46 (.bool false) fun v47 => Kr v47 h) h) h
theorem F30_22_ok (Kn Kr Ke0) (t : T) (h : H) (H0 : F30_22 (t 1) h Kn Kr Ke0) : Wp Try.prog 98 (cndX (rest 1 (cndY (seqR (cndY (seqR (cndY (seqR (cndY (seqR (blkC (rest 1 (seqL (rest 1 (bodyOf Try.f30.body))))))))))))))) (mkQ (fun t h => Kn (t 1) h) (fun t h => Kr (t 2) h) (keAdd 0 (fun t h => Ke0 (t 1) h) ke0)) t h :=
  wpEqF H0 (by kernel_rfl)
def F30_24 (x1 x4 : Value) (h : H) (Kn : Value → Value → Value → H → Prop) (Kr : Value → H → Prop) (Ke0 : Value → H → Prop) : Prop :=
  o_bin Try.prog .eql 3 x4 (.int .i64 6) fun v49 => o_if v49 (Kn x1 x4 v49 h) (o_bin Try.prog .eql 3 x4 (.int .i64 17) fun v50 => Kn x1 x4 v50 h)
theorem F30_24_ok (Kn Kr Ke0) (t : T) (h : H) (H0 : F30_24 (t 1) (t 4) h Kn Kr Ke0) : Wp Try.prog 98 (seqL (cndY (rest 1 (cndY (seqR (cndY (seqR (cndY (seqR (cndY (seqR (blkC (rest 1 (seqL (rest 1 (bodyOf Try.f30.body)))))))))))))))) (mkQ (fun t h => Kn (t 1) (t 4) (t 48) h) (fun t h => Kr (t 2) h) (keAdd 0 (fun t h => Ke0 (t 1) h) ke0)) t h :=
  wpEqF H0 (by kernel_rfl)
theorem F30_24_or {a : Int} {x1 : Value} {h : H} {Kn Kr Ke0} : F30_24 x1 (.int .i64 a) h Kn Kr Ke0 = Kn x1 (.int .i64 a) (.bool (decide (a = 6) || decide (a = 17))) h := by
  simp only [F30_24, bin_eql, if_or]
def F30_26 (x1 : Value) (h : H) (Kn : Value → H → Prop) (Kr : Value → H → Prop) (Ke0 : Value → H → Prop) : Prop :=
  o_fieldAddr 4 x1 fun v51 => o_load false 1 v51 h fun v52 => o_call Try.prog 36 [v52] h fun v53 h => o_guard v53 false (fun k6 => o_fieldAddr 4 x1 fun v55 => o_load false 1 v55 h fun v56 => o_bin Try.prog .eql 27 v56 (.int .u32 9) fun v57 => k6 v57 h) (fun v57 h => o_pick v53 (.bool true) v57 fun v58 => o_guard v58 false (fun k11 => o_fieldAddr 4 x1 fun v60 => o_load false 1 v60 h fun v61 => o_bin Try.prog .eql 27 v61 (.int .u32 10) fun v62 => k11 v62 h) (fun v62 h => o_pick v58 (.bool true) v62 fun v63 => Kr v63 h) h) h
theorem F30_26_ok (Kn Kr Ke0) (t : T) (h : H) (H0 : F30_26 (t 1) h Kn Kr Ke0) : Wp Try.prog 98 (cndX (seqR (cndY (rest 1 (cndY (seqR (cndY (seqR (cndY (seqR (cndY (seqR (blkC (rest 1 (seqL (rest 1 (bodyOf Try.f30.body))))))))))))))))) (mkQ (fun t h => Kn (t 1) h) (fun t h => Kr (t 2) h) (keAdd 0 (fun t h => Ke0 (t 1) h) ke0)) t h :=
  wpEqF H0 (by kernel_rfl)
def F30_28 (x1 x4 : Value) (h : H) (Kn : Value → Value → Value → H → Prop) (Kr : Value → H → Prop) (Ke0 : Value → H → Prop) : Prop :=
  o_bin Try.prog .eql 3 x4 (.int .i64 7) fun v65 => o_if v65 (Kn x1 x4 v65 h) (o_bin Try.prog .eql 3 x4 (.int .i64 18) fun v66 => Kn x1 x4 v66 h)
theorem F30_28_ok (Kn Kr Ke0) (t : T) (h : H) (H0 : F30_28 (t 1) (t 4) h Kn Kr Ke0) : Wp Try.prog 98 (seqL (cndY (seqR (cndY (rest 1 (cndY (seqR (cndY (seqR (cndY (seqR (cndY (seqR (blkC (rest 1 (seqL (rest 1 (bodyOf Try.f30.body)))))))))))))))))) (mkQ (fun t h => Kn (t 1) (t 4) (t 64) h) (fun t h => Kr (t 2) h) (keAdd 0 (fun t h => Ke0 (t 1) h) ke0)) t h :=
  wpEqF H0 (by kernel_rfl)
theorem F30_28_or {a : Int} {x1 : Value} {h : H} {Kn Kr Ke0} : F30_28 x1 (.int .i64 a) h Kn Kr Ke0 = Kn x1 (.int .i64 a) (.bool (decide (a = 7) || decide (a = 18))) h := by
  simp only [F30_28, bin_eql, if_or]
def F30_29 (x1 x4 x64 : Value) (h : H) (Kn : Value → H → Prop) (Kr : Value → H → Prop) (Ke0 : Value → H → Prop) : Prop :=
  o_if x64 (o_fieldAddr 4 x1 fun v67 => o_load false 1 v67 h fun v68 => o_call Try.prog 36 [v68] h fun v69 h => Kr v69 h) (o_bin Try.prog .eql 3 x4 (.int .i64 13) fun v71 => o_if v71 (o_fieldAddr 4 x1 fun v72 => o_load false 1 v72 h fun v73 => o_bin Try.prog .eql 27 v73 (.int .u32 2) fun v74 => o_guard v74 false (fun k6 => o_fieldAddr 4 x1 fun v76 => o_load false 1 v76 h fun v77 => o_bin Try.prog .eql 27 v77 (.int .u32 5) fun v78 => k6 v78 h) (fun v78 h => o_pick v74 (.bool true) v78 fun v79 => o_guard v79 false (fun k11 => o_fieldAddr 4 x1 fun v81 => o_load false 1 v81 h fun v82 => o_bin Try.prog .eql 27 v82 (.int .u32 6) fun v83 => k11 v83 h) (fun v83 h => o_pick v79 (.bool true) v83 fun v84 => Kr v84 h) h) h) (o_bin Try.prog .eql 3 x4 (.int .i64 20) fun v86 => o_if v86 (o_fieldAddr 4 x1 fun v87 => o_load false 1 v87 h fun v88 => o_bin Try.prog .geq 27 v88 (.int .u32 1) fun v89 => o_guard v89 true (fun k6 => o_fieldAddr 4 x1 fun v91 => o_load false 1 v91 h fun v92 => o_bin Try.prog .leq 27 v92 (.int .u32 3) fun v93 => k6 v93 h) (fun v93 h => o_pick v89 v93 (.bool false) fun v94 => Kr v94 h) h) (Kn x1 h)))
theorem F30_29_ok (Kn Kr Ke0) (t : T) (h : H) (H0 : F30_29 (t 1) (t 4) (t 64) h Kn Kr Ke0) : Wp Try.prog 98 (seqR (cndY (seqR (cndY (rest 1 (cndY (seqR (cndY (seqR (cndY (seqR (cndY (seqR (blkC (rest 1 (seqL (rest 1 (bodyOf Try.f30.body)))))))))))))))))) (mkQ (fun t h => Kn (t 1) h) (fun t h => Kr (t 2) h) (keAdd 0 (fun t h => Ke0 (t 1) h) ke0)) t h :=
  wpEqF H0 (by kernel_rfl)
def F30_27 (x1 x4 : Value) (h : H) (Kn : Value → H → Prop) (Kr : Value → H → Prop) (Ke0 : Value → H → Prop) : Prop :=
  F30_28 x1 x4 h (fun y1 y4 y64 h => F30_29 y1 y4 y64 h Kn Kr Ke0) Kr Ke0
theorem F30_27_ok (Kn Kr Ke0) (t : T) (h : H) (H0 : F30_27 (t 1) (t 4) h Kn Kr Ke0) : Wp Try.prog 98 (cndY (seqR (cndY (rest 1 (cndY (seqR (cndY (seqR (cndY (seqR (cndY (seqR (blkC (rest 1 (seqL (rest 1 (bodyOf Try.f30.body))))))))))))))))) (mkQ (fun t h => Kn (t 1) h) (fun t h => Kr (t 2) h) (keAdd 0 (fun t h => Ke0 (t 1) h) ke0)) t h :=
  seq_ok (by kernel_rfl) (fun t h H1 => F30_29_ok Kn Kr Ke0 t h H1) (F30_28_ok (fun y1 y4 y64 h => F30_29 y1 y4 y64 h Kn Kr Ke0) Kr Ke0 t h H0)
def F30_25 (x1 x4 x48 : Value) (h : H) (Kn : Value → H → Prop) (Kr : Value → H → Prop) (Ke0 : Value → H → Prop) : Prop :=
  o_if x48 (F30_26 x1 h Kn Kr Ke0) (F30_27 x1 x4 h Kn Kr Ke0)
theorem F30_25_ok (Kn Kr Ke0) (t : T) (h : H) (H0 : F30_25 (t 1) (t 4) (t 48) h Kn Kr Ke0) : Wp Try.prog 98 (seqR (cndY (rest 1 (cndY (seqR (cndY (seqR (cndY (seqR (cndY (seqR (blkC (rest 1 (seqL (rest 1 (bodyOf Try.f30.body)))))))))))))))) (mkQ (fun t h => Kn (t 1) h) (fun t h => Kr (t 2) h) (keAdd 0 (fun t h => Ke0 (t 1) h) ke0)) t h :=
  cond_ok H0 (by kernel_rfl) (F30_26_ok Kn Kr Ke0 t h) (F30_27_ok Kn Kr Ke0 t h) (by kernel_rfl)
def F30_23 (x1 x4 : Value) (h : H) (Kn : Value → H → Prop) (Kr : Value → H → Prop) (Ke0 : Value → H → Prop) : Prop :=
  F30_24 x1 x4 h (fun y1 y4 y48 h => F30_25 y1 y4 y48 h Kn Kr Ke0) Kr Ke0
theorem F30_23_ok (Kn Kr Ke0) (t : T) (h : H) (H0 : F30_23 (t 1) (t 4) h Kn Kr Ke0) : Wp Try.prog 98 (cndY (rest 1 (cndY (seqR (cndY (seqR (cndY (seqR (cndY (seqR (blkC (rest 1 (seqL (rest 1 (bodyOf Try.f30.body))))))))))))))) (mkQ (fun t h => Kn (t 1) h) (fun t h => Kr (t 2) h) (keAdd 0 (fun t h => Ke0 (t 1) h) ke0)) t h :=
  seq_ok (by kernel_rfl) (fun t h H1 => F30_25_ok Kn Kr Ke0 t h H1) (F30_24_ok (fun y1 y4 y48 h => F30_25 y1 y4 y48 h Kn Kr Ke0) Kr Ke0 t h H0)
def F30_21 (x1 x4 x33 : Value) (h : H) (Kn : Value → H → Prop) (Kr : Value → H → Prop) (Ke0 : Value → H → Prop) : Prop :=
  o_if x33 (F30_22 x1 h Kn Kr Ke0) (F30_23 x1 x4 h Kn Kr Ke0)
theorem F30_21_ok (Kn Kr Ke0) (t : T) (h : H) (H0 : F30_21 (t 1) (t 4) (t 33) h Kn Kr Ke0) : Wp Try.prog 98 (rest 1 (cndY (seqR (cndY (seqR (cndY (seqR (cndY (seqR (blkC (rest 1 (seqL (rest 1 (bodyOf Try.f30.body)))))))))))))) (mkQ (fun t h => Kn (t 1) h) (fun t h => Kr (t 2) h) (keAdd 0 (fun t h => Ke0 (t 1) h) ke0)) t h :=
  cond_ok H0 (by kernel_rfl) (F30_22_ok Kn Kr Ke0 t h) (F30_23_ok Kn Kr Ke0 t h) (by kernel_rfl)
def F30_20 (x1 x4 : Value) (h : H) (Kn : Value → H → Prop) (Kr : Value → H → Prop) (Ke0 : Value → H → Prop) : Prop :=
  o_bin Try.prog .eql 3 x4 (.int .i64 5) fun v34 => F30_21 x1 x4 v34 h Kn Kr Ke0
theorem F30_20_ok (Kn Kr Ke0) (t : T) (h : H) (H0 : F30_20 (t 1) (t 4) h Kn Kr Ke0) : Wp Try.prog 98 (cndY (seqR (cndY (seqR (cndY (seqR (cndY (seqR (blkC (rest 1 (seqL (rest 1 (bodyOf Try.f30.body))))))))))))) (mkQ (fun t h => Kn (t 1) h) (fun t h => Kr (t 2) h) (keAdd 0 (fun t h => Ke0 (t 1) h) ke0)) t h :=
  awpTo_okF 1 H0 (by kernel_rfl) (fun t h (H1 : F30_21 (t 1) (t 4) (t 33) h Kn Kr Ke0) => F30_21_ok Kn Kr Ke0 t h H1) (by kernel_rfl)
def F30_18 (x1 x4 x27 : Value) (h : H) (Kn : Value → H → Prop) (Kr : Value → H → Prop) (Ke0 : Value → H → Prop) : Prop :=
  o_if x27 (F30_19 x1 h Kn Kr Ke0) (F30_20 x1 x4 h Kn Kr Ke0)
theorem F30_18_ok (Kn Kr Ke0) (t : T) (h : H) (H0 : F30_18 (t 1) (t 4) (t 27) h Kn Kr Ke0) : Wp Try.prog 98 (seqR (cndY (seqR (cndY (seqR (cndY (seqR (blkC (rest 1 (seqL (rest 1 (bodyOf Try.f30.body)))))))))))) (mkQ (fun t h => Kn (t 1) h) (fun t h => Kr (t 2) h) (keAdd 0 (fun t h => Ke0 (t 1) h) ke0)) t h :=
  cond_ok H0 (by kernel_rfl) (F30_19_ok Kn Kr Ke0 t h) (F30_20_ok Kn Kr Ke0 t h) (by kernel_rfl)
def F30_16 (x1 x4 : Value) (h : H) (Kn : Value → H → Prop) (Kr : Value → H → Prop) (Ke0 : Value → H → Prop) : Prop :=
  F30_17 x1 x4 h (fun y1 y4 y27 h => F30_18 y1 y4 y27 h Kn Kr Ke0) Kr Ke0
theorem F30_16_ok (Kn Kr Ke0) (t : T) (h : H) (H0 : F30_16 (t 1) (t 4) h Kn Kr Ke0) : Wp Try.prog 98 (cndY (seqR (cndY (seqR (cndY (seqR (blkC (rest 1 (seqL (rest 1 (bodyOf Try.f30.body))))))))))) (mkQ (fun t h => Kn (t 1) h) (fun t h => Kr (t 2) h) (keAdd 0 (fun t h => Ke0 (t 1) h) ke0)) t h :=
  seq_ok (by kernel_rfl) (fun t h H1 => F30_18_ok Kn Kr Ke0 t h H1) (F30_17_ok (fun y1 y4 y27 h => F30_18 y1 y4 y27 h Kn Kr Ke0) Kr Ke0 t h H0)
def F30_14 (x1 x4 x16 : Value) (h : H) (Kn : Value → H → Prop) (Kr : Value → H → Prop) (Ke0 : Value → H → Prop) : Prop :=
  o_if x16 (F30_15 x1 h Kn Kr Ke0) (F30_16 x1 x4 h Kn Kr Ke0)
theorem F30_14_ok (Kn Kr Ke0) (t : T) (h : H) (H0 : F30_14 (t 1) (t 4) (t 16) h Kn Kr Ke0) : Wp Try.prog 98 (seqR (cndY (seqR (cndY (seqR (blkC (rest 1 (seqL (rest 1 (bodyOf Try.f30.body)))))))))) (mkQ (fun t h => Kn (t 1) h) (fun t h => Kr (t 2) h) (keAdd 0 (fun t h => Ke0 (t 1) h) ke0)) t h :=
  cond_ok H0 (by kernel_rfl) (F30_15_ok Kn Kr Ke0 t h) (F30_16_ok Kn Kr Ke0 t h) (by kernel_rfl)
def F30_12 (x1 x4 : Value) (h : H) (Kn : Value → H → Prop) (Kr : Value → H → Prop) (Ke0 : Value → H → Prop) : Prop :=
  F30_13 x1 x4 h (fun y1 y4 y16 h => F30_14 y1 y4 y16 h Kn Kr Ke0) Kr Ke0
theorem F30_12_ok (Kn Kr Ke0) (t : T) (h : H) (H0 : F30_12 (t 1) (t 4) h Kn Kr Ke0) : Wp Try.prog 98 (cndY (seqR (cndY (seqR (blkC (rest 1 (seqL (rest 1 (bodyOf Try.f30.body))))))))) (mkQ (fun t h => Kn (t 1) h) (fun t h => Kr (t 2) h) (keAdd 0 (fun t h => Ke0 (t 1) h) ke0)) t h :=
  seq_ok (by kernel_rfl) (fun t h H1 => F30_14_ok Kn Kr Ke0 t h H1) (F30_13_ok (fun y1 y4 y16 h => F30_14 y1 y4 y16 h Kn Kr Ke0) Kr Ke0 t h H0)
def F30_10 (x1 x4 x10 : Value) (h : H) (Kn : Value → H → Prop) (Kr : Value → H → Prop) (Ke0 : Value → H → Prop) : Prop :=
  o_if x10 (F30_11 x1 h Kn Kr Ke0) (F30_12 x1 x4 h Kn Kr Ke0)
theorem F30_10_ok (Kn Kr Ke0) (t : T) (h : H) (H0 : F30_10 (t 1) (t 4) (t 10) h Kn Kr Ke0) : Wp Try.prog 98 (seqR (cndY (seqR (blkC (rest 1 (seqL (rest 1 (bodyOf Try.f30.body)))))))) (mkQ (fun t h => Kn (t 1) h) (fun t h => Kr (t 2) h) (keAdd 0 (fun t h => Ke0 (t 1) h) ke0)) t h :=
  cond_ok H0 (by kernel_rfl) (F30_11_ok Kn Kr Ke0 t h) (F30_12_ok Kn Kr Ke0 t h) (by kernel_rfl)
def F30_8 (x1 x4 : Value) (h : H) (Kn : Value → H → Prop) (Kr : Value → H → Prop) (Ke0 : Value → H → Prop) : Prop :=
  F30_9 x1 x4 h (fun y1 y4 y10 h => F30_10 y1 y4 y10 h Kn Kr Ke0) Kr Ke0
theorem F30_8_ok (Kn Kr Ke0) (t : T) (h : H) (H0 : F30_8 (t 1) (t 4) h Kn Kr Ke0) : Wp Try.prog 98 (cndY (seqR (blkC (rest 1 (seqL (rest 1 (bodyOf Try.f30.body))))))) (mkQ (fun t h => Kn (t 1) h) (fun t h => Kr (t 2) h) (keAdd 0 (fun t h => Ke0 (t 1) h) ke0)) t h :=
  seq_ok (by kernel_rfl) (fun t h H1 => F30_10_ok Kn Kr Ke0 t h H1) (F30_9_ok (fun y1 y4 y10 h => F30_10 y1 y4 y10 h Kn Kr Ke0) Kr Ke0 t h H0)
def F30_6 (x1 x4 x5 : Value) (h : H) (Kn : Value → H → Prop) (Kr : Value → H → Prop) (Ke0 : Value → H → Prop) : Prop :=
  o_if x5 (F30_7  h Kn Kr Ke0) (F30_8 x1 x4 h Kn Kr Ke0)
theorem F30_6_ok (Kn Kr Ke0) (t : T) (h : H) (H0 : F30_6 (t 1) (t 4) (t 5) h Kn Kr Ke0) : Wp Try.prog 98 (seqR (blkC (rest 1 (seqL (rest 1 (bodyOf Try.f30.body)))))) (mkQ (fun t h => Kn (t 1) h) (fun t h => Kr (t 2) h) (keAdd 0 (fun t h => Ke0 (t 1) h) ke0)) t h :=
  cond_ok H0 (by kernel_rfl) (F30_7_ok Kn Kr Ke0 t h) (F30_8_ok Kn Kr Ke0 t h) (by kernel_rfl)
def F30_4 (x1 x4 : Value) (h : H) (Kn : Value → H → Prop) (Kr : Value → H → Prop) (Ke0 : Value → H → Prop) : Prop :=
  F30_5 x1 x4 h (fun y1 y4 y5 h => F30_6 y1 y4 y5 h Kn Kr Ke0) Kr Ke0
theorem F30_4_ok (Kn Kr Ke0) (t : T) (h : H) (H0 : F30_4 (t 1) (t 4) h Kn Kr Ke0) : Wp Try.prog 98 (blkC (rest 1 (seqL (rest 1 (bodyOf Try.f30.body))))) (mkQ (fun t h => Kn (t 1) h) (fun t h => Kr (t 2) h) (keAdd 0 (fun t h => Ke0 (t 1) h) ke0)) t h :=
  seq_ok (by kernel_rfl) (fun t h H1 => F30_6_ok Kn Kr Ke0 t h H1) (F30_5_ok (fun y1 y4 y5 h => F30_6 y1 y4 y5 h Kn Kr Ke0) Kr Ke0 t h H0)
def F30_3 (x1 x4 : Value) (h : H) (Kn : Value → H → Prop) (Kr : Value → H → Prop) : Prop :=
  F30_4 x1 x4 h Kn Kr Kn
theorem F30_3_ok (Kn Kr) (t : T) (h : H) (H0 : F30_3 (t 1) (t 4) h Kn Kr) : Wp Try.prog 98 (rest 1 (seqL (rest 1 (bodyOf Try.f30.body)))) (mkQ (fun t h => Kn (t 1) h) (fun t h => Kr (t 2) h) ke0) t h :=
  block_ok 0 (by kernel_rfl) (by kernel_rfl) (F30_4_ok Kn Kr Kn t h H0)
def F30_2 (x1 : Value) (h : H) (Kn : Value → H → Prop) (Kr : Value → H → Prop) : Prop :=
  o_fieldAddr 0 x1 fun v3 => o_load false 1 v3 h fun v4 => F30_3 x1 v4 h Kn Kr
theorem F30_2_ok (Kn Kr) (t : T) (h : H) (H0 : F30_2 (t 1) h Kn Kr) : Wp Try.prog 98 (seqL (rest 1 (bodyOf Try.f30.body))) (mkQ (fun t h => Kn (t 1) h) (fun t h => Kr (t 2) h) ke0) t h :=
  awpTo_okF 1 H0 (by kernel_rfl) (fun t h (H1 : F30_3 (t 1) (t 4) h Kn Kr) => F30_3_ok Kn Kr t h H1) (by kernel_rfl)
def F30_30 (x1 : Value) (h : H) (Kn : Value → H → Prop) (Kr : Value → H → Prop) : Prop :=
  o_fieldAddr 4 x1 fun v95 => o_load false 1 v95 h fun v96 => o_bin Try.prog .eql 27 v96 (.int .u32 0) fun v97 => Kr v97 h
theorem F30_30_ok (Kn Kr) (t : T) (h : H) (H0 : F30_30 (t 1) h Kn Kr) : Wp Try.prog 98 (seqR (rest 1 (bodyOf Try.f30.body))) (mkQ (fun t h => Kn (t 2) h) (fun t h => Kr (t 2) h) ke0) t h :=
  wpEqF H0 (by kernel_rfl)
def F30_1 (x1 : Value) (h : H) (Kn : Value → H → Prop) (Kr : Value → H → Prop) : Prop :=
  F30_2 x1 h (fun y1 h => F30_30 y1 h Kn Kr) Kr
theorem F30_1_ok (Kn Kr) (t : T) (h : H) (H0 : F30_1 (t 1) h Kn Kr) : Wp Try.prog 98 (rest 1 (bodyOf Try.f30.body)) (mkQ (fun t h => Kn (t 2) h) (fun t h => Kr (t 2) h) ke0) t h :=
  seq_ok (by kernel_rfl) (fun t h H1 => F30_30_ok Kn Kr t h H1) (F30_2_ok (fun y1 h => F30_30 y1 h Kn Kr) Kr t h H0)
def F30_0 (x0 : Value) (h : H) (Kn : Value → H → Prop) (Kr : Value → H → Prop) : Prop :=
  boxV x0 = true ∧ o_new (Value.cells x0).toList 29 .exact h fun b1 h => F30_1 (.pointer (some ⟨b1, 0, none⟩)) h Kn Kr
theorem F30_0_ok (Kn Kr) (t : T) (h : H) (H0 : F30_0 (t 0) h Kn Kr) : Wp Try.prog 98 (bodyOf Try.f30.body) (mkQ (fun t h => Kn (t 2) h) (fun t h => Kr (t 2) h) ke0) t h :=
  awpTo_okF 1 H0 (by kernel_rfl) (fun t h (H1 : F30_1 (t 1) h Kn Kr) => F30_1_ok Kn Kr t h H1) (by kernel_rfl)
def F30 (x0 : Value) (h : H) (Q : Value → H → Prop) : Prop := F30_0 x0 h (fun v h => Q v h) (fun v h => Q v h)
theorem F30_spec (x0 : Value) (h : H) (Q : Value → H → Prop) (H0 : F30 x0 h Q) : AM.Spec Try.prog 30 [x0] h Q :=
  spec_wp mixed (fn := Try.f30) Try.func30 (c := bodyOf Try.f30.body) (rs := [2]) (N := 98) (by kernel_rfl) (by kernel_rfl) (by kernel_rfl) (by kernel_rfl) (by kernel_rfl) (Nat.le_of_ble_eq_true rfl) (F30_0_ok (fun v h => Q v h) (fun v h => Q v h) (tinit [x0]) h H0) (by kernel_rfl)
/-! #### 31: tincture/ir.field -/
def F31_0 (x0 x1 : Value) (h : H) (Kn : Value → H → Prop) (Kr : Value → H → Prop) : Prop :=
  o_bin Try.prog .eql 3 x1 (.int .i64 0) fun v6 => o_guard v6 false (fun k11 => o_guard x0 true (fun k6 => o_bin Try.prog .gtr 3 x1 (.int .i64 0) fun v11 => k6 v11 h) (fun v11 h => o_pick x0 v11 (.bool false) fun v12 => o_guard v12 true (fun k10 => o_bin Try.prog .lss 3 x1 (.int .i64 256) fun v15 => k10 v15 h) (fun v15 h => o_pick v12 v15 (.bool false) fun v16 => k11 v16 h) h) h) (fun v16 h => o_pick v6 (.bool true) v16 fun v17 => Kr v17 h) h
theorem F31_0_ok (Kn Kr) (t : T) (h : H) (H0 : F31_0 (t 0) (t 1) h Kn Kr) : Wp Try.prog 18 (bodyOf Try.f31.body) (mkQ (fun t h => Kn (t 4) h) (fun t h => Kr (t 4) h) ke0) t h :=
  wpEqF H0 (by kernel_rfl)
def F31 (x0 x1 : Value) (h : H) (Q : Value → H → Prop) : Prop := F31_0 x0 x1 h (fun v h => Q v h) (fun v h => Q v h)
theorem F31_spec (x0 x1 : Value) (h : H) (Q : Value → H → Prop) (H0 : F31 x0 x1 h Q) : AM.Spec Try.prog 31 [x0, x1] h Q :=
  spec_wp mixed (fn := Try.f31) Try.func31 (c := bodyOf Try.f31.body) (rs := [4]) (N := 18) (by kernel_rfl) (by kernel_rfl) (by kernel_rfl) (by kernel_rfl) (by kernel_rfl) (Nat.le_of_ble_eq_true rfl) (F31_0_ok (fun v h => Q v h) (fun v h => Q v h) (tinit [x0, x1]) h H0) (by kernel_rfl)
/-! #### 32: slices.IndexFunc[[]int,int] -/
def F32_5 (x0 x1 x7 x8 : Value) (h : H) (Kn : Value → Value → Value → Value → H → Prop) (Kr : Value → H → Prop) (Ke0 : H → Prop) : Prop :=
  o_bin Try.prog .lss 3 x8 x7 fun v9 => o_if v9 (o_indexAddr none 1 x0 x8 fun v14 => o_load false 1 v14 h fun v15 => o_dyn Try.prog x1 [v15] h fun v16 h => o_if v16 (Kr x8 h) (o_bin Try.prog .add 3 x8 (.int .i64 1) fun v18 => Kn x0 x1 x7 v18 h)) (Ke0 h)
theorem F32_5_ok (Kn Kr Ke0) (t : T) (h : H) (H0 : F32_5 (t 0) (t 1) (t 7) (t 8) h Kn Kr Ke0) : Wp Try.prog 19 (lopC (blkC (rest 1 (seqL (rest 1 (bodyOf Try.f32.body)))))) (mkQ (fun t h => Kn (t 0) (t 1) (t 7) (t 8) h) (fun t h => Kr (t 4) h) (keAdd 0 (fun t h => Ke0  h) ke0)) t h :=
  wpEqF H0 (by kernel_rfl)
def F32_4 (x0 x1 x7 x8 : Value) (h : H) (Kn : H → Prop) (Kr : Value → H → Prop) (Ke0 : H → Prop) : Prop :=
  sloop (S := Value × Value × Value × Value) (fun s h K => F32_5 s.1 s.2.1 s.2.2.1 s.2.2.2 h (fun y0 y1 y7 y8 h => K (y0, y1, y7, y8) h) Kr Ke0) (x0, x1, x7, x8) h
theorem F32_4_ok (Kn Kr Ke0) (t : T) (h : H) (H0 : F32_4 (t 0) (t 1) (t 7) (t 8) h Kn Kr Ke0) : Wp Try.prog 19 (blkC (rest 1 (seqL (rest 1 (bodyOf Try.f32.body))))) (mkQ (fun t h => Kn  h) (fun t h => Kr (t 4) h) (keAdd 0 (fun t h => Ke0  h) ke0)) t h :=
  loop_ok (fun t => (t 0, t 1, t 7, t 8)) (by kernel_rfl) (fun t h K H1 => F32_5_ok (fun y0 y1 y7 y8 h => K (y0, y1, y7, y8) h) Kr Ke0 t h H1) H0
def F32_3 (x0 x1 x7 x8 : Value) (h : H) (Kn : H → Prop) (Kr : Value → H → Prop) : Prop :=
  F32_4 x0 x1 x7 x8 h Kn Kr Kn
theorem F32_3_ok (Kn Kr) (t : T) (h : H) (H0 : F32_3 (t 0) (t 1) (t 7) (t 8) h Kn Kr) : Wp Try.prog 19 (rest 1 (seqL (rest 1 (bodyOf Try.f32.body)))) (mkQ (fun t h => Kn  h) (fun t h => Kr (t 4) h) ke0) t h :=
  block_ok 0 (by kernel_rfl) (by kernel_rfl) (F32_4_ok Kn Kr Kn t h H0)
def F32_2 (x0 x1 : Value) (h : H) (Kn : H → Prop) (Kr : Value → H → Prop) : Prop :=
  o_lenSl x0 fun v7 => F32_3 x0 x1 v7 (.int .i64 0) h Kn Kr
theorem F32_2_ok (Kn Kr) (t : T) (h : H) (H0 : F32_2 (t 0) (t 1) h Kn Kr) : Wp Try.prog 19 (seqL (rest 1 (bodyOf Try.f32.body))) (mkQ (fun t h => Kn  h) (fun t h => Kr (t 4) h) ke0) t h :=
  awpTo_okF 1 H0 (by kernel_rfl) (fun t h (H1 : F32_3 (t 0) (t 1) (t 7) (t 8) h Kn Kr) => F32_3_ok Kn Kr t h H1) (by kernel_rfl)
def F32_6 (h : H) (Kn : Value → H → Prop) (Kr : Value → H → Prop) : Prop :=
  Kr (.int .i64 (-1)) h
theorem F32_6_ok (Kn Kr) (t : T) (h : H) (H0 : F32_6  h Kn Kr) : Wp Try.prog 19 (seqR (rest 1 (bodyOf Try.f32.body))) (mkQ (fun t h => Kn (t 4) h) (fun t h => Kr (t 4) h) ke0) t h :=
  wpEqF H0 (by kernel_rfl)
def F32_1 (x0 x1 : Value) (h : H) (Kn : Value → H → Prop) (Kr : Value → H → Prop) : Prop :=
  F32_2 x0 x1 h (fun  h => F32_6  h Kn Kr) Kr
theorem F32_1_ok (Kn Kr) (t : T) (h : H) (H0 : F32_1 (t 0) (t 1) h Kn Kr) : Wp Try.prog 19 (rest 1 (bodyOf Try.f32.body)) (mkQ (fun t h => Kn (t 4) h) (fun t h => Kr (t 4) h) ke0) t h :=
  seq_ok (by kernel_rfl) (fun t h H1 => F32_6_ok Kn Kr t h H1) (F32_2_ok (fun  h => F32_6  h Kn Kr) Kr t h H0)
def F32_0 (x0 x1 : Value) (h : H) (Kn : Value → H → Prop) (Kr : Value → H → Prop) : Prop :=
  F32_1 x0 x1 h Kn Kr
theorem F32_0_ok (Kn Kr) (t : T) (h : H) (H0 : F32_0 (t 0) (t 1) h Kn Kr) : Wp Try.prog 19 (bodyOf Try.f32.body) (mkQ (fun t h => Kn (t 4) h) (fun t h => Kr (t 4) h) ke0) t h :=
  awpTo_okF 1 H0 (by kernel_rfl) (fun t h (H1 : F32_1 (t 0) (t 1) h Kn Kr) => F32_1_ok Kn Kr t h H1) (by kernel_rfl)
def F32 (x0 x1 : Value) (h : H) (Q : Value → H → Prop) : Prop := F32_0 x0 x1 h (fun v h => Q v h) (fun v h => Q v h)
theorem F32_spec (x0 x1 : Value) (h : H) (Q : Value → H → Prop) (H0 : F32 x0 x1 h Q) : AM.Spec Try.prog 32 [x0, x1] h Q :=
  spec_wp mixed (fn := Try.f32) Try.func32 (c := bodyOf Try.f32.body) (rs := [4]) (N := 19) (by kernel_rfl) (by kernel_rfl) (by kernel_rfl) (by kernel_rfl) (by kernel_rfl) (Nat.le_of_ble_eq_true rfl) (F32_0_ok (fun v h => Q v h) (fun v h => Q v h) (tinit [x0, x1]) h H0) (by kernel_rfl)
/-! #### 33: (tincture/fold.known).both -/
def F33_0 (x0 x1 : Value) (h : H) (Kn : Value → Value → Value → H → Prop) (Kr : Value → Value → Value → H → Prop) : Prop :=
  boxV x1 = true ∧ o_new (Value.cells x1).toList 29 .exact h fun b3 h => o_fieldAddr 2 (.pointer (some ⟨b3, 0, none⟩)) fun v11 => o_load false 1 v11 h fun v12 => o_lookup (.int .i64) (.int .u32 0) x0 v12 true h fun v13 => o_extract v13 0 fun v14 => o_extract v13 1 fun v15 => o_fieldAddr 3 (.pointer (some ⟨b3, 0, none⟩)) fun v18 => o_load false 1 v18 h fun v19 => o_lookup (.int .i64) (.int .u32 0) x0 v19 true h fun v20 => o_extract v20 0 fun v21 => o_extract v20 1 fun v22 => o_guard v15 true (fun k4 => k4 v22 h) (fun v27 h => o_pick v15 v27 (.bool false) fun v28 => Kr v14 v21 v28 h) h
theorem F33_0_ok (Kn Kr) (t : T) (h : H) (H0 : F33_0 (t 0) (t 1) h Kn Kr) : Wp Try.prog 29 (bodyOf Try.f33.body) (mkQ (fun t h => Kn (t 4) (t 5) (t 6) h) (fun t h => Kr (t 4) (t 5) (t 6) h) ke0) t h :=
  wpEqF H0 (by kernel_rfl)
def F33 (x0 x1 : Value) (h : H) (Q : Value → H → Prop) : Prop := F33_0 x0 x1 h (fun y4 y5 y6 h => bif [y4, y5, y6].all boxV then Q (.tuple #[y4, y5, y6]) h else False) (fun y4 y5 y6 h => bif [y4, y5, y6].all boxV then Q (.tuple #[y4, y5, y6]) h else False)
theorem F33_spec (x0 x1 : Value) (h : H) (Q : Value → H → Prop) (H0 : F33 x0 x1 h Q) : AM.Spec Try.prog 33 [x0, x1] h Q :=
  spec_wp mixed (fn := Try.f33) Try.func33 (c := bodyOf Try.f33.body) (rs := [4, 5, 6]) (N := 29) (by kernel_rfl) (by kernel_rfl) (by kernel_rfl) (by kernel_rfl) (by kernel_rfl) (Nat.le_of_ble_eq_true rfl) (F33_0_ok (fun y4 y5 y6 h => bif [y4, y5, y6].all boxV then Q (.tuple #[y4, y5, y6]) h else False) (fun y4 y5 y6 h => bif [y4, y5, y6].all boxV then Q (.tuple #[y4, y5, y6]) h else False) (tinit [x0, x1]) h H0) (by kernel_rfl)
/-! #### 34: tincture/alu.Do -/
def F34_0 (x0 x1 x2 : Value) (h : H) (Kn : Value → Value → H → Prop) (Kr : Value → Value → H → Prop) : Prop :=
  o_call Try.prog 37 [x0, x1, x2] h fun v22 h => o_extract v22 0 fun v23 => o_extract v22 1 fun v24 => o_if v24 (Kr v23 (.int .i64 0) h) (o_bin Try.prog .eql 3 x0 (.int .i64 10) fun v29 => o_if v29 (o_bin Try.prog .mul 27 x1 x2 fun v32 => Kr v32 (.int .i64 0) h) (o_bin Try.prog .eql 3 x0 (.int .i64 11) fun v34 => o_if v34 (o_conv .i32 x1 fun v36 => o_conv .i64 v36 fun v37 => o_conv .i32 x2 fun v39 => o_conv .i64 v39 fun v40 => o_bin Try.prog .mul 2 v37 v40 fun v41 => o_bin Try.prog .shr 2 v41 (.int .u64 32) fun v42 => o_conv .u32 v42 fun v43 => Kr v43 (.int .i64 0) h) (o_bin Try.prog .eql 3 x0 (.int .i64 12) fun v45 => o_if v45 (o_conv .i32 x1 fun v47 => o_conv .i64 v47 fun v48 => o_conv .i64 x2 fun v50 => o_bin Try.prog .mul 2 v48 v50 fun v51 => o_bin Try.prog .shr 2 v51 (.int .u64 32) fun v52 => o_conv .u32 v52 fun v53 => Kr v53 (.int .i64 0) h) (o_bin Try.prog .eql 3 x0 (.int .i64 13) fun v55 => o_if v55 (o_conv .u64 x1 fun v57 => o_conv .u64 x2 fun v59 => o_bin Try.prog .mul 61 v57 v59 fun v60 => o_bin Try.prog .shr 61 v60 (.int .u64 32) fun v61 => o_conv .u32 v61 fun v62 => Kr v62 (.int .i64 0) h) (o_bin Try.prog .eql 3 x0 (.int .i64 14) fun v64 => o_if v64 (o_call Try.prog 38 [x1, x2] h fun v68 h => o_extract v68 0 fun v69 => o_extract v68 1 fun v70 => Kr v69 (.int .i64 0) h) (o_bin Try.prog .eql 3 x0 (.int .i64 15) fun v73 => o_if v73 (o_call Try.prog 39 [x1, x2] h fun v77 h => o_extract v77 0 fun v78 => o_extract v77 1 fun v79 => Kr v78 (.int .i64 0) h) (o_bin Try.prog .eql 3 x0 (.int .i64 16) fun v82 => o_if v82 (o_call Try.prog 38 [x1, x2] h fun v86 h => o_extract v86 0 fun v87 => o_extract v86 1 fun v88 => Kr v88 (.int .i64 0) h) (o_bin Try.prog .eql 3 x0 (.int .i64 17) fun v91 => o_if v91 (o_call Try.prog 39 [x1, x2] h fun v95 h => o_extract v95 0 fun v96 => o_extract v95 1 fun v97 => Kr v97 (.int .i64 0) h) (Kr (.int .u32 0) (.int .i64 1) h)))))))))
theorem F34_0_ok (Kn Kr) (t : T) (h : H) (H0 : F34_0 (t 0) (t 1) (t 2) h Kn Kr) : Wp Try.prog 99 (bodyOf Try.f34.body) (mkQ (fun t h => Kn (t 6) (t 7) h) (fun t h => Kr (t 6) (t 7) h) ke0) t h :=
  wpEqF H0 (by kernel_rfl)
def F34 (x0 x1 x2 : Value) (h : H) (Q : Value → H → Prop) : Prop := F34_0 x0 x1 x2 h (fun y6 y7 h => bif [y6, y7].all boxV then Q (.tuple #[y6, y7]) h else False) (fun y6 y7 h => bif [y6, y7].all boxV then Q (.tuple #[y6, y7]) h else False)
theorem F34_spec (x0 x1 x2 : Value) (h : H) (Q : Value → H → Prop) (H0 : F34 x0 x1 x2 h Q) : AM.Spec Try.prog 34 [x0, x1, x2] h Q :=
  spec_wp mixed (fn := Try.f34) Try.func34 (c := bodyOf Try.f34.body) (rs := [6, 7]) (N := 99) (by kernel_rfl) (by kernel_rfl) (by kernel_rfl) (by kernel_rfl) (by kernel_rfl) (Nat.le_of_ble_eq_true rfl) (F34_0_ok (fun y6 y7 h => bif [y6, y7].all boxV then Q (.tuple #[y6, y7]) h else False) (fun y6 y7 h => bif [y6, y7].all boxV then Q (.tuple #[y6, y7]) h else False) (tinit [x0, x1, x2]) h H0) (by kernel_rfl)
/-! #### 35: tincture/alu.Test -/
def F35_0 (x0 x1 x2 : Value) (h : H) (Kn : Value → Value → H → Prop) (Kr : Value → Value → H → Prop) : Prop :=
  o_bin Try.prog .eql 3 x0 (.int .i64 0) fun v10 => o_if v10 (o_bin Try.prog .eql 27 x1 x2 fun v13 => Kr v13 (.int .i64 0) h) (o_bin Try.prog .eql 3 x0 (.int .i64 1) fun v15 => o_if v15 (o_bin Try.prog .neq 27 x1 x2 fun v18 => Kr v18 (.int .i64 0) h) (o_bin Try.prog .eql 3 x0 (.int .i64 4) fun v20 => o_if v20 (o_conv .i32 x1 fun v22 => o_conv .i32 x2 fun v24 => o_bin Try.prog .lss 21 v22 v24 fun v25 => Kr v25 (.int .i64 0) h) (o_bin Try.prog .eql 3 x0 (.int .i64 5) fun v27 => o_if v27 (o_conv .i32 x1 fun v29 => o_conv .i32 x2 fun v31 => o_bin Try.prog .geq 21 v29 v31 fun v32 => Kr v32 (.int .i64 0) h) (o_bin Try.prog .eql 3 x0 (.int .i64 6) fun v34 => o_if v34 (o_bin Try.prog .lss 27 x1 x2 fun v37 => Kr v37 (.int .i64 0) h) (o_bin Try.prog .eql 3 x0 (.int .i64 7) fun v39 => o_if v39 (o_bin Try.prog .geq 27 x1 x2 fun v42 => Kr v42 (.int .i64 0) h) (Kr (.bool false) (.int .i64 1) h))))))
theorem F35_0_ok (Kn Kr) (t : T) (h : H) (H0 : F35_0 (t 0) (t 1) (t 2) h Kn Kr) : Wp Try.prog 43 (bodyOf Try.f35.body) (mkQ (fun t h => Kn (t 6) (t 7) h) (fun t h => Kr (t 6) (t 7) h) ke0) t h :=
  wpEqF H0 (by kernel_rfl)
def F35 (x0 x1 x2 : Value) (h : H) (Q : Value → H → Prop) : Prop := F35_0 x0 x1 x2 h (fun y6 y7 h => bif [y6, y7].all boxV then Q (.tuple #[y6, y7]) h else False) (fun y6 y7 h => bif [y6, y7].all boxV then Q (.tuple #[y6, y7]) h else False)
theorem F35_spec (x0 x1 x2 : Value) (h : H) (Q : Value → H → Prop) (H0 : F35 x0 x1 x2 h Q) : AM.Spec Try.prog 35 [x0, x1, x2] h Q :=
  spec_wp mixed (fn := Try.f35) Try.func35 (c := bodyOf Try.f35.body) (rs := [6, 7]) (N := 43) (by kernel_rfl) (by kernel_rfl) (by kernel_rfl) (by kernel_rfl) (by kernel_rfl) (Nat.le_of_ble_eq_true rfl) (F35_0_ok (fun y6 y7 h => bif [y6, y7].all boxV then Q (.tuple #[y6, y7]) h else False) (fun y6 y7 h => bif [y6, y7].all boxV then Q (.tuple #[y6, y7]) h else False) (tinit [x0, x1, x2]) h H0) (by kernel_rfl)
/-! #### 36: tincture/ir.sized -/
def F36_0 (x0 : Value) (h : H) (Kn : Value → H → Prop) (Kr : Value → H → Prop) : Prop :=
  o_bin Try.prog .eql 27 x0 (.int .u32 1) fun v4 => o_guard v4 false (fun k4 => o_bin Try.prog .eql 27 x0 (.int .u32 2) fun v7 => k4 v7 h) (fun v7 h => o_pick v4 (.bool true) v7 fun v8 => o_guard v8 false (fun k8 => o_bin Try.prog .eql 27 x0 (.int .u32 4) fun v11 => k8 v11 h) (fun v11 h => o_pick v8 (.bool true) v11 fun v12 => Kr v12 h) h) h
theorem F36_0_ok (Kn Kr) (t : T) (h : H) (H0 : F36_0 (t 0) h Kn Kr) : Wp Try.prog 13 (bodyOf Try.f36.body) (mkQ (fun t h => Kn (t 2) h) (fun t h => Kr (t 2) h) ke0) t h :=
  wpEqF H0 (by kernel_rfl)
def F36 (x0 : Value) (h : H) (Q : Value → H → Prop) : Prop := F36_0 x0 h (fun v h => Q v h) (fun v h => Q v h)
theorem F36_spec (x0 : Value) (h : H) (Q : Value → H → Prop) (H0 : F36 x0 h Q) : AM.Spec Try.prog 36 [x0] h Q :=
  spec_wp mixed (fn := Try.f36) Try.func36 (c := bodyOf Try.f36.body) (rs := [2]) (N := 13) (by kernel_rfl) (by kernel_rfl) (by kernel_rfl) (by kernel_rfl) (by kernel_rfl) (Nat.le_of_ble_eq_true rfl) (F36_0_ok (fun v h => Q v h) (fun v h => Q v h) (tinit [x0]) h H0) (by kernel_rfl)
/-! #### 37: tincture/alu.simple -/
def F37_0 (x0 x1 x2 : Value) (h : H) (Kn : Value → Value → H → Prop) (Kr : Value → Value → H → Prop) : Prop :=
  o_bin Try.prog .eql 3 x0 (.int .i64 0) fun v10 => o_if v10 (o_bin Try.prog .add 27 x1 x2 fun v13 => Kr v13 (.bool true) h) (o_bin Try.prog .eql 3 x0 (.int .i64 1) fun v15 => o_if v15 (o_bin Try.prog .sub 27 x1 x2 fun v18 => Kr v18 (.bool true) h) (o_bin Try.prog .eql 3 x0 (.int .i64 2) fun v20 => o_if v20 (o_bin Try.prog .and 27 x2 (.int .u32 31) fun v23 => o_bin Try.prog .shl 27 x1 v23 fun v24 => Kr v24 (.bool true) h) (o_bin Try.prog .eql 3 x0 (.int .i64 6) fun v26 => o_if v26 (o_bin Try.prog .and 27 x2 (.int .u32 31) fun v29 => o_bin Try.prog .shr 27 x1 v29 fun v30 => Kr v30 (.bool true) h) (o_bin Try.prog .eql 3 x0 (.int .i64 7) fun v32 => o_if v32 (o_conv .i32 x1 fun v34 => o_bin Try.prog .and 27 x2 (.int .u32 31) fun v36 => o_bin Try.prog .shr 21 v34 v36 fun v37 => o_conv .u32 v37 fun v38 => Kr v38 (.bool true) h) (o_bin Try.prog .eql 3 x0 (.int .i64 3) fun v40 => o_if v40 (o_conv .i32 x1 fun v42 => o_conv .i32 x2 fun v44 => o_bin Try.prog .lss 21 v42 v44 fun v45 => o_call Try.prog 40 [v45] h fun v46 h => Kr v46 (.bool true) h) (o_bin Try.prog .eql 3 x0 (.int .i64 4) fun v48 => o_if v48 (o_bin Try.prog .lss 27 x1 x2 fun v51 => o_call Try.prog 40 [v51] h fun v52 h => Kr v52 (.bool true) h) (o_bin Try.prog .eql 3 x0 (.int .i64 5) fun v54 => o_if v54 (o_bin Try.prog .xor 27 x1 x2 fun v57 => Kr v57 (.bool true) h) (o_bin Try.prog .eql 3 x0 (.int .i64 8) fun v59 => o_if v59 (o_bin Try.prog .or 27 x1 x2 fun v62 => Kr v62 (.bool true) h) (o_bin Try.prog .eql 3 x0 (.int .i64 9) fun v64 => o_if v64 (o_bin Try.prog .and 27 x1 x2 fun v67 => Kr v67 (.bool true) h) (Kr (.int .u32 0) (.bool false) h))))))))))
theorem F37_0_ok (Kn Kr) (t : T) (h : H) (H0 : F37_0 (t 0) (t 1) (t 2) h Kn Kr) : Wp Try.prog 68 (bodyOf Try.f37.body) (mkQ (fun t h => Kn (t 6) (t 7) h) (fun t h => Kr (t 6) (t 7) h) ke0) t h :=
  wpEqF H0 (by kernel_rfl)
def F37 (x0 x1 x2 : Value) (h : H) (Q : Value → H → Prop) : Prop := F37_0 x0 x1 x2 h (fun y6 y7 h => bif [y6, y7].all boxV then Q (.tuple #[y6, y7]) h else False) (fun y6 y7 h => bif [y6, y7].all boxV then Q (.tuple #[y6, y7]) h else False)
theorem F37_spec (x0 x1 x2 : Value) (h : H) (Q : Value → H → Prop) (H0 : F37 x0 x1 x2 h Q) : AM.Spec Try.prog 37 [x0, x1, x2] h Q :=
  spec_wp mixed (fn := Try.f37) Try.func37 (c := bodyOf Try.f37.body) (rs := [6, 7]) (N := 68) (by kernel_rfl) (by kernel_rfl) (by kernel_rfl) (by kernel_rfl) (by kernel_rfl) (Nat.le_of_ble_eq_true rfl) (F37_0_ok (fun y6 y7 h => bif [y6, y7].all boxV then Q (.tuple #[y6, y7]) h else False) (fun y6 y7 h => bif [y6, y7].all boxV then Q (.tuple #[y6, y7]) h else False) (tinit [x0, x1, x2]) h H0) (by kernel_rfl)
/-! #### 38: tincture/alu.divide -/
def F38_2 (x0 x1 : Value) (h : H) (Kn : Value → Value → H → Prop) (Kr : Value → Value → H → Prop) : Prop :=
  o_conv .i32 x0 fun v19 => o_conv .i32 x1 fun v21 => o_bin Try.prog .quo 21 v19 v21 fun v22 => o_conv .u32 v22 fun v23 => o_conv .i32 x0 fun v25 => o_conv .i32 x1 fun v27 => o_bin Try.prog .rem 21 v25 v27 fun v28 => o_conv .u32 v28 fun v29 => Kn v23 v29 h
theorem F38_2_ok (Kn Kr) (t : T) (h : H) (H0 : F38_2 (t 0) (t 1) h Kn Kr) : Wp Try.prog 30 (seqL (rest 2 (bodyOf Try.f38.body))) (mkQ (fun t h => Kn (t 4) (t 5) h) (fun t h => Kr (t 4) (t 5) h) ke0) t h :=
  draw_okF (by kernel_rfl) (by kernel_rfl) H0 (by kernel_rfl)
def F38_3 (x4 x5 : Value) (h : H) (Kn : Value → Value → H → Prop) (Kr : Value → Value → H → Prop) : Prop :=
  Kr x4 x5 h
theorem F38_3_ok (Kn Kr) (t : T) (h : H) (H0 : F38_3 (t 4) (t 5) h Kn Kr) : Wp Try.prog 30 (seqR (rest 2 (bodyOf Try.f38.body))) (mkQ (fun t h => Kn (t 4) (t 5) h) (fun t h => Kr (t 4) (t 5) h) ke0) t h :=
  wpEqF H0 (by kernel_rfl)
def F38_1 (x0 x1 : Value) (h : H) (Kn : Value → Value → H → Prop) (Kr : Value → Value → H → Prop) : Prop :=
  F38_2 x0 x1 h (fun y4 y5 h => F38_3 y4 y5 h Kn Kr) Kr
theorem F38_1_ok (Kn Kr) (t : T) (h : H) (H0 : F38_1 (t 0) (t 1) h Kn Kr) : Wp Try.prog 30 (rest 2 (bodyOf Try.f38.body)) (mkQ (fun t h => Kn (t 4) (t 5) h) (fun t h => Kr (t 4) (t 5) h) ke0) t h :=
  seq_ok (by kernel_rfl) (fun t h H1 => F38_3_ok Kn Kr t h H1) (F38_2_ok (fun y4 y5 h => F38_3 y4 y5 h Kn Kr) Kr t h H0)
def F38_0 (x0 x1 : Value) (h : H) (Kn : Value → Value → H → Prop) (Kr : Value → Value → H → Prop) : Prop :=
  o_bin Try.prog .eql 27 x1 (.int .u32 0) fun v8 => o_if v8 (Kr (.int .u32 4294967295) x0 h) (o_bin Try.prog .eql 27 x0 (.int .u32 2147483648) fun v12 => o_guard v12 true (fun k4 => o_bin Try.prog .eql 27 x1 (.int .u32 4294967295) fun v15 => k4 v15 h) (fun v15 h => o_pick v12 v15 (.bool false) fun v16 => o_if v16 (Kr x0 (.int .u32 0) h) (F38_1 x0 x1 h Kn Kr)) h)
theorem F38_0_ok (Kn Kr) (t : T) (h : H) (H0 : F38_0 (t 0) (t 1) h Kn Kr) : Wp Try.prog 30 (bodyOf Try.f38.body) (mkQ (fun t h => Kn (t 4) (t 5) h) (fun t h => Kr (t 4) (t 5) h) ke0) t h :=
  awpTo_okF 2 H0 (by kernel_rfl) (fun t h (H1 : F38_1 (t 0) (t 1) h Kn Kr) => F38_1_ok Kn Kr t h H1) (by kernel_rfl)
def F38 (x0 x1 : Value) (h : H) (Q : Value → H → Prop) : Prop := F38_0 x0 x1 h (fun y4 y5 h => bif [y4, y5].all boxV then Q (.tuple #[y4, y5]) h else False) (fun y4 y5 h => bif [y4, y5].all boxV then Q (.tuple #[y4, y5]) h else False)
theorem F38_spec (x0 x1 : Value) (h : H) (Q : Value → H → Prop) (H0 : F38 x0 x1 h Q) : AM.Spec Try.prog 38 [x0, x1] h Q :=
  spec_wp mixed (fn := Try.f38) Try.func38 (c := bodyOf Try.f38.body) (rs := [4, 5]) (N := 30) (by kernel_rfl) (by kernel_rfl) (by kernel_rfl) (by kernel_rfl) (by kernel_rfl) (Nat.le_of_ble_eq_true rfl) (F38_0_ok (fun y4 y5 h => bif [y4, y5].all boxV then Q (.tuple #[y4, y5]) h else False) (fun y4 y5 h => bif [y4, y5].all boxV then Q (.tuple #[y4, y5]) h else False) (tinit [x0, x1]) h H0) (by kernel_rfl)
/-! #### 39: tincture/alu.divideu -/
def F39_2 (x0 x1 : Value) (h : H) (Kn : Value → Value → H → Prop) (Kr : Value → Value → H → Prop) : Prop :=
  o_bin Try.prog .quo 27 x0 x1 fun v11 => o_bin Try.prog .rem 27 x0 x1 fun v14 => Kn v11 v14 h
theorem F39_2_ok (Kn Kr) (t : T) (h : H) (H0 : F39_2 (t 0) (t 1) h Kn Kr) : Wp Try.prog 15 (seqL (rest 2 (bodyOf Try.f39.body))) (mkQ (fun t h => Kn (t 4) (t 5) h) (fun t h => Kr (t 4) (t 5) h) ke0) t h :=
  draw_okF (by kernel_rfl) (by kernel_rfl) H0 (by kernel_rfl)
def F39_3 (x4 x5 : Value) (h : H) (Kn : Value → Value → H → Prop) (Kr : Value → Value → H → Prop) : Prop :=
  Kr x4 x5 h
theorem F39_3_ok (Kn Kr) (t : T) (h : H) (H0 : F39_3 (t 4) (t 5) h Kn Kr) : Wp Try.prog 15 (seqR (rest 2 (bodyOf Try.f39.body))) (mkQ (fun t h => Kn (t 4) (t 5) h) (fun t h => Kr (t 4) (t 5) h) ke0) t h :=
  wpEqF H0 (by kernel_rfl)
def F39_1 (x0 x1 : Value) (h : H) (Kn : Value → Value → H → Prop) (Kr : Value → Value → H → Prop) : Prop :=
  F39_2 x0 x1 h (fun y4 y5 h => F39_3 y4 y5 h Kn Kr) Kr
theorem F39_1_ok (Kn Kr) (t : T) (h : H) (H0 : F39_1 (t 0) (t 1) h Kn Kr) : Wp Try.prog 15 (rest 2 (bodyOf Try.f39.body)) (mkQ (fun t h => Kn (t 4) (t 5) h) (fun t h => Kr (t 4) (t 5) h) ke0) t h :=
  seq_ok (by kernel_rfl) (fun t h H1 => F39_3_ok Kn Kr t h H1) (F39_2_ok (fun y4 y5 h => F39_3 y4 y5 h Kn Kr) Kr t h H0)
def F39_0 (x0 x1 : Value) (h : H) (Kn : Value → Value → H → Prop) (Kr : Value → Value → H → Prop) : Prop :=
  o_bin Try.prog .eql 27 x1 (.int .u32 0) fun v7 => o_if v7 (Kr (.int .u32 4294967295) x0 h) (F39_1 x0 x1 h Kn Kr)
theorem F39_0_ok (Kn Kr) (t : T) (h : H) (H0 : F39_0 (t 0) (t 1) h Kn Kr) : Wp Try.prog 15 (bodyOf Try.f39.body) (mkQ (fun t h => Kn (t 4) (t 5) h) (fun t h => Kr (t 4) (t 5) h) ke0) t h :=
  awpTo_okF 2 H0 (by kernel_rfl) (fun t h (H1 : F39_1 (t 0) (t 1) h Kn Kr) => F39_1_ok Kn Kr t h H1) (by kernel_rfl)
def F39 (x0 x1 : Value) (h : H) (Q : Value → H → Prop) : Prop := F39_0 x0 x1 h (fun y4 y5 h => bif [y4, y5].all boxV then Q (.tuple #[y4, y5]) h else False) (fun y4 y5 h => bif [y4, y5].all boxV then Q (.tuple #[y4, y5]) h else False)
theorem F39_spec (x0 x1 : Value) (h : H) (Q : Value → H → Prop) (H0 : F39 x0 x1 h Q) : AM.Spec Try.prog 39 [x0, x1] h Q :=
  spec_wp mixed (fn := Try.f39) Try.func39 (c := bodyOf Try.f39.body) (rs := [4, 5]) (N := 15) (by kernel_rfl) (by kernel_rfl) (by kernel_rfl) (by kernel_rfl) (by kernel_rfl) (Nat.le_of_ble_eq_true rfl) (F39_0_ok (fun y4 y5 h => bif [y4, y5].all boxV then Q (.tuple #[y4, y5]) h else False) (fun y4 y5 h => bif [y4, y5].all boxV then Q (.tuple #[y4, y5]) h else False) (tinit [x0, x1]) h H0) (by kernel_rfl)
/-! #### 40: tincture/alu.bit -/
def F40_0 (x0 : Value) (h : H) (Kn : Value → H → Prop) (Kr : Value → H → Prop) : Prop :=
  o_if x0 (Kr (.int .u32 1) h) (Kr (.int .u32 0) h)
theorem F40_0_ok (Kn Kr) (t : T) (h : H) (H0 : F40_0 (t 0) h Kn Kr) : Wp Try.prog 4 (bodyOf Try.f40.body) (mkQ (fun t h => Kn (t 2) h) (fun t h => Kr (t 2) h) ke0) t h :=
  wpEqF H0 (by kernel_rfl)
def F40 (x0 : Value) (h : H) (Q : Value → H → Prop) : Prop := F40_0 x0 h (fun v h => Q v h) (fun v h => Q v h)
theorem F40_spec (x0 : Value) (h : H) (Q : Value → H → Prop) (H0 : F40 x0 h Q) : AM.Spec Try.prog 40 [x0] h Q :=
  spec_wp mixed (fn := Try.f40) Try.func40 (c := bodyOf Try.f40.body) (rs := [2]) (N := 4) (by kernel_rfl) (by kernel_rfl) (by kernel_rfl) (by kernel_rfl) (by kernel_rfl) (Nat.le_of_ble_eq_true rfl) (F40_0_ok (fun v h => Q v h) (fun v h => Q v h) (tinit [x0]) h H0) (by kernel_rfl)
end Go.Proofs.Ytpdleknbcgpemaa
