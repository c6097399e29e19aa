/-
  Functions of the program, taken apart over the abstract memory: each piece of the loaded code as a proposition; printed by a program (gen.py).
-/
import Derived.Test.YtcohcmlidmaaoaaGreatK1
import Derived.Test.YtcohcmlidmaaoaaGreatM4
import Derived.KernelRfl
set_option linter.unusedVariables false
set_option maxRecDepth 100000
namespace Go.Proofs.YtcohcmlidmaaoaaGreat
open Go.Proofs.YtcohcmlidmaaoaaGreat.AM
abbrev u0 (K : H → Prop) : T → H → Prop := fun t h => K  h
abbrev u1 (K : Value → H → Prop) (a0 : Nat) : T → H → Prop := fun t h => K (t a0) h
abbrev u2 (K : Value → Value → H → Prop) (a0 a1 : Nat) : T → H → Prop := fun t h => K (t a0) (t a1) h
abbrev u3 (K : Value → Value → Value → H → Prop) (a0 a1 a2 : Nat) : T → H → Prop := fun t h => K (t a0) (t a1) (t a2) h
abbrev u4 (K : Value → Value → Value → Value → H → Prop) (a0 a1 a2 a3 : Nat) : T → H → Prop := fun t h => K (t a0) (t a1) (t a2) (t a3) h
abbrev u5 (K : Value → Value → Value → Value → Value → H → Prop) (a0 a1 a2 a3 a4 : Nat) : T → H → Prop := fun t h => K (t a0) (t a1) (t a2) (t a3) (t a4) h
abbrev UP1 := Value → H → Prop
abbrev UP2 := Value → Value → H → Prop
abbrev UP3 := Value → Value → Value → H → Prop
abbrev UP4 := Value → Value → Value → Value → H → Prop
abbrev UP5 := Value → Value → Value → Value → Value → H → Prop
/-! #### 8: tincture/ir.Good -/
def F8_7 (x0 x3 x24 x25 x26 : Value) (h : H) (Kn : UP5) (Kr : UP1) (Ke0 : UP1) : Prop :=
  o_indexAddr none 5 x24 x26 fun v28 => o_load true 5 v28 h fun v29 => o_new [.int .i64 0, .int .i64 0, .int .i64 0, .int .i64 0, .int .u32 0] 40 .exact h fun b5 h => o_store 5 (.pointer (some ⟨b5, 0, none⟩)) v29 h fun h => o_load true 5 (.pointer (some ⟨b5, 0, none⟩)) h fun v30 => o_call Tryz.prog 17 [v30] h fun v31 h => o_un Tryz.prog .not v31 fun v32 => o_guard v32 false (fun k13 => o_fieldAddr 0 (.pointer (some ⟨b5, 0, none⟩)) fun v34 => o_load false 1 v34 h fun v35 => o_call Tryz.prog 18 [v35] h fun v36 h => o_guard v36 true (fun k12 => o_fieldAddr 1 (.pointer (some ⟨b5, 0, none⟩)) fun v38 => o_load false 1 v38 h fun v39 => o_indexAddr (some 256) 1 x3 v39 fun v40 => o_load false 1 v40 h fun v41 => o_un Tryz.prog .not v41 fun v42 => k12 v42 h) (fun v42 h => o_pick v36 v42 (.bool false) fun v43 => k13 v43 h) h) (fun v43 h => o_pick v32 (.bool true) v43 fun v44 => o_if v44 (Kr (.bool false) h) (o_load true 5 (.pointer (some ⟨b5, 0, none⟩)) h fun v45 => o_call Tryz.prog 20 [v45] h fun v46 h => List.all [] plainC = true ∧ List.all [x3] plainC = true ∧ o_call Tryz.prog 19 [v46, (.func (.func 21) #[] #[x3])] h fun v48 h => o_if v48 (Kr (.bool false) h) (o_load true 5 (.pointer (some ⟨b5, 0, none⟩)) h fun v50 => o_call Tryz.prog 22 [v50] h fun v51 h => o_extract v51 0 fun v52 => o_extract v51 1 fun v53 => o_if v53 (o_indexAddr (some 256) 1 x3 v52 fun v56 => o_store 1 v56 (.bool true) h fun h => Kn x0 x3 x24 x25 x26 h) (Kn x0 x3 x24 x25 x26 h)))) h
theorem F8_7_ok (Kn Kr Ke0) (t : T) (h : H) (H0 : F8_7 (t 0) (t 3) (t 24) (t 25) (t 26) h Kn Kr Ke0) : Wp Tryz.prog 71 (seqL (rest 2 (lopC (blkC (rest 1 (seqL (rest 3 (bodyOf Tryz.f8.body)))))))) (mkQ (u5 Kn 0 3 24 25 26) (u1 Kr 2) (keAdd 0 (u1 Ke0 0) ke0)) t h :=
  wpEqF H0 (by kernel_rfl)
def F8_8 (x0 x3 x24 x25 x26 : Value) (h : H) (Kn : UP5) (Kr : UP1) (Ke0 : UP1) : Prop :=
  o_bin Tryz.prog .add 3 x26 (.int .i64 1) fun v57 => Kn x0 x3 x24 x25 v57 h
theorem F8_8_ok (Kn Kr Ke0) (t : T) (h : H) (H0 : F8_8 (t 0) (t 3) (t 24) (t 25) (t 26) h Kn Kr Ke0) : Wp Tryz.prog 71 (seqR (rest 2 (lopC (blkC (rest 1 (seqL (rest 3 (bodyOf Tryz.f8.body)))))))) (mkQ (u5 Kn 0 3 24 25 26) (u1 Kr 2) (keAdd 0 (u1 Ke0 0) ke0)) t h :=
  wpEqF H0 (by kernel_rfl)
def F8_6 (x0 x3 x24 x25 x26 : Value) (h : H) (Kn : UP5) (Kr : UP1) (Ke0 : UP1) : Prop :=
  F8_7 x0 x3 x24 x25 x26 h (fun y0 y3 y24 y25 y26 h => F8_8 y0 y3 y24 y25 y26 h Kn Kr Ke0) Kr Ke0
theorem F8_6_ok (Kn Kr Ke0) (t : T) (h : H) (H0 : F8_6 (t 0) (t 3) (t 24) (t 25) (t 26) h Kn Kr Ke0) : Wp Tryz.prog 71 (rest 2 (lopC (blkC (rest 1 (seqL (rest 3 (bodyOf Tryz.f8.body))))))) (mkQ (u5 Kn 0 3 24 25 26) (u1 Kr 2) (keAdd 0 (u1 Ke0 0) ke0)) t h :=
  seq_ok (by kernel_rfl) (fun t h H1 => F8_8_ok Kn Kr Ke0 t h H1) (F8_7_ok (fun y0 y3 y24 y25 y26 h => F8_8 y0 y3 y24 y25 y26 h Kn Kr Ke0) Kr Ke0 t h H0)
def F8_5 (x0 x3 x24 x25 x26 : Value) (h : H) (Kn : UP5) (Kr : UP1) (Ke0 : UP1) : Prop :=
  o_bin Tryz.prog .lss 3 x26 x25 fun v27 => o_if v27 (F8_6 x0 x3 x24 x25 x26 h Kn Kr Ke0) (Ke0 x0 h)
theorem F8_5_ok (Kn Kr Ke0) (t : T) (h : H) (H0 : F8_5 (t 0) (t 3) (t 24) (t 25) (t 26) h Kn Kr Ke0) : Wp Tryz.prog 71 (lopC (blkC (rest 1 (seqL (rest 3 (bodyOf Tryz.f8.body)))))) (mkQ (u5 Kn 0 3 24 25 26) (u1 Kr 2) (keAdd 0 (u1 Ke0 0) ke0)) t h :=
  awpTo_okF 2 H0 (by kernel_rfl) (fun t h (H1 : F8_6 (t 0) (t 3) (t 24) (t 25) (t 26) h Kn Kr Ke0) => F8_6_ok Kn Kr Ke0 t h H1) (by kernel_rfl)
def F8_4 (x0 x3 x24 x25 x26 : Value) (h : H) (Kn : UP1) (Kr : UP1) (Ke0 : UP1) : Prop :=
  sloop (S := Value × Value × Value × Value × Value) (fun s h K => F8_5 s.1 s.2.1 s.2.2.1 s.2.2.2.1 s.2.2.2.2 h (fun y0 y3 y24 y25 y26 h => K (y0, y3, y24, y25, y26) h) Kr Ke0) (x0, x3, x24, x25, x26) h
theorem F8_4_ok (Kn Kr Ke0) (t : T) (h : H) (H0 : F8_4 (t 0) (t 3) (t 24) (t 25) (t 26) h Kn Kr Ke0) : Wp Tryz.prog 71 (blkC (rest 1 (seqL (rest 3 (bodyOf Tryz.f8.body))))) (mkQ (u1 Kn 0) (u1 Kr 2) (keAdd 0 (u1 Ke0 0) ke0)) t h :=
  loop_ok (fun t => (t 0, t 3, t 24, t 25, t 26)) (by kernel_rfl) (fun t h K H1 => F8_5_ok (fun y0 y3 y24 y25 y26 h => K (y0, y3, y24, y25, y26) h) Kr Ke0 t h H1) H0
def F8_3 (x0 x3 x24 x25 x26 : Value) (h : H) (Kn : UP1) (Kr : UP1) : Prop :=
  F8_4 x0 x3 x24 x25 x26 h Kn Kr Kn
theorem F8_3_ok (Kn Kr) (t : T) (h : H) (H0 : F8_3 (t 0) (t 3) (t 24) (t 25) (t 26) h Kn Kr) : Wp Tryz.prog 71 (rest 1 (seqL (rest 3 (bodyOf Tryz.f8.body)))) (mkQ (u1 Kn 0) (u1 Kr 2) ke0) t h :=
  block_ok 0 (by kernel_rfl) (by kernel_rfl) (F8_4_ok Kn Kr Kn t h H0)
def F8_2 (x0 x3 : Value) (h : H) (Kn : UP1) (Kr : UP1) : Prop :=
  o_lenSl x0 fun v25 => F8_3 x0 x3 x0 v25 (.int .i64 0) h Kn Kr
theorem F8_2_ok (Kn Kr) (t : T) (h : H) (H0 : F8_2 (t 0) (t 3) h Kn Kr) : Wp Tryz.prog 71 (seqL (rest 3 (bodyOf Tryz.f8.body))) (mkQ (u1 Kn 0) (u1 Kr 2) ke0) t h :=
  awpTo_okF 1 H0 (by kernel_rfl) (fun t h (H1 : F8_3 (t 0) (t 3) (t 24) (t 25) (t 26) h Kn Kr) => F8_3_ok Kn Kr t h H1) (by kernel_rfl)
def F8_9 (x0 : Value) (h : H) (Kn : UP1) (Kr : UP1) : Prop :=
  o_lenSl x0 fun v60 => o_bin Tryz.prog .sub 3 v60 (.int .i64 1) fun v61 => o_indexAddr none 5 x0 v61 fun v62 => o_fieldAddr 0 v62 fun v63 => o_load false 1 v63 h fun v64 => o_bin Tryz.prog .geq 3 v64 (.int .i64 11) fun v66 => o_guard v66 true (fun k4 => o_bin Tryz.prog .leq 3 v64 (.int .i64 13) fun v69 => k4 v69 h) (fun v69 h => o_pick v66 v69 (.bool false) fun v70 => Kr v70 h) h
theorem F8_9_ok (Kn Kr) (t : T) (h : H) (H0 : F8_9 (t 0) h Kn Kr) : Wp Tryz.prog 71 (seqR (rest 3 (bodyOf Tryz.f8.body))) (mkQ (u1 Kn 2) (u1 Kr 2) ke0) t h :=
  wpEqF H0 (by kernel_rfl)
def F8_1 (x0 x3 : Value) (h : H) (Kn : UP1) (Kr : UP1) : Prop :=
  F8_2 x0 x3 h (fun y0 h => F8_9 y0 h Kn Kr) Kr
theorem F8_1_ok (Kn Kr) (t : T) (h : H) (H0 : F8_1 (t 0) (t 3) h Kn Kr) : Wp Tryz.prog 71 (rest 3 (bodyOf Tryz.f8.body)) (mkQ (u1 Kn 2) (u1 Kr 2) ke0) t h :=
  seq_ok (by kernel_rfl) (fun t h H1 => F8_9_ok Kn Kr t h H1) (F8_2_ok (fun y0 h => F8_9 y0 h Kn Kr) Kr t h H0)
def F8_0 (x0 : Value) (h : H) (Kn : UP1) (Kr : UP1) : Prop :=
  o_lenSl x0 fun v10 => o_bin Tryz.prog .eql 3 v10 (.int .i64 0) fun v11 => o_guard v11 false (fun k6 => o_lenSl x0 fun v14 => o_bin Tryz.prog .gtr 3 v14 (.int .i64 2000) fun v15 => k6 v15 h) (fun v15 h => o_pick v11 (.bool true) v15 fun v16 => o_guard v16 false (fun k13 => o_indexAddr none 5 x0 (.int .i64 0) fun v19 => o_fieldAddr 0 v19 fun v20 => o_load false 1 v20 h fun v21 => o_bin Tryz.prog .neq 3 v21 (.int .i64 8) fun v22 => k13 v22 h) (fun v22 h => o_pick v16 (.bool true) v22 fun v23 => o_if v23 (Kr (.bool false) h) (o_new (List.replicate 256 ((.bool false) : Value)) 92 .exact h fun b3 h => F8_1 x0 (.pointer (some ⟨b3, 0, none⟩)) h Kn Kr)) h) h
theorem F8_0_ok (Kn Kr) (t : T) (h : H) (H0 : F8_0 (t 0) h Kn Kr) : Wp Tryz.prog 71 (bodyOf Tryz.f8.body) (mkQ (u1 Kn 2) (u1 Kr 2) ke0) t h :=
  awpTo_okF 3 H0 (by kernel_rfl) (fun t h (H1 : F8_1 (t 0) (t 3) h Kn Kr) => F8_1_ok Kn Kr t h H1) (by kernel_rfl)
def F8 (x0 : Value) (h : H) (Q : UP1) : Prop := F8_0 x0 h (fun v h => Q v h) (fun v h => Q v h)
theorem F8_spec (x0 : Value) (h : H) (Q : UP1) (H0 : F8 x0 h Q) : AM.Spec Tryz.prog 8 [x0] h Q :=
  spec_wp mixed (fn := Tryz.f8) Tryz.func8 (c := bodyOf Tryz.f8.body) (rs := [2]) (N := 71) (by kernel_rfl) (by kernel_rfl) (by kernel_rfl) (by kernel_rfl) (by kernel_rfl) (Nat.le_of_ble_eq_true rfl) (F8_0_ok (fun v h => Q v h) (fun v h => Q v h) (tinit [x0]) h H0) (by kernel_rfl)
def F22_5 (x1 x5 : Value) (h : H) (Kn : UP2) (Kr : UP2) (Ke0 : H → Prop) : Prop :=
  o_bin Tryz.prog .eql 3 x5 (.int .i64 1) fun v7 => o_if v7 (Kn x1 v7 h) (o_bin Tryz.prog .eql 3 x5 (.int .i64 2) fun v8 => o_if v8 (Kn x1 v8 h) (o_bin Tryz.prog .eql 3 x5 (.int .i64 4) fun v9 => o_if v9 (Kn x1 v9 h) (o_bin Tryz.prog .eql 3 x5 (.int .i64 5) fun v10 => o_if v10 (Kn x1 v10 h) (o_bin Tryz.prog .eql 3 x5 (.int .i64 6) fun v11 => Kn x1 v11 h))))
theorem F22_5_ok (Kn Kr Ke0) (t : T) (h : H) (H0 : F22_5 (t 1) (t 5) h Kn Kr Ke0) : Wp Tryz.prog 14 (seqL (blkC (rest 1 (seqL (rest 1 (bodyOf Tryz.f22.body)))))) (mkQ (u2 Kn 1 6) (u2 Kr 2 3) (keAdd 0 (u0 Ke0) ke0)) t h :=
  wpEqF H0 (by kernel_rfl)
theorem F22_5_or {a : Int} {x1 : Value} {h : H} {Kn Kr Ke0} : F22_5 x1 (.int .i64 a) h Kn Kr Ke0 = Kn x1 (.bool (decide (a = 1) || (decide (a = 2) || (decide (a = 4) || (decide (a = 5) || decide (a = 6)))))) h := by
  simp only [F22_5, bin_eql, if_or]
def F22_6 (x1 x6 : Value) (h : H) (Kn : H → Prop) (Kr : UP2) (Ke0 : H → Prop) : Prop :=
  o_if x6 (o_fieldAddr 1 x1 fun v12 => o_load false 1 v12 h fun v13 => Kr v13 (.bool true) h) (Kn h)
theorem F22_6_ok (Kn Kr Ke0) (t : T) (h : H) (H0 : F22_6 (t 1) (t 6) h Kn Kr Ke0) : Wp Tryz.prog 14 (seqR (blkC (rest 1 (seqL (rest 1 (bodyOf Tryz.f22.body)))))) (mkQ (u0 Kn) (u2 Kr 2 3) (keAdd 0 (u0 Ke0) ke0)) t h :=
  wpEqF H0 (by kernel_rfl)
def F22_4 (x1 x5 : Value) (h : H) (Kn : H → Prop) (Kr : UP2) (Ke0 : H → Prop) : Prop :=
  F22_5 x1 x5 h (fun y1 y6 h => F22_6 y1 y6 h Kn Kr Ke0) Kr Ke0
theorem F22_4_ok (Kn Kr Ke0) (t : T) (h : H) (H0 : F22_4 (t 1) (t 5) h Kn Kr Ke0) : Wp Tryz.prog 14 (blkC (rest 1 (seqL (rest 1 (bodyOf Tryz.f22.body))))) (mkQ (u0 Kn) (u2 Kr 2 3) (keAdd 0 (u0 Ke0) ke0)) t h :=
  seq_ok (by kernel_rfl) (fun t h H1 => F22_6_ok Kn Kr Ke0 t h H1) (F22_5_ok (fun y1 y6 h => F22_6 y1 y6 h Kn Kr Ke0) Kr Ke0 t h H0)
def F22_3 (x1 x5 : Value) (h : H) (Kn : H → Prop) (Kr : UP2) : Prop :=
  F22_4 x1 x5 h Kn Kr Kn
theorem F22_3_ok (Kn Kr) (t : T) (h : H) (H0 : F22_3 (t 1) (t 5) h Kn Kr) : Wp Tryz.prog 14 (rest 1 (seqL (rest 1 (bodyOf Tryz.f22.body)))) (mkQ (u0 Kn) (u2 Kr 2 3) ke0) t h :=
  block_ok 0 (by kernel_rfl) (by kernel_rfl) (F22_4_ok Kn Kr Kn t h H0)
def F22_2 (x1 : Value) (h : H) (Kn : H → Prop) (Kr : UP2) : Prop :=
  o_fieldAddr 0 x1 fun v4 => o_load false 1 v4 h fun v5 => F22_3 x1 v5 h Kn Kr
theorem F22_2_ok (Kn Kr) (t : T) (h : H) (H0 : F22_2 (t 1) h Kn Kr) : Wp Tryz.prog 14 (seqL (rest 1 (bodyOf Tryz.f22.body))) (mkQ (u0 Kn) (u2 Kr 2 3) ke0) t h :=
  awpTo_okF 1 H0 (by kernel_rfl) (fun t h (H1 : F22_3 (t 1) (t 5) h Kn Kr) => F22_3_ok Kn Kr t h H1) (by kernel_rfl)
def F22_7 (h : H) (Kn : UP2) (Kr : UP2) : Prop :=
  Kr (.int .i64 0) (.bool false) h
theorem F22_7_ok (Kn Kr) (t : T) (h : H) (H0 : F22_7  h Kn Kr) : Wp Tryz.prog 14 (seqR (rest 1 (bodyOf Tryz.f22.body))) (mkQ (u2 Kn 2 3) (u2 Kr 2 3) ke0) t h :=
  wpEqF H0 (by kernel_rfl)
def F22_1 (x1 : Value) (h : H) (Kn : UP2) (Kr : UP2) : Prop :=
  F22_2 x1 h (fun  h => F22_7  h Kn Kr) Kr
theorem F22_1_ok (Kn Kr) (t : T) (h : H) (H0 : F22_1 (t 1) h Kn Kr) : Wp Tryz.prog 14 (rest 1 (bodyOf Tryz.f22.body)) (mkQ (u2 Kn 2 3) (u2 Kr 2 3) ke0) t h :=
  seq_ok (by kernel_rfl) (fun t h H1 => F22_7_ok Kn Kr t h H1) (F22_2_ok (fun  h => F22_7  h Kn Kr) Kr t h H0)
def F22_0 (x0 : Value) (h : H) (Kn : UP2) (Kr : UP2) : Prop :=
  boxV x0 = true ∧ o_new (Value.cells x0).toList 40 .exact h fun b1 h => F22_1 (.pointer (some ⟨b1, 0, none⟩)) h Kn Kr
theorem F22_0_ok (Kn Kr) (t : T) (h : H) (H0 : F22_0 (t 0) h Kn Kr) : Wp Tryz.prog 14 (bodyOf Tryz.f22.body) (mkQ (u2 Kn 2 3) (u2 Kr 2 3) ke0) t h :=
  awpTo_okF 1 H0 (by kernel_rfl) (fun t h (H1 : F22_1 (t 1) h Kn Kr) => F22_1_ok Kn Kr t h H1) (by kernel_rfl)
def F22 (x0 : Value) (h : H) (Q : UP1) : Prop := F22_0 x0 h (fun y2 y3 h => bif [y2, y3].all boxV then Q (.tuple #[y2, y3]) h else False) (fun y2 y3 h => bif [y2, y3].all boxV then Q (.tuple #[y2, y3]) h else False)
theorem F22_spec (x0 : Value) (h : H) (Q : UP1) (H0 : F22 x0 h Q) : AM.Spec Tryz.prog 22 [x0] h Q :=
  spec_wp mixed (fn := Tryz.f22) Tryz.func22 (c := bodyOf Tryz.f22.body) (rs := [2, 3]) (N := 14) (by kernel_rfl) (by kernel_rfl) (by kernel_rfl) (by kernel_rfl) (by kernel_rfl) (Nat.le_of_ble_eq_true rfl) (F22_0_ok (fun y2 y3 h => bif [y2, y3].all boxV then Q (.tuple #[y2, y3]) h else False) (fun y2 y3 h => bif [y2, y3].all boxV then Q (.tuple #[y2, y3]) h else False) (tinit [x0]) h H0) (by kernel_rfl)
def F20_2 (x1 x4 x5 x6 : Value) (h : H) (Kn : UP3) (Kr : UP1) : Prop :=
  o_if x4 (o_fieldAddr 2 x1 fun v16 => o_load false 1 v16 h fun v17 => o_buildSlice Tryz.prog 31 1 [(0, v17)] h fun v18 h => o_append 3 1 8 x6 v18 h fun v19 h => Kn x1 x5 v19 h) (Kn x1 x5 x6 h)
theorem F20_2_ok (Kn Kr) (t : T) (h : H) (H0 : F20_2 (t 1) (t 4) (t 5) (t 6) h Kn Kr) : Wp Tryz.prog 35 (seqL (rest 3 (bodyOf Tryz.f20.body))) (mkQ (u3 Kn 1 5 6) (u1 Kr 2) ke0) t h :=
  wpEqF H0 (by kernel_rfl)
def F20_4 (x1 x5 x6 : Value) (h : H) (Kn : UP2) (Kr : UP1) : Prop :=
  o_if x5 (o_fieldAddr 3 x1 fun v22 => o_load false 1 v22 h fun v23 => o_buildSlice Tryz.prog 31 1 [(0, v23)] h fun v24 h => o_append 3 1 8 x6 v24 h fun v25 h => Kn x1 v25 h) (Kn x1 x6 h)
theorem F20_4_ok (Kn Kr) (t : T) (h : H) (H0 : F20_4 (t 1) (t 5) (t 6) h Kn Kr) : Wp Tryz.prog 35 (seqL (seqR (rest 3 (bodyOf Tryz.f20.body)))) (mkQ (u2 Kn 1 6) (u1 Kr 2) ke0) t h :=
  wpEqF H0 (by kernel_rfl)
def F20_6 (x1 x6 : Value) (h : H) (Kn : UP1) (Kr : UP1) : Prop :=
  o_fieldAddr 0 x1 fun v26 => o_load false 1 v26 h fun v27 => o_bin Tryz.prog .eql 3 v27 (.int .i64 19) fun v28 => o_if v28 (o_fieldAddr 1 x1 fun v30 => o_load false 1 v30 h fun v31 => o_buildSlice Tryz.prog 31 1 [(0, v31)] h fun v32 h => o_append 3 1 8 x6 v32 h fun v33 h => Kn v33 h) (Kn x6 h)
theorem F20_6_ok (Kn Kr) (t : T) (h : H) (H0 : F20_6 (t 1) (t 6) h Kn Kr) : Wp Tryz.prog 35 (seqL (seqR (seqR (rest 3 (bodyOf Tryz.f20.body))))) (mkQ (u1 Kn 6) (u1 Kr 2) ke0) t h :=
  wpEqF H0 (by kernel_rfl)
def F20_7 (x6 : Value) (h : H) (Kn : UP1) (Kr : UP1) : Prop :=
  Kr x6 h
theorem F20_7_ok (Kn Kr) (t : T) (h : H) (H0 : F20_7 (t 6) h Kn Kr) : Wp Tryz.prog 35 (seqR (seqR (seqR (rest 3 (bodyOf Tryz.f20.body))))) (mkQ (u1 Kn 2) (u1 Kr 2) ke0) t h :=
  wpEqF H0 (by kernel_rfl)
def F20_5 (x1 x6 : Value) (h : H) (Kn : UP1) (Kr : UP1) : Prop :=
  F20_6 x1 x6 h (fun y6 h => F20_7 y6 h Kn Kr) Kr
theorem F20_5_ok (Kn Kr) (t : T) (h : H) (H0 : F20_5 (t 1) (t 6) h Kn Kr) : Wp Tryz.prog 35 (seqR (seqR (rest 3 (bodyOf Tryz.f20.body)))) (mkQ (u1 Kn 2) (u1 Kr 2) ke0) t h :=
  seq_ok (by kernel_rfl) (fun t h H1 => F20_7_ok Kn Kr t h H1) (F20_6_ok (fun y6 h => F20_7 y6 h Kn Kr) Kr t h H0)
def F20_3 (x1 x5 x6 : Value) (h : H) (Kn : UP1) (Kr : UP1) : Prop :=
  F20_4 x1 x5 x6 h (fun y1 y6 h => F20_5 y1 y6 h Kn Kr) Kr
theorem F20_3_ok (Kn Kr) (t : T) (h : H) (H0 : F20_3 (t 1) (t 5) (t 6) h Kn Kr) : Wp Tryz.prog 35 (seqR (rest 3 (bodyOf Tryz.f20.body))) (mkQ (u1 Kn 2) (u1 Kr 2) ke0) t h :=
  seq_ok (by kernel_rfl) (fun t h H1 => F20_5_ok Kn Kr t h H1) (F20_4_ok (fun y1 y6 h => F20_5 y1 y6 h Kn Kr) Kr t h H0)
def F20_1 (x1 x4 x5 x6 : Value) (h : H) (Kn : UP1) (Kr : UP1) : Prop :=
  F20_2 x1 x4 x5 x6 h (fun y1 y5 y6 h => F20_3 y1 y5 y6 h Kn Kr) Kr
theorem F20_1_ok (Kn Kr) (t : T) (h : H) (H0 : F20_1 (t 1) (t 4) (t 5) (t 6) h Kn Kr) : Wp Tryz.prog 35 (rest 3 (bodyOf Tryz.f20.body)) (mkQ (u1 Kn 2) (u1 Kr 2) ke0) t h :=
  seq_ok (by kernel_rfl) (fun t h H1 => F20_3_ok Kn Kr t h H1) (F20_2_ok (fun y1 y5 y6 h => F20_3 y1 y5 y6 h Kn Kr) Kr t h H0)
def F20_0 (x0 : Value) (h : H) (Kn : UP1) (Kr : UP1) : Prop :=
  boxV x0 = true ∧ o_new (Value.cells x0).toList 40 .exact h fun b1 h => o_fieldAddr 0 (.pointer (some ⟨b1, 0, none⟩)) fun v8 => o_load false 1 v8 h fun v9 => o_call Tryz.prog 55 [v9] h fun v10 h => o_extract v10 0 fun v11 => o_extract v10 1 fun v12 => o_extract v10 2 fun v13 => F20_1 (.pointer (some ⟨b1, 0, none⟩)) v12 v13 (.slice none 0 0) h Kn Kr
theorem F20_0_ok (Kn Kr) (t : T) (h : H) (H0 : F20_0 (t 0) h Kn Kr) : Wp Tryz.prog 35 (bodyOf Tryz.f20.body) (mkQ (u1 Kn 2) (u1 Kr 2) ke0) t h :=
  awpTo_okF 3 H0 (by kernel_rfl) (fun t h (H1 : F20_1 (t 1) (t 4) (t 5) (t 6) h Kn Kr) => F20_1_ok Kn Kr t h H1) (by kernel_rfl)
def F20 (x0 : Value) (h : H) (Q : UP1) : Prop := F20_0 x0 h (fun v h => Q v h) (fun v h => Q v h)
theorem F20_spec (x0 : Value) (h : H) (Q : UP1) (H0 : F20 x0 h Q) : AM.Spec Tryz.prog 20 [x0] h Q :=
  spec_wp mixed (fn := Tryz.f20) Tryz.func20 (c := bodyOf Tryz.f20.body) (rs := [2]) (N := 35) (by kernel_rfl) (by kernel_rfl) (by kernel_rfl) (by kernel_rfl) (by kernel_rfl) (Nat.le_of_ble_eq_true rfl) (F20_0_ok (fun v h => Q v h) (fun v h => Q v h) (tinit [x0]) h H0) (by kernel_rfl)
def F17_0 (x0 : Value) (h : H) (Kn : UP1) (Kr : UP1) : Prop :=
  boxV x0 = true ∧ o_new (Value.cells x0).toList 40 .exact h fun b1 h => o_fieldAddr 0 (.pointer (some ⟨b1, 0, none⟩)) fun v7 => o_load false 1 v7 h fun v8 => o_call Tryz.prog 55 [v8] h fun v9 h => o_extract v9 0 fun v10 => o_extract v9 1 fun v11 => o_extract v9 2 fun v12 => o_fieldAddr 0 (.pointer (some ⟨b1, 0, none⟩)) fun v13 => o_load false 1 v13 h fun v14 => o_bin Tryz.prog .geq 3 v14 (.int .i64 1) fun v15 => o_guard v15 true (fun k6 => o_fieldAddr 0 (.pointer (some ⟨b1, 0, none⟩)) fun v17 => o_load false 1 v17 h fun v18 => o_bin Tryz.prog .leq 3 v18 (.int .i64 21) fun v19 => k6 v19 h) (fun v19 h => o_pick v15 v19 (.bool false) fun v20 => o_guard v20 true (fun k10 => o_load true 5 (.pointer (some ⟨b1, 0, none⟩)) h fun v22 => o_call Tryz.prog 56 [v22] h fun v23 h => k10 v23 h) (fun v23 h => o_pick v20 v23 (.bool false) fun v24 => o_guard v24 true (fun k16 => o_fieldAddr 1 (.pointer (some ⟨b1, 0, none⟩)) fun v27 => o_load false 1 v27 h fun v28 => o_call Tryz.prog 57 [v10, v28] h fun v29 h => k16 v29 h) (fun v29 h => o_pick v24 v29 (.bool false) fun v30 => o_guard v30 true (fun k22 => o_fieldAddr 2 (.pointer (some ⟨b1, 0, none⟩)) fun v33 => o_load false 1 v33 h fun v34 => o_call Tryz.prog 57 [v11, v34] h fun v35 h => k22 v35 h) (fun v35 h => o_pick v30 v35 (.bool false) fun v36 => o_guard v36 true (fun k28 => o_fieldAddr 3 (.pointer (some ⟨b1, 0, none⟩)) fun v39 => o_load false 1 v39 h fun v40 => o_call Tryz.prog 57 [v12, v40] h fun v41 h => k28 v41 h) (fun v41 h => o_pick v36 v41 (.bool false) fun v42 => Kr v42 h) h) h) h) h) h
theorem F17_0_ok (Kn Kr) (t : T) (h : H) (H0 : F17_0 (t 0) h Kn Kr) : Wp Tryz.prog 43 (bodyOf Tryz.f17.body) (mkQ (u1 Kn 2) (u1 Kr 2) ke0) t h :=
  wpEqF H0 (by kernel_rfl)
def F17 (x0 : Value) (h : H) (Q : UP1) : Prop := F17_0 x0 h (fun v h => Q v h) (fun v h => Q v h)
theorem F17_spec (x0 : Value) (h : H) (Q : UP1) (H0 : F17 x0 h Q) : AM.Spec Tryz.prog 17 [x0] h Q :=
  spec_wp mixed (fn := Tryz.f17) Tryz.func17 (c := bodyOf Tryz.f17.body) (rs := [2]) (N := 43) (by kernel_rfl) (by kernel_rfl) (by kernel_rfl) (by kernel_rfl) (by kernel_rfl) (Nat.le_of_ble_eq_true rfl) (F17_0_ok (fun v h => Q v h) (fun v h => Q v h) (tinit [x0]) h H0) (by kernel_rfl)
def F18_0 (x0 : Value) (h : H) (Kn : UP1) (Kr : UP1) : Prop :=
  o_bin Tryz.prog .eql 3 x0 (.int .i64 14) fun v4 => o_guard v4 false (fun k4 => o_bin Tryz.prog .eql 3 x0 (.int .i64 16) fun v7 => k4 v7 h) (fun v7 h => o_pick v4 (.bool true) v7 fun v8 => o_guard v8 false (fun k8 => o_bin Tryz.prog .eql 3 x0 (.int .i64 17) fun v11 => k8 v11 h) (fun v11 h => o_pick v8 (.bool true) v11 fun v12 => o_guard v12 false (fun k12 => o_bin Tryz.prog .eql 3 x0 (.int .i64 19) fun v15 => k12 v15 h) (fun v15 h => o_pick v12 (.bool true) v15 fun v16 => Kr v16 h) h) h) h
theorem F18_0_ok (Kn Kr) (t : T) (h : H) (H0 : F18_0 (t 0) h Kn Kr) : Wp Tryz.prog 17 (bodyOf Tryz.f18.body) (mkQ (u1 Kn 2) (u1 Kr 2) ke0) t h :=
  wpEqF H0 (by kernel_rfl)
def F18 (x0 : Value) (h : H) (Q : UP1) : Prop := F18_0 x0 h (fun v h => Q v h) (fun v h => Q v h)
theorem F18_spec (x0 : Value) (h : H) (Q : UP1) (H0 : F18 x0 h Q) : AM.Spec Tryz.prog 18 [x0] h Q :=
  spec_wp mixed (fn := Tryz.f18) Tryz.func18 (c := bodyOf Tryz.f18.body) (rs := [2]) (N := 17) (by kernel_rfl) (by kernel_rfl) (by kernel_rfl) (by kernel_rfl) (by kernel_rfl) (Nat.le_of_ble_eq_true rfl) (F18_0_ok (fun v h => Q v h) (fun v h => Q v h) (tinit [x0]) h H0) (by kernel_rfl)
def F19_0 (x0 x1 : Value) (h : H) (Kn : UP1) (Kr : UP1) : Prop :=
  o_call Tryz.prog 58 [x0, x1] h fun v7 h => o_bin Tryz.prog .geq 3 v7 (.int .i64 0) fun v8 => Kr v8 h
theorem F19_0_ok (Kn Kr) (t : T) (h : H) (H0 : F19_0 (t 0) (t 1) h Kn Kr) : Wp Tryz.prog 9 (bodyOf Tryz.f19.body) (mkQ (u1 Kn 4) (u1 Kr 4) ke0) t h :=
  wpEqF H0 (by kernel_rfl)
def F19 (x0 x1 : Value) (h : H) (Q : UP1) : Prop := F19_0 x0 x1 h (fun v h => Q v h) (fun v h => Q v h)
theorem F19_spec (x0 x1 : Value) (h : H) (Q : UP1) (H0 : F19 x0 x1 h Q) : AM.Spec Tryz.prog 19 [x0, x1] h Q :=
  spec_wp mixed (fn := Tryz.f19) Tryz.func19 (c := bodyOf Tryz.f19.body) (rs := [4]) (N := 9) (by kernel_rfl) (by kernel_rfl) (by kernel_rfl) (by kernel_rfl) (by kernel_rfl) (Nat.le_of_ble_eq_true rfl) (F19_0_ok (fun v h => Q v h) (fun v h => Q v h) (tinit [x0, x1]) h H0) (by kernel_rfl)
def F21_0 (x0 x1 : Value) (h : H) (Kn : UP1) (Kr : UP1) : Prop :=
  o_indexAddr (some 256) 1 x1 x0 fun v5 => o_load false 1 v5 h fun v6 => o_un Tryz.prog .not v6 fun v7 => Kr v7 h
theorem F21_0_ok (Kn Kr) (t : T) (h : H) (H0 : F21_0 (t 0) (t 1) h Kn Kr) : Wp Tryz.prog 8 (bodyOf Tryz.f21.body) (mkQ (u1 Kn 3) (u1 Kr 3) ke0) t h :=
  wpEqF H0 (by kernel_rfl)
def F21 (x0 x1 : Value) (h : H) (Q : UP1) : Prop := F21_0 x0 x1 h (fun v h => Q v h) (fun v h => Q v h)
theorem F21_spec (x0 x1 : Value) (h : H) (Q : UP1) (H0 : F21 x0 x1 h Q) : AM.Spec Tryz.prog 21 [x0, x1] h Q :=
  spec_wp mixed (fn := Tryz.f21) Tryz.func21 (c := bodyOf Tryz.f21.body) (rs := [3]) (N := 8) (by kernel_rfl) (by kernel_rfl) (by kernel_rfl) (by kernel_rfl) (by kernel_rfl) (Nat.le_of_ble_eq_true rfl) (F21_0_ok (fun v h => Q v h) (fun v h => Q v h) (tinit [x0, x1]) h H0) (by kernel_rfl)
def F55_5 (x5 : Value) (h : H) (Kn : UP2) (Kr : UP3) (Ke0 : H → Prop) : Prop :=
  o_bin Tryz.prog .eql 3 x5 (.int .i64 1) fun v7 => o_if v7 (Kn x5 v7 h) (o_bin Tryz.prog .eql 3 x5 (.int .i64 2) fun v8 => o_if v8 (Kn x5 v8 h) (o_bin Tryz.prog .eql 3 x5 (.int .i64 14) fun v9 => Kn x5 v9 h))
theorem F55_5_ok (Kn Kr Ke0) (t : T) (h : H) (H0 : F55_5 (t 5) h Kn Kr Ke0) : Wp Tryz.prog 28 (seqL (blkC (rest 1 (seqL (rest 1 (bodyOf Tryz.f55.body)))))) (mkQ (u2 Kn 5 6) (u3 Kr 2 3 4) (keAdd 0 (u0 Ke0) ke0)) t h :=
  wpEqF H0 (by kernel_rfl)
theorem F55_5_or {a : Int} {h : H} {Kn Kr Ke0} : F55_5 (.int .i64 a) h Kn Kr Ke0 = Kn (.int .i64 a) (.bool (decide (a = 1) || (decide (a = 2) || decide (a = 14)))) h := by
  simp only [F55_5, bin_eql, if_or]
def F55_7 (h : H) (Kn : H → Prop) (Kr : UP3) (Ke0 : H → Prop) : Prop :=
  Kr (.bool true) (.bool false) (.bool false) h
theorem F55_7_ok (Kn Kr Ke0) (t : T) (h : H) (H0 : F55_7  h Kn Kr Ke0) : Wp Tryz.prog 28 (cndX (seqR (blkC (rest 1 (seqL (rest 1 (bodyOf Tryz.f55.body))))))) (mkQ (u0 Kn) (u3 Kr 2 3 4) (keAdd 0 (u0 Ke0) ke0)) t h :=
  wpEqF H0 (by kernel_rfl)
def F55_9 (x5 : Value) (h : H) (Kn : UP2) (Kr : UP3) (Ke0 : H → Prop) : Prop :=
  o_bin Tryz.prog .eql 3 x5 (.int .i64 4) fun v11 => o_if v11 (Kn x5 v11 h) (o_bin Tryz.prog .eql 3 x5 (.int .i64 5) fun v12 => o_if v12 (Kn x5 v12 h) (o_bin Tryz.prog .eql 3 x5 (.int .i64 16) fun v13 => Kn x5 v13 h))
theorem F55_9_ok (Kn Kr Ke0) (t : T) (h : H) (H0 : F55_9 (t 5) h Kn Kr Ke0) : Wp Tryz.prog 28 (seqL (cndY (seqR (blkC (rest 1 (seqL (rest 1 (bodyOf Tryz.f55.body)))))))) (mkQ (u2 Kn 5 10) (u3 Kr 2 3 4) (keAdd 0 (u0 Ke0) ke0)) t h :=
  wpEqF H0 (by kernel_rfl)
theorem F55_9_or {a : Int} {h : H} {Kn Kr Ke0} : F55_9 (.int .i64 a) h Kn Kr Ke0 = Kn (.int .i64 a) (.bool (decide (a = 4) || (decide (a = 5) || decide (a = 16)))) h := by
  simp only [F55_9, bin_eql, if_or]
def F55_11 (h : H) (Kn : H → Prop) (Kr : UP3) (Ke0 : H → Prop) : Prop :=
  Kr (.bool true) (.bool true) (.bool true) h
theorem F55_11_ok (Kn Kr Ke0) (t : T) (h : H) (H0 : F55_11  h Kn Kr Ke0) : Wp Tryz.prog 28 (cndX (seqR (cndY (seqR (blkC (rest 1 (seqL (rest 1 (bodyOf Tryz.f55.body))))))))) (mkQ (u0 Kn) (u3 Kr 2 3 4) (keAdd 0 (u0 Ke0) ke0)) t h :=
  wpEqF H0 (by kernel_rfl)
def F55_13 (x5 : Value) (h : H) (Kn : UP2) (Kr : UP3) (Ke0 : H → Prop) : Prop :=
  o_bin Tryz.prog .eql 3 x5 (.int .i64 6) fun v15 => o_if v15 (Kn x5 v15 h) (o_bin Tryz.prog .eql 3 x5 (.int .i64 17) fun v16 => o_if v16 (Kn x5 v16 h) (o_bin Tryz.prog .eql 3 x5 (.int .i64 19) fun v17 => Kn x5 v17 h))
theorem F55_13_ok (Kn Kr Ke0) (t : T) (h : H) (H0 : F55_13 (t 5) h Kn Kr Ke0) : Wp Tryz.prog 28 (seqL (cndY (seqR (cndY (seqR (blkC (rest 1 (seqL (rest 1 (bodyOf Tryz.f55.body)))))))))) (mkQ (u2 Kn 5 14) (u3 Kr 2 3 4) (keAdd 0 (u0 Ke0) ke0)) t h :=
  wpEqF H0 (by kernel_rfl)
theorem F55_13_or {a : Int} {h : H} {Kn Kr Ke0} : F55_13 (.int .i64 a) h Kn Kr Ke0 = Kn (.int .i64 a) (.bool (decide (a = 6) || (decide (a = 17) || decide (a = 19)))) h := by
  simp only [F55_13, bin_eql, if_or]
def F55_15 (h : H) (Kn : H → Prop) (Kr : UP3) (Ke0 : H → Prop) : Prop :=
  Kr (.bool true) (.bool true) (.bool false) h
theorem F55_15_ok (Kn Kr Ke0) (t : T) (h : H) (H0 : F55_15  h Kn Kr Ke0) : Wp Tryz.prog 28 (cndX (seqR (cndY (seqR (cndY (seqR (blkC (rest 1 (seqL (rest 1 (bodyOf Tryz.f55.body))))))))))) (mkQ (u0 Kn) (u3 Kr 2 3 4) (keAdd 0 (u0 Ke0) ke0)) t h :=
  wpEqF H0 (by kernel_rfl)
def F55_17 (x5 : Value) (h : H) (Kn : UP2) (Kr : UP3) (Ke0 : H → Prop) : Prop :=
  o_bin Tryz.prog .eql 3 x5 (.int .i64 7) fun v19 => o_if v19 (Kn x5 v19 h) (o_bin Tryz.prog .eql 3 x5 (.int .i64 18) fun v20 => Kn x5 v20 h)
theorem F55_17_ok (Kn Kr Ke0) (t : T) (h : H) (H0 : F55_17 (t 5) h Kn Kr Ke0) : Wp Tryz.prog 28 (seqL (cndY (seqR (cndY (seqR (cndY (seqR (blkC (rest 1 (seqL (rest 1 (bodyOf Tryz.f55.body)))))))))))) (mkQ (u2 Kn 5 18) (u3 Kr 2 3 4) (keAdd 0 (u0 Ke0) ke0)) t h :=
  wpEqF H0 (by kernel_rfl)
theorem F55_17_or {a : Int} {h : H} {Kn Kr Ke0} : F55_17 (.int .i64 a) h Kn Kr Ke0 = Kn (.int .i64 a) (.bool (decide (a = 7) || decide (a = 18))) h := by
  simp only [F55_17, bin_eql, if_or]
def F55_19 (h : H) (Kn : H → Prop) (Kr : UP3) (Ke0 : H → Prop) : Prop :=
  Kr (.bool false) (.bool true) (.bool true) h
theorem F55_19_ok (Kn Kr Ke0) (t : T) (h : H) (H0 : F55_19  h Kn Kr Ke0) : Wp Tryz.prog 28 (cndX (seqR (cndY (seqR (cndY (seqR (cndY (seqR (blkC (rest 1 (seqL (rest 1 (bodyOf Tryz.f55.body))))))))))))) (mkQ (u0 Kn) (u3 Kr 2 3 4) (keAdd 0 (u0 Ke0) ke0)) t h :=
  wpEqF H0 (by kernel_rfl)
def F55_21 (x5 : Value) (h : H) (Kn : UP1) (Kr : UP3) (Ke0 : H → Prop) : Prop :=
  o_bin Tryz.prog .eql 3 x5 (.int .i64 3) fun v22 => o_if v22 (Kn v22 h) (o_bin Tryz.prog .eql 3 x5 (.int .i64 15) fun v23 => o_if v23 (Kn v23 h) (o_bin Tryz.prog .eql 3 x5 (.int .i64 10) fun v24 => o_if v24 (Kn v24 h) (o_bin Tryz.prog .eql 3 x5 (.int .i64 11) fun v25 => o_if v25 (Kn v25 h) (o_bin Tryz.prog .eql 3 x5 (.int .i64 20) fun v26 => o_if v26 (Kn v26 h) (o_bin Tryz.prog .eql 3 x5 (.int .i64 21) fun v27 => Kn v27 h)))))
theorem F55_21_ok (Kn Kr Ke0) (t : T) (h : H) (H0 : F55_21 (t 5) h Kn Kr Ke0) : Wp Tryz.prog 28 (seqL (cndY (seqR (cndY (seqR (cndY (seqR (cndY (seqR (blkC (rest 1 (seqL (rest 1 (bodyOf Tryz.f55.body)))))))))))))) (mkQ (u1 Kn 21) (u3 Kr 2 3 4) (keAdd 0 (u0 Ke0) ke0)) t h :=
  wpEqF H0 (by kernel_rfl)
theorem F55_21_or {a : Int} {h : H} {Kn Kr Ke0} : F55_21 (.int .i64 a) h Kn Kr Ke0 = Kn  (.bool (decide (a = 3) || (decide (a = 15) || (decide (a = 10) || (decide (a = 11) || (decide (a = 20) || decide (a = 21))))))) h := by
  simp only [F55_21, bin_eql, if_or]
def F55_22 (x21 : Value) (h : H) (Kn : H → Prop) (Kr : UP3) (Ke0 : H → Prop) : Prop :=
  o_if x21 (Kr (.bool false) (.bool true) (.bool false) h) (Kn h)
theorem F55_22_ok (Kn Kr Ke0) (t : T) (h : H) (H0 : F55_22 (t 21) h Kn Kr Ke0) : Wp Tryz.prog 28 (seqR (cndY (seqR (cndY (seqR (cndY (seqR (cndY (seqR (blkC (rest 1 (seqL (rest 1 (bodyOf Tryz.f55.body)))))))))))))) (mkQ (u0 Kn) (u3 Kr 2 3 4) (keAdd 0 (u0 Ke0) ke0)) t h :=
  wpEqF H0 (by kernel_rfl)
def F55_20 (x5 : Value) (h : H) (Kn : H → Prop) (Kr : UP3) (Ke0 : H → Prop) : Prop :=
  F55_21 x5 h (fun y21 h => F55_22 y21 h Kn Kr Ke0) Kr Ke0
theorem F55_20_ok (Kn Kr Ke0) (t : T) (h : H) (H0 : F55_20 (t 5) h Kn Kr Ke0) : Wp Tryz.prog 28 (cndY (seqR (cndY (seqR (cndY (seqR (cndY (seqR (blkC (rest 1 (seqL (rest 1 (bodyOf Tryz.f55.body))))))))))))) (mkQ (u0 Kn) (u3 Kr 2 3 4) (keAdd 0 (u0 Ke0) ke0)) t h :=
  seq_ok (by kernel_rfl) (fun t h H1 => F55_22_ok Kn Kr Ke0 t h H1) (F55_21_ok (fun y21 h => F55_22 y21 h Kn Kr Ke0) Kr Ke0 t h H0)
def F55_18 (x5 x18 : Value) (h : H) (Kn : H → Prop) (Kr : UP3) (Ke0 : H → Prop) : Prop :=
  o_if x18 (F55_19  h Kn Kr Ke0) (F55_20 x5 h Kn Kr Ke0)
theorem F55_18_ok (Kn Kr Ke0) (t : T) (h : H) (H0 : F55_18 (t 5) (t 18) h Kn Kr Ke0) : Wp Tryz.prog 28 (seqR (cndY (seqR (cndY (seqR (cndY (seqR (blkC (rest 1 (seqL (rest 1 (bodyOf Tryz.f55.body)))))))))))) (mkQ (u0 Kn) (u3 Kr 2 3 4) (keAdd 0 (u0 Ke0) ke0)) t h :=
  cond_ok H0 (by kernel_rfl) (F55_19_ok Kn Kr Ke0 t h) (F55_20_ok Kn Kr Ke0 t h) (by kernel_rfl)
def F55_16 (x5 : Value) (h : H) (Kn : H → Prop) (Kr : UP3) (Ke0 : H → Prop) : Prop :=
  F55_17 x5 h (fun y5 y18 h => F55_18 y5 y18 h Kn Kr Ke0) Kr Ke0
theorem F55_16_ok (Kn Kr Ke0) (t : T) (h : H) (H0 : F55_16 (t 5) h Kn Kr Ke0) : Wp Tryz.prog 28 (cndY (seqR (cndY (seqR (cndY (seqR (blkC (rest 1 (seqL (rest 1 (bodyOf Tryz.f55.body))))))))))) (mkQ (u0 Kn) (u3 Kr 2 3 4) (keAdd 0 (u0 Ke0) ke0)) t h :=
  seq_ok (by kernel_rfl) (fun t h H1 => F55_18_ok Kn Kr Ke0 t h H1) (F55_17_ok (fun y5 y18 h => F55_18 y5 y18 h Kn Kr Ke0) Kr Ke0 t h H0)
def F55_14 (x5 x14 : Value) (h : H) (Kn : H → Prop) (Kr : UP3) (Ke0 : H → Prop) : Prop :=
  o_if x14 (F55_15  h Kn Kr Ke0) (F55_16 x5 h Kn Kr Ke0)
theorem F55_14_ok (Kn Kr Ke0) (t : T) (h : H) (H0 : F55_14 (t 5) (t 14) h Kn Kr Ke0) : Wp Tryz.prog 28 (seqR (cndY (seqR (cndY (seqR (blkC (rest 1 (seqL (rest 1 (bodyOf Tryz.f55.body)))))))))) (mkQ (u0 Kn) (u3 Kr 2 3 4) (keAdd 0 (u0 Ke0) ke0)) t h :=
  cond_ok H0 (by kernel_rfl) (F55_15_ok Kn Kr Ke0 t h) (F55_16_ok Kn Kr Ke0 t h) (by kernel_rfl)
def F55_12 (x5 : Value) (h : H) (Kn : H → Prop) (Kr : UP3) (Ke0 : H → Prop) : Prop :=
  F55_13 x5 h (fun y5 y14 h => F55_14 y5 y14 h Kn Kr Ke0) Kr Ke0
theorem F55_12_ok (Kn Kr Ke0) (t : T) (h : H) (H0 : F55_12 (t 5) h Kn Kr Ke0) : Wp Tryz.prog 28 (cndY (seqR (cndY (seqR (blkC (rest 1 (seqL (rest 1 (bodyOf Tryz.f55.body))))))))) (mkQ (u0 Kn) (u3 Kr 2 3 4) (keAdd 0 (u0 Ke0) ke0)) t h :=
  seq_ok (by kernel_rfl) (fun t h H1 => F55_14_ok Kn Kr Ke0 t h H1) (F55_13_ok (fun y5 y14 h => F55_14 y5 y14 h Kn Kr Ke0) Kr Ke0 t h H0)
def F55_10 (x5 x10 : Value) (h : H) (Kn : H → Prop) (Kr : UP3) (Ke0 : H → Prop) : Prop :=
  o_if x10 (F55_11  h Kn Kr Ke0) (F55_12 x5 h Kn Kr Ke0)
theorem F55_10_ok (Kn Kr Ke0) (t : T) (h : H) (H0 : F55_10 (t 5) (t 10) h Kn Kr Ke0) : Wp Tryz.prog 28 (seqR (cndY (seqR (blkC (rest 1 (seqL (rest 1 (bodyOf Tryz.f55.body)))))))) (mkQ (u0 Kn) (u3 Kr 2 3 4) (keAdd 0 (u0 Ke0) ke0)) t h :=
  cond_ok H0 (by kernel_rfl) (F55_11_ok Kn Kr Ke0 t h) (F55_12_ok Kn Kr Ke0 t h) (by kernel_rfl)
def F55_8 (x5 : Value) (h : H) (Kn : H → Prop) (Kr : UP3) (Ke0 : H → Prop) : Prop :=
  F55_9 x5 h (fun y5 y10 h => F55_10 y5 y10 h Kn Kr Ke0) Kr Ke0
theorem F55_8_ok (Kn Kr Ke0) (t : T) (h : H) (H0 : F55_8 (t 5) h Kn Kr Ke0) : Wp Tryz.prog 28 (cndY (seqR (blkC (rest 1 (seqL (rest 1 (bodyOf Tryz.f55.body))))))) (mkQ (u0 Kn) (u3 Kr 2 3 4) (keAdd 0 (u0 Ke0) ke0)) t h :=
  seq_ok (by kernel_rfl) (fun t h H1 => F55_10_ok Kn Kr Ke0 t h H1) (F55_9_ok (fun y5 y10 h => F55_10 y5 y10 h Kn Kr Ke0) Kr Ke0 t h H0)
def F55_6 (x5 x6 : Value) (h : H) (Kn : H → Prop) (Kr : UP3) (Ke0 : H → Prop) : Prop :=
  o_if x6 (F55_7  h Kn Kr Ke0) (F55_8 x5 h Kn Kr Ke0)
theorem F55_6_ok (Kn Kr Ke0) (t : T) (h : H) (H0 : F55_6 (t 5) (t 6) h Kn Kr Ke0) : Wp Tryz.prog 28 (seqR (blkC (rest 1 (seqL (rest 1 (bodyOf Tryz.f55.body)))))) (mkQ (u0 Kn) (u3 Kr 2 3 4) (keAdd 0 (u0 Ke0) ke0)) t h :=
  cond_ok H0 (by kernel_rfl) (F55_7_ok Kn Kr Ke0 t h) (F55_8_ok Kn Kr Ke0 t h) (by kernel_rfl)
def F55_4 (x5 : Value) (h : H) (Kn : H → Prop) (Kr : UP3) (Ke0 : H → Prop) : Prop :=
  F55_5 x5 h (fun y5 y6 h => F55_6 y5 y6 h Kn Kr Ke0) Kr Ke0
theorem F55_4_ok (Kn Kr Ke0) (t : T) (h : H) (H0 : F55_4 (t 5) h Kn Kr Ke0) : Wp Tryz.prog 28 (blkC (rest 1 (seqL (rest 1 (bodyOf Tryz.f55.body))))) (mkQ (u0 Kn) (u3 Kr 2 3 4) (keAdd 0 (u0 Ke0) ke0)) t h :=
  seq_ok (by kernel_rfl) (fun t h H1 => F55_6_ok Kn Kr Ke0 t h H1) (F55_5_ok (fun y5 y6 h => F55_6 y5 y6 h Kn Kr Ke0) Kr Ke0 t h H0)
def F55_3 (x5 : Value) (h : H) (Kn : H → Prop) (Kr : UP3) : Prop :=
  F55_4 x5 h Kn Kr Kn
theorem F55_3_ok (Kn Kr) (t : T) (h : H) (H0 : F55_3 (t 5) h Kn Kr) : Wp Tryz.prog 28 (rest 1 (seqL (rest 1 (bodyOf Tryz.f55.body)))) (mkQ (u0 Kn) (u3 Kr 2 3 4) ke0) t h :=
  block_ok 0 (by kernel_rfl) (by kernel_rfl) (F55_4_ok Kn Kr Kn t h H0)
def F55_2 (x0 : Value) (h : H) (Kn : H → Prop) (Kr : UP3) : Prop :=
  F55_3 x0 h Kn Kr
theorem F55_2_ok (Kn Kr) (t : T) (h : H) (H0 : F55_2 (t 0) h Kn Kr) : Wp Tryz.prog 28 (seqL (rest 1 (bodyOf Tryz.f55.body))) (mkQ (u0 Kn) (u3 Kr 2 3 4) ke0) t h :=
  awpTo_okF 1 H0 (by kernel_rfl) (fun t h (H1 : F55_3 (t 5) h Kn Kr) => F55_3_ok Kn Kr t h H1) (by kernel_rfl)
def F55_23 (h : H) (Kn : UP3) (Kr : UP3) : Prop :=
  Kr (.bool false) (.bool false) (.bool false) h
theorem F55_23_ok (Kn Kr) (t : T) (h : H) (H0 : F55_23  h Kn Kr) : Wp Tryz.prog 28 (seqR (rest 1 (bodyOf Tryz.f55.body))) (mkQ (u3 Kn 2 3 4) (u3 Kr 2 3 4) ke0) t h :=
  wpEqF H0 (by kernel_rfl)
def F55_1 (x0 : Value) (h : H) (Kn : UP3) (Kr : UP3) : Prop :=
  F55_2 x0 h (fun  h => F55_23  h Kn Kr) Kr
theorem F55_1_ok (Kn Kr) (t : T) (h : H) (H0 : F55_1 (t 0) h Kn Kr) : Wp Tryz.prog 28 (rest 1 (bodyOf Tryz.f55.body)) (mkQ (u3 Kn 2 3 4) (u3 Kr 2 3 4) ke0) t h :=
  seq_ok (by kernel_rfl) (fun t h H1 => F55_23_ok Kn Kr t h H1) (F55_2_ok (fun  h => F55_23  h Kn Kr) Kr t h H0)
def F55_0 (x0 : Value) (h : H) (Kn : UP3) (Kr : UP3) : Prop :=
  F55_1 x0 h Kn Kr
theorem F55_0_ok (Kn Kr) (t : T) (h : H) (H0 : F55_0 (t 0) h Kn Kr) : Wp Tryz.prog 28 (bodyOf Tryz.f55.body) (mkQ (u3 Kn 2 3 4) (u3 Kr 2 3 4) ke0) t h :=
  awpTo_okF 1 H0 (by kernel_rfl) (fun t h (H1 : F55_1 (t 0) h Kn Kr) => F55_1_ok Kn Kr t h H1) (by kernel_rfl)
def F55 (x0 : Value) (h : H) (Q : UP1) : Prop := F55_0 x0 h (fun y2 y3 y4 h => bif [y2, y3, y4].all boxV then Q (.tuple #[y2, y3, y4]) h else False) (fun y2 y3 y4 h => bif [y2, y3, y4].all boxV then Q (.tuple #[y2, y3, y4]) h else False)
theorem F55_spec (x0 : Value) (h : H) (Q : UP1) (H0 : F55 x0 h Q) : AM.Spec Tryz.prog 55 [x0] h Q :=
  spec_wp mixed (fn := Tryz.f55) Tryz.func55 (c := bodyOf Tryz.f55.body) (rs := [2, 3, 4]) (N := 28) (by kernel_rfl) (by kernel_rfl) (by kernel_rfl) (by kernel_rfl) (by kernel_rfl) (Nat.le_of_ble_eq_true rfl) (F55_0_ok (fun y2 y3 y4 h => bif [y2, y3, y4].all boxV then Q (.tuple #[y2, y3, y4]) h else False) (fun y2 y3 y4 h => bif [y2, y3, y4].all boxV then Q (.tuple #[y2, y3, y4]) h else False) (tinit [x0]) h H0) (by kernel_rfl)
def F56_5 (x1 x4 : Value) (h : H) (Kn : UP3) (Kr : UP1) (Ke0 : UP1) : Prop :=
  o_bin Tryz.prog .eql 3 x4 (.int .i64 1) fun v6 => o_if v6 (Kn x1 x4 v6 h) (o_bin Tryz.prog .eql 3 x4 (.int .i64 8) fun v7 => o_if v7 (Kn x1 x4 v7 h) (o_bin Tryz.prog .eql 3 x4 (.int .i64 10) fun v8 => o_if v8 (Kn x1 x4 v8 h) (o_bin Tryz.prog .eql 3 x4 (.int .i64 12) fun v9 => Kn x1 x4 v9 h)))
theorem F56_5_ok (Kn Kr Ke0) (t : T) (h : H) (H0 : F56_5 (t 1) (t 4) h Kn Kr Ke0) : Wp Tryz.prog 98 (seqL (blkC (rest 1 (seqL (rest 1 (bodyOf Tryz.f56.body)))))) (mkQ (u3 Kn 1 4 5) (u1 Kr 2) (keAdd 0 (u1 Ke0 1) ke0)) t h :=
  wpEqF H0 (by kernel_rfl)
theorem F56_5_or {a : Int} {x1 : Value} {h : H} {Kn Kr Ke0} : F56_5 x1 (.int .i64 a) h Kn Kr Ke0 = Kn x1 (.int .i64 a) (.bool (decide (a = 1) || (decide (a = 8) || (decide (a = 10) || decide (a = 12))))) h := by
  simp only [F56_5, bin_eql, if_or]
def F56_7 (h : H) (Kn : UP1) (Kr : UP1) (Ke0 : UP1) : Prop :=
  Kr (.bool true) h
theorem F56_7_ok (Kn Kr Ke0) (t : T) (h : H) (H0 : F56_7  h Kn Kr Ke0) : Wp Tryz.prog 98 (cndX (seqR (blkC (rest 1 (seqL (rest 1 (bodyOf Tryz.f56.body))))))) (mkQ (u1 Kn 1) (u1 Kr 2) (keAdd 0 (u1 Ke0 1) ke0)) t h :=
  wpEqF H0 (by kernel_rfl)
def F56_9 (x1 x4 : Value) (h : H) (Kn : UP3) (Kr : UP1) (Ke0 : UP1) : Prop :=
  o_bin Tryz.prog .eql 3 x4 (.int .i64 2) fun v11 => o_if v11 (Kn x1 x4 v11 h) (o_bin Tryz.prog .eql 3 x4 (.int .i64 14) fun v12 => Kn x1 x4 v12 h)
theorem F56_9_ok (Kn Kr Ke0) (t : T) (h : H) (H0 : F56_9 (t 1) (t 4) h Kn Kr Ke0) : Wp Tryz.prog 98 (seqL (cndY (seqR (blkC (rest 1 (seqL (rest 1 (bodyOf Tryz.f56.body)))))))) (mkQ (u3 Kn 1 4 10) (u1 Kr 2) (keAdd 0 (u1 Ke0 1) ke0)) t h :=
  wpEqF H0 (by kernel_rfl)
theorem F56_9_or {a : Int} {x1 : Value} {h : H} {Kn Kr Ke0} : F56_9 x1 (.int .i64 a) h Kn Kr Ke0 = Kn x1 (.int .i64 a) (.bool (decide (a = 2) || decide (a = 14))) h := by
  simp only [F56_9, bin_eql, if_or]
def F56_11 (x1 : Value) (h : H) (Kn : UP1) (Kr : UP1) (Ke0 : UP1) : Prop :=
  o_fieldAddr 4 x1 fun v13 => o_load false 1 v13 h fun v14 => o_bin Tryz.prog .leq 27 v14 (.int .u32 31) fun v15 => Kr v15 h
theorem F56_11_ok (Kn Kr Ke0) (t : T) (h : H) (H0 : F56_11 (t 1) h Kn Kr Ke0) : Wp Tryz.prog 98 (cndX (seqR (cndY (seqR (blkC (rest 1 (seqL (rest 1 (bodyOf Tryz.f56.body))))))))) (mkQ (u1 Kn 1) (u1 Kr 2) (keAdd 0 (u1 Ke0 1) ke0)) t h :=
  wpEqF H0 (by kernel_rfl)
def F56_13 (x1 x4 : Value) (h : H) (Kn : UP3) (Kr : UP1) (Ke0 : UP1) : Prop :=
  o_bin Tryz.prog .eql 3 x4 (.int .i64 3) fun v17 => o_if v17 (Kn x1 x4 v17 h) (o_bin Tryz.prog .eql 3 x4 (.int .i64 15) fun v18 => Kn x1 x4 v18 h)
theorem F56_13_ok (Kn Kr Ke0) (t : T) (h : H) (H0 : F56_13 (t 1) (t 4) h Kn Kr Ke0) : Wp Tryz.prog 98 (seqL (cndY (seqR (cndY (seqR (blkC (rest 1 (seqL (rest 1 (bodyOf Tryz.f56.body)))))))))) (mkQ (u3 Kn 1 4 16) (u1 Kr 2) (keAdd 0 (u1 Ke0 1) ke0)) t h :=
  wpEqF H0 (by kernel_rfl)
theorem F56_13_or {a : Int} {x1 : Value} {h : H} {Kn Kr Ke0} : F56_13 x1 (.int .i64 a) h Kn Kr Ke0 = Kn x1 (.int .i64 a) (.bool (decide (a = 3) || decide (a = 15))) h := by
  simp only [F56_13, bin_eql, if_or]
def F56_15 (x1 : Value) (h : H) (Kn : UP1) (Kr : UP1) (Ke0 : UP1) : Prop :=
  o_fieldAddr 4 x1 fun v19 => o_load false 1 v19 h fun v20 => o_bin Tryz.prog .geq 27 v20 (.int .u32 1) fun v21 => o_guard v21 true (fun k6 => o_fieldAddr 4 x1 fun v23 => o_load false 1 v23 h fun v24 => o_bin Tryz.prog .leq 27 v24 (.int .u32 31) fun v25 => k6 v25 h) (fun v25 h => o_pick v21 v25 (.bool false) fun v26 => Kr v26 h) h
theorem F56_15_ok (Kn Kr Ke0) (t : T) (h : H) (H0 : F56_15 (t 1) h Kn Kr Ke0) : Wp Tryz.prog 98 (cndX (seqR (cndY (seqR (cndY (seqR (blkC (rest 1 (seqL (rest 1 (bodyOf Tryz.f56.body))))))))))) (mkQ (u1 Kn 1) (u1 Kr 2) (keAdd 0 (u1 Ke0 1) ke0)) t h :=
  wpEqF H0 (by kernel_rfl)
def F56_17 (x1 x4 : Value) (h : H) (Kn : UP3) (Kr : UP1) (Ke0 : UP1) : Prop :=
  o_bin Tryz.prog .eql 3 x4 (.int .i64 4) fun v28 => o_if v28 (Kn x1 x4 v28 h) (o_bin Tryz.prog .eql 3 x4 (.int .i64 16) fun v29 => Kn x1 x4 v29 h)
theorem F56_17_ok (Kn Kr Ke0) (t : T) (h : H) (H0 : F56_17 (t 1) (t 4) h Kn Kr Ke0) : Wp Tryz.prog 98 (seqL (cndY (seqR (cndY (seqR (cndY (seqR (blkC (rest 1 (seqL (rest 1 (bodyOf Tryz.f56.body)))))))))))) (mkQ (u3 Kn 1 4 27) (u1 Kr 2) (keAdd 0 (u1 Ke0 1) ke0)) t h :=
  wpEqF H0 (by kernel_rfl)
theorem F56_17_or {a : Int} {x1 : Value} {h : H} {Kn Kr Ke0} : F56_17 x1 (.int .i64 a) h Kn Kr Ke0 = Kn x1 (.int .i64 a) (.bool (decide (a = 4) || decide (a = 16))) h := by
  simp only [F56_17, bin_eql, if_or]
def F56_19 (x1 : Value) (h : H) (Kn : UP1) (Kr : UP1) (Ke0 : UP1) : Prop :=
  o_fieldAddr 4 x1 fun v30 => o_load false 1 v30 h fun v31 => o_bin Tryz.prog .leq 27 v31 (.int .u32 17) fun v32 => Kr v32 h
theorem F56_19_ok (Kn Kr Ke0) (t : T) (h : H) (H0 : F56_19 (t 1) h Kn Kr Ke0) : Wp Tryz.prog 98 (cndX (seqR (cndY (seqR (cndY (seqR (cndY (seqR (blkC (rest 1 (seqL (rest 1 (bodyOf Tryz.f56.body))))))))))))) (mkQ (u1 Kn 1) (u1 Kr 2) (keAdd 0 (u1 Ke0 1) ke0)) t h :=
  wpEqF H0 (by kernel_rfl)
def F56_22 (x1 : Value) (h : H) (Kn : UP1) (Kr : UP1) (Ke0 : UP1) : Prop :=
  o_fieldAddr 4 x1 fun v35 => o_load false 1 v35 h fun v36 => o_bin Tryz.prog .leq 27 v36 (.int .u32 7) fun v37 => o_guard v37 true (fun k6 => o_fieldAddr 4 x1 fun v39 => o_load false 1 v39 h fun v40 => o_bin Tryz.prog .neq 27 v40 (.int .u32 2) fun v41 => k6 v41 h) (fun v41 h => o_pick v37 v41 (.bool false) fun v42 => o_guard v42 true (fun k11 => o_fieldAddr 4 x1 fun v44 => o_load false 1 v44 h fun v45 => o_bin Tryz.prog .neq 27 v45 (.int .u32 3) fun v46 => k11 v46 h) (fun v46 h => o_pick v42 v46 (.bool false) fun v47 => Kr v47 h) h) h
theorem F56_22_ok (Kn Kr Ke0) (t : T) (h : H) (H0 : F56_22 (t 1) h Kn Kr Ke0) : Wp Tryz.prog 98 (cndX (rest 1 (cndY (seqR (cndY (seqR (cndY (seqR (cndY (seqR (blkC (rest 1 (seqL (rest 1 (bodyOf Tryz.f56.body))))))))))))))) (mkQ (u1 Kn 1) (u1 Kr 2) (keAdd 0 (u1 Ke0 1) ke0)) t h :=
  wpEqF H0 (by kernel_rfl)
def F56_24 (x1 x4 : Value) (h : H) (Kn : UP3) (Kr : UP1) (Ke0 : UP1) : Prop :=
  o_bin Tryz.prog .eql 3 x4 (.int .i64 6) fun v49 => o_if v49 (Kn x1 x4 v49 h) (o_bin Tryz.prog .eql 3 x4 (.int .i64 17) fun v50 => Kn x1 x4 v50 h)
theorem F56_24_ok (Kn Kr Ke0) (t : T) (h : H) (H0 : F56_24 (t 1) (t 4) h Kn Kr Ke0) : Wp Tryz.prog 98 (seqL (cndY (rest 1 (cndY (seqR (cndY (seqR (cndY (seqR (cndY (seqR (blkC (rest 1 (seqL (rest 1 (bodyOf Tryz.f56.body)))))))))))))))) (mkQ (u3 Kn 1 4 48) (u1 Kr 2) (keAdd 0 (u1 Ke0 1) ke0)) t h :=
  wpEqF H0 (by kernel_rfl)
theorem F56_24_or {a : Int} {x1 : Value} {h : H} {Kn Kr Ke0} : F56_24 x1 (.int .i64 a) h Kn Kr Ke0 = Kn x1 (.int .i64 a) (.bool (decide (a = 6) || decide (a = 17))) h := by
  simp only [F56_24, bin_eql, if_or]
def F56_26 (x1 : Value) (h : H) (Kn : UP1) (Kr : UP1) (Ke0 : UP1) : Prop :=
  o_fieldAddr 4 x1 fun v51 => o_load false 1 v51 h fun v52 => o_call Tryz.prog 95 [v52] h fun v53 h => o_guard v53 false (fun k6 => o_fieldAddr 4 x1 fun v55 => o_load false 1 v55 h fun v56 => o_bin Tryz.prog .eql 27 v56 (.int .u32 9) fun v57 => k6 v57 h) (fun v57 h => o_pick v53 (.bool true) v57 fun v58 => o_guard v58 false (fun k11 => o_fieldAddr 4 x1 fun v60 => o_load false 1 v60 h fun v61 => o_bin Tryz.prog .eql 27 v61 (.int .u32 10) fun v62 => k11 v62 h) (fun v62 h => o_pick v58 (.bool true) v62 fun v63 => Kr v63 h) h) h
theorem F56_26_ok (Kn Kr Ke0) (t : T) (h : H) (H0 : F56_26 (t 1) h Kn Kr Ke0) : Wp Tryz.prog 98 (cndX (seqR (cndY (rest 1 (cndY (seqR (cndY (seqR (cndY (seqR (cndY (seqR (blkC (rest 1 (seqL (rest 1 (bodyOf Tryz.f56.body))))))))))))))))) (mkQ (u1 Kn 1) (u1 Kr 2) (keAdd 0 (u1 Ke0 1) ke0)) t h :=
  wpEqF H0 (by kernel_rfl)
def F56_28 (x1 x4 : Value) (h : H) (Kn : UP3) (Kr : UP1) (Ke0 : UP1) : Prop :=
  o_bin Tryz.prog .eql 3 x4 (.int .i64 7) fun v65 => o_if v65 (Kn x1 x4 v65 h) (o_bin Tryz.prog .eql 3 x4 (.int .i64 18) fun v66 => Kn x1 x4 v66 h)
theorem F56_28_ok (Kn Kr Ke0) (t : T) (h : H) (H0 : F56_28 (t 1) (t 4) h Kn Kr Ke0) : Wp Tryz.prog 98 (seqL (cndY (seqR (cndY (rest 1 (cndY (seqR (cndY (seqR (cndY (seqR (cndY (seqR (blkC (rest 1 (seqL (rest 1 (bodyOf Tryz.f56.body)))))))))))))))))) (mkQ (u3 Kn 1 4 64) (u1 Kr 2) (keAdd 0 (u1 Ke0 1) ke0)) t h :=
  wpEqF H0 (by kernel_rfl)
theorem F56_28_or {a : Int} {x1 : Value} {h : H} {Kn Kr Ke0} : F56_28 x1 (.int .i64 a) h Kn Kr Ke0 = Kn x1 (.int .i64 a) (.bool (decide (a = 7) || decide (a = 18))) h := by
  simp only [F56_28, bin_eql, if_or]
def F56_29 (x1 x4 x64 : Value) (h : H) (Kn : UP1) (Kr : UP1) (Ke0 : UP1) : Prop :=
  o_if x64 (o_fieldAddr 4 x1 fun v67 => o_load false 1 v67 h fun v68 => o_call Tryz.prog 95 [v68] h fun v69 h => Kr v69 h) (o_bin Tryz.prog .eql 3 x4 (.int .i64 13) fun v71 => o_if v71 (o_fieldAddr 4 x1 fun v72 => o_load false 1 v72 h fun v73 => o_bin Tryz.prog .eql 27 v73 (.int .u32 2) fun v74 => o_guard v74 false (fun k6 => o_fieldAddr 4 x1 fun v76 => o_load false 1 v76 h fun v77 => o_bin Tryz.prog .eql 27 v77 (.int .u32 5) fun v78 => k6 v78 h) (fun v78 h => o_pick v74 (.bool true) v78 fun v79 => o_guard v79 false (fun k11 => o_fieldAddr 4 x1 fun v81 => o_load false 1 v81 h fun v82 => o_bin Tryz.prog .eql 27 v82 (.int .u32 6) fun v83 => k11 v83 h) (fun v83 h => o_pick v79 (.bool true) v83 fun v84 => Kr v84 h) h) h) (o_bin Tryz.prog .eql 3 x4 (.int .i64 20) fun v86 => o_if v86 (o_fieldAddr 4 x1 fun v87 => o_load false 1 v87 h fun v88 => o_bin Tryz.prog .geq 27 v88 (.int .u32 1) fun v89 => o_guard v89 true (fun k6 => o_fieldAddr 4 x1 fun v91 => o_load false 1 v91 h fun v92 => o_bin Tryz.prog .leq 27 v92 (.int .u32 3) fun v93 => k6 v93 h) (fun v93 h => o_pick v89 v93 (.bool false) fun v94 => Kr v94 h) h) (Kn x1 h)))
theorem F56_29_ok (Kn Kr Ke0) (t : T) (h : H) (H0 : F56_29 (t 1) (t 4) (t 64) h Kn Kr Ke0) : Wp Tryz.prog 98 (seqR (cndY (seqR (cndY (rest 1 (cndY (seqR (cndY (seqR (cndY (seqR (cndY (seqR (blkC (rest 1 (seqL (rest 1 (bodyOf Tryz.f56.body)))))))))))))))))) (mkQ (u1 Kn 1) (u1 Kr 2) (keAdd 0 (u1 Ke0 1) ke0)) t h :=
  wpEqF H0 (by kernel_rfl)
def F56_27 (x1 x4 : Value) (h : H) (Kn : UP1) (Kr : UP1) (Ke0 : UP1) : Prop :=
  F56_28 x1 x4 h (fun y1 y4 y64 h => F56_29 y1 y4 y64 h Kn Kr Ke0) Kr Ke0
theorem F56_27_ok (Kn Kr Ke0) (t : T) (h : H) (H0 : F56_27 (t 1) (t 4) h Kn Kr Ke0) : Wp Tryz.prog 98 (cndY (seqR (cndY (rest 1 (cndY (seqR (cndY (seqR (cndY (seqR (cndY (seqR (blkC (rest 1 (seqL (rest 1 (bodyOf Tryz.f56.body))))))))))))))))) (mkQ (u1 Kn 1) (u1 Kr 2) (keAdd 0 (u1 Ke0 1) ke0)) t h :=
  seq_ok (by kernel_rfl) (fun t h H1 => F56_29_ok Kn Kr Ke0 t h H1) (F56_28_ok (fun y1 y4 y64 h => F56_29 y1 y4 y64 h Kn Kr Ke0) Kr Ke0 t h H0)
def F56_25 (x1 x4 x48 : Value) (h : H) (Kn : UP1) (Kr : UP1) (Ke0 : UP1) : Prop :=
  o_if x48 (F56_26 x1 h Kn Kr Ke0) (F56_27 x1 x4 h Kn Kr Ke0)
theorem F56_25_ok (Kn Kr Ke0) (t : T) (h : H) (H0 : F56_25 (t 1) (t 4) (t 48) h Kn Kr Ke0) : Wp Tryz.prog 98 (seqR (cndY (rest 1 (cndY (seqR (cndY (seqR (cndY (seqR (cndY (seqR (blkC (rest 1 (seqL (rest 1 (bodyOf Tryz.f56.body)))))))))))))))) (mkQ (u1 Kn 1) (u1 Kr 2) (keAdd 0 (u1 Ke0 1) ke0)) t h :=
  cond_ok H0 (by kernel_rfl) (F56_26_ok Kn Kr Ke0 t h) (F56_27_ok Kn Kr Ke0 t h) (by kernel_rfl)
def F56_23 (x1 x4 : Value) (h : H) (Kn : UP1) (Kr : UP1) (Ke0 : UP1) : Prop :=
  F56_24 x1 x4 h (fun y1 y4 y48 h => F56_25 y1 y4 y48 h Kn Kr Ke0) Kr Ke0
theorem F56_23_ok (Kn Kr Ke0) (t : T) (h : H) (H0 : F56_23 (t 1) (t 4) h Kn Kr Ke0) : Wp Tryz.prog 98 (cndY (rest 1 (cndY (seqR (cndY (seqR (cndY (seqR (cndY (seqR (blkC (rest 1 (seqL (rest 1 (bodyOf Tryz.f56.body))))))))))))))) (mkQ (u1 Kn 1) (u1 Kr 2) (keAdd 0 (u1 Ke0 1) ke0)) t h :=
  seq_ok (by kernel_rfl) (fun t h H1 => F56_25_ok Kn Kr Ke0 t h H1) (F56_24_ok (fun y1 y4 y48 h => F56_25 y1 y4 y48 h Kn Kr Ke0) Kr Ke0 t h H0)
def F56_21 (x1 x4 x33 : Value) (h : H) (Kn : UP1) (Kr : UP1) (Ke0 : UP1) : Prop :=
  o_if x33 (F56_22 x1 h Kn Kr Ke0) (F56_23 x1 x4 h Kn Kr Ke0)
theorem F56_21_ok (Kn Kr Ke0) (t : T) (h : H) (H0 : F56_21 (t 1) (t 4) (t 33) h Kn Kr Ke0) : Wp Tryz.prog 98 (rest 1 (cndY (seqR (cndY (seqR (cndY (seqR (cndY (seqR (blkC (rest 1 (seqL (rest 1 (bodyOf Tryz.f56.body)))))))))))))) (mkQ (u1 Kn 1) (u1 Kr 2) (keAdd 0 (u1 Ke0 1) ke0)) t h :=
  cond_ok H0 (by kernel_rfl) (F56_22_ok Kn Kr Ke0 t h) (F56_23_ok Kn Kr Ke0 t h) (by kernel_rfl)
def F56_20 (x1 x4 : Value) (h : H) (Kn : UP1) (Kr : UP1) (Ke0 : UP1) : Prop :=
  o_bin Tryz.prog .eql 3 x4 (.int .i64 5) fun v34 => F56_21 x1 x4 v34 h Kn Kr Ke0
theorem F56_20_ok (Kn Kr Ke0) (t : T) (h : H) (H0 : F56_20 (t 1) (t 4) h Kn Kr Ke0) : Wp Tryz.prog 98 (cndY (seqR (cndY (seqR (cndY (seqR (cndY (seqR (blkC (rest 1 (seqL (rest 1 (bodyOf Tryz.f56.body))))))))))))) (mkQ (u1 Kn 1) (u1 Kr 2) (keAdd 0 (u1 Ke0 1) ke0)) t h :=
  awpTo_okF 1 H0 (by kernel_rfl) (fun t h (H1 : F56_21 (t 1) (t 4) (t 33) h Kn Kr Ke0) => F56_21_ok Kn Kr Ke0 t h H1) (by kernel_rfl)
def F56_18 (x1 x4 x27 : Value) (h : H) (Kn : UP1) (Kr : UP1) (Ke0 : UP1) : Prop :=
  o_if x27 (F56_19 x1 h Kn Kr Ke0) (F56_20 x1 x4 h Kn Kr Ke0)
theorem F56_18_ok (Kn Kr Ke0) (t : T) (h : H) (H0 : F56_18 (t 1) (t 4) (t 27) h Kn Kr Ke0) : Wp Tryz.prog 98 (seqR (cndY (seqR (cndY (seqR (cndY (seqR (blkC (rest 1 (seqL (rest 1 (bodyOf Tryz.f56.body)))))))))))) (mkQ (u1 Kn 1) (u1 Kr 2) (keAdd 0 (u1 Ke0 1) ke0)) t h :=
  cond_ok H0 (by kernel_rfl) (F56_19_ok Kn Kr Ke0 t h) (F56_20_ok Kn Kr Ke0 t h) (by kernel_rfl)
def F56_16 (x1 x4 : Value) (h : H) (Kn : UP1) (Kr : UP1) (Ke0 : UP1) : Prop :=
  F56_17 x1 x4 h (fun y1 y4 y27 h => F56_18 y1 y4 y27 h Kn Kr Ke0) Kr Ke0
theorem F56_16_ok (Kn Kr Ke0) (t : T) (h : H) (H0 : F56_16 (t 1) (t 4) h Kn Kr Ke0) : Wp Tryz.prog 98 (cndY (seqR (cndY (seqR (cndY (seqR (blkC (rest 1 (seqL (rest 1 (bodyOf Tryz.f56.body))))))))))) (mkQ (u1 Kn 1) (u1 Kr 2) (keAdd 0 (u1 Ke0 1) ke0)) t h :=
  seq_ok (by kernel_rfl) (fun t h H1 => F56_18_ok Kn Kr Ke0 t h H1) (F56_17_ok (fun y1 y4 y27 h => F56_18 y1 y4 y27 h Kn Kr Ke0) Kr Ke0 t h H0)
def F56_14 (x1 x4 x16 : Value) (h : H) (Kn : UP1) (Kr : UP1) (Ke0 : UP1) : Prop :=
  o_if x16 (F56_15 x1 h Kn Kr Ke0) (F56_16 x1 x4 h Kn Kr Ke0)
theorem F56_14_ok (Kn Kr Ke0) (t : T) (h : H) (H0 : F56_14 (t 1) (t 4) (t 16) h Kn Kr Ke0) : Wp Tryz.prog 98 (seqR (cndY (seqR (cndY (seqR (blkC (rest 1 (seqL (rest 1 (bodyOf Tryz.f56.body)))))))))) (mkQ (u1 Kn 1) (u1 Kr 2) (keAdd 0 (u1 Ke0 1) ke0)) t h :=
  cond_ok H0 (by kernel_rfl) (F56_15_ok Kn Kr Ke0 t h) (F56_16_ok Kn Kr Ke0 t h) (by kernel_rfl)
def F56_12 (x1 x4 : Value) (h : H) (Kn : UP1) (Kr : UP1) (Ke0 : UP1) : Prop :=
  F56_13 x1 x4 h (fun y1 y4 y16 h => F56_14 y1 y4 y16 h Kn Kr Ke0) Kr Ke0
theorem F56_12_ok (Kn Kr Ke0) (t : T) (h : H) (H0 : F56_12 (t 1) (t 4) h Kn Kr Ke0) : Wp Tryz.prog 98 (cndY (seqR (cndY (seqR (blkC (rest 1 (seqL (rest 1 (bodyOf Tryz.f56.body))))))))) (mkQ (u1 Kn 1) (u1 Kr 2) (keAdd 0 (u1 Ke0 1) ke0)) t h :=
  seq_ok (by kernel_rfl) (fun t h H1 => F56_14_ok Kn Kr Ke0 t h H1) (F56_13_ok (fun y1 y4 y16 h => F56_14 y1 y4 y16 h Kn Kr Ke0) Kr Ke0 t h H0)
def F56_10 (x1 x4 x10 : Value) (h : H) (Kn : UP1) (Kr : UP1) (Ke0 : UP1) : Prop :=
  o_if x10 (F56_11 x1 h Kn Kr Ke0) (F56_12 x1 x4 h Kn Kr Ke0)
theorem F56_10_ok (Kn Kr Ke0) (t : T) (h : H) (H0 : F56_10 (t 1) (t 4) (t 10) h Kn Kr Ke0) : Wp Tryz.prog 98 (seqR (cndY (seqR (blkC (rest 1 (seqL (rest 1 (bodyOf Tryz.f56.body)))))))) (mkQ (u1 Kn 1) (u1 Kr 2) (keAdd 0 (u1 Ke0 1) ke0)) t h :=
  cond_ok H0 (by kernel_rfl) (F56_11_ok Kn Kr Ke0 t h) (F56_12_ok Kn Kr Ke0 t h) (by kernel_rfl)
def F56_8 (x1 x4 : Value) (h : H) (Kn : UP1) (Kr : UP1) (Ke0 : UP1) : Prop :=
  F56_9 x1 x4 h (fun y1 y4 y10 h => F56_10 y1 y4 y10 h Kn Kr Ke0) Kr Ke0
theorem F56_8_ok (Kn Kr Ke0) (t : T) (h : H) (H0 : F56_8 (t 1) (t 4) h Kn Kr Ke0) : Wp Tryz.prog 98 (cndY (seqR (blkC (rest 1 (seqL (rest 1 (bodyOf Tryz.f56.body))))))) (mkQ (u1 Kn 1) (u1 Kr 2) (keAdd 0 (u1 Ke0 1) ke0)) t h :=
  seq_ok (by kernel_rfl) (fun t h H1 => F56_10_ok Kn Kr Ke0 t h H1) (F56_9_ok (fun y1 y4 y10 h => F56_10 y1 y4 y10 h Kn Kr Ke0) Kr Ke0 t h H0)
def F56_6 (x1 x4 x5 : Value) (h : H) (Kn : UP1) (Kr : UP1) (Ke0 : UP1) : Prop :=
  o_if x5 (F56_7  h Kn Kr Ke0) (F56_8 x1 x4 h Kn Kr Ke0)
theorem F56_6_ok (Kn Kr Ke0) (t : T) (h : H) (H0 : F56_6 (t 1) (t 4) (t 5) h Kn Kr Ke0) : Wp Tryz.prog 98 (seqR (blkC (rest 1 (seqL (rest 1 (bodyOf Tryz.f56.body)))))) (mkQ (u1 Kn 1) (u1 Kr 2) (keAdd 0 (u1 Ke0 1) ke0)) t h :=
  cond_ok H0 (by kernel_rfl) (F56_7_ok Kn Kr Ke0 t h) (F56_8_ok Kn Kr Ke0 t h) (by kernel_rfl)
def F56_4 (x1 x4 : Value) (h : H) (Kn : UP1) (Kr : UP1) (Ke0 : UP1) : Prop :=
  F56_5 x1 x4 h (fun y1 y4 y5 h => F56_6 y1 y4 y5 h Kn Kr Ke0) Kr Ke0
theorem F56_4_ok (Kn Kr Ke0) (t : T) (h : H) (H0 : F56_4 (t 1) (t 4) h Kn Kr Ke0) : Wp Tryz.prog 98 (blkC (rest 1 (seqL (rest 1 (bodyOf Tryz.f56.body))))) (mkQ (u1 Kn 1) (u1 Kr 2) (keAdd 0 (u1 Ke0 1) ke0)) t h :=
  seq_ok (by kernel_rfl) (fun t h H1 => F56_6_ok Kn Kr Ke0 t h H1) (F56_5_ok (fun y1 y4 y5 h => F56_6 y1 y4 y5 h Kn Kr Ke0) Kr Ke0 t h H0)
def F56_3 (x1 x4 : Value) (h : H) (Kn : UP1) (Kr : UP1) : Prop :=
  F56_4 x1 x4 h Kn Kr Kn
theorem F56_3_ok (Kn Kr) (t : T) (h : H) (H0 : F56_3 (t 1) (t 4) h Kn Kr) : Wp Tryz.prog 98 (rest 1 (seqL (rest 1 (bodyOf Tryz.f56.body)))) (mkQ (u1 Kn 1) (u1 Kr 2) ke0) t h :=
  block_ok 0 (by kernel_rfl) (by kernel_rfl) (F56_4_ok Kn Kr Kn t h H0)
def F56_2 (x1 : Value) (h : H) (Kn : UP1) (Kr : UP1) : Prop :=
  o_fieldAddr 0 x1 fun v3 => o_load false 1 v3 h fun v4 => F56_3 x1 v4 h Kn Kr
theorem F56_2_ok (Kn Kr) (t : T) (h : H) (H0 : F56_2 (t 1) h Kn Kr) : Wp Tryz.prog 98 (seqL (rest 1 (bodyOf Tryz.f56.body))) (mkQ (u1 Kn 1) (u1 Kr 2) ke0) t h :=
  awpTo_okF 1 H0 (by kernel_rfl) (fun t h (H1 : F56_3 (t 1) (t 4) h Kn Kr) => F56_3_ok Kn Kr t h H1) (by kernel_rfl)
def F56_30 (x1 : Value) (h : H) (Kn : UP1) (Kr : UP1) : Prop :=
  o_fieldAddr 4 x1 fun v95 => o_load false 1 v95 h fun v96 => o_bin Tryz.prog .eql 27 v96 (.int .u32 0) fun v97 => Kr v97 h
theorem F56_30_ok (Kn Kr) (t : T) (h : H) (H0 : F56_30 (t 1) h Kn Kr) : Wp Tryz.prog 98 (seqR (rest 1 (bodyOf Tryz.f56.body))) (mkQ (u1 Kn 2) (u1 Kr 2) ke0) t h :=
  wpEqF H0 (by kernel_rfl)
def F56_1 (x1 : Value) (h : H) (Kn : UP1) (Kr : UP1) : Prop :=
  F56_2 x1 h (fun y1 h => F56_30 y1 h Kn Kr) Kr
theorem F56_1_ok (Kn Kr) (t : T) (h : H) (H0 : F56_1 (t 1) h Kn Kr) : Wp Tryz.prog 98 (rest 1 (bodyOf Tryz.f56.body)) (mkQ (u1 Kn 2) (u1 Kr 2) ke0) t h :=
  seq_ok (by kernel_rfl) (fun t h H1 => F56_30_ok Kn Kr t h H1) (F56_2_ok (fun y1 h => F56_30 y1 h Kn Kr) Kr t h H0)
def F56_0 (x0 : Value) (h : H) (Kn : UP1) (Kr : UP1) : Prop :=
  boxV x0 = true ∧ o_new (Value.cells x0).toList 40 .exact h fun b1 h => F56_1 (.pointer (some ⟨b1, 0, none⟩)) h Kn Kr
theorem F56_0_ok (Kn Kr) (t : T) (h : H) (H0 : F56_0 (t 0) h Kn Kr) : Wp Tryz.prog 98 (bodyOf Tryz.f56.body) (mkQ (u1 Kn 2) (u1 Kr 2) ke0) t h :=
  awpTo_okF 1 H0 (by kernel_rfl) (fun t h (H1 : F56_1 (t 1) h Kn Kr) => F56_1_ok Kn Kr t h H1) (by kernel_rfl)
def F56 (x0 : Value) (h : H) (Q : UP1) : Prop := F56_0 x0 h (fun v h => Q v h) (fun v h => Q v h)
theorem F56_spec (x0 : Value) (h : H) (Q : UP1) (H0 : F56 x0 h Q) : AM.Spec Tryz.prog 56 [x0] h Q :=
  spec_wp mixed (fn := Tryz.f56) Tryz.func56 (c := bodyOf Tryz.f56.body) (rs := [2]) (N := 98) (by kernel_rfl) (by kernel_rfl) (by kernel_rfl) (by kernel_rfl) (by kernel_rfl) (Nat.le_of_ble_eq_true rfl) (F56_0_ok (fun v h => Q v h) (fun v h => Q v h) (tinit [x0]) h H0) (by kernel_rfl)
def F57_0 (x0 x1 : Value) (h : H) (Kn : UP1) (Kr : UP1) : Prop :=
  o_bin Tryz.prog .eql 3 x1 (.int .i64 0) fun v6 => o_guard v6 false (fun k11 => o_guard x0 true (fun k6 => o_bin Tryz.prog .gtr 3 x1 (.int .i64 0) fun v11 => k6 v11 h) (fun v11 h => o_pick x0 v11 (.bool false) fun v12 => o_guard v12 true (fun k10 => o_bin Tryz.prog .lss 3 x1 (.int .i64 256) fun v15 => k10 v15 h) (fun v15 h => o_pick v12 v15 (.bool false) fun v16 => k11 v16 h) h) h) (fun v16 h => o_pick v6 (.bool true) v16 fun v17 => Kr v17 h) h
theorem F57_0_ok (Kn Kr) (t : T) (h : H) (H0 : F57_0 (t 0) (t 1) h Kn Kr) : Wp Tryz.prog 18 (bodyOf Tryz.f57.body) (mkQ (u1 Kn 4) (u1 Kr 4) ke0) t h :=
  wpEqF H0 (by kernel_rfl)
def F57 (x0 x1 : Value) (h : H) (Q : UP1) : Prop := F57_0 x0 x1 h (fun v h => Q v h) (fun v h => Q v h)
theorem F57_spec (x0 x1 : Value) (h : H) (Q : UP1) (H0 : F57 x0 x1 h Q) : AM.Spec Tryz.prog 57 [x0, x1] h Q :=
  spec_wp mixed (fn := Tryz.f57) Tryz.func57 (c := bodyOf Tryz.f57.body) (rs := [4]) (N := 18) (by kernel_rfl) (by kernel_rfl) (by kernel_rfl) (by kernel_rfl) (by kernel_rfl) (Nat.le_of_ble_eq_true rfl) (F57_0_ok (fun v h => Q v h) (fun v h => Q v h) (tinit [x0, x1]) h H0) (by kernel_rfl)
def F58_5 (x0 x1 x7 x8 : Value) (h : H) (Kn : UP4) (Kr : UP1) (Ke0 : H → Prop) : Prop :=
  o_bin Tryz.prog .lss 3 x8 x7 fun v9 => o_if v9 (o_indexAddr none 1 x0 x8 fun v14 => o_load false 1 v14 h fun v15 => o_dyn Tryz.prog x1 [v15] h fun v16 h => o_if v16 (Kr x8 h) (o_bin Tryz.prog .add 3 x8 (.int .i64 1) fun v18 => Kn x0 x1 x7 v18 h)) (Ke0 h)
theorem F58_5_ok (Kn Kr Ke0) (t : T) (h : H) (H0 : F58_5 (t 0) (t 1) (t 7) (t 8) h Kn Kr Ke0) : Wp Tryz.prog 19 (lopC (blkC (rest 1 (seqL (rest 1 (bodyOf Tryz.f58.body)))))) (mkQ (u4 Kn 0 1 7 8) (u1 Kr 4) (keAdd 0 (u0 Ke0) ke0)) t h :=
  wpEqF H0 (by kernel_rfl)
def F58_4 (x0 x1 x7 x8 : Value) (h : H) (Kn : H → Prop) (Kr : UP1) (Ke0 : H → Prop) : Prop :=
  sloop (S := Value × Value × Value × Value) (fun s h K => F58_5 s.1 s.2.1 s.2.2.1 s.2.2.2 h (fun y0 y1 y7 y8 h => K (y0, y1, y7, y8) h) Kr Ke0) (x0, x1, x7, x8) h
theorem F58_4_ok (Kn Kr Ke0) (t : T) (h : H) (H0 : F58_4 (t 0) (t 1) (t 7) (t 8) h Kn Kr Ke0) : Wp Tryz.prog 19 (blkC (rest 1 (seqL (rest 1 (bodyOf Tryz.f58.body))))) (mkQ (u0 Kn) (u1 Kr 4) (keAdd 0 (u0 Ke0) ke0)) t h :=
  loop_ok (fun t => (t 0, t 1, t 7, t 8)) (by kernel_rfl) (fun t h K H1 => F58_5_ok (fun y0 y1 y7 y8 h => K (y0, y1, y7, y8) h) Kr Ke0 t h H1) H0
def F58_3 (x0 x1 x7 x8 : Value) (h : H) (Kn : H → Prop) (Kr : UP1) : Prop :=
  F58_4 x0 x1 x7 x8 h Kn Kr Kn
theorem F58_3_ok (Kn Kr) (t : T) (h : H) (H0 : F58_3 (t 0) (t 1) (t 7) (t 8) h Kn Kr) : Wp Tryz.prog 19 (rest 1 (seqL (rest 1 (bodyOf Tryz.f58.body)))) (mkQ (u0 Kn) (u1 Kr 4) ke0) t h :=
  block_ok 0 (by kernel_rfl) (by kernel_rfl) (F58_4_ok Kn Kr Kn t h H0)
def F58_2 (x0 x1 : Value) (h : H) (Kn : H → Prop) (Kr : UP1) : Prop :=
  o_lenSl x0 fun v7 => F58_3 x0 x1 v7 (.int .i64 0) h Kn Kr
theorem F58_2_ok (Kn Kr) (t : T) (h : H) (H0 : F58_2 (t 0) (t 1) h Kn Kr) : Wp Tryz.prog 19 (seqL (rest 1 (bodyOf Tryz.f58.body))) (mkQ (u0 Kn) (u1 Kr 4) ke0) t h :=
  awpTo_okF 1 H0 (by kernel_rfl) (fun t h (H1 : F58_3 (t 0) (t 1) (t 7) (t 8) h Kn Kr) => F58_3_ok Kn Kr t h H1) (by kernel_rfl)
def F58_6 (h : H) (Kn : UP1) (Kr : UP1) : Prop :=
  Kr (.int .i64 (-1)) h
theorem F58_6_ok (Kn Kr) (t : T) (h : H) (H0 : F58_6  h Kn Kr) : Wp Tryz.prog 19 (seqR (rest 1 (bodyOf Tryz.f58.body))) (mkQ (u1 Kn 4) (u1 Kr 4) ke0) t h :=
  wpEqF H0 (by kernel_rfl)
def F58_1 (x0 x1 : Value) (h : H) (Kn : UP1) (Kr : UP1) : Prop :=
  F58_2 x0 x1 h (fun  h => F58_6  h Kn Kr) Kr
theorem F58_1_ok (Kn Kr) (t : T) (h : H) (H0 : F58_1 (t 0) (t 1) h Kn Kr) : Wp Tryz.prog 19 (rest 1 (bodyOf Tryz.f58.body)) (mkQ (u1 Kn 4) (u1 Kr 4) ke0) t h :=
  seq_ok (by kernel_rfl) (fun t h H1 => F58_6_ok Kn Kr t h H1) (F58_2_ok (fun  h => F58_6  h Kn Kr) Kr t h H0)
def F58_0 (x0 x1 : Value) (h : H) (Kn : UP1) (Kr : UP1) : Prop :=
  F58_1 x0 x1 h Kn Kr
theorem F58_0_ok (Kn Kr) (t : T) (h : H) (H0 : F58_0 (t 0) (t 1) h Kn Kr) : Wp Tryz.prog 19 (bodyOf Tryz.f58.body) (mkQ (u1 Kn 4) (u1 Kr 4) ke0) t h :=
  awpTo_okF 1 H0 (by kernel_rfl) (fun t h (H1 : F58_1 (t 0) (t 1) h Kn Kr) => F58_1_ok Kn Kr t h H1) (by kernel_rfl)
def F58 (x0 x1 : Value) (h : H) (Q : UP1) : Prop := F58_0 x0 x1 h (fun v h => Q v h) (fun v h => Q v h)
theorem F58_spec (x0 x1 : Value) (h : H) (Q : UP1) (H0 : F58 x0 x1 h Q) : AM.Spec Tryz.prog 58 [x0, x1] h Q :=
  spec_wp mixed (fn := Tryz.f58) Tryz.func58 (c := bodyOf Tryz.f58.body) (rs := [4]) (N := 19) (by kernel_rfl) (by kernel_rfl) (by kernel_rfl) (by kernel_rfl) (by kernel_rfl) (Nat.le_of_ble_eq_true rfl) (F58_0_ok (fun v h => Q v h) (fun v h => Q v h) (tinit [x0, x1]) h H0) (by kernel_rfl)
def F95_0 (x0 : Value) (h : H) (Kn : UP1) (Kr : UP1) : Prop :=
  o_bin Tryz.prog .eql 27 x0 (.int .u32 1) fun v4 => o_guard v4 false (fun k4 => o_bin Tryz.prog .eql 27 x0 (.int .u32 2) fun v7 => k4 v7 h) (fun v7 h => o_pick v4 (.bool true) v7 fun v8 => o_guard v8 false (fun k8 => o_bin Tryz.prog .eql 27 x0 (.int .u32 4) fun v11 => k8 v11 h) (fun v11 h => o_pick v8 (.bool true) v11 fun v12 => Kr v12 h) h) h
theorem F95_0_ok (Kn Kr) (t : T) (h : H) (H0 : F95_0 (t 0) h Kn Kr) : Wp Tryz.prog 13 (bodyOf Tryz.f95.body) (mkQ (u1 Kn 2) (u1 Kr 2) ke0) t h :=
  wpEqF H0 (by kernel_rfl)
def F95 (x0 : Value) (h : H) (Q : UP1) : Prop := F95_0 x0 h (fun v h => Q v h) (fun v h => Q v h)
theorem F95_spec (x0 : Value) (h : H) (Q : UP1) (H0 : F95 x0 h Q) : AM.Spec Tryz.prog 95 [x0] h Q :=
  spec_wp mixed (fn := Tryz.f95) Tryz.func95 (c := bodyOf Tryz.f95.body) (rs := [2]) (N := 13) (by kernel_rfl) (by kernel_rfl) (by kernel_rfl) (by kernel_rfl) (by kernel_rfl) (Nat.le_of_ble_eq_true rfl) (F95_0_ok (fun v h => Q v h) (fun v h => Q v h) (tinit [x0]) h H0) (by kernel_rfl)
end Go.Proofs.YtcohcmlidmaaoaaGreat
