/-
  Proved here: the law 'LowerGood' (tincturelaw21) answers true at every list of words, every number and every bound, in every world, and changes nothing that came in; no conditions. By contracts of the program's functions over an abstract memory. Several texts put together, long names shortened by a program.
-/
import Derived.Test.YtnckimioabkheaaGreatZ2
import Derived.KernelRfl
import Derived.Test.YtnckimioabkheaaGreatZ6
import Derived.Test.YtnckimioabkheaaGreatZ3
import Derived.ProofKit
import Derived.Deep.Slices
import Derived.Test.YtnckimioabkheaaGreatRows
set_option linter.unusedVariables false
set_option linter.unusedSimpArgs false
set_option maxRecDepth 100000
namespace Go.Proofs.YtnckimioabkheaaGreat
open Go.Proofs.YtnckimioabkheaaGreat.AM
def F14_7 (x0 x3 x24 x25 x26 : Value) (h : H) (Kn : Value → Value → Value → Value → Value → H → Prop) (Kr : Value → H → Prop) (Ke0 : Value → H → Prop) : Prop :=
  ys75 none 5 x24 x26 fun v28 => ysm8 true 5 v28 h fun v29 => o_new [.int .i64 0, .int .i64 0, .int .i64 0, .int .i64 0, .int .u32 0] 64 .exact h fun b5 h => yxd5 5 (.pointer (some ⟨b5, 0, none⟩)) v29 h fun h => ysm8 true 5 (.pointer (some ⟨b5, 0, none⟩)) h fun v30 => ywv3 Tryz.prog 53 [v30] h fun v31 h => o_un Tryz.prog .not v31 fun v32 => yycv v32 false (fun k13 => yokc 0 (.pointer (some ⟨b5, 0, none⟩)) fun v34 => ysm8 false 1 v34 h fun v35 => ywv3 Tryz.prog 54 [v35] h fun v36 h => yycv v36 true (fun k12 => yokc 1 (.pointer (some ⟨b5, 0, none⟩)) fun v38 => ysm8 false 1 v38 h fun v39 => ys75 (some 256) 1 x3 v39 fun v40 => ysm8 false 1 v40 h fun v41 => o_un Tryz.prog .not v41 fun v42 => k12 v42 h) (fun v42 h => yw1w v36 v42 (.bool false) fun v43 => k13 v43 h) h) (fun v43 h => yw1w v32 (.bool true) v43 fun v44 => o_if v44 (Kr (.bool false) h) (ysm8 true 5 (.pointer (some ⟨b5, 0, none⟩)) h fun v45 => ywv3 Tryz.prog 56 [v45] h fun v46 h => List.all [] ysqa = true ∧ List.all [x3] ysqa = true ∧ ywv3 Tryz.prog 55 [v46, (.func (.func 57) #[] #[x3])] h fun v48 h => o_if v48 (Kr (.bool false) h) (ysm8 true 5 (.pointer (some ⟨b5, 0, none⟩)) h fun v50 => ywv3 Tryz.prog 58 [v50] h fun v51 h => ychn v51 0 fun v52 => ychn v51 1 fun v53 => o_if v53 (ys75 (some 256) 1 x3 v52 fun v56 => yxd5 1 v56 (.bool true) h fun h => Kn x0 x3 x24 x25 x26 h) (Kn x0 x3 x24 x25 x26 h)))) h
theorem yovq (Kn Kr Ke0) (t : T) (h : H) (H0 : F14_7 (t 0) (t 3) (t 24) (t 25) (t 26) h Kn Kr Ke0) : Wp Tryz.prog 71 (seqL (rest 2 (lopC (blkC (rest 1 (seqL (rest 3 (ygjk Tryz.f14.body)))))))) (mkQ (fun t h => Kn (t 0) (t 3) (t 24) (t 25) (t 26) h) (fun t h => Kr (t 2) h) (keAdd 0 (fun t h => Ke0 (t 0) h) ke0)) t h :=
  wpEqF H0 (by kernel_rfl)
def F14_8 (x0 x3 x24 x25 x26 : Value) (h : H) (Kn : Value → Value → Value → Value → Value → H → Prop) (Kr : Value → H → Prop) (Ke0 : Value → H → Prop) : Prop :=
  o_bin Tryz.prog .add 3 x26 (.int .i64 1) fun v57 => Kn x0 x3 x24 x25 v57 h
theorem yi02 (Kn Kr Ke0) (t : T) (h : H) (H0 : F14_8 (t 0) (t 3) (t 24) (t 25) (t 26) h Kn Kr Ke0) : Wp Tryz.prog 71 (seqR (rest 2 (lopC (blkC (rest 1 (seqL (rest 3 (ygjk Tryz.f14.body)))))))) (mkQ (fun t h => Kn (t 0) (t 3) (t 24) (t 25) (t 26) h) (fun t h => Kr (t 2) h) (keAdd 0 (fun t h => Ke0 (t 0) h) ke0)) t h :=
  wpEqF H0 (by kernel_rfl)
def F14_6 (x0 x3 x24 x25 x26 : Value) (h : H) (Kn : Value → Value → Value → Value → Value → H → Prop) (Kr : Value → H → Prop) (Ke0 : Value → H → Prop) : Prop :=
  F14_7 x0 x3 x24 x25 x26 h (fun y0 y3 y24 y25 y26 h => F14_8 y0 y3 y24 y25 y26 h Kn Kr Ke0) Kr Ke0
theorem yzap (Kn Kr Ke0) (t : T) (h : H) (H0 : F14_6 (t 0) (t 3) (t 24) (t 25) (t 26) h Kn Kr Ke0) : Wp Tryz.prog 71 (rest 2 (lopC (blkC (rest 1 (seqL (rest 3 (ygjk Tryz.f14.body))))))) (mkQ (fun t h => Kn (t 0) (t 3) (t 24) (t 25) (t 26) h) (fun t h => Kr (t 2) h) (keAdd 0 (fun t h => Ke0 (t 0) h) ke0)) t h :=
  ykv2 (by kernel_rfl) (fun t h H1 => yi02 Kn Kr Ke0 t h H1) (yovq (fun y0 y3 y24 y25 y26 h => F14_8 y0 y3 y24 y25 y26 h Kn Kr Ke0) Kr Ke0 t h H0)
def F14_5 (x0 x3 x24 x25 x26 : Value) (h : H) (Kn : Value → Value → Value → Value → Value → H → Prop) (Kr : Value → H → Prop) (Ke0 : Value → H → Prop) : Prop :=
  o_bin Tryz.prog .lss 3 x26 x25 fun v27 => o_if v27 (F14_6 x0 x3 x24 x25 x26 h Kn Kr Ke0) (Ke0 x0 h)
theorem y59e (Kn Kr Ke0) (t : T) (h : H) (H0 : F14_5 (t 0) (t 3) (t 24) (t 25) (t 26) h Kn Kr Ke0) : Wp Tryz.prog 71 (lopC (blkC (rest 1 (seqL (rest 3 (ygjk Tryz.f14.body)))))) (mkQ (fun t h => Kn (t 0) (t 3) (t 24) (t 25) (t 26) h) (fun t h => Kr (t 2) h) (keAdd 0 (fun t h => Ke0 (t 0) h) ke0)) t h :=
  y3i4 2 H0 (by kernel_rfl) (fun t h (H1 : F14_6 (t 0) (t 3) (t 24) (t 25) (t 26) h Kn Kr Ke0) => yzap Kn Kr Ke0 t h H1) (by kernel_rfl)
def F14_4 (x0 x3 x24 x25 x26 : Value) (h : H) (Kn : Value → H → Prop) (Kr : Value → H → Prop) (Ke0 : Value → H → Prop) : Prop :=
  sloop (S := Value × Value × Value × Value × Value) (fun s h K => F14_5 s.1 s.2.1 s.2.2.1 s.2.2.2.1 s.2.2.2.2 h (fun y0 y3 y24 y25 y26 h => K (y0, y3, y24, y25, y26) h) Kr Ke0) (x0, x3, x24, x25, x26) h
theorem ywy2 (Kn Kr Ke0) (t : T) (h : H) (H0 : F14_4 (t 0) (t 3) (t 24) (t 25) (t 26) h Kn Kr Ke0) : Wp Tryz.prog 71 (blkC (rest 1 (seqL (rest 3 (ygjk Tryz.f14.body))))) (mkQ (fun t h => Kn (t 0) h) (fun t h => Kr (t 2) h) (keAdd 0 (fun t h => Ke0 (t 0) h) ke0)) t h :=
  yv0a (fun t => (t 0, t 3, t 24, t 25, t 26)) (by kernel_rfl) (fun t h K H1 => y59e (fun y0 y3 y24 y25 y26 h => K (y0, y3, y24, y25, y26) h) Kr Ke0 t h H1) H0
def F14_3 (x0 x3 x24 x25 x26 : Value) (h : H) (Kn : Value → H → Prop) (Kr : Value → H → Prop) : Prop :=
  F14_4 x0 x3 x24 x25 x26 h Kn Kr Kn
theorem yl16 (Kn Kr) (t : T) (h : H) (H0 : F14_3 (t 0) (t 3) (t 24) (t 25) (t 26) h Kn Kr) : Wp Tryz.prog 71 (rest 1 (seqL (rest 3 (ygjk Tryz.f14.body)))) (mkQ (fun t h => Kn (t 0) h) (fun t h => Kr (t 2) h) ke0) t h :=
  y6tu 0 (by kernel_rfl) (by kernel_rfl) (ywy2 Kn Kr Kn t h H0)
def F14_2 (x0 x3 : Value) (h : H) (Kn : Value → H → Prop) (Kr : Value → H → Prop) : Prop :=
  yn0t x0 fun v25 => F14_3 x0 x3 x0 v25 (.int .i64 0) h Kn Kr
theorem ya9t (Kn Kr) (t : T) (h : H) (H0 : F14_2 (t 0) (t 3) h Kn Kr) : Wp Tryz.prog 71 (seqL (rest 3 (ygjk Tryz.f14.body))) (mkQ (fun t h => Kn (t 0) h) (fun t h => Kr (t 2) h) ke0) t h :=
  y3i4 1 H0 (by kernel_rfl) (fun t h (H1 : F14_3 (t 0) (t 3) (t 24) (t 25) (t 26) h Kn Kr) => yl16 Kn Kr t h H1) (by kernel_rfl)
def F14_9 (x0 : Value) (h : H) (Kn : Value → H → Prop) (Kr : Value → H → Prop) : Prop :=
  yn0t x0 fun v60 => o_bin Tryz.prog .sub 3 v60 (.int .i64 1) fun v61 => ys75 none 5 x0 v61 fun v62 => yokc 0 v62 fun v63 => ysm8 false 1 v63 h fun v64 => o_bin Tryz.prog .geq 3 v64 (.int .i64 11) fun v66 => yycv v66 true (fun k4 => o_bin Tryz.prog .leq 3 v64 (.int .i64 13) fun v69 => k4 v69 h) (fun v69 h => yw1w v66 v69 (.bool false) fun v70 => Kr v70 h) h
theorem yx46 (Kn Kr) (t : T) (h : H) (H0 : F14_9 (t 0) h Kn Kr) : Wp Tryz.prog 71 (seqR (rest 3 (ygjk Tryz.f14.body))) (mkQ (fun t h => Kn (t 2) h) (fun t h => Kr (t 2) h) ke0) t h :=
  wpEqF H0 (by kernel_rfl)
def F14_1 (x0 x3 : Value) (h : H) (Kn : Value → H → Prop) (Kr : Value → H → Prop) : Prop :=
  F14_2 x0 x3 h (fun y0 h => F14_9 y0 h Kn Kr) Kr
theorem y40h (Kn Kr) (t : T) (h : H) (H0 : F14_1 (t 0) (t 3) h Kn Kr) : Wp Tryz.prog 71 (rest 3 (ygjk Tryz.f14.body)) (mkQ (fun t h => Kn (t 2) h) (fun t h => Kr (t 2) h) ke0) t h :=
  ykv2 (by kernel_rfl) (fun t h H1 => yx46 Kn Kr t h H1) (ya9t (fun y0 h => F14_9 y0 h Kn Kr) Kr t h H0)
def F14_0 (x0 : Value) (h : H) (Kn : Value → H → Prop) (Kr : Value → H → Prop) : Prop :=
  yn0t x0 fun v10 => o_bin Tryz.prog .eql 3 v10 (.int .i64 0) fun v11 => yycv v11 false (fun k6 => yn0t x0 fun v14 => o_bin Tryz.prog .gtr 3 v14 (.int .i64 2000) fun v15 => k6 v15 h) (fun v15 h => yw1w v11 (.bool true) v15 fun v16 => yycv v16 false (fun k13 => ys75 none 5 x0 (.int .i64 0) fun v19 => yokc 0 v19 fun v20 => ysm8 false 1 v20 h fun v21 => o_bin Tryz.prog .neq 3 v21 (.int .i64 8) fun v22 => k13 v22 h) (fun v22 h => yw1w v16 (.bool true) v22 fun v23 => o_if v23 (Kr (.bool false) h) (o_new (List.replicate 256 ((.bool false) : Value)) 128 .exact h fun b3 h => F14_1 x0 (.pointer (some ⟨b3, 0, none⟩)) h Kn Kr)) h) h
theorem y3y0 (Kn Kr) (t : T) (h : H) (H0 : F14_0 (t 0) h Kn Kr) : Wp Tryz.prog 71 (ygjk Tryz.f14.body) (mkQ (fun t h => Kn (t 2) h) (fun t h => Kr (t 2) h) ke0) t h :=
  y3i4 3 H0 (by kernel_rfl) (fun t h (H1 : F14_1 (t 0) (t 3) h Kn Kr) => y40h Kn Kr t h H1) (by kernel_rfl)
def F14 (x0 : Value) (h : H) (Q : Value → H → Prop) : Prop := F14_0 x0 h (fun v h => Q v h) (fun v h => Q v h)
theorem yp1e (x0 : Value) (h : H) (Q : Value → H → Prop) (H0 : F14 x0 h Q) : AM.Spec Tryz.prog 14 [x0] h Q :=
  yqxt mixed (fn := Tryz.f14) Tryz.func14 (c := ygjk Tryz.f14.body) (rs := [2]) (N := 71) (by kernel_rfl) (by kernel_rfl) (by kernel_rfl) (by kernel_rfl) (by kernel_rfl) (Nat.le_of_ble_eq_true rfl) (y3y0 (fun v h => Q v h) (fun v h => Q v h) (tinit [x0]) h H0) (by kernel_rfl)
def F58_5 (x1 x5 : Value) (h : H) (Kn : Value → Value → H → Prop) (Kr : Value → Value → H → Prop) (Ke0 : H → Prop) : Prop :=
  o_bin Tryz.prog .eql 3 x5 (.int .i64 1) fun v7 => o_if v7 (Kn x1 v7 h) (o_bin Tryz.prog .eql 3 x5 (.int .i64 2) fun v8 => o_if v8 (Kn x1 v8 h) (o_bin Tryz.prog .eql 3 x5 (.int .i64 4) fun v9 => o_if v9 (Kn x1 v9 h) (o_bin Tryz.prog .eql 3 x5 (.int .i64 5) fun v10 => o_if v10 (Kn x1 v10 h) (o_bin Tryz.prog .eql 3 x5 (.int .i64 6) fun v11 => Kn x1 v11 h))))
theorem yb4f (Kn Kr Ke0) (t : T) (h : H) (H0 : F58_5 (t 1) (t 5) h Kn Kr Ke0) : Wp Tryz.prog 14 (seqL (blkC (rest 1 (seqL (rest 1 (ygjk Tryz.f58.body)))))) (mkQ (fun t h => Kn (t 1) (t 6) h) (fun t h => Kr (t 2) (t 3) h) (keAdd 0 (fun t h => Ke0  h) ke0)) t h :=
  wpEqF H0 (by kernel_rfl)
theorem ygld {a : Int} {x1 : Value} {h : H} {Kn Kr Ke0} : F58_5 x1 (.int .i64 a) h Kn Kr Ke0 = Kn x1 (.bool (decide (a = 1) || (decide (a = 2) || (decide (a = 4) || (decide (a = 5) || decide (a = 6)))))) h := by
  simp only [F58_5, yc02, if_or]
def F58_6 (x1 x6 : Value) (h : H) (Kn : H → Prop) (Kr : Value → Value → H → Prop) (Ke0 : H → Prop) : Prop :=
  o_if x6 (yokc 1 x1 fun v12 => ysm8 false 1 v12 h fun v13 => Kr v13 (.bool true) h) (Kn h)
theorem y11u (Kn Kr Ke0) (t : T) (h : H) (H0 : F58_6 (t 1) (t 6) h Kn Kr Ke0) : Wp Tryz.prog 14 (seqR (blkC (rest 1 (seqL (rest 1 (ygjk Tryz.f58.body)))))) (mkQ (fun t h => Kn  h) (fun t h => Kr (t 2) (t 3) h) (keAdd 0 (fun t h => Ke0  h) ke0)) t h :=
  wpEqF H0 (by kernel_rfl)
def F58_4 (x1 x5 : Value) (h : H) (Kn : H → Prop) (Kr : Value → Value → H → Prop) (Ke0 : H → Prop) : Prop :=
  F58_5 x1 x5 h (fun y1 y6 h => F58_6 y1 y6 h Kn Kr Ke0) Kr Ke0
theorem ytld (Kn Kr Ke0) (t : T) (h : H) (H0 : F58_4 (t 1) (t 5) h Kn Kr Ke0) : Wp Tryz.prog 14 (blkC (rest 1 (seqL (rest 1 (ygjk Tryz.f58.body))))) (mkQ (fun t h => Kn  h) (fun t h => Kr (t 2) (t 3) h) (keAdd 0 (fun t h => Ke0  h) ke0)) t h :=
  ykv2 (by kernel_rfl) (fun t h H1 => y11u Kn Kr Ke0 t h H1) (yb4f (fun y1 y6 h => F58_6 y1 y6 h Kn Kr Ke0) Kr Ke0 t h H0)
def F58_3 (x1 x5 : Value) (h : H) (Kn : H → Prop) (Kr : Value → Value → H → Prop) : Prop :=
  F58_4 x1 x5 h Kn Kr Kn
theorem ykng (Kn Kr) (t : T) (h : H) (H0 : F58_3 (t 1) (t 5) h Kn Kr) : Wp Tryz.prog 14 (rest 1 (seqL (rest 1 (ygjk Tryz.f58.body)))) (mkQ (fun t h => Kn  h) (fun t h => Kr (t 2) (t 3) h) ke0) t h :=
  y6tu 0 (by kernel_rfl) (by kernel_rfl) (ytld Kn Kr Kn t h H0)
def F58_2 (x1 : Value) (h : H) (Kn : H → Prop) (Kr : Value → Value → H → Prop) : Prop :=
  yokc 0 x1 fun v4 => ysm8 false 1 v4 h fun v5 => F58_3 x1 v5 h Kn Kr
theorem ybtf (Kn Kr) (t : T) (h : H) (H0 : F58_2 (t 1) h Kn Kr) : Wp Tryz.prog 14 (seqL (rest 1 (ygjk Tryz.f58.body))) (mkQ (fun t h => Kn  h) (fun t h => Kr (t 2) (t 3) h) ke0) t h :=
  y3i4 1 H0 (by kernel_rfl) (fun t h (H1 : F58_3 (t 1) (t 5) h Kn Kr) => ykng Kn Kr t h H1) (by kernel_rfl)
def F58_7 (h : H) (Kn : Value → Value → H → Prop) (Kr : Value → Value → H → Prop) : Prop :=
  Kr (.int .i64 0) (.bool false) h
theorem y9wb (Kn Kr) (t : T) (h : H) (H0 : F58_7  h Kn Kr) : Wp Tryz.prog 14 (seqR (rest 1 (ygjk Tryz.f58.body))) (mkQ (fun t h => Kn (t 2) (t 3) h) (fun t h => Kr (t 2) (t 3) h) ke0) t h :=
  wpEqF H0 (by kernel_rfl)
def F58_1 (x1 : Value) (h : H) (Kn : Value → Value → H → Prop) (Kr : Value → Value → H → Prop) : Prop :=
  F58_2 x1 h (fun  h => F58_7  h Kn Kr) Kr
theorem yens (Kn Kr) (t : T) (h : H) (H0 : F58_1 (t 1) h Kn Kr) : Wp Tryz.prog 14 (rest 1 (ygjk Tryz.f58.body)) (mkQ (fun t h => Kn (t 2) (t 3) h) (fun t h => Kr (t 2) (t 3) h) ke0) t h :=
  ykv2 (by kernel_rfl) (fun t h H1 => y9wb Kn Kr t h H1) (ybtf (fun  h => F58_7  h Kn Kr) Kr t h H0)
def F58_0 (x0 : Value) (h : H) (Kn : Value → Value → H → Prop) (Kr : Value → Value → H → Prop) : Prop :=
  boxV x0 = true ∧ o_new (Value.cells x0).toList 64 .exact h fun b1 h => F58_1 (.pointer (some ⟨b1, 0, none⟩)) h Kn Kr
theorem ynh6 (Kn Kr) (t : T) (h : H) (H0 : F58_0 (t 0) h Kn Kr) : Wp Tryz.prog 14 (ygjk Tryz.f58.body) (mkQ (fun t h => Kn (t 2) (t 3) h) (fun t h => Kr (t 2) (t 3) h) ke0) t h :=
  y3i4 1 H0 (by kernel_rfl) (fun t h (H1 : F58_1 (t 1) h Kn Kr) => yens Kn Kr t h H1) (by kernel_rfl)
def F58 (x0 : Value) (h : H) (Q : Value → H → Prop) : Prop := F58_0 x0 h (fun y2 y3 h => bif [y2, y3].all boxV then Q (.tuple #[y2, y3]) h else False) (fun y2 y3 h => bif [y2, y3].all boxV then Q (.tuple #[y2, y3]) h else False)
theorem yzl8 (x0 : Value) (h : H) (Q : Value → H → Prop) (H0 : F58 x0 h Q) : AM.Spec Tryz.prog 58 [x0] h Q :=
  yqxt mixed (fn := Tryz.f58) Tryz.func58 (c := ygjk Tryz.f58.body) (rs := [2, 3]) (N := 14) (by kernel_rfl) (by kernel_rfl) (by kernel_rfl) (by kernel_rfl) (by kernel_rfl) (Nat.le_of_ble_eq_true rfl) (ynh6 (fun y2 y3 h => bif [y2, y3].all boxV then Q (.tuple #[y2, y3]) h else False) (fun y2 y3 h => bif [y2, y3].all boxV then Q (.tuple #[y2, y3]) h else False) (tinit [x0]) h H0) (by kernel_rfl)
def F56_2 (x1 x4 x5 x6 : Value) (h : H) (Kn : Value → Value → Value → H → Prop) (Kr : Value → H → Prop) : Prop :=
  o_if x4 (yokc 2 x1 fun v16 => ysm8 false 1 v16 h fun v17 => yyll Tryz.prog 28 1 [(0, v17)] h fun v18 h => yc1n 3 1 8 x6 v18 h fun v19 h => Kn x1 x5 v19 h) (Kn x1 x5 x6 h)
theorem yef3 (Kn Kr) (t : T) (h : H) (H0 : F56_2 (t 1) (t 4) (t 5) (t 6) h Kn Kr) : Wp Tryz.prog 35 (seqL (rest 3 (ygjk Tryz.f56.body))) (mkQ (fun t h => Kn (t 1) (t 5) (t 6) h) (fun t h => Kr (t 2) h) ke0) t h :=
  wpEqF H0 (by kernel_rfl)
def F56_4 (x1 x5 x6 : Value) (h : H) (Kn : Value → Value → H → Prop) (Kr : Value → H → Prop) : Prop :=
  o_if x5 (yokc 3 x1 fun v22 => ysm8 false 1 v22 h fun v23 => yyll Tryz.prog 28 1 [(0, v23)] h fun v24 h => yc1n 3 1 8 x6 v24 h fun v25 h => Kn x1 v25 h) (Kn x1 x6 h)
theorem yhyf (Kn Kr) (t : T) (h : H) (H0 : F56_4 (t 1) (t 5) (t 6) h Kn Kr) : Wp Tryz.prog 35 (seqL (seqR (rest 3 (ygjk Tryz.f56.body)))) (mkQ (fun t h => Kn (t 1) (t 6) h) (fun t h => Kr (t 2) h) ke0) t h :=
  wpEqF H0 (by kernel_rfl)
def F56_6 (x1 x6 : Value) (h : H) (Kn : Value → H → Prop) (Kr : Value → H → Prop) : Prop :=
  yokc 0 x1 fun v26 => ysm8 false 1 v26 h fun v27 => o_bin Tryz.prog .eql 3 v27 (.int .i64 19) fun v28 => o_if v28 (yokc 1 x1 fun v30 => ysm8 false 1 v30 h fun v31 => yyll Tryz.prog 28 1 [(0, v31)] h fun v32 h => yc1n 3 1 8 x6 v32 h fun v33 h => Kn v33 h) (Kn x6 h)
theorem y5kk (Kn Kr) (t : T) (h : H) (H0 : F56_6 (t 1) (t 6) h Kn Kr) : Wp Tryz.prog 35 (seqL (seqR (seqR (rest 3 (ygjk Tryz.f56.body))))) (mkQ (fun t h => Kn (t 6) h) (fun t h => Kr (t 2) h) ke0) t h :=
  wpEqF H0 (by kernel_rfl)
def F56_7 (x6 : Value) (h : H) (Kn : Value → H → Prop) (Kr : Value → H → Prop) : Prop :=
  Kr x6 h
theorem yieg (Kn Kr) (t : T) (h : H) (H0 : F56_7 (t 6) h Kn Kr) : Wp Tryz.prog 35 (seqR (seqR (seqR (rest 3 (ygjk Tryz.f56.body))))) (mkQ (fun t h => Kn (t 2) h) (fun t h => Kr (t 2) h) ke0) t h :=
  wpEqF H0 (by kernel_rfl)
def F56_5 (x1 x6 : Value) (h : H) (Kn : Value → H → Prop) (Kr : Value → H → Prop) : Prop :=
  F56_6 x1 x6 h (fun y6 h => F56_7 y6 h Kn Kr) Kr
theorem y1bi (Kn Kr) (t : T) (h : H) (H0 : F56_5 (t 1) (t 6) h Kn Kr) : Wp Tryz.prog 35 (seqR (seqR (rest 3 (ygjk Tryz.f56.body)))) (mkQ (fun t h => Kn (t 2) h) (fun t h => Kr (t 2) h) ke0) t h :=
  ykv2 (by kernel_rfl) (fun t h H1 => yieg Kn Kr t h H1) (y5kk (fun y6 h => F56_7 y6 h Kn Kr) Kr t h H0)
def F56_3 (x1 x5 x6 : Value) (h : H) (Kn : Value → H → Prop) (Kr : Value → H → Prop) : Prop :=
  F56_4 x1 x5 x6 h (fun y1 y6 h => F56_5 y1 y6 h Kn Kr) Kr
theorem yggn (Kn Kr) (t : T) (h : H) (H0 : F56_3 (t 1) (t 5) (t 6) h Kn Kr) : Wp Tryz.prog 35 (seqR (rest 3 (ygjk Tryz.f56.body))) (mkQ (fun t h => Kn (t 2) h) (fun t h => Kr (t 2) h) ke0) t h :=
  ykv2 (by kernel_rfl) (fun t h H1 => y1bi Kn Kr t h H1) (yhyf (fun y1 y6 h => F56_5 y1 y6 h Kn Kr) Kr t h H0)
def F56_1 (x1 x4 x5 x6 : Value) (h : H) (Kn : Value → H → Prop) (Kr : Value → H → Prop) : Prop :=
  F56_2 x1 x4 x5 x6 h (fun y1 y5 y6 h => F56_3 y1 y5 y6 h Kn Kr) Kr
theorem yplx (Kn Kr) (t : T) (h : H) (H0 : F56_1 (t 1) (t 4) (t 5) (t 6) h Kn Kr) : Wp Tryz.prog 35 (rest 3 (ygjk Tryz.f56.body)) (mkQ (fun t h => Kn (t 2) h) (fun t h => Kr (t 2) h) ke0) t h :=
  ykv2 (by kernel_rfl) (fun t h H1 => yggn Kn Kr t h H1) (yef3 (fun y1 y5 y6 h => F56_3 y1 y5 y6 h Kn Kr) Kr t h H0)
def F56_0 (x0 : Value) (h : H) (Kn : Value → H → Prop) (Kr : Value → H → Prop) : Prop :=
  boxV x0 = true ∧ o_new (Value.cells x0).toList 64 .exact h fun b1 h => yokc 0 (.pointer (some ⟨b1, 0, none⟩)) fun v8 => ysm8 false 1 v8 h fun v9 => ywv3 Tryz.prog 163 [v9] h fun v10 h => ychn v10 0 fun v11 => ychn v10 1 fun v12 => ychn v10 2 fun v13 => F56_1 (.pointer (some ⟨b1, 0, none⟩)) v12 v13 (.slice none 0 0) h Kn Kr
theorem yp7v (Kn Kr) (t : T) (h : H) (H0 : F56_0 (t 0) h Kn Kr) : Wp Tryz.prog 35 (ygjk Tryz.f56.body) (mkQ (fun t h => Kn (t 2) h) (fun t h => Kr (t 2) h) ke0) t h :=
  y3i4 3 H0 (by kernel_rfl) (fun t h (H1 : F56_1 (t 1) (t 4) (t 5) (t 6) h Kn Kr) => yplx Kn Kr t h H1) (by kernel_rfl)
def F56 (x0 : Value) (h : H) (Q : Value → H → Prop) : Prop := F56_0 x0 h (fun v h => Q v h) (fun v h => Q v h)
theorem y7vm (x0 : Value) (h : H) (Q : Value → H → Prop) (H0 : F56 x0 h Q) : AM.Spec Tryz.prog 56 [x0] h Q :=
  yqxt mixed (fn := Tryz.f56) Tryz.func56 (c := ygjk Tryz.f56.body) (rs := [2]) (N := 35) (by kernel_rfl) (by kernel_rfl) (by kernel_rfl) (by kernel_rfl) (by kernel_rfl) (Nat.le_of_ble_eq_true rfl) (yp7v (fun v h => Q v h) (fun v h => Q v h) (tinit [x0]) h H0) (by kernel_rfl)
def F53_0 (x0 : Value) (h : H) (Kn : Value → H → Prop) (Kr : Value → H → Prop) : Prop :=
  boxV x0 = true ∧ o_new (Value.cells x0).toList 64 .exact h fun b1 h => yokc 0 (.pointer (some ⟨b1, 0, none⟩)) fun v7 => ysm8 false 1 v7 h fun v8 => ywv3 Tryz.prog 163 [v8] h fun v9 h => ychn v9 0 fun v10 => ychn v9 1 fun v11 => ychn v9 2 fun v12 => yokc 0 (.pointer (some ⟨b1, 0, none⟩)) fun v13 => ysm8 false 1 v13 h fun v14 => o_bin Tryz.prog .geq 3 v14 (.int .i64 1) fun v15 => yycv v15 true (fun k6 => yokc 0 (.pointer (some ⟨b1, 0, none⟩)) fun v17 => ysm8 false 1 v17 h fun v18 => o_bin Tryz.prog .leq 3 v18 (.int .i64 21) fun v19 => k6 v19 h) (fun v19 h => yw1w v15 v19 (.bool false) fun v20 => yycv v20 true (fun k10 => ysm8 true 5 (.pointer (some ⟨b1, 0, none⟩)) h fun v22 => ywv3 Tryz.prog 164 [v22] h fun v23 h => k10 v23 h) (fun v23 h => yw1w v20 v23 (.bool false) fun v24 => yycv v24 true (fun k16 => yokc 1 (.pointer (some ⟨b1, 0, none⟩)) fun v27 => ysm8 false 1 v27 h fun v28 => ywv3 Tryz.prog 165 [v10, v28] h fun v29 h => k16 v29 h) (fun v29 h => yw1w v24 v29 (.bool false) fun v30 => yycv v30 true (fun k22 => yokc 2 (.pointer (some ⟨b1, 0, none⟩)) fun v33 => ysm8 false 1 v33 h fun v34 => ywv3 Tryz.prog 165 [v11, v34] h fun v35 h => k22 v35 h) (fun v35 h => yw1w v30 v35 (.bool false) fun v36 => yycv v36 true (fun k28 => yokc 3 (.pointer (some ⟨b1, 0, none⟩)) fun v39 => ysm8 false 1 v39 h fun v40 => ywv3 Tryz.prog 165 [v12, v40] h fun v41 h => k28 v41 h) (fun v41 h => yw1w v36 v41 (.bool false) fun v42 => Kr v42 h) h) h) h) h) h
theorem y48b (Kn Kr) (t : T) (h : H) (H0 : F53_0 (t 0) h Kn Kr) : Wp Tryz.prog 43 (ygjk Tryz.f53.body) (mkQ (fun t h => Kn (t 2) h) (fun t h => Kr (t 2) h) ke0) t h :=
  wpEqF H0 (by kernel_rfl)
def F53 (x0 : Value) (h : H) (Q : Value → H → Prop) : Prop := F53_0 x0 h (fun v h => Q v h) (fun v h => Q v h)
theorem yaq9 (x0 : Value) (h : H) (Q : Value → H → Prop) (H0 : F53 x0 h Q) : AM.Spec Tryz.prog 53 [x0] h Q :=
  yqxt mixed (fn := Tryz.f53) Tryz.func53 (c := ygjk Tryz.f53.body) (rs := [2]) (N := 43) (by kernel_rfl) (by kernel_rfl) (by kernel_rfl) (by kernel_rfl) (by kernel_rfl) (Nat.le_of_ble_eq_true rfl) (y48b (fun v h => Q v h) (fun v h => Q v h) (tinit [x0]) h H0) (by kernel_rfl)
def F54_0 (x0 : Value) (h : H) (Kn : Value → H → Prop) (Kr : Value → H → Prop) : Prop :=
  o_bin Tryz.prog .eql 3 x0 (.int .i64 14) fun v4 => yycv v4 false (fun k4 => o_bin Tryz.prog .eql 3 x0 (.int .i64 16) fun v7 => k4 v7 h) (fun v7 h => yw1w v4 (.bool true) v7 fun v8 => yycv v8 false (fun k8 => o_bin Tryz.prog .eql 3 x0 (.int .i64 17) fun v11 => k8 v11 h) (fun v11 h => yw1w v8 (.bool true) v11 fun v12 => yycv v12 false (fun k12 => o_bin Tryz.prog .eql 3 x0 (.int .i64 19) fun v15 => k12 v15 h) (fun v15 h => yw1w v12 (.bool true) v15 fun v16 => Kr v16 h) h) h) h
theorem ydvb (Kn Kr) (t : T) (h : H) (H0 : F54_0 (t 0) h Kn Kr) : Wp Tryz.prog 17 (ygjk Tryz.f54.body) (mkQ (fun t h => Kn (t 2) h) (fun t h => Kr (t 2) h) ke0) t h :=
  wpEqF H0 (by kernel_rfl)
def F54 (x0 : Value) (h : H) (Q : Value → H → Prop) : Prop := F54_0 x0 h (fun v h => Q v h) (fun v h => Q v h)
theorem yv0z (x0 : Value) (h : H) (Q : Value → H → Prop) (H0 : F54 x0 h Q) : AM.Spec Tryz.prog 54 [x0] h Q :=
  yqxt mixed (fn := Tryz.f54) Tryz.func54 (c := ygjk Tryz.f54.body) (rs := [2]) (N := 17) (by kernel_rfl) (by kernel_rfl) (by kernel_rfl) (by kernel_rfl) (by kernel_rfl) (Nat.le_of_ble_eq_true rfl) (ydvb (fun v h => Q v h) (fun v h => Q v h) (tinit [x0]) h H0) (by kernel_rfl)
def F55_0 (x0 x1 : Value) (h : H) (Kn : Value → H → Prop) (Kr : Value → H → Prop) : Prop :=
  ywv3 Tryz.prog 166 [x0, x1] h fun v7 h => o_bin Tryz.prog .geq 3 v7 (.int .i64 0) fun v8 => Kr v8 h
theorem yw9k (Kn Kr) (t : T) (h : H) (H0 : F55_0 (t 0) (t 1) h Kn Kr) : Wp Tryz.prog 9 (ygjk Tryz.f55.body) (mkQ (fun t h => Kn (t 4) h) (fun t h => Kr (t 4) h) ke0) t h :=
  wpEqF H0 (by kernel_rfl)
def F55 (x0 x1 : Value) (h : H) (Q : Value → H → Prop) : Prop := F55_0 x0 x1 h (fun v h => Q v h) (fun v h => Q v h)
theorem y48m (x0 x1 : Value) (h : H) (Q : Value → H → Prop) (H0 : F55 x0 x1 h Q) : AM.Spec Tryz.prog 55 [x0, x1] h Q :=
  yqxt mixed (fn := Tryz.f55) Tryz.func55 (c := ygjk Tryz.f55.body) (rs := [4]) (N := 9) (by kernel_rfl) (by kernel_rfl) (by kernel_rfl) (by kernel_rfl) (by kernel_rfl) (Nat.le_of_ble_eq_true rfl) (yw9k (fun v h => Q v h) (fun v h => Q v h) (tinit [x0, x1]) h H0) (by kernel_rfl)
def F57_0 (x0 x1 : Value) (h : H) (Kn : Value → H → Prop) (Kr : Value → H → Prop) : Prop :=
  ys75 (some 256) 1 x1 x0 fun v5 => ysm8 false 1 v5 h fun v6 => o_un Tryz.prog .not v6 fun v7 => Kr v7 h
theorem ypif (Kn Kr) (t : T) (h : H) (H0 : F57_0 (t 0) (t 1) h Kn Kr) : Wp Tryz.prog 8 (ygjk Tryz.f57.body) (mkQ (fun t h => Kn (t 3) h) (fun t h => Kr (t 3) h) ke0) t h :=
  wpEqF H0 (by kernel_rfl)
def F57 (x0 x1 : Value) (h : H) (Q : Value → H → Prop) : Prop := F57_0 x0 x1 h (fun v h => Q v h) (fun v h => Q v h)
theorem ynh1 (x0 x1 : Value) (h : H) (Q : Value → H → Prop) (H0 : F57 x0 x1 h Q) : AM.Spec Tryz.prog 57 [x0, x1] h Q :=
  yqxt mixed (fn := Tryz.f57) Tryz.func57 (c := ygjk Tryz.f57.body) (rs := [3]) (N := 8) (by kernel_rfl) (by kernel_rfl) (by kernel_rfl) (by kernel_rfl) (by kernel_rfl) (Nat.le_of_ble_eq_true rfl) (ypif (fun v h => Q v h) (fun v h => Q v h) (tinit [x0, x1]) h H0) (by kernel_rfl)
def yh3d (x5 : Value) (h : H) (Kn : Value → Value → H → Prop) (Kr : Value → Value → Value → H → Prop) (Ke0 : H → Prop) : Prop :=
  o_bin Tryz.prog .eql 3 x5 (.int .i64 1) fun v7 => o_if v7 (Kn x5 v7 h) (o_bin Tryz.prog .eql 3 x5 (.int .i64 2) fun v8 => o_if v8 (Kn x5 v8 h) (o_bin Tryz.prog .eql 3 x5 (.int .i64 14) fun v9 => Kn x5 v9 h))
theorem y48e (Kn Kr Ke0) (t : T) (h : H) (H0 : yh3d (t 5) h Kn Kr Ke0) : Wp Tryz.prog 28 (seqL (blkC (rest 1 (seqL (rest 1 (ygjk Tryz.f163.body)))))) (mkQ (fun t h => Kn (t 5) (t 6) h) (fun t h => Kr (t 2) (t 3) (t 4) h) (keAdd 0 (fun t h => Ke0  h) ke0)) t h :=
  wpEqF H0 (by kernel_rfl)
theorem ymy4 {a : Int} {h : H} {Kn Kr Ke0} : yh3d (.int .i64 a) h Kn Kr Ke0 = Kn (.int .i64 a) (.bool (decide (a = 1) || (decide (a = 2) || decide (a = 14)))) h := by
  simp only [yh3d, yc02, if_or]
def y289 (h : H) (Kn : H → Prop) (Kr : Value → Value → Value → H → Prop) (Ke0 : H → Prop) : Prop :=
  Kr (.bool true) (.bool false) (.bool false) h
theorem yvjh (Kn Kr Ke0) (t : T) (h : H) (H0 : y289  h Kn Kr Ke0) : Wp Tryz.prog 28 (cndX (seqR (blkC (rest 1 (seqL (rest 1 (ygjk Tryz.f163.body))))))) (mkQ (fun t h => Kn  h) (fun t h => Kr (t 2) (t 3) (t 4) h) (keAdd 0 (fun t h => Ke0  h) ke0)) t h :=
  wpEqF H0 (by kernel_rfl)
def yfea (x5 : Value) (h : H) (Kn : Value → Value → H → Prop) (Kr : Value → Value → Value → H → Prop) (Ke0 : H → Prop) : Prop :=
  o_bin Tryz.prog .eql 3 x5 (.int .i64 4) fun v11 => o_if v11 (Kn x5 v11 h) (o_bin Tryz.prog .eql 3 x5 (.int .i64 5) fun v12 => o_if v12 (Kn x5 v12 h) (o_bin Tryz.prog .eql 3 x5 (.int .i64 16) fun v13 => Kn x5 v13 h))
theorem ykim (Kn Kr Ke0) (t : T) (h : H) (H0 : yfea (t 5) h Kn Kr Ke0) : Wp Tryz.prog 28 (seqL (cndY (seqR (blkC (rest 1 (seqL (rest 1 (ygjk Tryz.f163.body)))))))) (mkQ (fun t h => Kn (t 5) (t 10) h) (fun t h => Kr (t 2) (t 3) (t 4) h) (keAdd 0 (fun t h => Ke0  h) ke0)) t h :=
  wpEqF H0 (by kernel_rfl)
theorem ylc0 {a : Int} {h : H} {Kn Kr Ke0} : yfea (.int .i64 a) h Kn Kr Ke0 = Kn (.int .i64 a) (.bool (decide (a = 4) || (decide (a = 5) || decide (a = 16)))) h := by
  simp only [yfea, yc02, if_or]
def yidu (h : H) (Kn : H → Prop) (Kr : Value → Value → Value → H → Prop) (Ke0 : H → Prop) : Prop :=
  Kr (.bool true) (.bool true) (.bool true) h
theorem y91j (Kn Kr Ke0) (t : T) (h : H) (H0 : yidu  h Kn Kr Ke0) : Wp Tryz.prog 28 (cndX (seqR (cndY (seqR (blkC (rest 1 (seqL (rest 1 (ygjk Tryz.f163.body))))))))) (mkQ (fun t h => Kn  h) (fun t h => Kr (t 2) (t 3) (t 4) h) (keAdd 0 (fun t h => Ke0  h) ke0)) t h :=
  wpEqF H0 (by kernel_rfl)
def ywmw (x5 : Value) (h : H) (Kn : Value → Value → H → Prop) (Kr : Value → Value → Value → H → Prop) (Ke0 : H → Prop) : Prop :=
  o_bin Tryz.prog .eql 3 x5 (.int .i64 6) fun v15 => o_if v15 (Kn x5 v15 h) (o_bin Tryz.prog .eql 3 x5 (.int .i64 17) fun v16 => o_if v16 (Kn x5 v16 h) (o_bin Tryz.prog .eql 3 x5 (.int .i64 19) fun v17 => Kn x5 v17 h))
theorem yvvo (Kn Kr Ke0) (t : T) (h : H) (H0 : ywmw (t 5) h Kn Kr Ke0) : Wp Tryz.prog 28 (seqL (cndY (seqR (cndY (seqR (blkC (rest 1 (seqL (rest 1 (ygjk Tryz.f163.body)))))))))) (mkQ (fun t h => Kn (t 5) (t 14) h) (fun t h => Kr (t 2) (t 3) (t 4) h) (keAdd 0 (fun t h => Ke0  h) ke0)) t h :=
  wpEqF H0 (by kernel_rfl)
theorem y7bs {a : Int} {h : H} {Kn Kr Ke0} : ywmw (.int .i64 a) h Kn Kr Ke0 = Kn (.int .i64 a) (.bool (decide (a = 6) || (decide (a = 17) || decide (a = 19)))) h := by
  simp only [ywmw, yc02, if_or]
def y63o (h : H) (Kn : H → Prop) (Kr : Value → Value → Value → H → Prop) (Ke0 : H → Prop) : Prop :=
  Kr (.bool true) (.bool true) (.bool false) h
theorem ypav (Kn Kr Ke0) (t : T) (h : H) (H0 : y63o  h Kn Kr Ke0) : Wp Tryz.prog 28 (cndX (seqR (cndY (seqR (cndY (seqR (blkC (rest 1 (seqL (rest 1 (ygjk Tryz.f163.body))))))))))) (mkQ (fun t h => Kn  h) (fun t h => Kr (t 2) (t 3) (t 4) h) (keAdd 0 (fun t h => Ke0  h) ke0)) t h :=
  wpEqF H0 (by kernel_rfl)
def yaqf (x5 : Value) (h : H) (Kn : Value → Value → H → Prop) (Kr : Value → Value → Value → H → Prop) (Ke0 : H → Prop) : Prop :=
  o_bin Tryz.prog .eql 3 x5 (.int .i64 7) fun v19 => o_if v19 (Kn x5 v19 h) (o_bin Tryz.prog .eql 3 x5 (.int .i64 18) fun v20 => Kn x5 v20 h)
theorem ymjt (Kn Kr Ke0) (t : T) (h : H) (H0 : yaqf (t 5) h Kn Kr Ke0) : Wp Tryz.prog 28 (seqL (cndY (seqR (cndY (seqR (cndY (seqR (blkC (rest 1 (seqL (rest 1 (ygjk Tryz.f163.body)))))))))))) (mkQ (fun t h => Kn (t 5) (t 18) h) (fun t h => Kr (t 2) (t 3) (t 4) h) (keAdd 0 (fun t h => Ke0  h) ke0)) t h :=
  wpEqF H0 (by kernel_rfl)
theorem y2h1 {a : Int} {h : H} {Kn Kr Ke0} : yaqf (.int .i64 a) h Kn Kr Ke0 = Kn (.int .i64 a) (.bool (decide (a = 7) || decide (a = 18))) h := by
  simp only [yaqf, yc02, if_or]
def yqtk (h : H) (Kn : H → Prop) (Kr : Value → Value → Value → H → Prop) (Ke0 : H → Prop) : Prop :=
  Kr (.bool false) (.bool true) (.bool true) h
theorem yfa4 (Kn Kr Ke0) (t : T) (h : H) (H0 : yqtk  h Kn Kr Ke0) : Wp Tryz.prog 28 (cndX (seqR (cndY (seqR (cndY (seqR (cndY (seqR (blkC (rest 1 (seqL (rest 1 (ygjk Tryz.f163.body))))))))))))) (mkQ (fun t h => Kn  h) (fun t h => Kr (t 2) (t 3) (t 4) h) (keAdd 0 (fun t h => Ke0  h) ke0)) t h :=
  wpEqF H0 (by kernel_rfl)
def y4jw (x5 : Value) (h : H) (Kn : Value → H → Prop) (Kr : Value → Value → Value → H → Prop) (Ke0 : H → Prop) : Prop :=
  o_bin Tryz.prog .eql 3 x5 (.int .i64 3) fun v22 => o_if v22 (Kn v22 h) (o_bin Tryz.prog .eql 3 x5 (.int .i64 15) fun v23 => o_if v23 (Kn v23 h) (o_bin Tryz.prog .eql 3 x5 (.int .i64 10) fun v24 => o_if v24 (Kn v24 h) (o_bin Tryz.prog .eql 3 x5 (.int .i64 11) fun v25 => o_if v25 (Kn v25 h) (o_bin Tryz.prog .eql 3 x5 (.int .i64 20) fun v26 => o_if v26 (Kn v26 h) (o_bin Tryz.prog .eql 3 x5 (.int .i64 21) fun v27 => Kn v27 h)))))
theorem ynj2 (Kn Kr Ke0) (t : T) (h : H) (H0 : y4jw (t 5) h Kn Kr Ke0) : Wp Tryz.prog 28 (seqL (cndY (seqR (cndY (seqR (cndY (seqR (cndY (seqR (blkC (rest 1 (seqL (rest 1 (ygjk Tryz.f163.body)))))))))))))) (mkQ (fun t h => Kn (t 21) h) (fun t h => Kr (t 2) (t 3) (t 4) h) (keAdd 0 (fun t h => Ke0  h) ke0)) t h :=
  wpEqF H0 (by kernel_rfl)
theorem ypz1 {a : Int} {h : H} {Kn Kr Ke0} : y4jw (.int .i64 a) h Kn Kr Ke0 = Kn  (.bool (decide (a = 3) || (decide (a = 15) || (decide (a = 10) || (decide (a = 11) || (decide (a = 20) || decide (a = 21))))))) h := by
  simp only [y4jw, yc02, if_or]
def ye2o (x21 : Value) (h : H) (Kn : H → Prop) (Kr : Value → Value → Value → H → Prop) (Ke0 : H → Prop) : Prop :=
  o_if x21 (Kr (.bool false) (.bool true) (.bool false) h) (Kn h)
theorem yhq4 (Kn Kr Ke0) (t : T) (h : H) (H0 : ye2o (t 21) h Kn Kr Ke0) : Wp Tryz.prog 28 (seqR (cndY (seqR (cndY (seqR (cndY (seqR (cndY (seqR (blkC (rest 1 (seqL (rest 1 (ygjk Tryz.f163.body)))))))))))))) (mkQ (fun t h => Kn  h) (fun t h => Kr (t 2) (t 3) (t 4) h) (keAdd 0 (fun t h => Ke0  h) ke0)) t h :=
  wpEqF H0 (by kernel_rfl)
def ytso (x5 : Value) (h : H) (Kn : H → Prop) (Kr : Value → Value → Value → H → Prop) (Ke0 : H → Prop) : Prop :=
  y4jw x5 h (fun y21 h => ye2o y21 h Kn Kr Ke0) Kr Ke0
theorem y71x (Kn Kr Ke0) (t : T) (h : H) (H0 : ytso (t 5) h Kn Kr Ke0) : Wp Tryz.prog 28 (cndY (seqR (cndY (seqR (cndY (seqR (cndY (seqR (blkC (rest 1 (seqL (rest 1 (ygjk Tryz.f163.body))))))))))))) (mkQ (fun t h => Kn  h) (fun t h => Kr (t 2) (t 3) (t 4) h) (keAdd 0 (fun t h => Ke0  h) ke0)) t h :=
  ykv2 (by kernel_rfl) (fun t h H1 => yhq4 Kn Kr Ke0 t h H1) (ynj2 (fun y21 h => ye2o y21 h Kn Kr Ke0) Kr Ke0 t h H0)
def yhef (x5 x18 : Value) (h : H) (Kn : H → Prop) (Kr : Value → Value → Value → H → Prop) (Ke0 : H → Prop) : Prop :=
  o_if x18 (yqtk  h Kn Kr Ke0) (ytso x5 h Kn Kr Ke0)
theorem ymo5 (Kn Kr Ke0) (t : T) (h : H) (H0 : yhef (t 5) (t 18) h Kn Kr Ke0) : Wp Tryz.prog 28 (seqR (cndY (seqR (cndY (seqR (cndY (seqR (blkC (rest 1 (seqL (rest 1 (ygjk Tryz.f163.body)))))))))))) (mkQ (fun t h => Kn  h) (fun t h => Kr (t 2) (t 3) (t 4) h) (keAdd 0 (fun t h => Ke0  h) ke0)) t h :=
  yh47 H0 (by kernel_rfl) (yfa4 Kn Kr Ke0 t h) (y71x Kn Kr Ke0 t h) (by kernel_rfl)
def ya2w (x5 : Value) (h : H) (Kn : H → Prop) (Kr : Value → Value → Value → H → Prop) (Ke0 : H → Prop) : Prop :=
  yaqf x5 h (fun y5 y18 h => yhef y5 y18 h Kn Kr Ke0) Kr Ke0
theorem y8ss (Kn Kr Ke0) (t : T) (h : H) (H0 : ya2w (t 5) h Kn Kr Ke0) : Wp Tryz.prog 28 (cndY (seqR (cndY (seqR (cndY (seqR (blkC (rest 1 (seqL (rest 1 (ygjk Tryz.f163.body))))))))))) (mkQ (fun t h => Kn  h) (fun t h => Kr (t 2) (t 3) (t 4) h) (keAdd 0 (fun t h => Ke0  h) ke0)) t h :=
  ykv2 (by kernel_rfl) (fun t h H1 => ymo5 Kn Kr Ke0 t h H1) (ymjt (fun y5 y18 h => yhef y5 y18 h Kn Kr Ke0) Kr Ke0 t h H0)
def y257 (x5 x14 : Value) (h : H) (Kn : H → Prop) (Kr : Value → Value → Value → H → Prop) (Ke0 : H → Prop) : Prop :=
  o_if x14 (y63o  h Kn Kr Ke0) (ya2w x5 h Kn Kr Ke0)
theorem ymbw (Kn Kr Ke0) (t : T) (h : H) (H0 : y257 (t 5) (t 14) h Kn Kr Ke0) : Wp Tryz.prog 28 (seqR (cndY (seqR (cndY (seqR (blkC (rest 1 (seqL (rest 1 (ygjk Tryz.f163.body)))))))))) (mkQ (fun t h => Kn  h) (fun t h => Kr (t 2) (t 3) (t 4) h) (keAdd 0 (fun t h => Ke0  h) ke0)) t h :=
  yh47 H0 (by kernel_rfl) (ypav Kn Kr Ke0 t h) (y8ss Kn Kr Ke0 t h) (by kernel_rfl)
def y95b (x5 : Value) (h : H) (Kn : H → Prop) (Kr : Value → Value → Value → H → Prop) (Ke0 : H → Prop) : Prop :=
  ywmw x5 h (fun y5 y14 h => y257 y5 y14 h Kn Kr Ke0) Kr Ke0
theorem yjac (Kn Kr Ke0) (t : T) (h : H) (H0 : y95b (t 5) h Kn Kr Ke0) : Wp Tryz.prog 28 (cndY (seqR (cndY (seqR (blkC (rest 1 (seqL (rest 1 (ygjk Tryz.f163.body))))))))) (mkQ (fun t h => Kn  h) (fun t h => Kr (t 2) (t 3) (t 4) h) (keAdd 0 (fun t h => Ke0  h) ke0)) t h :=
  ykv2 (by kernel_rfl) (fun t h H1 => ymbw Kn Kr Ke0 t h H1) (yvvo (fun y5 y14 h => y257 y5 y14 h Kn Kr Ke0) Kr Ke0 t h H0)
def y7ll (x5 x10 : Value) (h : H) (Kn : H → Prop) (Kr : Value → Value → Value → H → Prop) (Ke0 : H → Prop) : Prop :=
  o_if x10 (yidu  h Kn Kr Ke0) (y95b x5 h Kn Kr Ke0)
theorem y2dr (Kn Kr Ke0) (t : T) (h : H) (H0 : y7ll (t 5) (t 10) h Kn Kr Ke0) : Wp Tryz.prog 28 (seqR (cndY (seqR (blkC (rest 1 (seqL (rest 1 (ygjk Tryz.f163.body)))))))) (mkQ (fun t h => Kn  h) (fun t h => Kr (t 2) (t 3) (t 4) h) (keAdd 0 (fun t h => Ke0  h) ke0)) t h :=
  yh47 H0 (by kernel_rfl) (y91j Kn Kr Ke0 t h) (yjac Kn Kr Ke0 t h) (by kernel_rfl)
def yjm9 (x5 : Value) (h : H) (Kn : H → Prop) (Kr : Value → Value → Value → H → Prop) (Ke0 : H → Prop) : Prop :=
  yfea x5 h (fun y5 y10 h => y7ll y5 y10 h Kn Kr Ke0) Kr Ke0
theorem y7oz (Kn Kr Ke0) (t : T) (h : H) (H0 : yjm9 (t 5) h Kn Kr Ke0) : Wp Tryz.prog 28 (cndY (seqR (blkC (rest 1 (seqL (rest 1 (ygjk Tryz.f163.body))))))) (mkQ (fun t h => Kn  h) (fun t h => Kr (t 2) (t 3) (t 4) h) (keAdd 0 (fun t h => Ke0  h) ke0)) t h :=
  ykv2 (by kernel_rfl) (fun t h H1 => y2dr Kn Kr Ke0 t h H1) (ykim (fun y5 y10 h => y7ll y5 y10 h Kn Kr Ke0) Kr Ke0 t h H0)
def ym6a (x5 x6 : Value) (h : H) (Kn : H → Prop) (Kr : Value → Value → Value → H → Prop) (Ke0 : H → Prop) : Prop :=
  o_if x6 (y289  h Kn Kr Ke0) (yjm9 x5 h Kn Kr Ke0)
theorem yaz1 (Kn Kr Ke0) (t : T) (h : H) (H0 : ym6a (t 5) (t 6) h Kn Kr Ke0) : Wp Tryz.prog 28 (seqR (blkC (rest 1 (seqL (rest 1 (ygjk Tryz.f163.body)))))) (mkQ (fun t h => Kn  h) (fun t h => Kr (t 2) (t 3) (t 4) h) (keAdd 0 (fun t h => Ke0  h) ke0)) t h :=
  yh47 H0 (by kernel_rfl) (yvjh Kn Kr Ke0 t h) (y7oz Kn Kr Ke0 t h) (by kernel_rfl)
def y4ch (x5 : Value) (h : H) (Kn : H → Prop) (Kr : Value → Value → Value → H → Prop) (Ke0 : H → Prop) : Prop :=
  yh3d x5 h (fun y5 y6 h => ym6a y5 y6 h Kn Kr Ke0) Kr Ke0
theorem y4i4 (Kn Kr Ke0) (t : T) (h : H) (H0 : y4ch (t 5) h Kn Kr Ke0) : Wp Tryz.prog 28 (blkC (rest 1 (seqL (rest 1 (ygjk Tryz.f163.body))))) (mkQ (fun t h => Kn  h) (fun t h => Kr (t 2) (t 3) (t 4) h) (keAdd 0 (fun t h => Ke0  h) ke0)) t h :=
  ykv2 (by kernel_rfl) (fun t h H1 => yaz1 Kn Kr Ke0 t h H1) (y48e (fun y5 y6 h => ym6a y5 y6 h Kn Kr Ke0) Kr Ke0 t h H0)
def yotz (x5 : Value) (h : H) (Kn : H → Prop) (Kr : Value → Value → Value → H → Prop) : Prop :=
  y4ch x5 h Kn Kr Kn
theorem yg4f (Kn Kr) (t : T) (h : H) (H0 : yotz (t 5) h Kn Kr) : Wp Tryz.prog 28 (rest 1 (seqL (rest 1 (ygjk Tryz.f163.body)))) (mkQ (fun t h => Kn  h) (fun t h => Kr (t 2) (t 3) (t 4) h) ke0) t h :=
  y6tu 0 (by kernel_rfl) (by kernel_rfl) (y4i4 Kn Kr Kn t h H0)
def y636 (x0 : Value) (h : H) (Kn : H → Prop) (Kr : Value → Value → Value → H → Prop) : Prop :=
  yotz x0 h Kn Kr
theorem yft3 (Kn Kr) (t : T) (h : H) (H0 : y636 (t 0) h Kn Kr) : Wp Tryz.prog 28 (seqL (rest 1 (ygjk Tryz.f163.body))) (mkQ (fun t h => Kn  h) (fun t h => Kr (t 2) (t 3) (t 4) h) ke0) t h :=
  y3i4 1 H0 (by kernel_rfl) (fun t h (H1 : yotz (t 5) h Kn Kr) => yg4f Kn Kr t h H1) (by kernel_rfl)
def ytgi (h : H) (Kn : Value → Value → Value → H → Prop) (Kr : Value → Value → Value → H → Prop) : Prop :=
  Kr (.bool false) (.bool false) (.bool false) h
theorem yfiz (Kn Kr) (t : T) (h : H) (H0 : ytgi  h Kn Kr) : Wp Tryz.prog 28 (seqR (rest 1 (ygjk Tryz.f163.body))) (mkQ (fun t h => Kn (t 2) (t 3) (t 4) h) (fun t h => Kr (t 2) (t 3) (t 4) h) ke0) t h :=
  wpEqF H0 (by kernel_rfl)
def ykg0 (x0 : Value) (h : H) (Kn : Value → Value → Value → H → Prop) (Kr : Value → Value → Value → H → Prop) : Prop :=
  y636 x0 h (fun  h => ytgi  h Kn Kr) Kr
theorem y1kr (Kn Kr) (t : T) (h : H) (H0 : ykg0 (t 0) h Kn Kr) : Wp Tryz.prog 28 (rest 1 (ygjk Tryz.f163.body)) (mkQ (fun t h => Kn (t 2) (t 3) (t 4) h) (fun t h => Kr (t 2) (t 3) (t 4) h) ke0) t h :=
  ykv2 (by kernel_rfl) (fun t h H1 => yfiz Kn Kr t h H1) (yft3 (fun  h => ytgi  h Kn Kr) Kr t h H0)
def ywlj (x0 : Value) (h : H) (Kn : Value → Value → Value → H → Prop) (Kr : Value → Value → Value → H → Prop) : Prop :=
  ykg0 x0 h Kn Kr
theorem y1ds (Kn Kr) (t : T) (h : H) (H0 : ywlj (t 0) h Kn Kr) : Wp Tryz.prog 28 (ygjk Tryz.f163.body) (mkQ (fun t h => Kn (t 2) (t 3) (t 4) h) (fun t h => Kr (t 2) (t 3) (t 4) h) ke0) t h :=
  y3i4 1 H0 (by kernel_rfl) (fun t h (H1 : ykg0 (t 0) h Kn Kr) => y1kr Kn Kr t h H1) (by kernel_rfl)
def F163 (x0 : Value) (h : H) (Q : Value → H → Prop) : Prop := ywlj x0 h (fun y2 y3 y4 h => bif [y2, y3, y4].all boxV then Q (.tuple #[y2, y3, y4]) h else False) (fun y2 y3 y4 h => bif [y2, y3, y4].all boxV then Q (.tuple #[y2, y3, y4]) h else False)
theorem yvws (x0 : Value) (h : H) (Q : Value → H → Prop) (H0 : F163 x0 h Q) : AM.Spec Tryz.prog 163 [x0] h Q :=
  yqxt mixed (fn := Tryz.f163) Tryz.func163 (c := ygjk Tryz.f163.body) (rs := [2, 3, 4]) (N := 28) (by kernel_rfl) (by kernel_rfl) (by kernel_rfl) (by kernel_rfl) (by kernel_rfl) (Nat.le_of_ble_eq_true rfl) (y1ds (fun y2 y3 y4 h => bif [y2, y3, y4].all boxV then Q (.tuple #[y2, y3, y4]) h else False) (fun y2 y3 y4 h => bif [y2, y3, y4].all boxV then Q (.tuple #[y2, y3, y4]) h else False) (tinit [x0]) h H0) (by kernel_rfl)
def yk37 (x1 x4 : Value) (h : H) (Kn : Value → Value → Value → H → Prop) (Kr : Value → H → Prop) (Ke0 : Value → H → Prop) : Prop :=
  o_bin Tryz.prog .eql 3 x4 (.int .i64 1) fun v6 => o_if v6 (Kn x1 x4 v6 h) (o_bin Tryz.prog .eql 3 x4 (.int .i64 8) fun v7 => o_if v7 (Kn x1 x4 v7 h) (o_bin Tryz.prog .eql 3 x4 (.int .i64 10) fun v8 => o_if v8 (Kn x1 x4 v8 h) (o_bin Tryz.prog .eql 3 x4 (.int .i64 12) fun v9 => Kn x1 x4 v9 h)))
theorem y4wf (Kn Kr Ke0) (t : T) (h : H) (H0 : yk37 (t 1) (t 4) h Kn Kr Ke0) : Wp Tryz.prog 98 (seqL (blkC (rest 1 (seqL (rest 1 (ygjk Tryz.f164.body)))))) (mkQ (fun t h => Kn (t 1) (t 4) (t 5) h) (fun t h => Kr (t 2) h) (keAdd 0 (fun t h => Ke0 (t 1) h) ke0)) t h :=
  wpEqF H0 (by kernel_rfl)
theorem yo2u {a : Int} {x1 : Value} {h : H} {Kn Kr Ke0} : yk37 x1 (.int .i64 a) h Kn Kr Ke0 = Kn x1 (.int .i64 a) (.bool (decide (a = 1) || (decide (a = 8) || (decide (a = 10) || decide (a = 12))))) h := by
  simp only [yk37, yc02, if_or]
def yj5t (h : H) (Kn : Value → H → Prop) (Kr : Value → H → Prop) (Ke0 : Value → H → Prop) : Prop :=
  Kr (.bool true) h
theorem yf90 (Kn Kr Ke0) (t : T) (h : H) (H0 : yj5t  h Kn Kr Ke0) : Wp Tryz.prog 98 (cndX (seqR (blkC (rest 1 (seqL (rest 1 (ygjk Tryz.f164.body))))))) (mkQ (fun t h => Kn (t 1) h) (fun t h => Kr (t 2) h) (keAdd 0 (fun t h => Ke0 (t 1) h) ke0)) t h :=
  wpEqF H0 (by kernel_rfl)
def yaej (x1 x4 : Value) (h : H) (Kn : Value → Value → Value → H → Prop) (Kr : Value → H → Prop) (Ke0 : Value → H → Prop) : Prop :=
  o_bin Tryz.prog .eql 3 x4 (.int .i64 2) fun v11 => o_if v11 (Kn x1 x4 v11 h) (o_bin Tryz.prog .eql 3 x4 (.int .i64 14) fun v12 => Kn x1 x4 v12 h)
theorem y1la (Kn Kr Ke0) (t : T) (h : H) (H0 : yaej (t 1) (t 4) h Kn Kr Ke0) : Wp Tryz.prog 98 (seqL (cndY (seqR (blkC (rest 1 (seqL (rest 1 (ygjk Tryz.f164.body)))))))) (mkQ (fun t h => Kn (t 1) (t 4) (t 10) h) (fun t h => Kr (t 2) h) (keAdd 0 (fun t h => Ke0 (t 1) h) ke0)) t h :=
  wpEqF H0 (by kernel_rfl)
theorem yopy {a : Int} {x1 : Value} {h : H} {Kn Kr Ke0} : yaej x1 (.int .i64 a) h Kn Kr Ke0 = Kn x1 (.int .i64 a) (.bool (decide (a = 2) || decide (a = 14))) h := by
  simp only [yaej, yc02, if_or]
def yv1m (x1 : Value) (h : H) (Kn : Value → H → Prop) (Kr : Value → H → Prop) (Ke0 : Value → H → Prop) : Prop :=
  yokc 4 x1 fun v13 => ysm8 false 1 v13 h fun v14 => o_bin Tryz.prog .leq 23 v14 (.int .u32 31) fun v15 => Kr v15 h
theorem yvpr (Kn Kr Ke0) (t : T) (h : H) (H0 : yv1m (t 1) h Kn Kr Ke0) : Wp Tryz.prog 98 (cndX (seqR (cndY (seqR (blkC (rest 1 (seqL (rest 1 (ygjk Tryz.f164.body))))))))) (mkQ (fun t h => Kn (t 1) h) (fun t h => Kr (t 2) h) (keAdd 0 (fun t h => Ke0 (t 1) h) ke0)) t h :=
  wpEqF H0 (by kernel_rfl)
def yc9t (x1 x4 : Value) (h : H) (Kn : Value → Value → Value → H → Prop) (Kr : Value → H → Prop) (Ke0 : Value → H → Prop) : Prop :=
  o_bin Tryz.prog .eql 3 x4 (.int .i64 3) fun v17 => o_if v17 (Kn x1 x4 v17 h) (o_bin Tryz.prog .eql 3 x4 (.int .i64 15) fun v18 => Kn x1 x4 v18 h)
theorem yjsl (Kn Kr Ke0) (t : T) (h : H) (H0 : yc9t (t 1) (t 4) h Kn Kr Ke0) : Wp Tryz.prog 98 (seqL (cndY (seqR (cndY (seqR (blkC (rest 1 (seqL (rest 1 (ygjk Tryz.f164.body)))))))))) (mkQ (fun t h => Kn (t 1) (t 4) (t 16) h) (fun t h => Kr (t 2) h) (keAdd 0 (fun t h => Ke0 (t 1) h) ke0)) t h :=
  wpEqF H0 (by kernel_rfl)
theorem ytyw {a : Int} {x1 : Value} {h : H} {Kn Kr Ke0} : yc9t x1 (.int .i64 a) h Kn Kr Ke0 = Kn x1 (.int .i64 a) (.bool (decide (a = 3) || decide (a = 15))) h := by
  simp only [yc9t, yc02, if_or]
def yfym (x1 : Value) (h : H) (Kn : Value → H → Prop) (Kr : Value → H → Prop) (Ke0 : Value → H → Prop) : Prop :=
  yokc 4 x1 fun v19 => ysm8 false 1 v19 h fun v20 => o_bin Tryz.prog .geq 23 v20 (.int .u32 1) fun v21 => yycv v21 true (fun k6 => yokc 4 x1 fun v23 => ysm8 false 1 v23 h fun v24 => o_bin Tryz.prog .leq 23 v24 (.int .u32 31) fun v25 => k6 v25 h) (fun v25 h => yw1w v21 v25 (.bool false) fun v26 => Kr v26 h) h
theorem y32u (Kn Kr Ke0) (t : T) (h : H) (H0 : yfym (t 1) h Kn Kr Ke0) : Wp Tryz.prog 98 (cndX (seqR (cndY (seqR (cndY (seqR (blkC (rest 1 (seqL (rest 1 (ygjk Tryz.f164.body))))))))))) (mkQ (fun t h => Kn (t 1) h) (fun t h => Kr (t 2) h) (keAdd 0 (fun t h => Ke0 (t 1) h) ke0)) t h :=
  wpEqF H0 (by kernel_rfl)
def ykny (x1 x4 : Value) (h : H) (Kn : Value → Value → Value → H → Prop) (Kr : Value → H → Prop) (Ke0 : Value → H → Prop) : Prop :=
  o_bin Tryz.prog .eql 3 x4 (.int .i64 4) fun v28 => o_if v28 (Kn x1 x4 v28 h) (o_bin Tryz.prog .eql 3 x4 (.int .i64 16) fun v29 => Kn x1 x4 v29 h)
theorem yk0w (Kn Kr Ke0) (t : T) (h : H) (H0 : ykny (t 1) (t 4) h Kn Kr Ke0) : Wp Tryz.prog 98 (seqL (cndY (seqR (cndY (seqR (cndY (seqR (blkC (rest 1 (seqL (rest 1 (ygjk Tryz.f164.body)))))))))))) (mkQ (fun t h => Kn (t 1) (t 4) (t 27) h) (fun t h => Kr (t 2) h) (keAdd 0 (fun t h => Ke0 (t 1) h) ke0)) t h :=
  wpEqF H0 (by kernel_rfl)
theorem yrbx {a : Int} {x1 : Value} {h : H} {Kn Kr Ke0} : ykny x1 (.int .i64 a) h Kn Kr Ke0 = Kn x1 (.int .i64 a) (.bool (decide (a = 4) || decide (a = 16))) h := by
  simp only [ykny, yc02, if_or]
def yilk (x1 : Value) (h : H) (Kn : Value → H → Prop) (Kr : Value → H → Prop) (Ke0 : Value → H → Prop) : Prop :=
  yokc 4 x1 fun v30 => ysm8 false 1 v30 h fun v31 => o_bin Tryz.prog .leq 23 v31 (.int .u32 17) fun v32 => Kr v32 h
theorem y8br (Kn Kr Ke0) (t : T) (h : H) (H0 : yilk (t 1) h Kn Kr Ke0) : Wp Tryz.prog 98 (cndX (seqR (cndY (seqR (cndY (seqR (cndY (seqR (blkC (rest 1 (seqL (rest 1 (ygjk Tryz.f164.body))))))))))))) (mkQ (fun t h => Kn (t 1) h) (fun t h => Kr (t 2) h) (keAdd 0 (fun t h => Ke0 (t 1) h) ke0)) t h :=
  wpEqF H0 (by kernel_rfl)
def y92d (x1 : Value) (h : H) (Kn : Value → H → Prop) (Kr : Value → H → Prop) (Ke0 : Value → H → Prop) : Prop :=
  yokc 4 x1 fun v35 => ysm8 false 1 v35 h fun v36 => o_bin Tryz.prog .leq 23 v36 (.int .u32 7) fun v37 => yycv v37 true (fun k6 => yokc 4 x1 fun v39 => ysm8 false 1 v39 h fun v40 => o_bin Tryz.prog .neq 23 v40 (.int .u32 2) fun v41 => k6 v41 h) (fun v41 h => yw1w v37 v41 (.bool false) fun v42 => yycv v42 true (fun k11 => yokc 4 x1 fun v44 => ysm8 false 1 v44 h fun v45 => o_bin Tryz.prog .neq 23 v45 (.int .u32 3) fun v46 => k11 v46 h) (fun v46 h => yw1w v42 v46 (.bool false) fun v47 => Kr v47 h) h) h
theorem y616 (Kn Kr Ke0) (t : T) (h : H) (H0 : y92d (t 1) h Kn Kr Ke0) : Wp Tryz.prog 98 (cndX (rest 1 (cndY (seqR (cndY (seqR (cndY (seqR (cndY (seqR (blkC (rest 1 (seqL (rest 1 (ygjk Tryz.f164.body))))))))))))))) (mkQ (fun t h => Kn (t 1) h) (fun t h => Kr (t 2) h) (keAdd 0 (fun t h => Ke0 (t 1) h) ke0)) t h :=
  wpEqF H0 (by kernel_rfl)
def y7we (x1 x4 : Value) (h : H) (Kn : Value → Value → Value → H → Prop) (Kr : Value → H → Prop) (Ke0 : Value → H → Prop) : Prop :=
  o_bin Tryz.prog .eql 3 x4 (.int .i64 6) fun v49 => o_if v49 (Kn x1 x4 v49 h) (o_bin Tryz.prog .eql 3 x4 (.int .i64 17) fun v50 => Kn x1 x4 v50 h)
theorem y1os (Kn Kr Ke0) (t : T) (h : H) (H0 : y7we (t 1) (t 4) h Kn Kr Ke0) : Wp Tryz.prog 98 (seqL (cndY (rest 1 (cndY (seqR (cndY (seqR (cndY (seqR (cndY (seqR (blkC (rest 1 (seqL (rest 1 (ygjk Tryz.f164.body)))))))))))))))) (mkQ (fun t h => Kn (t 1) (t 4) (t 48) h) (fun t h => Kr (t 2) h) (keAdd 0 (fun t h => Ke0 (t 1) h) ke0)) t h :=
  wpEqF H0 (by kernel_rfl)
theorem yr5t {a : Int} {x1 : Value} {h : H} {Kn Kr Ke0} : y7we x1 (.int .i64 a) h Kn Kr Ke0 = Kn x1 (.int .i64 a) (.bool (decide (a = 6) || decide (a = 17))) h := by
  simp only [y7we, yc02, if_or]
def yd13 (x1 : Value) (h : H) (Kn : Value → H → Prop) (Kr : Value → H → Prop) (Ke0 : Value → H → Prop) : Prop :=
  yokc 4 x1 fun v51 => ysm8 false 1 v51 h fun v52 => ywv3 Tryz.prog 237 [v52] h fun v53 h => yycv v53 false (fun k6 => yokc 4 x1 fun v55 => ysm8 false 1 v55 h fun v56 => o_bin Tryz.prog .eql 23 v56 (.int .u32 9) fun v57 => k6 v57 h) (fun v57 h => yw1w v53 (.bool true) v57 fun v58 => yycv v58 false (fun k11 => yokc 4 x1 fun v60 => ysm8 false 1 v60 h fun v61 => o_bin Tryz.prog .eql 23 v61 (.int .u32 10) fun v62 => k11 v62 h) (fun v62 h => yw1w v58 (.bool true) v62 fun v63 => Kr v63 h) h) h
theorem y4t7 (Kn Kr Ke0) (t : T) (h : H) (H0 : yd13 (t 1) h Kn Kr Ke0) : Wp Tryz.prog 98 (cndX (seqR (cndY (rest 1 (cndY (seqR (cndY (seqR (cndY (seqR (cndY (seqR (blkC (rest 1 (seqL (rest 1 (ygjk Tryz.f164.body))))))))))))))))) (mkQ (fun t h => Kn (t 1) h) (fun t h => Kr (t 2) h) (keAdd 0 (fun t h => Ke0 (t 1) h) ke0)) t h :=
  wpEqF H0 (by kernel_rfl)
def y812 (x1 x4 : Value) (h : H) (Kn : Value → Value → Value → H → Prop) (Kr : Value → H → Prop) (Ke0 : Value → H → Prop) : Prop :=
  o_bin Tryz.prog .eql 3 x4 (.int .i64 7) fun v65 => o_if v65 (Kn x1 x4 v65 h) (o_bin Tryz.prog .eql 3 x4 (.int .i64 18) fun v66 => Kn x1 x4 v66 h)
theorem yp8s (Kn Kr Ke0) (t : T) (h : H) (H0 : y812 (t 1) (t 4) h Kn Kr Ke0) : Wp Tryz.prog 98 (seqL (cndY (seqR (cndY (rest 1 (cndY (seqR (cndY (seqR (cndY (seqR (cndY (seqR (blkC (rest 1 (seqL (rest 1 (ygjk Tryz.f164.body)))))))))))))))))) (mkQ (fun t h => Kn (t 1) (t 4) (t 64) h) (fun t h => Kr (t 2) h) (keAdd 0 (fun t h => Ke0 (t 1) h) ke0)) t h :=
  wpEqF H0 (by kernel_rfl)
theorem yux6 {a : Int} {x1 : Value} {h : H} {Kn Kr Ke0} : y812 x1 (.int .i64 a) h Kn Kr Ke0 = Kn x1 (.int .i64 a) (.bool (decide (a = 7) || decide (a = 18))) h := by
  simp only [y812, yc02, if_or]
def yqdp (x1 x4 x64 : Value) (h : H) (Kn : Value → H → Prop) (Kr : Value → H → Prop) (Ke0 : Value → H → Prop) : Prop :=
  o_if x64 (yokc 4 x1 fun v67 => ysm8 false 1 v67 h fun v68 => ywv3 Tryz.prog 237 [v68] h fun v69 h => Kr v69 h) (o_bin Tryz.prog .eql 3 x4 (.int .i64 13) fun v71 => o_if v71 (yokc 4 x1 fun v72 => ysm8 false 1 v72 h fun v73 => o_bin Tryz.prog .eql 23 v73 (.int .u32 2) fun v74 => yycv v74 false (fun k6 => yokc 4 x1 fun v76 => ysm8 false 1 v76 h fun v77 => o_bin Tryz.prog .eql 23 v77 (.int .u32 5) fun v78 => k6 v78 h) (fun v78 h => yw1w v74 (.bool true) v78 fun v79 => yycv v79 false (fun k11 => yokc 4 x1 fun v81 => ysm8 false 1 v81 h fun v82 => o_bin Tryz.prog .eql 23 v82 (.int .u32 6) fun v83 => k11 v83 h) (fun v83 h => yw1w v79 (.bool true) v83 fun v84 => Kr v84 h) h) h) (o_bin Tryz.prog .eql 3 x4 (.int .i64 20) fun v86 => o_if v86 (yokc 4 x1 fun v87 => ysm8 false 1 v87 h fun v88 => o_bin Tryz.prog .geq 23 v88 (.int .u32 1) fun v89 => yycv v89 true (fun k6 => yokc 4 x1 fun v91 => ysm8 false 1 v91 h fun v92 => o_bin Tryz.prog .leq 23 v92 (.int .u32 3) fun v93 => k6 v93 h) (fun v93 h => yw1w v89 v93 (.bool false) fun v94 => Kr v94 h) h) (Kn x1 h)))
theorem y842 (Kn Kr Ke0) (t : T) (h : H) (H0 : yqdp (t 1) (t 4) (t 64) h Kn Kr Ke0) : Wp Tryz.prog 98 (seqR (cndY (seqR (cndY (rest 1 (cndY (seqR (cndY (seqR (cndY (seqR (cndY (seqR (blkC (rest 1 (seqL (rest 1 (ygjk Tryz.f164.body)))))))))))))))))) (mkQ (fun t h => Kn (t 1) h) (fun t h => Kr (t 2) h) (keAdd 0 (fun t h => Ke0 (t 1) h) ke0)) t h :=
  wpEqF H0 (by kernel_rfl)
def y12l (x1 x4 : Value) (h : H) (Kn : Value → H → Prop) (Kr : Value → H → Prop) (Ke0 : Value → H → Prop) : Prop :=
  y812 x1 x4 h (fun y1 y4 y64 h => yqdp y1 y4 y64 h Kn Kr Ke0) Kr Ke0
theorem yxpc (Kn Kr Ke0) (t : T) (h : H) (H0 : y12l (t 1) (t 4) h Kn Kr Ke0) : Wp Tryz.prog 98 (cndY (seqR (cndY (rest 1 (cndY (seqR (cndY (seqR (cndY (seqR (cndY (seqR (blkC (rest 1 (seqL (rest 1 (ygjk Tryz.f164.body))))))))))))))))) (mkQ (fun t h => Kn (t 1) h) (fun t h => Kr (t 2) h) (keAdd 0 (fun t h => Ke0 (t 1) h) ke0)) t h :=
  ykv2 (by kernel_rfl) (fun t h H1 => y842 Kn Kr Ke0 t h H1) (yp8s (fun y1 y4 y64 h => yqdp y1 y4 y64 h Kn Kr Ke0) Kr Ke0 t h H0)
def ym48 (x1 x4 x48 : Value) (h : H) (Kn : Value → H → Prop) (Kr : Value → H → Prop) (Ke0 : Value → H → Prop) : Prop :=
  o_if x48 (yd13 x1 h Kn Kr Ke0) (y12l x1 x4 h Kn Kr Ke0)
theorem yjq2 (Kn Kr Ke0) (t : T) (h : H) (H0 : ym48 (t 1) (t 4) (t 48) h Kn Kr Ke0) : Wp Tryz.prog 98 (seqR (cndY (rest 1 (cndY (seqR (cndY (seqR (cndY (seqR (cndY (seqR (blkC (rest 1 (seqL (rest 1 (ygjk Tryz.f164.body)))))))))))))))) (mkQ (fun t h => Kn (t 1) h) (fun t h => Kr (t 2) h) (keAdd 0 (fun t h => Ke0 (t 1) h) ke0)) t h :=
  yh47 H0 (by kernel_rfl) (y4t7 Kn Kr Ke0 t h) (yxpc Kn Kr Ke0 t h) (by kernel_rfl)
def ypv0 (x1 x4 : Value) (h : H) (Kn : Value → H → Prop) (Kr : Value → H → Prop) (Ke0 : Value → H → Prop) : Prop :=
  y7we x1 x4 h (fun y1 y4 y48 h => ym48 y1 y4 y48 h Kn Kr Ke0) Kr Ke0
theorem ynho (Kn Kr Ke0) (t : T) (h : H) (H0 : ypv0 (t 1) (t 4) h Kn Kr Ke0) : Wp Tryz.prog 98 (cndY (rest 1 (cndY (seqR (cndY (seqR (cndY (seqR (cndY (seqR (blkC (rest 1 (seqL (rest 1 (ygjk Tryz.f164.body))))))))))))))) (mkQ (fun t h => Kn (t 1) h) (fun t h => Kr (t 2) h) (keAdd 0 (fun t h => Ke0 (t 1) h) ke0)) t h :=
  ykv2 (by kernel_rfl) (fun t h H1 => yjq2 Kn Kr Ke0 t h H1) (y1os (fun y1 y4 y48 h => ym48 y1 y4 y48 h Kn Kr Ke0) Kr Ke0 t h H0)
def ydsi (x1 x4 x33 : Value) (h : H) (Kn : Value → H → Prop) (Kr : Value → H → Prop) (Ke0 : Value → H → Prop) : Prop :=
  o_if x33 (y92d x1 h Kn Kr Ke0) (ypv0 x1 x4 h Kn Kr Ke0)
theorem yidb (Kn Kr Ke0) (t : T) (h : H) (H0 : ydsi (t 1) (t 4) (t 33) h Kn Kr Ke0) : Wp Tryz.prog 98 (rest 1 (cndY (seqR (cndY (seqR (cndY (seqR (cndY (seqR (blkC (rest 1 (seqL (rest 1 (ygjk Tryz.f164.body)))))))))))))) (mkQ (fun t h => Kn (t 1) h) (fun t h => Kr (t 2) h) (keAdd 0 (fun t h => Ke0 (t 1) h) ke0)) t h :=
  yh47 H0 (by kernel_rfl) (y616 Kn Kr Ke0 t h) (ynho Kn Kr Ke0 t h) (by kernel_rfl)
def yqv8 (x1 x4 : Value) (h : H) (Kn : Value → H → Prop) (Kr : Value → H → Prop) (Ke0 : Value → H → Prop) : Prop :=
  o_bin Tryz.prog .eql 3 x4 (.int .i64 5) fun v34 => ydsi x1 x4 v34 h Kn Kr Ke0
theorem y51r (Kn Kr Ke0) (t : T) (h : H) (H0 : yqv8 (t 1) (t 4) h Kn Kr Ke0) : Wp Tryz.prog 98 (cndY (seqR (cndY (seqR (cndY (seqR (cndY (seqR (blkC (rest 1 (seqL (rest 1 (ygjk Tryz.f164.body))))))))))))) (mkQ (fun t h => Kn (t 1) h) (fun t h => Kr (t 2) h) (keAdd 0 (fun t h => Ke0 (t 1) h) ke0)) t h :=
  y3i4 1 H0 (by kernel_rfl) (fun t h (H1 : ydsi (t 1) (t 4) (t 33) h Kn Kr Ke0) => yidb Kn Kr Ke0 t h H1) (by kernel_rfl)
def yibi (x1 x4 x27 : Value) (h : H) (Kn : Value → H → Prop) (Kr : Value → H → Prop) (Ke0 : Value → H → Prop) : Prop :=
  o_if x27 (yilk x1 h Kn Kr Ke0) (yqv8 x1 x4 h Kn Kr Ke0)
theorem yctd (Kn Kr Ke0) (t : T) (h : H) (H0 : yibi (t 1) (t 4) (t 27) h Kn Kr Ke0) : Wp Tryz.prog 98 (seqR (cndY (seqR (cndY (seqR (cndY (seqR (blkC (rest 1 (seqL (rest 1 (ygjk Tryz.f164.body)))))))))))) (mkQ (fun t h => Kn (t 1) h) (fun t h => Kr (t 2) h) (keAdd 0 (fun t h => Ke0 (t 1) h) ke0)) t h :=
  yh47 H0 (by kernel_rfl) (y8br Kn Kr Ke0 t h) (y51r Kn Kr Ke0 t h) (by kernel_rfl)
def ykxg (x1 x4 : Value) (h : H) (Kn : Value → H → Prop) (Kr : Value → H → Prop) (Ke0 : Value → H → Prop) : Prop :=
  ykny x1 x4 h (fun y1 y4 y27 h => yibi y1 y4 y27 h Kn Kr Ke0) Kr Ke0
theorem ygmj (Kn Kr Ke0) (t : T) (h : H) (H0 : ykxg (t 1) (t 4) h Kn Kr Ke0) : Wp Tryz.prog 98 (cndY (seqR (cndY (seqR (cndY (seqR (blkC (rest 1 (seqL (rest 1 (ygjk Tryz.f164.body))))))))))) (mkQ (fun t h => Kn (t 1) h) (fun t h => Kr (t 2) h) (keAdd 0 (fun t h => Ke0 (t 1) h) ke0)) t h :=
  ykv2 (by kernel_rfl) (fun t h H1 => yctd Kn Kr Ke0 t h H1) (yk0w (fun y1 y4 y27 h => yibi y1 y4 y27 h Kn Kr Ke0) Kr Ke0 t h H0)
def yy8d (x1 x4 x16 : Value) (h : H) (Kn : Value → H → Prop) (Kr : Value → H → Prop) (Ke0 : Value → H → Prop) : Prop :=
  o_if x16 (yfym x1 h Kn Kr Ke0) (ykxg x1 x4 h Kn Kr Ke0)
theorem y51g (Kn Kr Ke0) (t : T) (h : H) (H0 : yy8d (t 1) (t 4) (t 16) h Kn Kr Ke0) : Wp Tryz.prog 98 (seqR (cndY (seqR (cndY (seqR (blkC (rest 1 (seqL (rest 1 (ygjk Tryz.f164.body)))))))))) (mkQ (fun t h => Kn (t 1) h) (fun t h => Kr (t 2) h) (keAdd 0 (fun t h => Ke0 (t 1) h) ke0)) t h :=
  yh47 H0 (by kernel_rfl) (y32u Kn Kr Ke0 t h) (ygmj Kn Kr Ke0 t h) (by kernel_rfl)
def ymjh (x1 x4 : Value) (h : H) (Kn : Value → H → Prop) (Kr : Value → H → Prop) (Ke0 : Value → H → Prop) : Prop :=
  yc9t x1 x4 h (fun y1 y4 y16 h => yy8d y1 y4 y16 h Kn Kr Ke0) Kr Ke0
theorem ya79 (Kn Kr Ke0) (t : T) (h : H) (H0 : ymjh (t 1) (t 4) h Kn Kr Ke0) : Wp Tryz.prog 98 (cndY (seqR (cndY (seqR (blkC (rest 1 (seqL (rest 1 (ygjk Tryz.f164.body))))))))) (mkQ (fun t h => Kn (t 1) h) (fun t h => Kr (t 2) h) (keAdd 0 (fun t h => Ke0 (t 1) h) ke0)) t h :=
  ykv2 (by kernel_rfl) (fun t h H1 => y51g Kn Kr Ke0 t h H1) (yjsl (fun y1 y4 y16 h => yy8d y1 y4 y16 h Kn Kr Ke0) Kr Ke0 t h H0)
def yruy (x1 x4 x10 : Value) (h : H) (Kn : Value → H → Prop) (Kr : Value → H → Prop) (Ke0 : Value → H → Prop) : Prop :=
  o_if x10 (yv1m x1 h Kn Kr Ke0) (ymjh x1 x4 h Kn Kr Ke0)
theorem yhjp (Kn Kr Ke0) (t : T) (h : H) (H0 : yruy (t 1) (t 4) (t 10) h Kn Kr Ke0) : Wp Tryz.prog 98 (seqR (cndY (seqR (blkC (rest 1 (seqL (rest 1 (ygjk Tryz.f164.body)))))))) (mkQ (fun t h => Kn (t 1) h) (fun t h => Kr (t 2) h) (keAdd 0 (fun t h => Ke0 (t 1) h) ke0)) t h :=
  yh47 H0 (by kernel_rfl) (yvpr Kn Kr Ke0 t h) (ya79 Kn Kr Ke0 t h) (by kernel_rfl)
def yuth (x1 x4 : Value) (h : H) (Kn : Value → H → Prop) (Kr : Value → H → Prop) (Ke0 : Value → H → Prop) : Prop :=
  yaej x1 x4 h (fun y1 y4 y10 h => yruy y1 y4 y10 h Kn Kr Ke0) Kr Ke0
theorem ydun (Kn Kr Ke0) (t : T) (h : H) (H0 : yuth (t 1) (t 4) h Kn Kr Ke0) : Wp Tryz.prog 98 (cndY (seqR (blkC (rest 1 (seqL (rest 1 (ygjk Tryz.f164.body))))))) (mkQ (fun t h => Kn (t 1) h) (fun t h => Kr (t 2) h) (keAdd 0 (fun t h => Ke0 (t 1) h) ke0)) t h :=
  ykv2 (by kernel_rfl) (fun t h H1 => yhjp Kn Kr Ke0 t h H1) (y1la (fun y1 y4 y10 h => yruy y1 y4 y10 h Kn Kr Ke0) Kr Ke0 t h H0)
def ypg7 (x1 x4 x5 : Value) (h : H) (Kn : Value → H → Prop) (Kr : Value → H → Prop) (Ke0 : Value → H → Prop) : Prop :=
  o_if x5 (yj5t  h Kn Kr Ke0) (yuth x1 x4 h Kn Kr Ke0)
theorem yzfw (Kn Kr Ke0) (t : T) (h : H) (H0 : ypg7 (t 1) (t 4) (t 5) h Kn Kr Ke0) : Wp Tryz.prog 98 (seqR (blkC (rest 1 (seqL (rest 1 (ygjk Tryz.f164.body)))))) (mkQ (fun t h => Kn (t 1) h) (fun t h => Kr (t 2) h) (keAdd 0 (fun t h => Ke0 (t 1) h) ke0)) t h :=
  yh47 H0 (by kernel_rfl) (yf90 Kn Kr Ke0 t h) (ydun Kn Kr Ke0 t h) (by kernel_rfl)
def yr1s (x1 x4 : Value) (h : H) (Kn : Value → H → Prop) (Kr : Value → H → Prop) (Ke0 : Value → H → Prop) : Prop :=
  yk37 x1 x4 h (fun y1 y4 y5 h => ypg7 y1 y4 y5 h Kn Kr Ke0) Kr Ke0
theorem yfgh (Kn Kr Ke0) (t : T) (h : H) (H0 : yr1s (t 1) (t 4) h Kn Kr Ke0) : Wp Tryz.prog 98 (blkC (rest 1 (seqL (rest 1 (ygjk Tryz.f164.body))))) (mkQ (fun t h => Kn (t 1) h) (fun t h => Kr (t 2) h) (keAdd 0 (fun t h => Ke0 (t 1) h) ke0)) t h :=
  ykv2 (by kernel_rfl) (fun t h H1 => yzfw Kn Kr Ke0 t h H1) (y4wf (fun y1 y4 y5 h => ypg7 y1 y4 y5 h Kn Kr Ke0) Kr Ke0 t h H0)
def yro1 (x1 x4 : Value) (h : H) (Kn : Value → H → Prop) (Kr : Value → H → Prop) : Prop :=
  yr1s x1 x4 h Kn Kr Kn
theorem yaki (Kn Kr) (t : T) (h : H) (H0 : yro1 (t 1) (t 4) h Kn Kr) : Wp Tryz.prog 98 (rest 1 (seqL (rest 1 (ygjk Tryz.f164.body)))) (mkQ (fun t h => Kn (t 1) h) (fun t h => Kr (t 2) h) ke0) t h :=
  y6tu 0 (by kernel_rfl) (by kernel_rfl) (yfgh Kn Kr Kn t h H0)
def yv6x (x1 : Value) (h : H) (Kn : Value → H → Prop) (Kr : Value → H → Prop) : Prop :=
  yokc 0 x1 fun v3 => ysm8 false 1 v3 h fun v4 => yro1 x1 v4 h Kn Kr
theorem yrzy (Kn Kr) (t : T) (h : H) (H0 : yv6x (t 1) h Kn Kr) : Wp Tryz.prog 98 (seqL (rest 1 (ygjk Tryz.f164.body))) (mkQ (fun t h => Kn (t 1) h) (fun t h => Kr (t 2) h) ke0) t h :=
  y3i4 1 H0 (by kernel_rfl) (fun t h (H1 : yro1 (t 1) (t 4) h Kn Kr) => yaki Kn Kr t h H1) (by kernel_rfl)
def ylvc (x1 : Value) (h : H) (Kn : Value → H → Prop) (Kr : Value → H → Prop) : Prop :=
  yokc 4 x1 fun v95 => ysm8 false 1 v95 h fun v96 => o_bin Tryz.prog .eql 23 v96 (.int .u32 0) fun v97 => Kr v97 h
theorem y6ua (Kn Kr) (t : T) (h : H) (H0 : ylvc (t 1) h Kn Kr) : Wp Tryz.prog 98 (seqR (rest 1 (ygjk Tryz.f164.body))) (mkQ (fun t h => Kn (t 2) h) (fun t h => Kr (t 2) h) ke0) t h :=
  wpEqF H0 (by kernel_rfl)
def yb3o (x1 : Value) (h : H) (Kn : Value → H → Prop) (Kr : Value → H → Prop) : Prop :=
  yv6x x1 h (fun y1 h => ylvc y1 h Kn Kr) Kr
theorem ypm8 (Kn Kr) (t : T) (h : H) (H0 : yb3o (t 1) h Kn Kr) : Wp Tryz.prog 98 (rest 1 (ygjk Tryz.f164.body)) (mkQ (fun t h => Kn (t 2) h) (fun t h => Kr (t 2) h) ke0) t h :=
  ykv2 (by kernel_rfl) (fun t h H1 => y6ua Kn Kr t h H1) (yrzy (fun y1 h => ylvc y1 h Kn Kr) Kr t h H0)
def y6m3 (x0 : Value) (h : H) (Kn : Value → H → Prop) (Kr : Value → H → Prop) : Prop :=
  boxV x0 = true ∧ o_new (Value.cells x0).toList 64 .exact h fun b1 h => yb3o (.pointer (some ⟨b1, 0, none⟩)) h Kn Kr
theorem yxsc (Kn Kr) (t : T) (h : H) (H0 : y6m3 (t 0) h Kn Kr) : Wp Tryz.prog 98 (ygjk Tryz.f164.body) (mkQ (fun t h => Kn (t 2) h) (fun t h => Kr (t 2) h) ke0) t h :=
  y3i4 1 H0 (by kernel_rfl) (fun t h (H1 : yb3o (t 1) h Kn Kr) => ypm8 Kn Kr t h H1) (by kernel_rfl)
def F164 (x0 : Value) (h : H) (Q : Value → H → Prop) : Prop := y6m3 x0 h (fun v h => Q v h) (fun v h => Q v h)
theorem yncn (x0 : Value) (h : H) (Q : Value → H → Prop) (H0 : F164 x0 h Q) : AM.Spec Tryz.prog 164 [x0] h Q :=
  yqxt mixed (fn := Tryz.f164) Tryz.func164 (c := ygjk Tryz.f164.body) (rs := [2]) (N := 98) (by kernel_rfl) (by kernel_rfl) (by kernel_rfl) (by kernel_rfl) (by kernel_rfl) (Nat.le_of_ble_eq_true rfl) (yxsc (fun v h => Q v h) (fun v h => Q v h) (tinit [x0]) h H0) (by kernel_rfl)
def yhtf (x0 x1 : Value) (h : H) (Kn : Value → H → Prop) (Kr : Value → H → Prop) : Prop :=
  o_bin Tryz.prog .eql 3 x1 (.int .i64 0) fun v6 => yycv v6 false (fun k11 => yycv x0 true (fun k6 => o_bin Tryz.prog .gtr 3 x1 (.int .i64 0) fun v11 => k6 v11 h) (fun v11 h => yw1w x0 v11 (.bool false) fun v12 => yycv v12 true (fun k10 => o_bin Tryz.prog .lss 3 x1 (.int .i64 256) fun v15 => k10 v15 h) (fun v15 h => yw1w v12 v15 (.bool false) fun v16 => k11 v16 h) h) h) (fun v16 h => yw1w v6 (.bool true) v16 fun v17 => Kr v17 h) h
theorem y202 (Kn Kr) (t : T) (h : H) (H0 : yhtf (t 0) (t 1) h Kn Kr) : Wp Tryz.prog 18 (ygjk Tryz.f165.body) (mkQ (fun t h => Kn (t 4) h) (fun t h => Kr (t 4) h) ke0) t h :=
  wpEqF H0 (by kernel_rfl)
def F165 (x0 x1 : Value) (h : H) (Q : Value → H → Prop) : Prop := yhtf x0 x1 h (fun v h => Q v h) (fun v h => Q v h)
theorem ylnu (x0 x1 : Value) (h : H) (Q : Value → H → Prop) (H0 : F165 x0 x1 h Q) : AM.Spec Tryz.prog 165 [x0, x1] h Q :=
  yqxt mixed (fn := Tryz.f165) Tryz.func165 (c := ygjk Tryz.f165.body) (rs := [4]) (N := 18) (by kernel_rfl) (by kernel_rfl) (by kernel_rfl) (by kernel_rfl) (by kernel_rfl) (Nat.le_of_ble_eq_true rfl) (y202 (fun v h => Q v h) (fun v h => Q v h) (tinit [x0, x1]) h H0) (by kernel_rfl)
def yy09 (x0 x1 x7 x8 : Value) (h : H) (Kn : Value → Value → Value → Value → H → Prop) (Kr : Value → H → Prop) (Ke0 : H → Prop) : Prop :=
  o_bin Tryz.prog .lss 3 x8 x7 fun v9 => o_if v9 (ys75 none 1 x0 x8 fun v14 => ysm8 false 1 v14 h fun v15 => o_dyn Tryz.prog x1 [v15] h fun v16 h => o_if v16 (Kr x8 h) (o_bin Tryz.prog .add 3 x8 (.int .i64 1) fun v18 => Kn x0 x1 x7 v18 h)) (Ke0 h)
theorem yvwr (Kn Kr Ke0) (t : T) (h : H) (H0 : yy09 (t 0) (t 1) (t 7) (t 8) h Kn Kr Ke0) : Wp Tryz.prog 19 (lopC (blkC (rest 1 (seqL (rest 1 (ygjk Tryz.f166.body)))))) (mkQ (fun t h => Kn (t 0) (t 1) (t 7) (t 8) h) (fun t h => Kr (t 4) h) (keAdd 0 (fun t h => Ke0  h) ke0)) t h :=
  wpEqF H0 (by kernel_rfl)
def yqv1 (x0 x1 x7 x8 : Value) (h : H) (Kn : H → Prop) (Kr : Value → H → Prop) (Ke0 : H → Prop) : Prop :=
  sloop (S := Value × Value × Value × Value) (fun s h K => yy09 s.1 s.2.1 s.2.2.1 s.2.2.2 h (fun y0 y1 y7 y8 h => K (y0, y1, y7, y8) h) Kr Ke0) (x0, x1, x7, x8) h
theorem yoon (Kn Kr Ke0) (t : T) (h : H) (H0 : yqv1 (t 0) (t 1) (t 7) (t 8) h Kn Kr Ke0) : Wp Tryz.prog 19 (blkC (rest 1 (seqL (rest 1 (ygjk Tryz.f166.body))))) (mkQ (fun t h => Kn  h) (fun t h => Kr (t 4) h) (keAdd 0 (fun t h => Ke0  h) ke0)) t h :=
  yv0a (fun t => (t 0, t 1, t 7, t 8)) (by kernel_rfl) (fun t h K H1 => yvwr (fun y0 y1 y7 y8 h => K (y0, y1, y7, y8) h) Kr Ke0 t h H1) H0
def ypiu (x0 x1 x7 x8 : Value) (h : H) (Kn : H → Prop) (Kr : Value → H → Prop) : Prop :=
  yqv1 x0 x1 x7 x8 h Kn Kr Kn
theorem ybyn (Kn Kr) (t : T) (h : H) (H0 : ypiu (t 0) (t 1) (t 7) (t 8) h Kn Kr) : Wp Tryz.prog 19 (rest 1 (seqL (rest 1 (ygjk Tryz.f166.body)))) (mkQ (fun t h => Kn  h) (fun t h => Kr (t 4) h) ke0) t h :=
  y6tu 0 (by kernel_rfl) (by kernel_rfl) (yoon Kn Kr Kn t h H0)
def ysai (x0 x1 : Value) (h : H) (Kn : H → Prop) (Kr : Value → H → Prop) : Prop :=
  yn0t x0 fun v7 => ypiu x0 x1 v7 (.int .i64 0) h Kn Kr
theorem y0ue (Kn Kr) (t : T) (h : H) (H0 : ysai (t 0) (t 1) h Kn Kr) : Wp Tryz.prog 19 (seqL (rest 1 (ygjk Tryz.f166.body))) (mkQ (fun t h => Kn  h) (fun t h => Kr (t 4) h) ke0) t h :=
  y3i4 1 H0 (by kernel_rfl) (fun t h (H1 : ypiu (t 0) (t 1) (t 7) (t 8) h Kn Kr) => ybyn Kn Kr t h H1) (by kernel_rfl)
def yqli (h : H) (Kn : Value → H → Prop) (Kr : Value → H → Prop) : Prop :=
  Kr (.int .i64 (-1)) h
theorem yqzc (Kn Kr) (t : T) (h : H) (H0 : yqli  h Kn Kr) : Wp Tryz.prog 19 (seqR (rest 1 (ygjk Tryz.f166.body))) (mkQ (fun t h => Kn (t 4) h) (fun t h => Kr (t 4) h) ke0) t h :=
  wpEqF H0 (by kernel_rfl)
def ybs3 (x0 x1 : Value) (h : H) (Kn : Value → H → Prop) (Kr : Value → H → Prop) : Prop :=
  ysai x0 x1 h (fun  h => yqli  h Kn Kr) Kr
theorem ydko (Kn Kr) (t : T) (h : H) (H0 : ybs3 (t 0) (t 1) h Kn Kr) : Wp Tryz.prog 19 (rest 1 (ygjk Tryz.f166.body)) (mkQ (fun t h => Kn (t 4) h) (fun t h => Kr (t 4) h) ke0) t h :=
  ykv2 (by kernel_rfl) (fun t h H1 => yqzc Kn Kr t h H1) (y0ue (fun  h => yqli  h Kn Kr) Kr t h H0)
def y1jl (x0 x1 : Value) (h : H) (Kn : Value → H → Prop) (Kr : Value → H → Prop) : Prop :=
  ybs3 x0 x1 h Kn Kr
theorem yos5 (Kn Kr) (t : T) (h : H) (H0 : y1jl (t 0) (t 1) h Kn Kr) : Wp Tryz.prog 19 (ygjk Tryz.f166.body) (mkQ (fun t h => Kn (t 4) h) (fun t h => Kr (t 4) h) ke0) t h :=
  y3i4 1 H0 (by kernel_rfl) (fun t h (H1 : ybs3 (t 0) (t 1) h Kn Kr) => ydko Kn Kr t h H1) (by kernel_rfl)
def F166 (x0 x1 : Value) (h : H) (Q : Value → H → Prop) : Prop := y1jl x0 x1 h (fun v h => Q v h) (fun v h => Q v h)
theorem ydwp (x0 x1 : Value) (h : H) (Q : Value → H → Prop) (H0 : F166 x0 x1 h Q) : AM.Spec Tryz.prog 166 [x0, x1] h Q :=
  yqxt mixed (fn := Tryz.f166) Tryz.func166 (c := ygjk Tryz.f166.body) (rs := [4]) (N := 19) (by kernel_rfl) (by kernel_rfl) (by kernel_rfl) (by kernel_rfl) (by kernel_rfl) (Nat.le_of_ble_eq_true rfl) (yos5 (fun v h => Q v h) (fun v h => Q v h) (tinit [x0, x1]) h H0) (by kernel_rfl)
def y2cq (x0 : Value) (h : H) (Kn : Value → H → Prop) (Kr : Value → H → Prop) : Prop :=
  o_bin Tryz.prog .eql 23 x0 (.int .u32 1) fun v4 => yycv v4 false (fun k4 => o_bin Tryz.prog .eql 23 x0 (.int .u32 2) fun v7 => k4 v7 h) (fun v7 h => yw1w v4 (.bool true) v7 fun v8 => yycv v8 false (fun k8 => o_bin Tryz.prog .eql 23 x0 (.int .u32 4) fun v11 => k8 v11 h) (fun v11 h => yw1w v8 (.bool true) v11 fun v12 => Kr v12 h) h) h
theorem yxqh (Kn Kr) (t : T) (h : H) (H0 : y2cq (t 0) h Kn Kr) : Wp Tryz.prog 13 (ygjk Tryz.f237.body) (mkQ (fun t h => Kn (t 2) h) (fun t h => Kr (t 2) h) ke0) t h :=
  wpEqF H0 (by kernel_rfl)
def F237 (x0 : Value) (h : H) (Q : Value → H → Prop) : Prop := y2cq x0 h (fun v h => Q v h) (fun v h => Q v h)
theorem yxvv (x0 : Value) (h : H) (Q : Value → H → Prop) (H0 : F237 x0 h Q) : AM.Spec Tryz.prog 237 [x0] h Q :=
  yqxt mixed (fn := Tryz.f237) Tryz.func237 (c := ygjk Tryz.f237.body) (rs := [2]) (N := 13) (by kernel_rfl) (by kernel_rfl) (by kernel_rfl) (by kernel_rfl) (by kernel_rfl) (Nat.le_of_ble_eq_true rfl) (yxqh (fun v h => Q v h) (fun v h => Q v h) (tinit [x0]) h H0) (by kernel_rfl)
end Go.Proofs.YtnckimioabkheaaGreat

namespace Go.Proofs.YtnckimioabkheaaGreat
open AM
set_option linter.unusedVariables false
set_option maxRecDepth 100000
set_option linter.unusedSimpArgs false
structure Nd where
  op : Int
  to : Int
  a : Int
  b : Int
  v : Int
  deriving DecidableEq
def Nd.cells (n : Nd) : List Value := [.int .i64 n.op, .int .i64 n.to, .int .i64 n.a, .int .i64 n.b, .int .u32 n.v]
def Nd.val (n : Nd) : Value := .agg #[.int .i64 n.op, .int .i64 n.to, .int .i64 n.a, .int .i64 n.b, .int .u32 n.v]
def tagsB (op : Int) : Bool := decide (op = 14) || decide (op = 16) || decide (op = 17) || decide (op = 19)
def hasL (op : Int) : Bool × Bool × Bool :=
  if op = 1 ∨ op = 2 ∨ op = 14 then (true, false, false)
  else if op = 4 ∨ op = 5 ∨ op = 16 then (true, true, true)
  else if op = 6 ∨ op = 17 ∨ op = 19 then (true, true, false)
  else if op = 7 ∨ op = 18 then (false, true, true)
  else if op = 3 ∨ op = 15 ∨ op = 10 ∨ op = 11 ∨ op = 20 ∨ op = 21 then (false, true, false)
  else (false, false, false)
def y65c (op : Int) : Bool := decide (op = 1) || (decide (op = 2) || (decide (op = 4) || (decide (op = 5) || decide (op = 6))))
def yyyr (v : Int) : Bool := decide (v = 1) || decide (v = 2) || decide (v = 4)
def ykl2 (op v : Int) : Bool :=
  if op = 1 ∨ op = 8 ∨ op = 10 ∨ op = 12 then true
  else if op = 2 ∨ op = 14 then decide (v ≤ 31)
  else if op = 3 ∨ op = 15 then decide (1 ≤ v) && decide (v ≤ 31)
  else if op = 4 ∨ op = 16 then decide (v ≤ 17)
  else if op = 5 then decide (v ≤ 7) && !decide (v = 2) && !decide (v = 3)
  else if op = 6 ∨ op = 17 then yyyr v || decide (v = 9) || decide (v = 10)
  else if op = 7 ∨ op = 18 then yyyr v
  else if op = 13 then decide (v = 2) || decide (v = 5) || decide (v = 6)
  else if op = 20 then decide (1 ≤ v) && decide (v ≤ 3)
  else decide (v = 0)
theorem to_q {Q : Value → H → Prop} {v v' : Value} {h : H} (hq : Q v h) (e : v = v') : Q v' h := e ▸ hq
theorem yqt9 {op : Int} {h : H} {Q : Value → H → Prop} (hq : Q (.bool (tagsB op)) h) : AM.Spec Tryz.prog 54 [.int .i64 op] h Q := by
  refine yv0z _ _ _ ?_
  unfold F54 F54_0
  simp only [yc02, yku0, y4yh]
  exact hq
theorem yjsp {op : Int} {h : H} {Q : Value → H → Prop} (hq : Q (.tuple #[.bool (hasL op).1, .bool (hasL op).2.1, .bool (hasL op).2.2]) h) : AM.Spec Tryz.prog 163 [.int .i64 op] h Q := by
  refine yvws _ _ _ ?_
  simp only [F163, ywlj, ykg0, y636, yotz, y4ch, ymy4, ym6a, y289, yjm9, ylc0, y7ll, yidu, y95b, y7bs, y257, y63o, ya2w, y2h1, yhef, yqtk, ytso, ypz1, ye2o, ytgi, yc02, ykm3, Bool.or_eq_true, decide_eq_true_eq, List.all_cons, List.all_nil, y7yb, Bool.and_true, cond_true]
  repeat' split
  all_goals (refine to_q hq ?_; clear hq; simp [hasL, *])
theorem ywu5 {v : Int} {h : H} {Q : Value → H → Prop} (hq : Q (.bool (yyyr v)) h) : AM.Spec Tryz.prog 237 [.int .u32 v] h Q := by
  refine yxvv _ _ _ ?_
  unfold F237 y2cq
  simp only [yc02, yku0, y4yh]
  exact hq
def yalu (is : Bool) (t : Int) : Bool := decide (t = 0) || (is && (decide (0 < t)) && (decide (t < 256)))
theorem y52o {is : Bool} {t : Int} {h : H} {Q : Value → H → Prop} (hq : Q (.bool (yalu is t)) h) : AM.Spec Tryz.prog 165 [.bool is, .int .i64 t] h Q := by
  refine ylnu _ _ _ _ ?_
  unfold F165 yhtf
  simp only [yc02, y5aw, ypzw, yku0, yu2d, y4yh, ynyz]
  exact hq
theorem ylvp {n : Nd} {h : H} {Q : Value → H → Prop} (hq : Q (.tuple #[.int .i64 (if y65c n.op then n.to else 0), .bool (y65c n.op)]) h) : AM.Spec Tryz.prog 58 [n.val] h Q := by
  refine yz7m (fun Q hq => ?_) hq
  refine yzl8 _ _ _ ?_
  refine ⟨rfl, fun b hb2 hb => ?_⟩
  have hq := hq _ (Sub.new (o := .cells n.cells 64 .exact) hb)
  simp only [Nd.val, Value.cells, F58_1, F58_2, F58_3, F58_4, ygld, F58_6, F58_7, yc02, ym6s, y5aw, y3lr, ypzw, y3pi, y642, yy2q, yvbp, yku0, yu2d, y4yh, ynyz, ykm3, y4j6, y2i1, yicc, ex0, ex1, ex0', ex1', ex2', y525, List.getElem?_cons_zero, List.getElem?_cons_succ, Nat.add_zero, Nat.zero_add, List.all_cons, List.all_nil, y7yb, yhlb, y5i6, bx_sl, yn96, y45v, ypw1, y3av, Bool.and_true, Bool.true_and, Bool.and_self, cond_true, cond_false ]
  split
  all_goals (refine to_q hq ?_; clear hq; simp only [y65c, *]; rfl)
theorem yv4j {n : Nd} {h : H} {Q : Value → H → Prop} (hq : Q (.bool (ykl2 n.op n.v)) h) : AM.Spec Tryz.prog 164 [n.val] h Q := by
  refine yz7m (fun Q hq => ?_) hq
  refine yncn _ _ _ ?_
  refine ⟨rfl, fun b hb2 hb => ?_⟩
  have hq := hq _ (Sub.new (o := .cells n.cells 64 .exact) hb)
  simp only [Nd.val, Value.cells, yb3o, yv6x, yro1, yr1s, yo2u, ypg7, yj5t, yuth, yopy, yruy, yv1m, ymjh, ytyw, yy8d, yfym, ykxg, yrbx, yibi, yilk, yqv8, ydsi, y92d, ypv0, yr5t, ym48, yd13, y12l, yux6, yqdp, ylvc, yc02, ym6s, y5aw, y3lr, ypzw, y3pi, y642, yy2q, yvbp, yku0, yu2d, y4yh, ynyz, ykm3, y4j6, y2i1, yicc, ex0, ex1, ex0', ex1', ex2', y525, List.getElem?_cons_zero, List.getElem?_cons_succ, Nat.add_zero, Nat.zero_add, List.all_cons, List.all_nil, y7yb, yhlb, y5i6, bx_sl, yn96, y45v, ypw1, y3av, Bool.and_true, Bool.true_and, Bool.and_self, cond_true, cond_false , Bool.or_eq_true, Bool.and_eq_true, decide_eq_true_eq, Bool.not_eq_true', decide_eq_false_iff_not ]
  repeat' split
  all_goals first
    | (refine to_q hq ?_; clear hq; simp [ykl2, *])
    | (refine ⟨rfl, ywu5 ?_⟩; (try simp only [yc02, ym6s, y5aw, y3lr, ypzw, y3pi, y642, yy2q, yvbp, yku0, yu2d, y4yh, ynyz, ykm3, y4j6, y2i1, yicc, ex0, ex1, ex0', ex1', ex2', y525, List.getElem?_cons_zero, List.getElem?_cons_succ, Nat.add_zero, Nat.zero_add, List.all_cons, List.all_nil, y7yb, yhlb, y5i6, bx_sl, yn96, y45v, ypw1, y3av, Bool.and_true, Bool.true_and, Bool.and_self, cond_true, cond_false ]); refine to_q hq ?_; clear hq; simp [ykl2, *])
def yln3 (n : Nd) : Bool := decide (1 ≤ n.op) && decide (n.op ≤ 21) && ykl2 n.op n.v && yalu (hasL n.op).1 n.to && yalu (hasL n.op).2.1 n.a && yalu (hasL n.op).2.2 n.b
theorem ymbn {n : Nd} {h : H} {Q : Value → H → Prop} (hq : Q (.bool (yln3 n)) h) : AM.Spec Tryz.prog 53 [n.val] h Q := by
  refine yz7m (fun Q hq => ?_) hq
  refine yaq9 _ _ _ ?_
  refine ⟨rfl, fun b hb2 hb => ?_⟩
  have hq := hq _ (Sub.new (o := .cells n.cells 64 .exact) hb)
  simp only [Nd.val, Value.cells, yc02, ym6s, y5aw, y3lr, ypzw, y3pi, y642, yy2q, yvbp, yku0, yu2d, y4yh, ynyz, ykm3, y4j6, y2i1, yicc, ex0, ex1, ex0', ex1', ex2', y525, List.getElem?_cons_zero, List.getElem?_cons_succ, Nat.add_zero, Nat.zero_add, List.all_cons, List.all_nil, y7yb, yhlb, y5i6, bx_sl, yn96, y45v, ypw1, y3av, Bool.and_true, Bool.true_and, Bool.and_self, cond_true, cond_false ]
  refine ⟨rfl, yjsp ?_⟩
  simp only [yc02, ym6s, y5aw, y3lr, ypzw, y3pi, y642, yy2q, yvbp, yku0, yu2d, y4yh, ynyz, ykm3, y4j6, y2i1, yicc, ex0, ex1, ex0', ex1', ex2', y525, List.getElem?_cons_zero, List.getElem?_cons_succ, Nat.add_zero, Nat.zero_add, List.all_cons, List.all_nil, y7yb, yhlb, y5i6, bx_sl, yn96, y45v, ypw1, y3av, Bool.and_true, Bool.true_and, Bool.and_self, cond_true, cond_false ]
  refine yigx (b := ykl2 n.op n.v) (fun _ K hk => ?_) ?_
  · rw [y2pr (by rfl)]
    exact ⟨rfl, yv4j (n := n) hk⟩
  simp only [yc02, ym6s, y5aw, y3lr, ypzw, y3pi, y642, yy2q, yvbp, yku0, yu2d, y4yh, ynyz, ykm3, y4j6, y2i1, yicc, ex0, ex1, ex0', ex1', ex2', y525, List.getElem?_cons_zero, List.getElem?_cons_succ, Nat.add_zero, Nat.zero_add, List.all_cons, List.all_nil, y7yb, yhlb, y5i6, bx_sl, yn96, y45v, ypw1, y3av, Bool.and_true, Bool.true_and, Bool.and_self, cond_true, cond_false ]
  refine yigx (b := yalu (hasL n.op).1 n.to) (fun _ K hk => ⟨rfl, y52o hk⟩) ?_
  simp only [yc02, ym6s, y5aw, y3lr, ypzw, y3pi, y642, yy2q, yvbp, yku0, yu2d, y4yh, ynyz, ykm3, y4j6, y2i1, yicc, ex0, ex1, ex0', ex1', ex2', y525, List.getElem?_cons_zero, List.getElem?_cons_succ, Nat.add_zero, Nat.zero_add, List.all_cons, List.all_nil, y7yb, yhlb, y5i6, bx_sl, yn96, y45v, ypw1, y3av, Bool.and_true, Bool.true_and, Bool.and_self, cond_true, cond_false ]
  refine yigx (b := yalu (hasL n.op).2.1 n.a) (fun _ K hk => ⟨rfl, y52o hk⟩) ?_
  simp only [yc02, ym6s, y5aw, y3lr, ypzw, y3pi, y642, yy2q, yvbp, yku0, yu2d, y4yh, ynyz, ykm3, y4j6, y2i1, yicc, ex0, ex1, ex0', ex1', ex2', y525, List.getElem?_cons_zero, List.getElem?_cons_succ, Nat.add_zero, Nat.zero_add, List.all_cons, List.all_nil, y7yb, yhlb, y5i6, bx_sl, yn96, y45v, ypw1, y3av, Bool.and_true, Bool.true_and, Bool.and_self, cond_true, cond_false ]
  refine yigx (b := yalu (hasL n.op).2.2 n.b) (fun _ K hk => ⟨rfl, y52o hk⟩) ?_
  exact hq
end Go.Proofs.YtnckimioabkheaaGreat

set_option linter.unusedSimpArgs false
set_option linter.unusedVariables false
set_option maxRecDepth 100000
namespace Go.Proofs.YtnckimioabkheaaGreat
open AM
def encI (a : Int) : List Value := [.int .i64 a]
def rl (n : Nd) : List Int := (if (hasL n.op).2.1 then [n.a] else []) ++ (if (hasL n.op).2.2 then [n.b] else []) ++ (if n.op = 19 then [n.to] else [])
theorem lit37 (a : Int) : yrjn Tryz.prog 28 1 [(0, .int .i64 a)] = some ([.int .i64 a], 3) := by kernel_rfl
theorem bs37 {a : Int} {h : H} {K : Value → H → Prop} : yyll Tryz.prog 28 1 [(0, .int .i64 a)] h K = o_new [.int .i64 a] 3 .exact h fun b h => K (.slice (some ⟨b, 0, none⟩) 1 1) h := by
  unfold yyll
  rw [lit37]
def StI (h0 : H) (b1 : Nat) (q : AObj) (h : H) (v : Value) (l : List Int) : Prop :=
  Gr encI 1 3 h0 h v l ∧ h b1 = some q ∧ Sub h0 h ∧ yc20 v ≠ some b1
theorem StI.push {h0 h : H} {b1 : Nat} {q : AObj} {v : Value} {l : List Int} {a : Int} {K : Value → H → Prop} (hs : StI h0 b1 q h v l) (hl : l.length ≤ 100) (hk : ∀ v' h', StI h0 b1 q h' v' (l ++ [a]) → K v' h') :
    yyll Tryz.prog 28 1 [(0, .int .i64 a)] h fun y h => yc1n 3 1 8 v y h K := by
  obtain ⟨hg, hb1, hsub, hne⟩ := hs
  rw [bs37]
  intro b hb2 hb
  have hbb : b ≠ b1 := fun he => by rw [he, hb1] at hb; cases hb
  have hsub' : Sub h0 (upd h b (.cells [.int .i64 a] 3 .exact)) := hsub.upd (hsub.none hb)
  refine Gr.append (m := [a]) (h := upd h b (.cells [.int .i64 a] 3 .exact)) (hg.keep fun c hc => ?_) (Sl.of_block (b := b) (o := 0) (l := [a]) (c := 1) (fun _ _ => rfl) (yy0e _ _ _) rfl (by simp)) (by simp) (by omega) (by simp; omega) (by simp; omega) hsub' ?_
  · refine yrkk _ _ fun he => ?_
    rw [he] at hc
    exact hg.there hc hb
  · intro v' h' h1 h2 h3 h4
    refine hk v' h' ⟨h1, h3 b1 q ?_ hne, h2, fun he => ?_⟩
    · rw [yrkk _ _ (Ne.symm hbb)]; exact hb1
    · have := h4 _ he
      rw [yrkk _ _ (Ne.symm hbb), hb1] at this
      cases this
theorem yd4c {n : Nd} {h : H} {Q : Value → H → Prop} (hq : ∀ v h', Sub h h' → Gr encI 1 3 h h' v (rl n) → Q v h') : AM.Spec Tryz.prog 56 [n.val] h Q := by
  refine y7vm _ _ _ ?_
  refine ⟨rfl, fun b hb2 hb => ?_⟩
  simp only [Nd.val, Value.cells, yc02, ym6s, y5aw, y3lr, ypzw, y3pi, y642, yy2q, yvbp, yku0, yu2d, y4yh, ynyz, ykm3, y4j6, y2i1, yicc, ex0, ex1, ex0', ex1', ex2', y525, List.getElem?_cons_zero, List.getElem?_cons_succ, Nat.add_zero, Nat.zero_add, List.all_cons, List.all_nil, y7yb, yhlb, y5i6, bx_sl, yn96, y45v, ypw1, y3av, Bool.and_true, Bool.true_and, Bool.and_self, cond_true, cond_false ]
  refine ⟨rfl, yjsp ?_⟩
  simp only [yc02, ym6s, y5aw, y3lr, ypzw, y3pi, y642, yy2q, yvbp, yku0, yu2d, y4yh, ynyz, ykm3, y4j6, y2i1, yicc, ex0, ex1, ex0', ex1', ex2', y525, List.getElem?_cons_zero, List.getElem?_cons_succ, Nat.add_zero, Nat.zero_add, List.all_cons, List.all_nil, y7yb, yhlb, y5i6, bx_sl, yn96, y45v, ypw1, y3av, Bool.and_true, Bool.true_and, Bool.and_self, cond_true, cond_false ]
  have s0 : StI h b (.cells n.cells 64 .exact) (upd h b (.cells n.cells 64 .exact)) (.slice none 0 0) [] := ⟨Gr.empty, yy0e _ _ _, Sub.new hb, by simp [yc20]⟩
  have ld : ∀ {h' v l} (i : Nat) (x : Value) {K : Value → Prop}, StI h b (.cells n.cells 64 .exact) h' v l → n.cells[i]? = some x → K x → ysm8 false 1 (.pointer (some ⟨b, i, none⟩)) h' K := by
    intro h' v l i x K hs hx hk
    rw [ycro (v := x) (by rw [yow8 hs.2.1]; exact hx)]; exact hk
  have e3 : ∀ {h' v l Kn}, StI h b (.cells n.cells 64 .exact) h' v l → l.length ≤ 2 → l ++ (if n.op = 19 then [n.to] else []) = rl n → F56_5 (.pointer (some ⟨b, 0, none⟩)) v h' Kn Q := by
    intro h' v l Kn hs hl he
    simp only [F56_5, F56_6, F56_7, yc02, ym6s, y5aw, y3lr, ypzw, y3pi, y642, yy2q, yvbp, yku0, yu2d, y4yh, ynyz, ykm3, y4j6, y2i1, yicc, ex0, ex1, ex0', ex1', ex2', y525, List.getElem?_cons_zero, List.getElem?_cons_succ, Nat.add_zero, Nat.zero_add, List.all_cons, List.all_nil, y7yb, yhlb, y5i6, bx_sl, yn96, y45v, ypw1, y3av, Bool.and_true, Bool.true_and, Bool.and_self, cond_true, cond_false ]
    refine ld 0 (.int .i64 n.op) hs rfl ?_
    simp only [yc02, ym6s, y5aw, y3lr, ypzw, y3pi, y642, yy2q, yvbp, yku0, yu2d, y4yh, ynyz, ykm3, y4j6, y2i1, yicc, ex0, ex1, ex0', ex1', ex2', y525, List.getElem?_cons_zero, List.getElem?_cons_succ, Nat.add_zero, Nat.zero_add, List.all_cons, List.all_nil, y7yb, yhlb, y5i6, bx_sl, yn96, y45v, ypw1, y3av, Bool.and_true, Bool.true_and, Bool.and_self, cond_true, cond_false , Bool.or_eq_true, Bool.and_eq_true, decide_eq_true_eq, Bool.not_eq_true', decide_eq_false_iff_not ]
    split
    · refine ld 1 (.int .i64 n.to) hs rfl ?_
      refine hs.push (by omega) fun v' h'' hs' => hq _ _ hs'.2.2.1 ?_
      have := hs'.1
      simp only [*, if_true] at he
      rw [← he]; exact this
    · simp only [*, if_false, List.append_nil] at he
      exact hq _ _ hs.2.2.1 (he ▸ hs.1)
  have e2 : ∀ {h' v l Kn}, StI h b (.cells n.cells 64 .exact) h' v l → l.length ≤ 1 → l ++ (if (hasL n.op).2.2 = true then [n.b] else []) ++ (if n.op = 19 then [n.to] else []) = rl n → F56_3 (.pointer (some ⟨b, 0, none⟩)) (.bool (hasL n.op).2.2) v h' Kn Q := by
    intro h' v l Kn hs hl he
    simp only [F56_3, F56_4, yc02, ym6s, y5aw, y3lr, ypzw, y3pi, y642, yy2q, yvbp, yku0, yu2d, y4yh, ynyz, ykm3, y4j6, y2i1, yicc, ex0, ex1, ex0', ex1', ex2', y525, List.getElem?_cons_zero, List.getElem?_cons_succ, Nat.add_zero, Nat.zero_add, List.all_cons, List.all_nil, y7yb, yhlb, y5i6, bx_sl, yn96, y45v, ypw1, y3av, Bool.and_true, Bool.true_and, Bool.and_self, cond_true, cond_false ]
    split
    · refine ld 3 (.int .i64 n.b) hs rfl ?_
      refine hs.push (by omega) fun v' h'' hs' => e3 hs' (by simp; omega) ?_
      simpa only [*, if_true] using he
    · refine e3 hs (by omega) ?_
      rw [if_neg ‹_›, List.append_nil] at he
      exact he
  simp only [F56_1, F56_2, yc02, ym6s, y5aw, y3lr, ypzw, y3pi, y642, yy2q, yvbp, yku0, yu2d, y4yh, ynyz, ykm3, y4j6, y2i1, yicc, ex0, ex1, ex0', ex1', ex2', y525, List.getElem?_cons_zero, List.getElem?_cons_succ, Nat.add_zero, Nat.zero_add, List.all_cons, List.all_nil, y7yb, yhlb, y5i6, bx_sl, yn96, y45v, ypw1, y3av, Bool.and_true, Bool.true_and, Bool.and_self, cond_true, cond_false ]
  split
  · refine s0.push (by simp) fun v' h'' hs' => e2 hs' (by simp) ?_
    simp [rl, *]
  · refine e2 s0 (by simp) ?_
    simp [rl, *]
theorem y6qh {n : Nd} {h : H} {Q : Value → H → Prop} (hq : ∀ v h', Sub h h' → Sl encI 1 h' v (rl n) → Q v h') : AM.Spec Tryz.prog 56 [n.val] h Q :=
  yd4c fun v h' a b => hq v h' a b.sl
def idx (p : Int → Bool) : List Int → Nat → Int
  | [], _ => -1
  | a :: l, i => if p a = true then (i : Int) else idx p l (i + 1)
theorem y2gy {v fv : Value} {l : List Int} {p : Int → Bool} {h : H} {Q : Value → H → Prop} (hs : Sl encI 1 h v l) (hl : l.length < 9223372036854775807) (hp : ∀ a ∈ l, ∀ K : Value → H → Prop, K (.bool (p a)) h → o_dyn Tryz.prog fv [.int .i64 a] h K)
    (hq : Q (.int .i64 (idx p l 0)) h) : AM.Spec Tryz.prog 166 [v, fv] h Q := by
  refine ydwp _ _ _ _ ?_
  simp only [F166, y1jl, ybs3, ysai, ypiu, yqv1, yqli, hs.len]
  refine ⟨fun n s h' => ∃ i : Nat, s = (v, fv, .int .i64 l.length, .int .i64 i) ∧ h' = h ∧ n = l.length - i ∧ i ≤ l.length ∧ idx p l 0 = idx p (l.drop i) i, ⟨_, 0, rfl, rfl, by rfl, by omega, by simp⟩, ?_⟩
  rintro n s h' ⟨i, rfl, rfl, rfl, hi, hx⟩
  simp only [yy09, yc02, ym6s, y5aw, y3lr, ypzw, y3pi, y642, yy2q, yvbp, yku0, yu2d, y4yh, ynyz, ykm3, y4j6, y2i1, yicc, ex0, ex1, ex0', ex1', ex2', y525, List.getElem?_cons_zero, List.getElem?_cons_succ, Nat.add_zero, Nat.zero_add, List.all_cons, List.all_nil, y7yb, yhlb, y5i6, bx_sl, yn96, y45v, ypw1, y3av, Bool.and_true, Bool.true_and, Bool.and_self, cond_true, cond_false , Bool.or_eq_true, Bool.and_eq_true, decide_eq_true_eq, Bool.not_eq_true', decide_eq_false_iff_not ]
  split
  · rename_i hlt
    have hlt : i < l.length := by omega
    obtain ⟨b, o, h1, h2⟩ := hs.at hlt
    rw [h1]
    rw [ycro (v := .int .i64 l[i]) (by have := yg2r h2 (m := 0) (by omega); simpa [encI] using this)]
    refine hp _ (List.getElem_mem hlt) _ ?_
    have hd : l.drop i = l[i] :: l.drop (i + 1) := by simp
    rw [hd, idx] at hx
    simp only [yc02, ym6s, y5aw, y3lr, ypzw, y3pi, y642, yy2q, yvbp, yku0, yu2d, y4yh, ynyz, ykm3, y4j6, y2i1, yicc, ex0, ex1, ex0', ex1', ex2', y525, List.getElem?_cons_zero, List.getElem?_cons_succ, Nat.add_zero, Nat.zero_add, List.all_cons, List.all_nil, y7yb, yhlb, y5i6, bx_sl, yn96, y45v, ypw1, y3av, Bool.and_true, Bool.true_and, Bool.and_self, cond_true, cond_false , Bool.or_eq_true, Bool.and_eq_true, decide_eq_true_eq, Bool.not_eq_true', decide_eq_false_iff_not ]
    split
    · rw [if_pos ‹_›] at hx
      rw [hx] at hq; exact hq
    · rw [if_neg ‹_›] at hx
      refine ⟨l.length - (i + 1), by omega, i + 1, ?_, trivial, rfl, by omega, hx⟩
      rw [ynux (by omega) (by omega)]
      rfl
  · rename_i hlt
    have : i = l.length := by omega
    subst this
    rw [List.drop_length, idx] at hx
    rw [hx] at hq; exact hq
theorem yz7r {p : Int → Bool} : ∀ (l : List Int) (i : Nat), decide (0 ≤ idx p l i) = l.any p
  | [], _ => rfl
  | a :: l, i => by
    rw [idx]
    cases hp : p a
    · simp [hp, yz7r l (i + 1)]
    · simp [hp]
theorem yg59 {v fv : Value} {l : List Int} {p : Int → Bool} {h : H} {Q : Value → H → Prop} (hs : Sl encI 1 h v l) (hfv : boxV fv = true) (hl : l.length < 9223372036854775807) (hp : ∀ a ∈ l, ∀ K : Value → H → Prop, K (.bool (p a)) h → o_dyn Tryz.prog fv [.int .i64 a] h K)
    (hq : Q (.bool (l.any p)) h) : AM.Spec Tryz.prog 55 [v, fv] h Q := by
  refine y48m _ _ _ _ ?_
  simp only [F55, F55_0]
  refine ⟨by simp [hs.box, hfv], y2gy hs hl hp ?_⟩
  simp only [yc02, ym6s, y5aw, y3lr, ypzw, y3pi, y642, yy2q, yvbp, yku0, yu2d, y4yh, ynyz, ykm3, y4j6, y2i1, yicc, ex0, ex1, ex0', ex1', ex2', y525, List.getElem?_cons_zero, List.getElem?_cons_succ, Nat.add_zero, Nat.zero_add, List.all_cons, List.all_nil, y7yb, yhlb, y5i6, bx_sl, yn96, y45v, ypw1, y3av, Bool.and_true, Bool.true_and, Bool.and_self, cond_true, cond_false ]
  rw [yz7r]; exact hq
end Go.Proofs.YtnckimioabkheaaGreat

set_option linter.unusedSimpArgs false
set_option linter.unusedVariables false
set_option maxRecDepth 100000
namespace Go.Proofs.YtnckimioabkheaaGreat
open AM
def bools (th : Int → Bool) : List Value := (List.range 256).map fun i => .bool (th (i : Nat))
theorem yz16 : List.replicate 256 (Value.bool false) = bools (fun _ => false) := by
  simp [bools, List.map_const']
theorem y2le {th : Int → Bool} {i : Int} (h0 : 0 ≤ i) (h1 : i < 256) : (bools th)[i.toNat]? = some (.bool (th i)) := by
  unfold bools
  have : i.toNat < 256 := by omega
  simp [this, Int.toNat_of_nonneg h0]
theorem y7p4 {th : Int → Bool} : (bools th).length = 256 := by simp [bools]
def put (th : Int → Bool) (t : Int) (b : Bool) : Int → Bool := fun i => if i = t then b else th i
theorem y0nl {th : Int → Bool} {i : Int} {b : Bool} (h0 : 0 ≤ i) (h1 : i < 256) : setL (bools th) i.toNat [.bool b] = bools (put th i b) := by
  unfold bools put
  simp only [setL]
  refine List.ext_getElem? fun k => ?_
  rw [List.getElem?_set]
  simp only [List.length_map, List.length_range, List.getElem?_map, List.getElem?_range]
  by_cases hk : k < 256
  · by_cases he : i.toNat = k
    · subst he
      simp [hk, Int.toNat_of_nonneg h0]
    · have : ¬ ((k : Int) = i) := by omega
      simp [he, hk, this]
  · have : ¬ (i.toNat = k) := by omega
    simp [this, hk]
theorem ywpn {is : Bool} {t : Int} (h : yalu is t = true) : 0 ≤ t ∧ t < 256 := by
  simp only [yalu, Bool.or_eq_true, Bool.and_eq_true, decide_eq_true_eq] at h
  omega
def ywct : List Nd → (Int → Bool) → Bool
  | [], _ => true
  | n :: r, th => yln3 n && !(tagsB n.op && !th n.to) && !((rl n).any fun t => !th t) && ywct r (if y65c n.op then put th n.to true else th)
def yg6t : List Nd → Int
  | [] => 0
  | [n] => n.op
  | _ :: r => yg6t r
def goodB (l : List Nd) : Bool :=
  match l with
  | [] => false
  | n :: _ => decide (l.length ≤ 2000) && decide (n.op = 8) && ywct l (fun _ => false) && (decide (11 ≤ yg6t l) && decide (yg6t l ≤ 13))
theorem ya30 {n : Nd} (h : yln3 n = true) : 0 ≤ n.to ∧ n.to < 256 ∧ 0 ≤ n.a ∧ n.a < 256 ∧ 0 ≤ n.b ∧ n.b < 256 := by
  simp only [yln3, Bool.and_eq_true] at h
  have h1 := ywpn h.1.1.2
  have h2 := ywpn h.1.2
  have h3 := ywpn h.2
  omega
theorem rl_in {n : Nd} (h : yln3 n = true) : ∀ t ∈ rl n, 0 ≤ t ∧ t < 256 := by
  have := ya30 h
  intro t ht
  simp only [rl, List.mem_append] at ht
  rcases ht with (ht | ht) | ht <;> (split at ht <;> simp at ht; subst ht; omega)
theorem y6a9 : ∀ {l : List Nd} (h : l ≠ []), yg6t l = (l[l.length - 1]'(by cases l <;> simp at h ⊢)).op
  | [n], _ => rfl
  | _ :: n :: r, _ => by
    have := y6a9 (l := n :: r) (by simp)
    simp only [yg6t] at this ⊢
    rw [this]; simp
theorem yy2a {h : H} {v : Value} {l : List Nd} (hs : Sl Nd.cells 5 h v l) {i : Nat} (hi : i < l.length) {k : IntKind} {K : Value → Prop} (hk : K l[i].val) : ys75 none 5 v (.int k i) fun p => ysm8 true 5 p h K := by
  obtain ⟨b, o, h1, h2⟩ := hs.at hi
  rw [h1, yw71 h2]; exact hk
theorem y1ex {h : H} {v : Value} {l : List Nd} (hs : Sl Nd.cells 5 h v l) {i : Nat} (hi : i < l.length) {k : IntKind} {j : Nat} {x : Value} (hx : l[i].cells[j]? = some x) {K : Value → Prop} (hk : K x) : ys75 none 5 v (.int k i) fun p => yokc j p fun q => ysm8 false 1 q h K := by
  obtain ⟨b, o, h1, h2⟩ := hs.at hi
  have hj : j < 5 := by
    have := List.getElem?_eq_some_iff.1 hx
    exact this.1
  rw [h1, y2i1, ycro (v := x) (by rw [yg2r h2 hj]; exact hx)]; exact hk
theorem yxd8 {h : H} {b : Nat} {th : Int → Bool} {t : Int} (hb : h b = some (.cells (bools th) 128 .exact)) (h0 : 0 ≤ t) (h1 : t < 256) {K : Value → H → Prop} (hk : K (.bool (!th t)) h) : o_dyn Tryz.prog (.func (.func 57) #[] #[.pointer (some ⟨b, 0, none⟩)]) [.int .i64 t] h K := by
  refine ⟨rfl, by kernel_rfl, ?_⟩
  refine ynh1 _ _ _ _ ?_
  simp only [F57, F57_0]
  rw [yeaw h0 (by simpa using h1), ycro (v := .bool (th t)) (by rw [yow8 hb]; simpa using y2le h0 h1)]
  simp only [yc02, ym6s, y5aw, y3lr, ypzw, y3pi, y642, yy2q, yvbp, yku0, yu2d, y4yh, ynyz, ykm3, y4j6, y2i1, yicc, ex0, ex1, ex0', ex1', ex2', y525, List.getElem?_cons_zero, List.getElem?_cons_succ, Nat.add_zero, Nat.zero_add, List.all_cons, List.all_nil, y7yb, yhlb, y5i6, bx_sl, yn96, y45v, ypw1, y3av, Bool.and_true, Bool.true_and, Bool.and_self, cond_true, cond_false ]
  exact hk
theorem yt62 {th : Int → Bool} {l : List Nd} {i : Nat} (hi : i < l.length) : ywct (l.drop i) th = (yln3 l[i] && !(tagsB l[i].op && !th l[i].to) && !((rl l[i]).any fun t => !th t) && ywct (l.drop (i + 1)) (if y65c l[i].op then put th l[i].to true else th)) := by
  rw [List.drop_eq_getElem_cons hi, ywct]
theorem yaf2 {b : Nat} {h : H} {c0 c1 c2 c3 c4 : Value} {E : TypeId} {n : Nd} {K : H → Prop} : yxd5 5 (.pointer (some ⟨b, 0, none⟩)) n.val (upd h b (.cells [c0, c1, c2, c3, c4] E .exact)) K = K (upd h b (.cells n.cells E .exact)) := by
  rw [yv4b (yy0e _ _ _) (by simp) (by rfl) (by rfl) (by simp)]
  have eu : ∀ q q', upd (upd h b q) b q' = upd h b q' := fun q q' => by funext c; unfold upd; split <;> rfl
  rw [eu]; rfl
theorem yo6a {v : Value} {l : List Nd} {h : H} {Q : Value → H → Prop} (hs : Sl Nd.cells 5 h v l) (hlen : l.length < 9223372036854775807) (hq : Q (.bool (goodB l)) h) : AM.Spec Tryz.prog 14 [v] h Q := by
  refine yz7m (fun Q hq => ?_) hq
  refine yp1e _ _ _ ?_
  simp only [F14, F14_0, hs.len, yc02, ym6s, y5aw, y3lr, ypzw, y3pi, y642, yy2q, yvbp, yku0, yu2d, y4yh, ynyz, ykm3, y4j6, y2i1, yicc, ex0, ex1, ex0', ex1', ex2', y525, List.getElem?_cons_zero, List.getElem?_cons_succ, Nat.add_zero, Nat.zero_add, List.all_cons, List.all_nil, y7yb, yhlb, y5i6, bx_sl, yn96, y45v, ypw1, y3av, Bool.and_true, Bool.true_and, Bool.and_self, cond_true, cond_false ]
  cases l with
  | nil => exact hq _ (Sub.refl h)
  | cons n r =>
    have hne : ¬ (((n :: r).length : Nat) : Int) = 0 := by simp; omega
    refine or_op (b := !decide (n.op = 8)) (fun hf K hk => ?_) ?_
    · refine y1ex (i := 0) hs (by simp) (j := 0) rfl ?_
      simp only [yc02, ym6s, y5aw, y3lr, ypzw, y3pi, y642, yy2q, yvbp, yku0, yu2d, y4yh, ynyz, ykm3, y4j6, y2i1, yicc, ex0, ex1, ex0', ex1', ex2', y525, List.getElem?_cons_zero, List.getElem?_cons_succ, Nat.add_zero, Nat.zero_add, List.all_cons, List.all_nil, y7yb, yhlb, y5i6, bx_sl, yn96, y45v, ypw1, y3av, Bool.and_true, Bool.true_and, Bool.and_self, cond_true, cond_false ]; exact hk
    simp only [yc02, ym6s, y5aw, y3lr, ypzw, y3pi, y642, yy2q, yvbp, yku0, yu2d, y4yh, ynyz, ykm3, y4j6, y2i1, yicc, ex0, ex1, ex0', ex1', ex2', y525, List.getElem?_cons_zero, List.getElem?_cons_succ, Nat.add_zero, Nat.zero_add, List.all_cons, List.all_nil, y7yb, yhlb, y5i6, bx_sl, yn96, y45v, ypw1, y3av, Bool.and_true, Bool.true_and, Bool.and_self, cond_true, cond_false , hne, decide_false, Bool.false_or, Bool.or_eq_true, Bool.and_eq_true, decide_eq_true_eq, Bool.not_eq_true', decide_eq_false_iff_not ]
    by_cases h1 : (2000 : Int) < (n :: r).length ∨ ¬ n.op = 8
    · rw [if_pos h1]
      refine to_q (hq _ (Sub.refl h)) ?_
      simp only [goodB]
      rcases h1 with h1 | h1
      · have : decide ((n :: r).length ≤ 2000) = false := by rw [decide_eq_false_iff_not]; omega
        rw [this]; rfl
      · simp [h1]
    rw [if_neg h1]
    have h2 : (n :: r).length ≤ 2000 := by omega
    have h3 : n.op = 8 := by omega
    intro b hb2 hb
    rw [yz16]
    have hgood : goodB (n :: r) = (ywct (n :: r) (fun _ => false) && (decide (11 ≤ yg6t (n :: r)) && decide (yg6t (n :: r) ≤ 13))) := by
      have : decide ((n :: r).length ≤ 2000) = true := by rw [decide_eq_true_eq]; omega
      simp only [goodB, this, h3, decide_true, Bool.true_and]
    have hnil : n :: r ≠ [] := by simp
    generalize hl : n :: r = l at *
    rw [hgood] at hq
    have hs1 : Sub h (upd h b (.cells (bools fun _ => false) 128 .exact)) := Sub.new hb
    simp only [F14_1, F14_2, hs.len, F14_3, F14_4]
    refine ⟨fun n s h' => ∃ i th, s = (v, .pointer (some ⟨b, 0, none⟩), v, .int .i64 l.length, .int .i64 (i : Nat)) ∧ Sub h h' ∧ h' b = some (.cells (bools th) 128 .exact) ∧ n = l.length - i ∧ i ≤ l.length ∧ ywct l (fun _ => false) = ywct (l.drop i) th,
      ⟨_, 0, _, rfl, hs1, yy0e _ _ _, rfl, by omega, rfl⟩, ?_⟩
    rintro m s h' ⟨i, th, rfl, hsub, hb', rfl, hi, hrun⟩
    have hs' := hs.mono hsub
    simp only [F14_5, yc02, ym6s, y5aw, y3lr, ypzw, y3pi, y642, yy2q, yvbp, yku0, yu2d, y4yh, ynyz, ykm3, y4j6, y2i1, yicc, ex0, ex1, ex0', ex1', ex2', y525, List.getElem?_cons_zero, List.getElem?_cons_succ, Nat.add_zero, Nat.zero_add, List.all_cons, List.all_nil, y7yb, yhlb, y5i6, bx_sl, yn96, y45v, ypw1, y3av, Bool.and_true, Bool.true_and, Bool.and_self, cond_true, cond_false , Bool.or_eq_true, Bool.and_eq_true, decide_eq_true_eq, Bool.not_eq_true', decide_eq_false_iff_not ]
    split
    · rename_i hlt
      have hlt : i < l.length := by omega
      simp only [F14_6, F14_7]
      refine yy2a hs' hlt ?_
      intro b5 hb52 hb5
      have hbb : b5 ≠ b := fun he => by rw [he, hb'] at hb5; cases hb5
      rw [yaf2]
      have h5 : ∀ q, Sub h (upd h' b5 q) := fun q => hsub.upd (hsub.none hb5)
      rw [y2pr (by rfl)]
      refine ⟨rfl, ymbn (n := l[i]) ?_⟩
      simp only [yc02, ym6s, y5aw, y3lr, ypzw, y3pi, y642, yy2q, yvbp, yku0, yu2d, y4yh, ynyz, ykm3, y4j6, y2i1, yicc, ex0, ex1, ex0', ex1', ex2', y525, List.getElem?_cons_zero, List.getElem?_cons_succ, Nat.add_zero, Nat.zero_add, List.all_cons, List.all_nil, y7yb, yhlb, y5i6, bx_sl, yn96, y45v, ypw1, y3av, Bool.and_true, Bool.true_and, Bool.and_self, cond_true, cond_false ]
      refine or_op (b := tagsB l[i].op && !th l[i].to) (fun hf K hk => ?_) ?_
      · simp only [Nd.cells, yc02, ym6s, y5aw, y3lr, ypzw, y3pi, y642, yy2q, yvbp, yku0, yu2d, y4yh, ynyz, ykm3, y4j6, y2i1, yicc, ex0, ex1, ex0', ex1', ex2', y525, List.getElem?_cons_zero, List.getElem?_cons_succ, Nat.add_zero, Nat.zero_add, List.all_cons, List.all_nil, y7yb, yhlb, y5i6, bx_sl, yn96, y45v, ypw1, y3av, Bool.and_true, Bool.true_and, Bool.and_self, cond_true, cond_false ]
        refine ⟨rfl, yqt9 ?_⟩
        simp only [yc02, ym6s, y5aw, y3lr, ypzw, y3pi, y642, yy2q, yvbp, yku0, yu2d, y4yh, ynyz, ykm3, y4j6, y2i1, yicc, ex0, ex1, ex0', ex1', ex2', y525, List.getElem?_cons_zero, List.getElem?_cons_succ, Nat.add_zero, Nat.zero_add, List.all_cons, List.all_nil, y7yb, yhlb, y5i6, bx_sl, yn96, y45v, ypw1, y3av, Bool.and_true, Bool.true_and, Bool.and_self, cond_true, cond_false ]
        refine yigx (b := !th l[i].to) (fun ht K hk => ?_) hk
        have hf := ya30 (n := l[i]) (by simpa using hf)
        rw [yeaw hf.1 (by simpa using hf.2.1), y8ge (Ne.symm hbb), ycro (v := .bool (th l[i].to)) (by rw [yow8 hb']; simpa using y2le hf.1 hf.2.1)]
        simp only [yc02, ym6s, y5aw, y3lr, ypzw, y3pi, y642, yy2q, yvbp, yku0, yu2d, y4yh, ynyz, ykm3, y4j6, y2i1, yicc, ex0, ex1, ex0', ex1', ex2', y525, List.getElem?_cons_zero, List.getElem?_cons_succ, Nat.add_zero, Nat.zero_add, List.all_cons, List.all_nil, y7yb, yhlb, y5i6, bx_sl, yn96, y45v, ypw1, y3av, Bool.and_true, Bool.true_and, Bool.and_self, cond_true, cond_false ]
        exact hk
      simp only [yc02, ym6s, y5aw, y3lr, ypzw, y3pi, y642, yy2q, yvbp, yku0, yu2d, y4yh, ynyz, ykm3, y4j6, y2i1, yicc, ex0, ex1, ex0', ex1', ex2', y525, List.getElem?_cons_zero, List.getElem?_cons_succ, Nat.add_zero, Nat.zero_add, List.all_cons, List.all_nil, y7yb, yhlb, y5i6, bx_sl, yn96, y45v, ypw1, y3av, Bool.and_true, Bool.true_and, Bool.and_self, cond_true, cond_false , Bool.or_eq_true, Bool.and_eq_true, decide_eq_true_eq, Bool.not_eq_true', decide_eq_false_iff_not ]
      split
      · rename_i hbad
        refine to_q (hq _ (h5 _)) ?_
        rw [hrun, yt62 hlt]
        rcases hbad with hbad | hbad <;> simp [hbad]
      rename_i hok
      have hfo : yln3 l[i] = true := by
        cases hq : yln3 l[i] <;> simp [hq] at hok ⊢
      have hf := ya30 hfo
      rw [y2pr (by rfl)]
      refine ⟨rfl, y6qh (n := l[i]) fun v46 h4 hs4 hl4 => ?_⟩
      refine ⟨trivial, rfl, ?_, yg59 (p := fun t => !th t) hl4 rfl (by simp [rl]; split <;> split <;> split <;> simp) (fun a ha K hk => yxd8 (th := th) (hs4 _ _ (by rw [yrkk _ _ (Ne.symm hbb)]; exact hb')) (rl_in hfo a ha).1 (rl_in hfo a ha).2 hk) ?_⟩
      · have := hl4.box
        simp only [this, yc02, ym6s, y5aw, y3lr, ypzw, y3pi, y642, yy2q, yvbp, yku0, yu2d, y4yh, ynyz, ykm3, y4j6, y2i1, yicc, ex0, ex1, ex0', ex1', ex2', y525, List.getElem?_cons_zero, List.getElem?_cons_succ, Nat.add_zero, Nat.zero_add, List.all_cons, List.all_nil, y7yb, yhlb, y5i6, bx_sl, yn96, y45v, ypw1, y3av, Bool.and_true, Bool.true_and, Bool.and_self, cond_true, cond_false ]
      simp only [yc02, ym6s, y5aw, y3lr, ypzw, y3pi, y642, yy2q, yvbp, yku0, yu2d, y4yh, ynyz, ykm3, y4j6, y2i1, yicc, ex0, ex1, ex0', ex1', ex2', y525, List.getElem?_cons_zero, List.getElem?_cons_succ, Nat.add_zero, Nat.zero_add, List.all_cons, List.all_nil, y7yb, yhlb, y5i6, bx_sl, yn96, y45v, ypw1, y3av, Bool.and_true, Bool.true_and, Bool.and_self, cond_true, cond_false , Bool.or_eq_true, Bool.and_eq_true, decide_eq_true_eq, Bool.not_eq_true', decide_eq_false_iff_not ]
      have hb5' := hs4 b5 _ (yy0e _ _ _)
      split
      · rename_i hbad
        refine to_q (hq _ ((h5 _).trans hs4)) ?_
        rw [hrun, yt62 hlt, hbad]
        simp
      rename_i hok2
      rw [yw71 (l := l[i].cells) (by rw [y08p hb5' (by simp [Nd.cells])]; rfl)]
      refine ⟨rfl, ylvp (n := l[i]) ?_⟩
      simp only [yc02, ym6s, y5aw, y3lr, ypzw, y3pi, y642, yy2q, yvbp, yku0, yu2d, y4yh, ynyz, ykm3, y4j6, y2i1, yicc, ex0, ex1, ex0', ex1', ex2', y525, List.getElem?_cons_zero, List.getElem?_cons_succ, Nat.add_zero, Nat.zero_add, List.all_cons, List.all_nil, y7yb, yhlb, y5i6, bx_sl, yn96, y45v, ypw1, y3av, Bool.and_true, Bool.true_and, Bool.and_self, cond_true, cond_false ]
      have hstep : ywct (l.drop i) th = ywct (l.drop (i + 1)) (if y65c l[i].op then put th l[i].to true else th) := by
        rw [yt62 hlt, hfo]
        have e1 : (tagsB l[i].op && !th l[i].to) = false := by
          cases hq : (tagsB l[i].op && !th l[i].to)
          · rfl
          · exfalso; apply hok; right; simpa using hq
        have e2 : ((rl l[i]).any fun t => !th t) = false := by simpa using hok2
        rw [e1, e2]; rfl
      have hbh4 : h4 b = some (.cells (bools th) 128 .exact) := hs4 _ _ (by rw [yrkk _ _ (Ne.symm hbb)]; exact hb')
      cases hw : y65c l[i].op with
      | true =>
        simp only [hw, if_true] at hstep ⊢
        rw [yeaw hf.1 (by simpa using hf.2.1), yv4b hbh4 (by simp) (by rfl) (by rfl) (by rw [y7p4]; omega)]
        simp only [F14_8, yc02, ym6s, y5aw, y3lr, ypzw, y3pi, y642, yy2q, yvbp, yku0, yu2d, y4yh, ynyz, ykm3, y4j6, y2i1, yicc, ex0, ex1, ex0', ex1', ex2', y525, List.getElem?_cons_zero, List.getElem?_cons_succ, Nat.add_zero, Nat.zero_add, List.all_cons, List.all_nil, y7yb, yhlb, y5i6, bx_sl, yn96, y45v, ypw1, y3av, Bool.and_true, Bool.true_and, Bool.and_self, cond_true, cond_false ]
        refine ⟨l.length - (i + 1), by omega, i + 1, put th l[i].to true, ?_, ?_, ?_, rfl, by omega, by rw [hrun, hstep]⟩
        · rw [ynux (by omega) (by omega)]; rfl
        · exact ((h5 _).trans hs4).upd hb
        · rw [yy0e]
          have := y0nl (th := th) (b := true) hf.1 hf.2.1
          simp only [Nat.mul_one]
          rw [← this]; rfl
      | false =>
        simp only [hw, Bool.false_eq_true, if_false] at hstep ⊢
        simp only [F14_8, yc02, ym6s, y5aw, y3lr, ypzw, y3pi, y642, yy2q, yvbp, yku0, yu2d, y4yh, ynyz, ykm3, y4j6, y2i1, yicc, ex0, ex1, ex0', ex1', ex2', y525, List.getElem?_cons_zero, List.getElem?_cons_succ, Nat.add_zero, Nat.zero_add, List.all_cons, List.all_nil, y7yb, yhlb, y5i6, bx_sl, yn96, y45v, ypw1, y3av, Bool.and_true, Bool.true_and, Bool.and_self, cond_true, cond_false ]
        refine ⟨l.length - (i + 1), by omega, i + 1, th, ?_, (h5 _).trans hs4, hbh4, rfl, by omega, by rw [hrun, hstep]⟩
        rw [ynux (by omega) (by omega)]; rfl
    · rename_i hge
      have hie : i = l.length := by omega
      subst hie
      rw [List.drop_length, ywct] at hrun
      have hlast := y6a9 hnil
      have hpos : 0 < l.length := by cases l <;> simp at hnil ⊢
      simp only [F14_9, hs'.len, yc02, ym6s, y5aw, y3lr, ypzw, y3pi, y642, yy2q, yvbp, yku0, yu2d, y4yh, ynyz, ykm3, y4j6, y2i1, yicc, ex0, ex1, ex0', ex1', ex2', y525, List.getElem?_cons_zero, List.getElem?_cons_succ, Nat.add_zero, Nat.zero_add, List.all_cons, List.all_nil, y7yb, yhlb, y5i6, bx_sl, yn96, y45v, ypw1, y3av, Bool.and_true, Bool.true_and, Bool.and_self, cond_true, cond_false ]
      rw [ynux (by omega) (by omega)]
      have e : ((l.length : Int) - 1) = ((l.length - 1 : Nat) : Int) := by omega
      rw [e]
      refine y1ex hs' (by omega) (j := 0) rfl ?_
      simp only [yc02, ym6s, y5aw, y3lr, ypzw, y3pi, y642, yy2q, yvbp, yku0, yu2d, y4yh, ynyz, ykm3, y4j6, y2i1, yicc, ex0, ex1, ex0', ex1', ex2', y525, List.getElem?_cons_zero, List.getElem?_cons_succ, Nat.add_zero, Nat.zero_add, List.all_cons, List.all_nil, y7yb, yhlb, y5i6, bx_sl, yn96, y45v, ypw1, y3av, Bool.and_true, Bool.true_and, Bool.and_self, cond_true, cond_false ]
      refine to_q (hq _ hsub) ?_
      rw [hrun, hlast]; rfl
end Go.Proofs.YtnckimioabkheaaGreat

set_option linter.unusedSimpArgs false
set_option linter.unusedVariables false
set_option maxRecDepth 100000
namespace Go.Proofs.YtnckimioabkheaaGreat
open AM
def MK (h0 h : H) (m : Nat) (pc : Int) (l : List Nd) : Prop := ∃ v, h m = some (.cells [v, .int .u32 pc] yhds .exact) ∧ Gr Nd.cells 5 yq0s h0 h v l ∧ Sub h0 h ∧ h0 m = none
def Keep (m : Nat) (h h' : H) : Prop := ∀ c cs E, c ≠ m → h c = some (.cells cs E .exact) → h' c = some (.cells cs E .exact)
theorem Keep.trans {m : Nat} {a b c : H} (h1 : Keep m a b) (h2 : Keep m b c) : Keep m a c := fun _ _ _ n e => h2 _ _ _ n (h1 _ _ _ n e)
section
variable {h0 h : H} {m : Nat} {pc : Int} {l : List Nd} {K : K1}
theorem MK.c1 (hm : MK h0 h m pc l) : cellAt h m 1 = some (.int .u32 pc) := by obtain ⟨v, e, _⟩ := hm; simp [yb3e e]
theorem MK.sub (hm : MK h0 h m pc l) : Sub h0 h := by obtain ⟨v, _, _, e, _⟩ := hm; exact e
theorem MK.new (hm : MK h0 h m pc l) {b : Nat} {q : AObj} (hb : h b = none) : MK h0 (upd h b q) m pc l := by
  obtain ⟨v, e, hg, hs, hn⟩ := hm
  have : m ≠ b := fun x => by rw [x, hb] at e; cases e
  refine ⟨v, (yrkk _ _ this).trans e, hg.keep fun c hc => yrkk _ _ fun x => hg.there hc (x ▸ hb), hs.newer hb, hn⟩
theorem MK.ne (hm : MK h0 h m pc l) {b : Nat} (hb : h b = none) : b ≠ m := by
  obtain ⟨v, e, hg, hs, hn⟩ := hm
  exact fun x => by rw [← x, hb] at e; cases e
theorem MK.at (hm : MK h0 h m pc l) {pc' : Int} : ∃ v, h m = some (.cells [v, .int .u32 pc] yhds .exact) ∧ MK h0 (upd h m (.cells [v, .int .u32 pc'] yhds .exact)) m pc' l := by
  obtain ⟨v, e, hg, hs, hn⟩ := hm
  exact ⟨v, e, v, by simp [upd], hg.over e (by simp), Sub.upd hs hn, hn⟩
theorem yqrz {op to a b x : Int} (hm : MK h0 h m pc l) (hl : l.length < 1000000)
    (hk : ∀ h', MK h0 h' m pc (l ++ [⟨op, to, a, b, x⟩]) → Keep m h h' → K (.tuple #[]) h') :
    AM.Spec PG y1cr [ptr m 0, .int .i64 op, .int .i64 to, .int .i64 a, .int .i64 b, .int .u32 x] h K := by
  obtain ⟨v, e, hg, hs, hn⟩ := hm
  refine y1p4 _ _ _ _ _ _ _ _ ?_
  simp (config := {dsimp := false}) [↓ynva, ↓ync2, yb3e e]
  refine yw9z (x := (⟨op, to, a, b, x⟩ : Nd)) hg hs rfl (by omega) (by omega) (by omega) (fun v' h' g' s' hke hfr => ?_) rfl
  have e' := hke _ _ e (hg.exact_ne e)
  simp (config := {dsimp := false}) [e', g'.cells1, g'.sl.box]
  refine hk _ ⟨v', by simp [upd], g'.over e' (by simp), Sub.upd s' hn, hn⟩ ?_
  intro c cs E hc hq
  rw [yrkk _ _ hc]
  exact hke _ _ hq (hg.exact_ne hq)
abbrev W (x : Int) : Int := IntKind.wrap .u32 x
def getN (t r : Int) : List Nd := [⟨2, t, 0, 0, W r⟩]
def numN (t v : Int) : List Nd := [⟨1, t, 0, 0, v⟩]
def setN (r t : Int) : List Nd := if 0 < r then [⟨3, 0, t, 0, W r⟩, ⟨9, 0, 0, 0, 0⟩] else [⟨9, 0, 0, 0, 0⟩]
def addrN (i : Ins) : List Nd := getN 0 i.2.2.1 ++ numN 1 (W i.2.2.2.2) ++ [⟨4, 2, 0, 1, 0⟩]
def jalN (pc : Int) (i : Ins) : List Nd := numN 2 (W (pc + W i.2.2.2.2)) ++ [⟨21, 0, 2, 0, 0⟩] ++ numN 3 (W (pc + 4)) ++ setN i.2.1 3 ++ [⟨11, 0, 2, 0, 0⟩]
def jalrN (pc : Int) (i : Ins) : List Nd := addrN i ++ numN 3 4294967294 ++ [⟨4, 4, 2, 3, 9⟩] ++ [⟨21, 0, 4, 0, 0⟩] ++ numN 0 (W (pc + 4)) ++ setN i.2.1 0 ++ [⟨11, 0, 4, 0, 0⟩]
def ykm8 (pc : Int) (i : Ins) : List Nd := getN 0 i.2.2.1 ++ getN 1 i.2.2.2.1 ++ [⟨5, 2, 0, 1, tab (i.1 - 5) [0, 1, 4, 5, 6, 7]⟩] ++ [⟨10, 0, 2, 0, W (pc + W i.2.2.2.2)⟩] ++ [⟨9, 0, 0, 0, 0⟩]
theorem y6db (r t : Int) : (setN r t).length ≤ 2 := by unfold setN; split <;> simp
theorem y216 {t r : Int} (hm : MK h0 h m pc l) (hl : l.length < 1000000)
    (hk : ∀ h', MK h0 h' m pc (l ++ getN t r) → Keep m h h' → K (.tuple #[]) h') : AM.Spec PG yrw2 [ptr m 0, .int .i64 t, .int .i64 r] h K := by
  refine y9gn _ _ _ _ _ ?_
  simp (config := {dsimp := false}) [↓yz1t, ↓y7nh]
  exact ⟨rfl, yqrz hm hl hk⟩
theorem yjux {t r : Int} (hm : MK h0 h m pc l) (hl : l.length < 1000000)
    (hk : ∀ h', MK h0 h' m pc (l ++ numN t r) → Keep m h h' → K (.tuple #[]) h') : AM.Spec PG yaf9 [ptr m 0, .int .i64 t, .int .u32 r] h K := by
  refine yg94 _ _ _ _ _ ?_
  simp (config := {dsimp := false}) [↓yowe, ↓yoe6]
  exact ⟨rfl, yqrz hm hl hk⟩
theorem yy5q {r t : Int} (hm : MK h0 h m pc l) (hl : l.length < 999990)
    (hk : ∀ h', MK h0 h' m pc (l ++ setN r t) → Keep m h h' → K (.tuple #[]) h') : AM.Spec PG yzfg [ptr m 0, .int .i64 r, .int .i64 t] h K := by
  refine yn5o _ _ _ _ _ ?_
  simp (config := {dsimp := false}) [↓yare, ↓ymqw]
  unfold setN at hk
  split
  · rename_i c
    rw [if_pos c] at hk
    refine ⟨rfl, yqrz hm (by omega) fun h1 hm1 k1 => ?_⟩
    refine ⟨rfl, yqrz hm1 (by simp; omega) fun h2 hm2 k2 => ?_⟩
    exact hk h2 (by simpa using hm2) (k1.trans k2)
  · rename_i c
    rw [if_neg c] at hk
    exact ⟨rfl, yqrz hm (by omega) hk⟩
section
variable {i : Ins}
theorem yv9b (hm : MK h0 h m pc l) (hl : l.length < 999990)
    (hk : ∀ h', MK h0 h' m pc (l ++ addrN i) → Keep m h h' → K (.tuple #[]) h') : AM.Spec PG ygwt [ptr m 0, insV i] h K := by
  obtain ⟨i0, i1, i2, i3, i4⟩ := i
  refine ylnm _ _ _ _ ?_
  simp (config := {dsimp := false}) [↓y3bv, ↓yyxt, insV]
  intro b _ hb
  have hne := hm.ne hb
  have hc := yy0e h b (.cells (insC (i0, i1, i2, i3, i4)) yc0x .exact)
  have hkk : Keep m h (upd h b (.cells (insC (i0, i1, i2, i3, i4)) yc0x .exact)) := (fun _ _ _ hn e => (Sub.new hb) _ _ e)
  replace hm := hm.new (q := .cells (insC (i0, i1, i2, i3, i4)) yc0x .exact) hb
  simp only [insC] at hm hc hkk
  generalize upd h b _ = hh at *
  refine ⟨rfl, y216 hm (by first | omega | (simp [List.length_append, getN, numN, addrN]; omega)) (fun h1 hm1 hk1 => ?_)⟩
  replace hc := hk1 _ _ _ hne hc
  replace hkk := hkk.trans hk1
  replace hm := hm1
  clear hm1 hk1
  simp (config := {dsimp := false}) [yb3e hc]
  refine ⟨rfl, yjux hm (by first | omega | (simp [List.length_append, getN, numN, addrN]; omega)) (fun h1 hm1 hk1 => ?_)⟩
  replace hc := hk1 _ _ _ hne hc
  replace hkk := hkk.trans hk1
  replace hm := hm1
  clear hm1 hk1
  refine ⟨rfl, yqrz hm (by first | omega | (simp [List.length_append, getN, numN, addrN]; omega)) (fun h1 hm1 hk1 => ?_)⟩
  replace hc := hk1 _ _ _ hne hc
  replace hkk := hkk.trans hk1
  replace hm := hm1
  clear hm1 hk1
  exact hk _ (by simpa [addrN] using hm) hkk
theorem ygv0 (hm : MK h0 h m pc l) (hl : l.length < 999900)
    (hk : ∀ h', MK h0 h' m pc (l ++ jalN pc i) → Keep m h h' → K (.tuple #[]) h') : AM.Spec PG y9rb [ptr m 0, insV i] h K := by
  obtain ⟨i0, i1, i2, i3, i4⟩ := i
  have hs := y6db i1 3
  refine y7dx _ _ _ _ ?_
  simp (config := {dsimp := false}) [↓yteq, ↓yio4, insV]
  intro b _ hb
  have hne := hm.ne hb
  have hc := yy0e h b (.cells (insC (i0, i1, i2, i3, i4)) yc0x .exact)
  have hkk : Keep m h (upd h b (.cells (insC (i0, i1, i2, i3, i4)) yc0x .exact)) := (fun _ _ _ hn e => (Sub.new hb) _ _ e)
  replace hm := hm.new (q := .cells (insC (i0, i1, i2, i3, i4)) yc0x .exact) hb
  simp only [insC] at hm hc hkk
  generalize upd h b _ = hh at *
  simp (config := {dsimp := false}) [↓yp36, ↓ytiw, hm.c1, yb3e hc]
  refine ⟨rfl, yjux hm (by first | omega | (simp [List.length_append, getN, numN, addrN]; omega)) (fun h1 hm1 hk1 => ?_)⟩
  replace hc := hk1 _ _ _ hne hc
  replace hkk := hkk.trans hk1
  replace hm := hm1
  clear hm1 hk1
  simp (config := {dsimp := false}) [↓y7oi]
  refine ⟨rfl, yqrz hm (by first | omega | (simp [List.length_append, getN, numN, addrN]; omega)) (fun h1 hm1 hk1 => ?_)⟩
  replace hc := hk1 _ _ _ hne hc
  replace hkk := hkk.trans hk1
  replace hm := hm1
  clear hm1 hk1
  simp (config := {dsimp := false}) [hm.c1, yb3e hc]
  refine ⟨rfl, yjux hm (by first | omega | (simp [List.length_append, getN, numN, addrN]; omega)) (fun h1 hm1 hk1 => ?_)⟩
  replace hc := hk1 _ _ _ hne hc
  replace hkk := hkk.trans hk1
  replace hm := hm1
  clear hm1 hk1
  simp (config := {dsimp := false}) [yb3e hc]
  refine ⟨rfl, yy5q hm (by first | omega | (simp [List.length_append, getN, numN, addrN]; omega)) (fun h1 hm1 hk1 => ?_)⟩
  replace hc := hk1 _ _ _ hne hc
  replace hkk := hkk.trans hk1
  replace hm := hm1
  clear hm1 hk1
  refine ⟨rfl, yqrz hm (by first | omega | (simp [List.length_append, getN, numN, addrN]; omega)) (fun h1 hm1 hk1 => ?_)⟩
  replace hc := hk1 _ _ _ hne hc
  replace hkk := hkk.trans hk1
  replace hm := hm1
  clear hm1 hk1
  exact hk _ (by simpa [jalN] using hm) hkk
theorem yklf (hm : MK h0 h m pc l) (hl : l.length < 999900)
    (hk : ∀ h', MK h0 h' m pc (l ++ jalrN pc i) → Keep m h h' → K (.tuple #[]) h') : AM.Spec PG y7o9 [ptr m 0, insV i] h K := by
  obtain ⟨i0, i1, i2, i3, i4⟩ := i
  have hs := y6db i1 0
  refine y8xm _ _ _ _ ?_
  simp (config := {dsimp := false}) [↓y4lu, ↓y7fy, insV]
  intro b _ hb
  have hne := hm.ne hb
  have hc := yy0e h b (.cells (insC (i0, i1, i2, i3, i4)) yc0x .exact)
  have hkk : Keep m h (upd h b (.cells (insC (i0, i1, i2, i3, i4)) yc0x .exact)) := (fun _ _ _ hn e => (Sub.new hb) _ _ e)
  replace hm := hm.new (q := .cells (insC (i0, i1, i2, i3, i4)) yc0x .exact) hb
  simp only [insC] at hm hc hkk
  generalize upd h b _ = hh at *
  refine ⟨rfl, (yv9b (i := (i0, i1, i2, i3, i4))) hm (by first | omega | (simp [List.length_append, getN, numN, addrN]; omega)) (fun h1 hm1 hk1 => ?_)⟩
  replace hc := hk1 _ _ _ hne hc
  replace hkk := hkk.trans hk1
  replace hm := hm1
  clear hm1 hk1
  refine ⟨rfl, yjux hm (by first | omega | (simp [List.length_append, getN, numN, addrN]; omega)) (fun h1 hm1 hk1 => ?_)⟩
  replace hc := hk1 _ _ _ hne hc
  replace hkk := hkk.trans hk1
  replace hm := hm1
  clear hm1 hk1
  refine ⟨rfl, yqrz hm (by first | omega | (simp [List.length_append, getN, numN, addrN]; omega)) (fun h1 hm1 hk1 => ?_)⟩
  replace hc := hk1 _ _ _ hne hc
  replace hkk := hkk.trans hk1
  replace hm := hm1
  clear hm1 hk1
  refine ⟨rfl, yqrz hm (by first | omega | (simp [List.length_append, getN, numN, addrN]; omega)) (fun h1 hm1 hk1 => ?_)⟩
  replace hc := hk1 _ _ _ hne hc
  replace hkk := hkk.trans hk1
  replace hm := hm1
  clear hm1 hk1
  have hpc := hm.c1
  simp (config := {dsimp := false}) [hpc]
  refine ⟨rfl, yjux hm (by first | omega | (simp [List.length_append, getN, numN, addrN]; omega)) (fun h1 hm1 hk1 => ?_)⟩
  replace hc := hk1 _ _ _ hne hc
  replace hkk := hkk.trans hk1
  replace hm := hm1
  clear hm1 hk1
  simp (config := {dsimp := false}) [yb3e hc]
  refine ⟨rfl, yy5q hm (by first | omega | (simp [List.length_append, getN, numN, addrN]; omega)) (fun h1 hm1 hk1 => ?_)⟩
  replace hc := hk1 _ _ _ hne hc
  replace hkk := hkk.trans hk1
  replace hm := hm1
  clear hm1 hk1
  refine ⟨rfl, yqrz hm (by first | omega | (simp [List.length_append, getN, numN, addrN]; omega)) (fun h1 hm1 hk1 => ?_)⟩
  replace hc := hk1 _ _ _ hne hc
  replace hkk := hkk.trans hk1
  replace hm := hm1
  clear hm1 hk1
  exact hk _ (by simpa [jalrN] using hm) hkk
theorem yxzq (hm : MK h0 h m pc l) (hl : l.length < 999900) (h5 : 5 ≤ i.1) (h10 : i.1 ≤ 10)
    (hk : ∀ h', MK h0 h' m pc (l ++ ykm8 pc i) → Keep m h h' → K (.tuple #[]) h') : AM.Spec PG ymae [ptr m 0, insV i] h K := by
  obtain ⟨i0, i1, i2, i3, i4⟩ := i
  refine y1k3 _ _ _ _ ?_
  simp (config := {dsimp := false}) [↓yak3, ↓y66g, insV]
  intro b _ hb
  have hne := hm.ne hb
  have hc := yy0e h b (.cells (insC (i0, i1, i2, i3, i4)) yc0x .exact)
  have hkk : Keep m h (upd h b (.cells (insC (i0, i1, i2, i3, i4)) yc0x .exact)) := (fun _ _ _ hn e => (Sub.new hb) _ _ e)
  replace hm := hm.new (q := .cells (insC (i0, i1, i2, i3, i4)) yc0x .exact) hb
  simp only [insC] at hm hc hkk
  generalize upd h b _ = hh at *
  refine ⟨rfl, y216 hm (by first | omega | (simp [List.length_append, getN, numN, addrN]; omega)) (fun h1 hm1 hk1 => ?_)⟩
  replace hc := hk1 _ _ _ hne hc
  replace hkk := hkk.trans hk1
  replace hm := hm1
  clear hm1 hk1
  simp (config := {dsimp := false}) [yb3e hc]
  refine ⟨rfl, y216 hm (by first | omega | (simp [List.length_append, getN, numN, addrN]; omega)) (fun h1 hm1 hk1 => ?_)⟩
  replace hc := hk1 _ _ _ hne hc
  replace hkk := hkk.trans hk1
  replace hm := hm1
  clear hm1 hk1
  have w : IntKind.i64.wrap (i0 - 5) = i0 - 5 := w_i64 (by simp only at h5 h10; omega) (by simp only at h5 h10; omega)
  simp (config := {dsimp := false}) [yb3e hc, w]
  simp only at h5 h10
  refine ⟨by omega, by omega, ?_⟩
  refine ⟨rfl, yqrz hm (by first | omega | (simp [List.length_append, getN, numN, addrN]; omega)) (fun h1 hm1 hk1 => ?_)⟩
  replace hc := hk1 _ _ _ hne hc
  replace hkk := hkk.trans hk1
  replace hm := hm1
  clear hm1 hk1
  simp (config := {dsimp := false}) [↓y0k9, ↓yoaj, hm.c1, yb3e hc]
  refine ⟨rfl, yqrz hm (by first | omega | (simp [List.length_append, getN, numN, addrN]; omega)) (fun h1 hm1 hk1 => ?_)⟩
  replace hc := hk1 _ _ _ hne hc
  replace hkk := hkk.trans hk1
  replace hm := hm1
  clear hm1 hk1
  simp (config := {dsimp := false}) [↓y96a]
  refine ⟨rfl, yqrz hm (by first | omega | (simp [List.length_append, getN, numN, addrN]; omega)) (fun h1 hm1 hk1 => ?_)⟩
  replace hc := hk1 _ _ _ hne hc
  replace hkk := hkk.trans hk1
  replace hm := hm1
  clear hm1 hk1
  exact hk _ (by simpa [ykm8] using hm) hkk
def memN (i : Ins) : List Nd :=
  if y3qc i.1 = true then addrN i ++ getN 3 i.2.2.2.1 ++ [⟨7, 0, 2, 3, W (y1g3 i.1)⟩] ++ [⟨9, 0, 0, 0, 0⟩]
  else if y7dv i.1 = true then addrN i ++ [⟨6, 3, 2, 0, W ((((W (y1g3 i.1) % 2 ^ IntKind.u32.bits).toNat ||| 8 % 2 ^ IntKind.u32.bits) : Nat) : Int)⟩] ++ setN i.2.1 3
  else addrN i ++ [⟨6, 3, 2, 0, W (y1g3 i.1)⟩] ++ setN i.2.1 3
theorem yblz (hm : MK h0 h m pc l) (hl : l.length < 999900)
    (hk : ∀ h', MK h0 h' m pc (l ++ memN i) → Keep m h h' → K (.tuple #[]) h') : AM.Spec PG yls4 [ptr m 0, insV i] h K := by
  obtain ⟨i0, i1, i2, i3, i4⟩ := i
  refine ynp3 _ _ _ _ ?_
  simp (config := {dsimp := false}) [↓y2cs, ↓yf79, insV]
  intro b _ hb
  have hne := hm.ne hb
  have hc := yy0e h b (.cells (insC (i0, i1, i2, i3, i4)) yc0x .exact)
  have hkk : Keep m h (upd h b (.cells (insC (i0, i1, i2, i3, i4)) yc0x .exact)) := (fun _ _ _ hn e => (Sub.new hb) _ _ e)
  replace hm := hm.new (q := .cells (insC (i0, i1, i2, i3, i4)) yc0x .exact) hb
  simp only [insC] at hm hc hkk
  generalize upd h b _ = hh at *
  refine ⟨rfl, (yv9b (i := (i0, i1, i2, i3, i4))) hm (by first | omega | (simp [List.length_append, getN, numN, addrN]; omega)) (fun h1 hm1 hk1 => ?_)⟩
  replace hc := hk1 _ _ _ hne hc
  replace hkk := hkk.trans hk1
  replace hm := hm1
  clear hm1 hk1
  simp (config := {dsimp := false}) [yb3e hc]
  unfold memN at hk
  simp only at hk
  split
  · rename_i c1
    rw [if_pos c1] at hk
    refine ⟨rfl, y216 hm (by first | omega | (simp [List.length_append, getN, numN, addrN]; omega)) (fun h1 hm1 hk1 => ?_)⟩
    replace hc := hk1 _ _ _ hne hc
    replace hkk := hkk.trans hk1
    replace hm := hm1
    clear hm1 hk1
    refine ⟨rfl, yqrz hm (by first | omega | (simp [List.length_append, getN, numN, addrN]; omega)) (fun h1 hm1 hk1 => ?_)⟩
    replace hc := hk1 _ _ _ hne hc
    replace hkk := hkk.trans hk1
    replace hm := hm1
    clear hm1 hk1
    refine ⟨rfl, yqrz hm (by first | omega | (simp [List.length_append, getN, numN, addrN]; omega)) (fun h1 hm1 hk1 => ?_)⟩
    replace hc := hk1 _ _ _ hne hc
    replace hkk := hkk.trans hk1
    replace hm := hm1
    clear hm1 hk1
    exact hk _ (by simpa using hm) hkk
  · rename_i c1
    rw [if_neg c1] at hk
    split
    · rename_i c2
      rw [if_pos c2] at hk
      refine ⟨rfl, yqrz hm (by first | omega | (simp [List.length_append, getN, numN, addrN]; omega)) (fun h1 hm1 hk1 => ?_)⟩
      replace hc := hk1 _ _ _ hne hc
      replace hkk := hkk.trans hk1
      replace hm := hm1
      clear hm1 hk1
      simp (config := {dsimp := false}) [yb3e hc]
      refine ⟨rfl, yy5q hm (by first | omega | (simp [List.length_append, getN, numN, addrN]; omega)) (fun h1 hm1 hk1 => ?_)⟩
      replace hc := hk1 _ _ _ hne hc
      replace hkk := hkk.trans hk1
      replace hm := hm1
      clear hm1 hk1
      exact hk _ (by simpa using hm) hkk
    · rename_i c2
      rw [if_neg c2] at hk
      refine ⟨rfl, yqrz hm (by first | omega | (simp [List.length_append, getN, numN, addrN]; omega)) (fun h1 hm1 hk1 => ?_)⟩
      replace hc := hk1 _ _ _ hne hc
      replace hkk := hkk.trans hk1
      replace hm := hm1
      clear hm1 hk1
      simp (config := {dsimp := false}) [yb3e hc]
      refine ⟨rfl, yy5q hm (by first | omega | (simp [List.length_append, getN, numN, addrN]; omega)) (fun h1 hm1 hk1 => ?_)⟩
      replace hc := hk1 _ _ _ hne hc
      replace hkk := hkk.trans hk1
      replace hm := hm1
      clear hm1 hk1
      exact hk _ (by simpa using hm) hkk
def reckN (i : Ins) : List Nd :=
  if i.1 ≤ 27 then getN 0 i.2.2.1 ++ numN 1 (W i.2.2.2.2) ++ [⟨4, 2, 0, 1, W (ych0 i.1)⟩] ++ setN i.2.1 2
  else getN 0 i.2.2.1 ++ getN 1 i.2.2.2.1 ++ [⟨4, 2, 0, 1, W (ych0 i.1)⟩] ++ setN i.2.1 2
theorem ytaj (hm : MK h0 h m pc l) (hl : l.length < 999900)
    (hk : ∀ h', MK h0 h' m pc (l ++ reckN i) → Keep m h h' → K (.tuple #[]) h') : AM.Spec PG yrtp [ptr m 0, insV i] h K := by
  obtain ⟨i0, i1, i2, i3, i4⟩ := i
  refine ynti _ _ _ _ ?_
  simp (config := {dsimp := false}) [↓yqy2, ↓yh2w, insV]
  intro b _ hb
  have hne := hm.ne hb
  have hc := yy0e h b (.cells (insC (i0, i1, i2, i3, i4)) yc0x .exact)
  have hkk : Keep m h (upd h b (.cells (insC (i0, i1, i2, i3, i4)) yc0x .exact)) := (fun _ _ _ hn e => (Sub.new hb) _ _ e)
  replace hm := hm.new (q := .cells (insC (i0, i1, i2, i3, i4)) yc0x .exact) hb
  simp only [insC] at hm hc hkk
  generalize upd h b _ = hh at *
  refine ⟨rfl, y216 hm (by first | omega | (simp [List.length_append, getN, numN, addrN]; omega)) (fun h1 hm1 hk1 => ?_)⟩
  replace hc := hk1 _ _ _ hne hc
  replace hkk := hkk.trans hk1
  replace hm := hm1
  clear hm1 hk1
  simp (config := {dsimp := false}) [yb3e hc]
  unfold reckN at hk
  simp only at hk
  split
  · rename_i c1
    rw [if_pos c1] at hk
    refine ⟨rfl, yjux hm (by first | omega | (simp [List.length_append, getN, numN, addrN]; omega)) (fun h1 hm1 hk1 => ?_)⟩
    replace hc := hk1 _ _ _ hne hc
    replace hkk := hkk.trans hk1
    replace hm := hm1
    clear hm1 hk1
    simp (config := {dsimp := false}) [yb3e hc]
    refine ⟨rfl, yqrz hm (by first | omega | (simp [List.length_append, getN, numN, addrN]; omega)) (fun h1 hm1 hk1 => ?_)⟩
    replace hc := hk1 _ _ _ hne hc
    replace hkk := hkk.trans hk1
    replace hm := hm1
    clear hm1 hk1
    simp (config := {dsimp := false}) [yb3e hc]
    refine ⟨rfl, yy5q hm (by first | omega | (simp [List.length_append, getN, numN, addrN]; omega)) (fun h1 hm1 hk1 => ?_)⟩
    replace hc := hk1 _ _ _ hne hc
    replace hkk := hkk.trans hk1
    replace hm := hm1
    clear hm1 hk1
    exact hk _ (by simpa using hm) hkk
  · rename_i c1
    rw [if_neg c1] at hk
    refine ⟨rfl, y216 hm (by first | omega | (simp [List.length_append, getN, numN, addrN]; omega)) (fun h1 hm1 hk1 => ?_)⟩
    replace hc := hk1 _ _ _ hne hc
    replace hkk := hkk.trans hk1
    replace hm := hm1
    clear hm1 hk1
    simp (config := {dsimp := false}) [yb3e hc]
    refine ⟨rfl, yqrz hm (by first | omega | (simp [List.length_append, getN, numN, addrN]; omega)) (fun h1 hm1 hk1 => ?_)⟩
    replace hc := hk1 _ _ _ hne hc
    replace hkk := hkk.trans hk1
    replace hm := hm1
    clear hm1 hk1
    simp (config := {dsimp := false}) [yb3e hc]
    refine ⟨rfl, yy5q hm (by first | omega | (simp [List.length_append, getN, numN, addrN]; omega)) (fun h1 hm1 hk1 => ?_)⟩
    replace hc := hk1 _ _ _ hne hc
    replace hkk := hkk.trans hk1
    replace hm := hm1
    clear hm1 hk1
    exact hk _ (by simpa using hm) hkk
def oneN (pc : Int) (i : Ins) : List Nd :=
  ⟨8, 0, 0, 0, pc⟩ :: (if i.1 = 1 then numN 0 (W i.2.2.2.2) ++ setN i.2.1 0 else if i.1 = 2 then numN 0 (W (pc + W i.2.2.2.2)) ++ setN i.2.1 0 else if i.1 = 3 then jalN pc i
    else if i.1 = 4 then jalrN pc i else if 5 ≤ i.1 ∧ i.1 ≤ 10 then ykm8 pc i else if 11 ≤ i.1 ∧ i.1 ≤ 18 then memN i else if 19 ≤ i.1 ∧ i.1 ≤ 45 then reckN i
    else if i.1 = 48 then [⟨13, 0, 0, 0, 5⟩] else if i.1 = 49 then [⟨13, 0, 0, 0, 6⟩] else [⟨9, 0, 0, 0, 0⟩])
theorem ynzk (hm : MK h0 h m pc l) (hl : l.length < 999800)
    (hk : ∀ h', MK h0 h' m pc (l ++ oneN pc i) → Keep m h h' → K (.tuple #[]) h') : AM.Spec PG y76q [ptr m 0, insV i] h K := by
  obtain ⟨i0, i1, i2, i3, i4⟩ := i
  refine yinc _ _ _ _ ?_
  simp (config := {dsimp := false}) [↓yali, ↓yka2, insV]
  intro b _ hb
  have hne := hm.ne hb
  have hc := yy0e h b (.cells (insC (i0, i1, i2, i3, i4)) yc0x .exact)
  have hkk : Keep m h (upd h b (.cells (insC (i0, i1, i2, i3, i4)) yc0x .exact)) := (fun _ _ _ hn e => (Sub.new hb) _ _ e)
  replace hm := hm.new (q := .cells (insC (i0, i1, i2, i3, i4)) yc0x .exact) hb
  simp only [insC] at hm hc hkk
  generalize upd h b _ = hh at *
  simp (config := {dsimp := false}) [↓y4sp, hm.c1]
  refine ⟨rfl, yqrz hm (by first | omega | (simp [List.length_append, getN, numN, addrN]; omega)) (fun h1 hm1 hk1 => ?_)⟩
  replace hc := hk1 _ _ _ hne hc
  replace hkk := hkk.trans hk1
  replace hm := hm1
  clear hm1 hk1
  simp (config := {dsimp := false}) [↓y4sp, ↓ykeo, ↓ywv5, ↓ya1p, ↓y12u, ↓yaw9, ↓y1aw, ↓ywfg, ↓y2zk, ↓ypgy, yb3e hc, yzql hc, hm.c1]
  unfold oneN at hk
  simp only at hk
  split
  · rename_i c
    rw [if_pos c] at hk
    refine ⟨rfl, yjux hm (by first | omega | (simp [List.length_append, getN, numN, addrN]; omega)) (fun h1 hm1 hk1 => ?_)⟩
    replace hc := hk1 _ _ _ hne hc
    replace hkk := hkk.trans hk1
    replace hm := hm1
    clear hm1 hk1
    simp (config := {dsimp := false}) [yb3e hc]
    refine ⟨rfl, yy5q hm (by first | omega | (simp [List.length_append, getN, numN, addrN]; omega)) (fun h1 hm1 hk1 => ?_)⟩
    replace hc := hk1 _ _ _ hne hc
    replace hkk := hkk.trans hk1
    replace hm := hm1
    clear hm1 hk1
    exact hk _ (by simpa using hm) hkk
  rename_i c
  rw [if_neg c] at hk
  split
  · rename_i c
    rw [if_pos c] at hk
    refine ⟨rfl, yjux hm (by first | omega | (simp [List.length_append, getN, numN, addrN]; omega)) (fun h1 hm1 hk1 => ?_)⟩
    replace hc := hk1 _ _ _ hne hc
    replace hkk := hkk.trans hk1
    replace hm := hm1
    clear hm1 hk1
    simp (config := {dsimp := false}) [↓y2zk, yb3e hc]
    refine ⟨rfl, yy5q hm (by first | omega | (simp [List.length_append, getN, numN, addrN]; omega)) (fun h1 hm1 hk1 => ?_)⟩
    replace hc := hk1 _ _ _ hne hc
    replace hkk := hkk.trans hk1
    replace hm := hm1
    clear hm1 hk1
    exact hk _ (by simpa using hm) hkk
  rename_i c
  rw [if_neg c] at hk
  split
  · rename_i c
    rw [if_pos c] at hk
    exact ⟨rfl, ygv0 (i := (i0, i1, i2, i3, i4)) hm (by simp; omega) (fun h' hm' hk' => hk _ (by simpa using hm') (hkk.trans hk'))⟩
  rename_i c
  rw [if_neg c] at hk
  split
  · rename_i c
    rw [if_pos c] at hk
    exact ⟨rfl, yklf (i := (i0, i1, i2, i3, i4)) hm (by simp; omega) (fun h' hm' hk' => hk _ (by simpa using hm') (hkk.trans hk'))⟩
  rename_i c
  rw [if_neg c] at hk
  split
  · rename_i c
    rw [if_pos c] at hk
    exact ⟨rfl, yxzq (i := (i0, i1, i2, i3, i4)) hm (by simp; omega) c.1 c.2 (fun h' hm' hk' => hk _ (by simpa using hm') (hkk.trans hk'))⟩
  rename_i c
  rw [if_neg c] at hk
  split
  · rename_i c
    rw [if_pos c] at hk
    exact ⟨rfl, yblz (i := (i0, i1, i2, i3, i4)) hm (by simp; omega) (fun h' hm' hk' => hk _ (by simpa using hm') (hkk.trans hk'))⟩
  rename_i c
  rw [if_neg c] at hk
  split
  · rename_i c
    rw [if_pos c] at hk
    exact ⟨rfl, ytaj (i := (i0, i1, i2, i3, i4)) hm (by simp; omega) (fun h' hm' hk' => hk _ (by simpa using hm') (hkk.trans hk'))⟩
  rename_i c
  rw [if_neg c] at hk
  split
  · rename_i c
    rw [if_pos c] at hk
    refine ⟨rfl, yqrz hm (by first | omega | (simp [List.length_append, getN, numN, addrN]; omega)) (fun h1 hm1 hk1 => ?_)⟩
    replace hc := hk1 _ _ _ hne hc
    replace hkk := hkk.trans hk1
    replace hm := hm1
    clear hm1 hk1
    exact hk _ (by simpa using hm) hkk
  rename_i c
  rw [if_neg c] at hk
  split
  · rename_i c
    rw [if_pos c] at hk
    refine ⟨rfl, yqrz hm (by first | omega | (simp [List.length_append, getN, numN, addrN]; omega)) (fun h1 hm1 hk1 => ?_)⟩
    replace hc := hk1 _ _ _ hne hc
    replace hkk := hkk.trans hk1
    replace hm := hm1
    clear hm1 hk1
    exact hk _ (by simpa using hm) hkk
  rename_i c
  rw [if_neg c] at hk
  refine ⟨rfl, yqrz hm (by first | omega | (simp [List.length_append, getN, numN, addrN]; omega)) (fun h1 hm1 hk1 => ?_)⟩
  replace hc := hk1 _ _ _ hne hc
  replace hkk := hkk.trans hk1
  replace hm := hm1
  clear hm1 hk1
  exact hk _ (by simpa using hm) hkk
theorem y4z8 (pc : Int) (i : Ins) : (oneN pc i).length ≤ 11 := by
  have h0 := y6db i.2.1 0
  have h2 := y6db i.2.1 2
  have h3 := y6db i.2.1 3
  unfold oneN jalN jalrN ykm8 memN reckN addrN getN numN
  repeat' split
  all_goals simp
  all_goals omega
end
end
end Go.Proofs.YtnckimioabkheaaGreat

set_option linter.unusedSimpArgs false
set_option linter.unusedVariables false
set_option maxRecDepth 100000
namespace Go.Proofs.YtnckimioabkheaaGreat
open AM
section
variable {h : H} {pc : Int} {K : K1}
def ygxs (l : List Ins) (pc : Int) : Nat → List Nd × Int
  | 0 => ([], pc)
  | n + 1 => ((ygxs l pc n).1 ++ oneN (ygxs l pc n).2 (l.getD n (0, 0, 0, 0, 0)), W ((ygxs l pc n).2 + 4))
theorem yev3 (l : List Ins) (pc : Int) (n : Nat) : (ygxs l pc n).1.length ≤ 11 * n := by
  induction n with
  | zero => simp [ygxs]
  | succ n ih =>
    have := y4z8 (ygxs l pc n).2 (l.getD n (0, 0, 0, 0, 0))
    simp only [ygxs, List.length_append]
    omega
theorem y53m (l : List Ins) (pc : Int) (n : Nat) (hn : 0 < n) : (ygxs l pc n).1 ≠ [] := by
  cases n with
  | zero => omega
  | succ n => simp [ygxs, oneN]
def makeN (pc : Int) (l : List Ins) : List Nd :=
  if l = [] then []
  else if yg6t (ygxs l pc l.length).1 < 11 ∨ 13 < yg6t (ygxs l pc l.length).1 then (ygxs l pc l.length).1 ++ [⟨12, 0, 0, 0, (ygxs l pc l.length).2⟩]
  else (ygxs l pc l.length).1
theorem yaqv {v : Value} {is : List Ins} {gen : Int} (hs : Sl insC 5 h v is) (hl : is.length ≤ 1000)
    (hk : ∀ v' h', Sub h h' → Gr Nd.cells 5 yq0s h h' v' (makeN pc is) → K v' h') : AM.Spec PG y849 [.agg #[.int .u32 pc, v, .int .u32 gen]] h K := by
  refine yaxt _ _ _ ?_
  have hb := hs.box
  unfold ylc2 yk2y
  simp (config := {dsimp := false}) [hb, hs.ulen]
  intro b hb2 hbn
  split
  · rename_i h0
    refine hk _ _ (Sub.new hbn) ?_
    simp only [makeN, h0, if_true]
    exact Gr.empty
  rename_i hne
  intro m hm2 n1 n2 hmn
  have s0 : Sub h (upd h b (.cells [.int .u32 pc, v, .int .u32 gen] yrjx .exact)) := Sub.new hbn
  have s1 := s0.newer (q := .cells [.slice none 0 0, .int .u32 pc] yhds .exact) (b := m) (by rw [yrkk _ _ n1]; exact hmn)
  have hs1 := hs.mono s1
  have hm : MK h _ m pc [] := ⟨.slice none 0 0, by simp [upd], Gr.empty, s1, hmn⟩
  simp (config := {dsimp := false}) [↓y9xi, ↓y896, ↓ya2i, ↓ynsh, n1, n2, hs1.ulen]
  generalize upd (upd h b _) m _ = hh at *
  refine yo1k is.length (fun i s h' => s = (ptr m 0, v, .int .i64 is.length, .int .i64 i) ∧ MK h h' m (ygxs is pc i).2 (ygxs is pc i).1) ⟨rfl, hm⟩ ?_
  rintro i s h' K' hi ⟨rfl, hm'⟩ hk'
  have hsm := hs.mono hm'.sub
  by_cases hlt : i < is.length
  · obtain ⟨x, hx⟩ : ∃ x, is[i] = x := ⟨_, rfl⟩
    have hix := fun (K : Value → Prop) (u : Dm K) => hsm.ixA (k := .i64) hlt (K := K) (u := u)
    have hbd : ygxs is pc (i + 1) = ((ygxs is pc i).1 ++ oneN (ygxs is pc i).2 x, W ((ygxs is pc i).2 + 4)) := by
      simp [ygxs, hlt, hx]
    rw [hx] at hix
    rw [hbd] at hk'
    have hlen := yev3 is pc i
    obtain ⟨x0, x1, x2, x3, x4⟩ := x
    simp only [insC] at hix
    generalize ygxs is pc i = B at *
    have w : IntKind.i64.wrap ((i : Int) + 1) = (i : Int) + 1 := w_i64 (by omega) (by omega)
    simp (config := {dsimp := false}) [↓ytn3, hlt, hix]
    intro b5 _ hb5
    refine ⟨rfl, ynzk (i := (x0, x1, x2, x3, x4)) (hm'.new hb5) (by omega) fun h1 hm1 hk1 => ?_⟩
    obtain ⟨z, ez, hz⟩ := hm1.at (pc' := W (B.2 + 4))
    simp (config := {dsimp := false}) [yb3e ez, ez, w]
    exact hk' _ _ hlt ⟨rfl, hz⟩
  · have hie : i = is.length := by omega
    subst hie
    have hlen := yev3 is pc is.length
    have hbn := y53m is pc is.length (by cases is <;> simp at hne ⊢)
    simp only [makeN, if_neg hne] at hk
    generalize ygxs is pc is.length = B at *
    obtain ⟨z, ez, hg, hs', hn⟩ := hm'
    have hpos : 0 < B.1.length := List.length_pos_iff.2 hbn
    have hlast : (Nd.cells (B.1[B.1.length - 1]'(by omega)))[0]? = some (.int .i64 (yg6t B.1)) := by rw [y6a9 hbn]; rfl
    have hix := fun (K : Value → Prop) (u : Dm K) => hg.sl.ixf (k := .i64) (i := B.1.length - 1) (off := 0) (by omega) hlast (K := K) (u := u)
    have w : IntKind.i64.wrap ((B.1.length : Int) - 1) = ((B.1.length - 1 : Nat) : Int) := by rw [w_i64 (by omega) (by omega)]; omega
    simp (config := {dsimp := false}) [↓ytn3, ↓y2mk, ↓y6mk, ↓ybk7, ↓yym3, yb3e ez, hg.sl.ulen, w, hix]
    split
    · rename_i c
      rw [if_pos c] at hk
      refine ⟨rfl, yqrz ⟨z, ez, hg, hs', hn⟩ (by omega) fun h1 hm1 hk1 => ?_⟩
      obtain ⟨y, ey, gy, sy, ny⟩ := hm1
      simp (config := {dsimp := false}) [↓yh6b, yb3e ey]
      exact hk _ _ sy gy
    · rename_i c
      rw [if_neg c] at hk
      simp (config := {dsimp := false}) [↓yh6b, yb3e ez]
      exact hk _ _ hs' hg
theorem yfp0 {v : Value} {is : List Ins} {gen : Int} (hs : Sl insC 5 h v is) (hl : is.length ≤ 1000)
    (hk : ∀ v' h', Sub h h' → Sl Nd.cells 5 h' v' (makeN pc is) → K v' h') : AM.Spec PG y849 [.agg #[.int .u32 pc, v, .int .u32 gen]] h K :=
  yaqv hs hl fun v' h' s g => hk v' h' s g.sl
end
end Go.Proofs.YtnckimioabkheaaGreat

set_option linter.unusedSimpArgs false
set_option linter.unusedVariables false
set_option maxRecDepth 100000
namespace Go.Proofs.YtnckimioabkheaaGreat
open AM
structure InsOk (i : Ins) : Prop where
  rd : 0 ≤ i.2.1 ∧ i.2.1 ≤ 31
  r1 : 0 ≤ i.2.2.1 ∧ i.2.2.1 ≤ 31
  r2 : 0 ≤ i.2.2.2.1 ∧ i.2.2.2.1 ≤ 31
def aft : List Nd → (Int → Bool) → (Int → Bool)
  | [], th => th
  | n :: r, th => aft r (if y65c n.op then put th n.to true else th)
theorem yh43 : ∀ {a b : List Nd} {th : Int → Bool}, ywct (a ++ b) th = (ywct a th && ywct b (aft a th))
  | [], b, th => by simp [ywct, aft]
  | n :: r, b, th => by simp only [List.cons_append, ywct, aft, yh43 (a := r), Bool.and_assoc]
theorem y3iv {op : Int} (h1 : 19 ≤ op) (h2 : op ≤ 45) : 0 ≤ ych0 op ∧ ych0 op ≤ 17 := by
  unfold ych0
  rcases (by omega : op = 19 ∨ op = 20 ∨ op = 21 ∨ op = 22 ∨ op = 23 ∨ op = 24 ∨ op = 25 ∨ op = 26 ∨ op = 27 ∨ op = 28 ∨ op = 29 ∨ op = 30 ∨ op = 31 ∨ op = 32 ∨ op = 33 ∨ op = 34 ∨ op = 35 ∨ op = 36 ∨ op = 37 ∨ op = 38 ∨ op = 39 ∨ op = 40 ∨ op = 41 ∨ op = 42 ∨ op = 43 ∨ op = 44 ∨ op = 45) with rfl | rfl | rfl | rfl | rfl | rfl | rfl | rfl | rfl | rfl | rfl | rfl | rfl | rfl | rfl | rfl | rfl | rfl | rfl | rfl | rfl | rfl | rfl | rfl | rfl | rfl | rfl <;> decide
theorem W_id {x : Int} (h : 0 ≤ x ∧ x ≤ 31) : W x = x := w_u32 (by omega) (by omega)
theorem yyi5 {pc : Int} {i : Ins} (hi : InsOk i) (th : Int → Bool) : ywct (oneN pc i) th = true := by
  obtain ⟨op, rd, r1, r2, imm⟩ := i
  obtain ⟨h1, h2, h3⟩ := hi
  simp only at h1 h2 h3
  have e1 := W_id h1
  have e2 := W_id h2
  have e3 := W_id h3
  unfold oneN
  simp only
  split
  · simp only [numN, setN, e1]
    split <;> simp [ywct, yln3, ykl2, hasL, yalu, tagsB, rl, y65c, put] <;> omega
  split
  · simp only [numN, setN, e1]
    split <;> simp [ywct, yln3, ykl2, hasL, yalu, tagsB, rl, y65c, put] <;> omega
  split
  · simp only [jalN, numN, setN, e1]
    split <;> simp [ywct, yln3, ykl2, hasL, yalu, tagsB, rl, y65c, put] <;> omega
  split
  · simp only [jalrN, addrN, getN, numN, setN, e1, e2]
    split <;> simp [ywct, yln3, ykl2, hasL, yalu, tagsB, rl, y65c, put] <;> omega
  split
  · rename_i hc
    have ht : tab (op - 5) [0, 1, 4, 5, 6, 7] ≤ 7 ∧ tab (op - 5) [0, 1, 4, 5, 6, 7] ≠ 2 ∧ tab (op - 5) [0, 1, 4, 5, 6, 7] ≠ 3 := by
      rcases (by omega : op = 5 ∨ op = 6 ∨ op = 7 ∨ op = 8 ∨ op = 9 ∨ op = 10) with rfl | rfl | rfl | rfl | rfl | rfl <;> decide
    simp only [ykm8, getN, numN, setN, e2, e3]
    generalize tab (op - 5) [0, 1, 4, 5, 6, 7] = tt at *
    simp [ywct, yln3, ykl2, hasL, yalu, tagsB, rl, y65c, put]
    omega
  split
  · rename_i hc
    have key : ∀ v : Int, (v = 1 ∨ v = 2 ∨ v = 4 ∨ v = 9 ∨ v = 10) → ywct (⟨8, 0, 0, 0, pc⟩ :: (addrN (op, rd, r1, r2, imm) ++ [⟨6, 3, 2, 0, v⟩] ++ setN rd 3)) th = true := by
      intro v hv
      simp only [addrN, getN, numN, setN, e1, e2]
      split <;> simp [ywct, yln3, ykl2, hasL, yalu, tagsB, rl, y65c, put, yyyr] <;> omega
    have key2 : ∀ v : Int, (v = 1 ∨ v = 2 ∨ v = 4) → ywct (⟨8, 0, 0, 0, pc⟩ :: (addrN (op, rd, r1, r2, imm) ++ getN 3 r2 ++ [⟨7, 0, 2, 3, v⟩] ++ [⟨9, 0, 0, 0, 0⟩])) th = true := by
      intro v hv
      simp only [addrN, getN, numN, setN, e2, e3]
      simp [ywct, yln3, ykl2, hasL, yalu, tagsB, rl, y65c, put, yyyr]
      omega
    unfold memN
    simp only
    split
    · refine key2 _ ?_
      rename_i hs
      have : op = 16 ∨ op = 17 ∨ op = 18 := by simp [y3qc] at hs; omega
      rcases this with rfl | rfl | rfl <;> decide
    · rename_i hs
      have : op = 11 ∨ op = 12 ∨ op = 13 ∨ op = 14 ∨ op = 15 := by simp [y3qc] at hs; omega
      split
      · rename_i hz
        refine key _ ?_
        revert hz
        clear hs
        rcases this with rfl | rfl | rfl | rfl | rfl <;> decide
      · rename_i hz
        refine key _ ?_
        revert hz
        clear hs
        rcases this with rfl | rfl | rfl | rfl | rfl <;> decide
  split
  · rename_i hc
    have hk := y3iv hc.1 hc.2
    have ek : W (ych0 op) = ych0 op := w_u32 (by omega) (by omega)
    unfold reckN
    simp only [ek]
    generalize ych0 op = kk at *
    split
    · simp only [getN, numN, setN, e1, e2, e3]
      split <;> simp [ywct, yln3, ykl2, hasL, yalu, tagsB, rl, y65c, put] <;> omega
    · simp only [getN, numN, setN, e1, e2, e3]
      split <;> simp [ywct, yln3, ykl2, hasL, yalu, tagsB, rl, y65c, put] <;> omega
  split
  · simp [ywct, yln3, ykl2, hasL, yalu, tagsB, rl, y65c, put]
  split
  · simp [ywct, yln3, ykl2, hasL, yalu, tagsB, rl, y65c, put]
  · simp [ywct, yln3, ykl2, hasL, yalu, tagsB, rl, y65c, put]
def opOk (n : Nd) : Bool := decide (n.op ≤ 13) || decide (n.op = 21)
theorem y55o {r t : Int} : (setN r t).all opOk = true := by unfold setN; split <;> rfl
theorem yc0a {pc : Int} {i : Ins} : (oneN pc i).all opOk = true := by
  unfold oneN jalN jalrN ykm8 memN reckN addrN getN numN
  repeat' split
  all_goals simp [List.all_append, y55o, opOk]
theorem yd26 {pc : Int} {i : Ins} : ∃ r, oneN pc i = ⟨8, 0, 0, 0, pc⟩ :: r := ⟨_, rfl⟩
section
variable {l : List Ins} {pc : Int}
theorem ytty : ∀ n, (ygxs l pc n).1.all opOk = true
  | 0 => rfl
  | n + 1 => by simp only [ygxs, List.all_append, ytty n, yc0a, Bool.and_self]
theorem yz4e (hl : ∀ i ∈ l, InsOk i) (n : Nat) : InsOk (l.getD n (0, 0, 0, 0, 0)) := by
  rw [List.getD_eq_getElem?_getD]
  cases h : l[n]? with
  | none => exact ⟨by simp, by simp, by simp⟩
  | some i => exact hl i (List.mem_of_getElem? h)
theorem yb2s (hl : ∀ i ∈ l, InsOk i) : ∀ n th, ywct (ygxs l pc n).1 th = true
  | 0, th => rfl
  | n + 1, th => by
    simp only [ygxs]
    rw [yh43, yb2s hl n, yyi5 (yz4e hl n)]
    rfl
theorem y8pg : ∀ n, 0 < n → ∃ n0 r, (ygxs l pc n).1 = n0 :: r ∧ n0.op = 8
  | 0, h => by omega
  | n + 1, _ => by
    cases n with
    | zero =>
      obtain ⟨r, hr⟩ := yd26 (pc := pc) (i := l.getD 0 (0, 0, 0, 0, 0))
      exact ⟨_, r, by simp only [ygxs]; rw [hr]; rfl, rfl⟩
    | succ n =>
      obtain ⟨n0, r, hr, h8⟩ := y8pg (n + 1) (by omega)
      exact ⟨n0, r ++ oneN (ygxs l pc (n + 1)).2 (l.getD (n + 1) (0, 0, 0, 0, 0)), by rw [ygxs, hr]; rfl, h8⟩
theorem yedm : ∀ {a b : List Nd}, b ≠ [] → yg6t (a ++ b) = yg6t b
  | [], b, _ => rfl
  | [n], b, h => by
    cases b with
    | nil => exact absurd rfl h
    | cons m r => rfl
  | n :: m :: r, b, h => by
    have := yedm (a := m :: r) h
    simpa [yg6t] using this
theorem yvki (hl : ∀ i ∈ l, InsOk i) (hne : l ≠ []) (h64 : l.length ≤ 64) : goodB (makeN pc l) = true := by
  have hlen := yev3 l pc l.length
  have hpos : 0 < l.length := List.length_pos_iff.2 hne
  obtain ⟨n0, r, hr, h8⟩ := y8pg (l := l) (pc := pc) l.length hpos
  have hg := yb2s (pc := pc) hl l.length (fun _ => false)
  unfold makeN
  rw [if_neg hne]
  split
  · obtain ⟨z, hz, hz2⟩ : ∃ z : Nd, z = ⟨12, 0, 0, 0, (ygxs l pc l.length).2⟩ ∧ z.op = 12 := ⟨_, rfl, rfl⟩
    rw [← hz]
    have hla : yg6t ((ygxs l pc l.length).1 ++ [z]) = 12 := (yedm (by simp)).trans hz2
    have hga : ywct ((ygxs l pc l.length).1 ++ [z]) (fun _ => false) = true := by
      rw [yh43, hg, hz]
      simp [ywct, yln3, ykl2, hasL, yalu, tagsB, rl, y65c]
    have hll : ((ygxs l pc l.length).1 ++ [z]).length ≤ 2000 := by simp; omega
    rw [hr] at hla hga hll ⊢
    simp only [List.cons_append] at hla hga hll ⊢
    simp only [goodB, hla, hga, h8, decide_eq_true hll]
    rfl
  · rename_i hc
    rw [hr] at hg hlen hc ⊢
    have h2 : (n0 :: r).length ≤ 2000 := by omega
    simp only [goodB, hg, h8, decide_eq_true h2]
    simp
    omega
theorem y4zl : (makeN pc l).all opOk = true := by
  unfold makeN
  split
  · rfl
  split
  · rw [List.all_append, ytty]; rfl
  · exact ytty _
theorem yxhi : (makeN pc l).length ≤ 12 * l.length + 2 := by
  have hlen := yev3 l pc l.length
  unfold makeN
  split
  · simp
  split
  · simp; omega
  · omega
end
end Go.Proofs.YtnckimioabkheaaGreat

set_option linter.unusedSimpArgs false
set_option linter.unusedVariables false
set_option maxRecDepth 100000
namespace Go.Proofs.YtnckimioabkheaaGreat
open AM
theorem fld5 {w f : Int} : 0 ≤ yz4y w f 5 ∧ yz4y w f 5 ≤ 31 := by
  unfold yz4y
  have e : (IntKind.u32.wrap (IntKind.u32.wrap (2 ^ min (5 : Int).toNat IntKind.u32.bits) - 1) % 2 ^ IntKind.u32.bits).toNat = 31 := by decide
  rw [e]
  generalize (w.fdiv (2 ^ min f.toNat IntKind.u32.bits) % 2 ^ IntKind.u32.bits).toNat = x
  have h := @Nat.and_le_right x 31
  generalize x &&& 31 = y at *
  rw [w_u32 (by omega) (by omega), w_i64 (by omega) (by omega)]
  omega
theorem yyhv (w : Int) : InsOk (y1j0 w, y41m w, ydwe w, ybta w, y31p w) := by
  have h1 := fld5 (w := w) (f := 7)
  have h2 := fld5 (w := w) (f := 15)
  have h3 := fld5 (w := w) (f := 20)
  refine ⟨?_, ?_, ?_⟩
  · show 0 ≤ y41m w ∧ y41m w ≤ 31
    unfold y41m
    repeat' split
    all_goals omega
  · show 0 ≤ ydwe w ∧ ydwe w ≤ 31
    unfold ydwe
    repeat' split
    all_goals omega
  · show 0 ≤ ybta w ∧ ybta w ≤ 31
    unfold ybta
    repeat' split
    all_goals omega
theorem ys3r {μ : MS} {pc : Int} : InsOk (ysel μ pc).1 := by
  unfold ysel
  split
  · exact ⟨by simp, by simp, by simp⟩
  split
  · exact ⟨by simp, by simp, by simp⟩
  · exact yyhv _
theorem yqx3 {μ : MS} {pc most : Int} : ∀ {f : Nat} {a : Int} {l : List Ins}, (∀ i ∈ l, InsOk i) → ∀ i ∈ (findL μ pc most f a l).1, InsOk i
  | 0, a, l, h => h
  | f + 1, a, l, h => by
    have ha : ∀ i ∈ l ++ [(ysel μ a).1], InsOk i := fun i hi => by
      rcases List.mem_append.1 hi with hi | hi
      · exact h i hi
      · rw [List.mem_singleton.1 hi]; exact ys3r
    rw [findL]
    split
    · split
      · split
        · intro i hi; simp at hi
        · exact h
      · split
        · exact ha
        · exact yqx3 ha
    · exact h
theorem ynht {μ : MS} {pc most : Int} : ∀ {f : Nat} {a : Int} {l : List Ins}, (l.length : Int) ≤ most → ((findL μ pc most f a l).1.length : Int) ≤ most
  | 0, a, l, h => h
  | f + 1, a, l, h => by
    rw [findL]
    split
    · rename_i hc
      have h2 : ((l ++ [(ysel μ a).1]).length : Int) ≤ most := by simp; omega
      split
      · split
        · simp; omega
        · exact h
      · split
        · exact h2
        · exact ynht h2
    · exact h
theorem yvnf {μ : MS} {pc most : Int} : ∀ {f : Nat} {a : Int} {l : List Ins}, l ≠ [] → (findL μ pc most f a l).1 ≠ [] ∧ (findL μ pc most f a l).2 = (0, 0, 0)
  | 0, a, l, h => ⟨h, rfl⟩
  | f + 1, a, l, h => by
    rw [findL]
    split
    · split
      · exact ⟨h, rfl⟩
      · split
        · exact ⟨by simp, rfl⟩
        · exact yvnf (by simp)
    · exact ⟨h, rfl⟩
theorem yy6p {μ : MS} {pc most : Int} : ((findF μ pc most).1 ≠ [] ∧ (findF μ pc most).2 = (0, 0, 0)) ∨ ((findF μ pc most).1 = [] ∧ (findF μ pc most).2.1 ≠ 0) := by
  unfold findF
  rw [findL]
  rw [if_pos (by constructor; simp; omega; rfl)]
  split
  · rename_i hc
    rw [if_pos rfl]
    exact .inr ⟨rfl, hc⟩
  · split
    · exact .inl ⟨by simp, rfl⟩
    · exact .inl (yvnf (by simp))
theorem yyem {μ : MS} {pc most : Int} : ∀ i ∈ (findF μ pc most).1, InsOk i := yqx3 (by simp)
theorem yifi {μ : MS} {pc most : Int} : (findF μ pc most).1.length ≤ 64 := by
  have := ynht (μ := μ) (pc := pc) (most := min (max most 1) 64) (f := 65) (a := pc) (l := []) (by simp; omega)
  unfold findF
  omega
end Go.Proofs.YtnckimioabkheaaGreat

set_option linter.unusedSimpArgs false
set_option linter.unusedVariables false
set_option maxRecDepth 100000
set_option maxHeartbeats 4000000
namespace Go.Proofs.YtnckimioabkheaaGreat
open AM
section
variable {h : H} {K : K1}
theorem yd3h {h : H} {cs : List Value} {E : TypeId} {m : AM.Own} {K : Nat → H → Prop} {u : Dm K} (hk : ∀ b h', 2 ≤ b → h b = none → Sub h h' → h' b = some (.cells cs E m) → K b h') : u_new cs E m h K u :=
  fun b h2 hb => hk b _ h2 hb (Sub.new hb) (yy0e _ _ _)
theorem yvpm : ∀ {vs cs : List Value} {o : Nat}, o + vs.length = cs.length → setL cs o vs = cs.take o ++ vs
  | [], cs, o, h => by
    simp at h
    simp [setL, h]
  | v :: vs, cs, o, h => by
    simp only [List.length_cons] at h
    rw [setL, yvpm (by simp; omega)]
    rw [List.take_succ_eq_append_getElem (by simp; omega), List.take_set, List.set_eq_of_length_le (by simp; omega)]
    simp
theorem y24r {vs cs : List Value} (h : vs.length = cs.length) : setL cs 0 vs = vs := by rw [yvpm (by omega)]; simp
theorem y1nc {h0 h : H} {b n : Nat} {cs : List Value} {E : TypeId} {m : AM.Own} {v : Value} {K : H → Prop} {u : Dm K} (hs : Sub h0 h) (h0b : h0 b = none) (hb : h b = some (.cells cs E m)) (hm : m ≠ .ro) (hbx : boxV v = true) (hn : v.cells.size = n) (hl : cs.length = n)
    (hk : ∀ h', Sub h0 h' → h' b = some (.cells v.cells.toList E m) → (∀ c, c ≠ b → h' c = h c) → K h') : ylel n (.pointer (some ⟨b, 0, none⟩)) v h K u := by
  rw [ykdp, hb]
  refine ⟨hm, hbx, hn, by omega, ?_⟩
  rw [y24r (by simp [hn, hl])]
  exact hk _ (Sub.upd hs h0b) (yy0e _ _ _) fun c hc => yrkk _ _ hc
@[simp] theorem yxdi {a : Option Addr} {K : Value → Prop} {u : Dm K} : u_bin PG .eql ygd0 (.pointer a) (.pointer none) K u = K (.bool a.isNone) := by
  cases a <;> kernel_rfl
theorem yfs3 {v : Value} {l : List Nd} (hs : Sl Nd.cells 5 h v l) (hlen : l.length ≤ 1000000) (hk : K (.bool (goodB l)) h) : AM.Spec PG yym2 [v] h K := yo6a hs (by omega) hk
theorem yl4l {v : Value} {ws : List Int} (hv : Sl u32V 1 h v ws) (hk : ∀ h', Sub h h' → K (.bool (decide (1 ≤ ws.length ∧ ws.length ≤ 200))) h') : AM.Spec PG ytnu [v, nilV, yh6o, noPol] h K := by
  refine ydmb _ _ _ _ _ _ ?_
  have hvb := hv.box
  unfold ybou ykbf
  refine ⟨rfl, yd3h fun b6 h6 _ _ s6 c6 => ⟨rfl, yd3h fun b7 h1 _ _ s7 c7 => ?_⟩⟩
  replace c6 := s7 _ _ c6
  have s1 := s6.trans s7
  have hlen := fun (K : Value → Prop) (u : Dm K) => (hv.mono s1).ulen (K := K) (u := u)
  by_cases c : 1 ≤ ws.length ∧ ws.length ≤ 200
  · have c1 : ¬ (ws.length : Int) < 1 := by omega
    have c2 : ¬ (200 : Int) < ws.length := by omega
    simp (config := {dsimp := false}) [hlen, c1, c2, yb3e c6, yb3e c7, ↓yafn, ↓ylcs, ↓ylaa, ↓ylnk]
    refine yq9z fun K' => ?_
    simp (config := {dsimp := false}) [↓yx4t, ↓yr09, ↓ymxs, ↓yo47, ↓yf8o, yb3e c6]
    refine yq9z fun K' => ?_
    simp (config := {dsimp := false}) [↓yw5f, ↓y140, yb3e c6]
    have := hk h1 s1
    rw [decide_eq_true c] at this
    exact this
  · have := hk h1 s1
    rw [decide_eq_false c] at this
    by_cases c1 : (ws.length : Int) < 1
    · simp (config := {dsimp := false}) [hlen, c1, yb3e c6, yb3e c7]
      exact this
    · have c2 : (200 : Int) < ws.length := by omega
      simp (config := {dsimp := false}) [hlen, c1, c2, yb3e c6, yb3e c7]
      exact this
theorem yagh {v : Value} {ws : List Int} {n most : Int} (hv : Sl u32V 1 h v ws) (hw : ∀ x ∈ ws, 0 ≤ x ∧ x < 4294967296) (hn : 0 ≤ n ∧ n < 4294967296)
    (haw : ∀ {K : K1} {h : H}, (∀ h', Sub h h' → K (.bool true) h') → AM.Spec PG yajp [] h K)
    (hk : ∀ h', Sub h h' → K (.bool true) h') : AM.Spec PG ypc5 [v, .int .u32 n, .int .i64 most] h K := by
  refine yala _ _ _ _ _ ?_
  have hvb := hv.box
  simp (config := {dsimp := false}) [↓yl92, ↓yd76]
  refine ⟨rfl, haw fun h1 s1 => ?_⟩
  simp (config := {dsimp := false})
  refine ⟨by simp [hvb], yl4l (hv.mono s1) fun h2 s2 => ?_⟩
  have s12 := s1.trans s2
  by_cases c : 1 ≤ ws.length ∧ ws.length ≤ 200
  case neg =>
    simp (config := {dsimp := false}) [c]
    exact hk h2 s12
  simp (config := {dsimp := false}) [c]
  refine ⟨by simp [hvb], yjd9 (all := true) (data := []) (hv.mono s12) hw (by omega) Sl.nil (by simp) (by simp) ⟨by decide, by decide⟩ ⟨by decide, by decide⟩ ?_ ?_⟩
  · intro h3 s3 _
    simp (config := {dsimp := false})
    exact hk h3 (s12.trans s3)
  · intro bm bm' D sq sm f h3 μ hμ hm hw1 hz1 s3 hbm0 hbm hsq hsm hown
    simp (config := {dsimp := false}) [yb3e hbm, MC.at_0]
    generalize hpc : IntKind.u32.wrap (4096 + _) = pc
    have hp0 : 0 ≤ pc := by rw [← hpc]; exact yd12
    have hp1 : pc < 4294967296 := by rw [← hpc]; exact yina
    clear hpc
    refine ⟨rfl, y9xs hm.at_ hw1 hp0 hp1 fun w gen h4 s4 hins => ?_⟩
    have hwb := hins.box
    simp (config := {dsimp := false}) only [s_ex0, s_ex1]
    refine yd3h fun b9 h5 _ hb9 s5 c9 => yd3h fun b10 h6 _ hb10 s6 c10 => ?_
    have s46 := s5.trans s6
    have n9 : b10 ≠ b9 := fun e => by rw [e, c9] at hb10; cases hb10
    refine y1nc s46 hb9 (s6 _ _ c9) (by decide) (by simp [hwb]) rfl rfl fun h7 s7 c9 f7 => ?_
    refine y1nc s7 (Sub.none s5 hb10) ((f7 _ n9).trans c10) (by decide) rfl rfl rfl fun h8 s8 c10 f8 => ?_
    replace c9 := (f8 _ (Ne.symm n9)).trans c9
    have s48 := s4.trans s8
    have hall := (s12.trans s3).trans s48
    simp (config := {dsimp := false}) [yzql c9, hwb]
    have hm8 := hm.sub s48
    rcases yy6p (μ := μ) (pc := pc) (most := most) with ⟨hne, hev⟩ | ⟨hne, hev⟩
    · rw [hev] at c9 c10 ⊢
      refine ⟨by simp [hwb], yfp0 (hins.mono s8) (by have := yifi (μ := μ) (pc := pc) (most := most); omega) fun x h9 s9 hx => ?_⟩
      replace c9 := s9 _ _ c9
      replace c10 := s9 _ _ c10
      rw [show (if ((0, 0, 0) : Int × Int × Int).1 = 0 then pc else 0) = pc from rfl] at hx
      have hlenI := yifi (μ := μ) (pc := pc) (most := most)
      have hgood := yvki (pc := pc) (yyem (μ := μ) (pc := pc) (most := most)) hne hlenI
      have hops := y4zl (pc := pc) (l := (findF μ pc most).1)
      have hlen := yxhi (pc := pc) (l := (findF μ pc most).1)
      have hwl := fun (K : Value → Prop) (u : Dm K) => ((hins.mono s8).mono s9).ulen (K := K) (u := u)
      generalize makeN pc (findF μ pc most).1 = l at hx hgood hops hlen
      have hl1 : l.length ≤ 1000 := by omega
      simp (config := {dsimp := false}) [yb3e c10, evV, ↓yy50, ↓ytkp, ↓yqv4, ↓y19q]
      refine yo1k l.length (fun i s h' => s = (ptr b9 0, x, .int .i64 i) ∧ h' = h9) ⟨rfl, rfl⟩ ?_
      rintro i s h' K' hi ⟨rfl, rfl⟩ hk'
      have hxl := fun (K : Value → Prop) (u : Dm K) => hx.ulen (K := K) (u := u)
      by_cases hlt : i < l.length
      · have hix := fun (K : Value → Prop) (u : Dm K) => hx.ixf (k := .i64) hlt (off := 0) (w := .int .i64 l[i].op) rfl (K := K) (u := u)
        have hop := List.all_eq_true.1 hops l[i] (List.getElem_mem hlt)
        unfold opOk at hop
        simp only [Bool.or_eq_true, decide_eq_true_eq] at hop
        have w1 : IntKind.i64.wrap ((i : Int) + 1) = (i : Int) + 1 := w_i64 (by omega) (by omega)
        have hcond : ¬ (13 < l[i].op ∧ ¬ l[i].op = 21) := by omega
        simp (config := {dsimp := false}) [↓yxtf, hxl, hix, hlt, w1, hcond]
        exact hk' (ptr b9 0, x, .int .i64 ((i : Int) + 1)) _ hlt ⟨by simp, rfl⟩
      · have hle : (l.length : Int) ≤ 12 * (findF μ pc most).1.length + 2 := by omega
        have w1 : IntKind.i64.wrap (12 * ((findF μ pc most).1.length : Int)) = 12 * ((findF μ pc most).1.length : Int) := w_i64 (by omega) (by omega)
        have w2 : IntKind.i64.wrap (12 * ((findF μ pc most).1.length : Int) + 2) = 12 * ((findF μ pc most).1.length : Int) + 2 := w_i64 (by omega) (by omega)
        simp (config := {dsimp := false}) [↓yxtf, hxl, hlt, ↓y19a]
        refine ⟨by simp [hx.box], yfs3 hx (by omega) ?_⟩
        rw [hgood]
        simp (config := {dsimp := false}) [hxl, hwl, yb3e c9, w1, w2, hle]
        exact hk _ (hall.trans s9)
    · simp (config := {dsimp := false}) only [if_neg hev]
      refine ⟨by simp [hwb], yfp0 (hins.mono s8) (by rw [hne]; simp) fun x h9 s9 hx => ?_⟩
      replace c10 := s9 _ _ c10
      rw [hne] at hx
      have hxl := fun (K : Value → Prop) (u : Dm K) => hx.ulen (K := K) (u := u)
      simp (config := {dsimp := false}) [yb3e c10, evV, hev, hxl, makeN]
      exact hk _ (hall.trans s9)
end
end Go.Proofs.YtnckimioabkheaaGreat

set_option linter.unusedSimpArgs false
set_option linter.unusedVariables false
set_option maxRecDepth 100000
set_option maxHeartbeats 4000000
namespace Go.Proofs.YtnckimioabkheaaGreat
open AM
structure XC where
  m : Value
  fuel : Int
  stop : Bool
  page : Int
  gen : Int
  n : List Int
  l : List Value
  over : Bool
  e : List Value
def XC.cells (c : XC) : List Value := [c.m, .int .i64 c.fuel, .bool c.stop, .int .u32 c.page, .int .u32 c.gen] ++ (c.n.map (.int .u32) ++ (c.l ++ (.bool c.over :: c.e)))
structure XC.Ok (c : XC) : Prop where
  n : c.n.length = 256
  l : c.l.length = 1024
  e : c.e.length = 5
section
variable {c : XC}
theorem XC.len (h : c.Ok) : c.cells.length = 1291 := by
  have h1 := h.n
  have h2 := h.l
  have h3 := h.e
  simp [XC.cells, h1, h2, h3]
theorem XC.drop1285 (h : c.Ok) : c.cells.drop 1285 = .bool c.over :: c.e := by
  have h1 := h.n
  have h2 := h.l
  unfold XC.cells
  rw [← List.append_assoc, ← List.append_assoc]
  exact List.drop_left' (by simp [h1, h2])
theorem XC.at_0 : c.cells[0]? = some c.m := rfl
theorem XC.at_1 : c.cells[1]? = some (.int .i64 c.fuel) := rfl
theorem XC.at_3 : c.cells[3]? = some (.int .u32 c.page) := rfl
theorem XC.at_4 : c.cells[4]? = some (.int .u32 c.gen) := rfl
theorem XC.at_over (h : c.Ok) : c.cells[1285]? = some (.bool c.over) := by
  have := List.getElem?_drop (xs := c.cells) (i := 1285) (j := 0)
  rw [XC.drop1285 h] at this
  exact this.symm
theorem XC.set_over (h : c.Ok) {b : Bool} : c.cells.set 1285 (.bool b) = { c with over := b }.cells := by
  have h1 := h.n
  have h2 := h.l
  unfold XC.cells
  rw [yavo (by simp), yavo (by simp [h1]), yavo (by simp [h1, h2])]
  simp [h1, h2]
theorem XC.set_e (h : c.Ok) {e : List Value} (he : e.length = 5) : setL c.cells 1286 e = { c with e := e }.cells := by
  have h1 := h.n
  have h2 := h.l
  rw [yvpm (by rw [XC.len h]; omega)]
  unfold XC.cells
  rw [List.take_append, List.take_append, List.take_append, List.take_of_length_le (by simp), List.take_of_length_le (by simp [h1]), List.take_of_length_le (by simp [h1, h2])]
  simp [h1, h2]
end
theorem MemAt.over {h : H} {D : MD} {μ : MS} (hm : MemAt D h μ) {b : Nat} {q : AObj} (hb : ¬ MOwn D μ b) : MemAt D (upd h b q) μ := by
  have e : ∀ c, MOwn D μ c → upd h b q c = h c := fun c hc => yrkk _ _ fun he => hb (he ▸ hc)
  refine ⟨?_, ?_, ?_, ?_⟩
  · rw [e _ (.inl rfl)]; exact hm.q
  · obtain ⟨ck, hh⟩ := hm.pm
    exact ⟨ck, by rw [e _ (.inr (.inl rfl))]; exact hh⟩
  · obtain ⟨ck, hh⟩ := hm.gm
    exact ⟨ck, by rw [e _ (.inr (.inr (.inl rfl)))]; exact hh⟩
  · intro p hp
    rw [e _ (.inr (.inr (.inr ⟨p, hp, rfl⟩)))]; exact hm.pg p hp
section
variable {h : H} {K : K1}
theorem y9kg {b : Nat} {nd : Nd} (ho : ¬ (1 ≤ nd.op ∧ nd.op ≤ 5)) (hk : ∀ h', Sub h h' → K (.bool false) h') : AM.Spec PG yinw [ptr b 0, .agg nd.cells.toArray] h K := by
  refine yqpf _ _ _ _ ?_
  unfold yxl5 yglw
  refine ⟨rfl, yd3h fun b3 h1 _ _ s1 c1 => ?_⟩
  have o1 : ¬ nd.op = 1 := by omega
  have o2 : ¬ nd.op = 2 := by omega
  have o3 : ¬ nd.op = 3 := by omega
  have o4 : ¬ nd.op = 4 := by omega
  have o5 : ¬ nd.op = 5 := by omega
  simp (config := {dsimp := false}) [↓yimd, ↓ycji, ↓yxmw, ↓yqpa, ↓yrks, ↓yqb7, ↓ye2q, ↓yqtx, ↓ygh1, ↓y8tj, ↓yw2y, ↓y2gx, ↓y7j1, ↓yo2m, yb3e c1, Nd.cells, o1, o2, o3, o4, o5]
  exact hk h1 s1
theorem y0ok {b : Nat} {nd : Nd} (ho : ¬ (14 ≤ nd.op ∧ nd.op ≤ 19)) (hk : ∀ h', Sub h h' → K (.bool false) h') : AM.Spec PG yebn [ptr b 0, .agg nd.cells.toArray] h K := by
  refine yfrs _ _ _ _ ?_
  unfold yy26 yyr6
  refine ⟨rfl, yd3h fun b3 h1 _ _ s1 c1 => ?_⟩
  have o1 : ¬ nd.op = 14 := by omega
  have o2 : ¬ nd.op = 15 := by omega
  have o3 : ¬ nd.op = 16 := by omega
  have o4 : ¬ nd.op = 17 := by omega
  have o5 : ¬ nd.op = 19 := by omega
  simp (config := {dsimp := false}) [↓yckj, ↓y2ez, ↓y8ky, ↓ytpj, ↓yk4v, ↓yfjm, ↓yj9p, ↓ydbx, ↓y9bv, ↓y56s, ↓yv0x, ↓ynoo, ↓yrzr, ↓ybkv, yb3e c1, Nd.cells, o1, o2, o3, o4, o5]
  exact hk h1 s1
def endC (k pc f s : Int) (d : Bool) : List Value := [.int .i64 k, .int .u32 pc, .int .i64 f, .int .i64 s, .bool d]
theorem gS_ff {α : Type} {z : α} {op : (α → H → Prop) → Prop} {K : α → H → Prop} {u : Dm (Value.bool false, (op, K))} : y498 z (.bool false) false op K h u = op K := rfl
theorem y1rg {b i : Nat} {cs : List Value} {E : TypeId} {m : AM.Own} {v : Value} (hb : h b = some (.cells cs E m)) (hv : cs[i]? = some v) {K : Value → Prop} {u : Dm K} : ybqh false 1 (.pointer (some ⟨b, i, none⟩)) h K u = K v := by
  simp [yb3e hb, hv]
theorem load5 {b : Nat} {k pc f s : Int} {d : Bool} {E : TypeId} {m : AM.Own} {K : Value → Prop} {u : Dm K} (hb : h b = some (.cells (endC k pc f s d) E m)) : ybqh true 5 (.pointer (some ⟨b, 0, none⟩)) h K u = K (.agg (endC k pc f s d).toArray) := by
  simp [yzql hb, endC]
theorem y5jy {br : Nat} {X : XC} {m : AM.Own} {k pc f s : Int} {d : Bool} (hb : h br = some (.cells X.cells ysiy m)) (hm : m ≠ .ro) (ho : X.Ok)
    (hk : ∀ h', h' br = some (.cells ({ X with over := true, e := endC k pc f s d } : XC).cells ysiy m) → Fr (· = br) h h' → K (.tuple #[]) h') : AM.Spec PG yfrg [ptr br 0, .agg (endC k pc f s d).toArray] h K := by
  refine ym9s _ _ _ _ ?_
  unfold ypv2 ymow
  refine ⟨rfl, yd3h fun b3 h1 _ hb3 s1 c1 => ?_⟩
  have hb1 := s1 _ _ hb
  have hlen := XC.len ho
  have ne : b3 ≠ br := fun e => by rw [e, hb] at hb3; cases hb3
  have ho2 : ({ X with over := true } : XC).Ok := ⟨ho.n, ho.l, ho.e⟩
  have st1 : ∀ (K : H → Prop) (u : Dm K), ylel 1 (.pointer (some ⟨br, 1285, none⟩)) (.bool true) h1 K u = K (upd h1 br (.cells ({ X with over := true } : XC).cells ysiy m)) := fun K u =>
    ypi4 hb1 hm rfl rfl (by omega) (XC.set_over ho)
  have c2 : upd h1 br (.cells ({ X with over := true } : XC).cells ysiy m) b3 = some (.cells (endC k pc f s d) yqha .exact) := (yrkk _ _ ne).trans c1
  have hb2 := yy0e h1 br (.cells ({ X with over := true } : XC).cells ysiy m)
  have hlen2 := XC.len ho2
  have fin : ∀ (K : H → Prop) (u : Dm K), K (upd h1 br (.cells ({ X with over := true, e := endC k pc f s d } : XC).cells ysiy m)) → u_st 5 1286 (.pointer (some ⟨br, 0, none⟩)) (.agg (endC k pc f s d).toArray) (upd h1 br (.cells ({ X with over := true } : XC).cells ysiy m)) K u := fun K u hK => by
    rw [s_st, ykdp, hb2]
    refine ⟨hm, rfl, rfl, by omega, ?_⟩
    rw [show (Value.agg (endC k pc f s d).toArray).cells.toList = endC k pc f s d from rfl]
    simp only [Nat.zero_add]
    rw [XC.set_e ho2 rfl, ydx1]
    exact hK
  have hfr : Fr (· = br) h (upd h1 br (.cells ({ X with over := true, e := endC k pc f s d } : XC).cells ysiy m)) := fun c o hc hh => (yrkk _ _ hc).trans (s1 _ _ hh)
  have hK := hk _ (yy0e _ _ _) hfr
  have c1' : h1 b3 = some (.cells (endC k pc f s d) yqha .exact) := c1
  unfold yor2
  simp (config := {dsimp := false}) only [s_nil, s_fa, Nat.zero_add]
  refine ⟨?_, ?_⟩
  · rw [load5 c1', st1]
    exact fin _ .mk hK
  · rw [st1, load5 c2]
    exact fin _ .mk hK
theorem y7tq {br : Nat} {X : XC} {m : AM.Own} {k pc f : Int} (hb : h br = some (.cells X.cells ysiy m)) (hm : m ≠ .ro) (ho : X.Ok)
    (hk : ∀ h', h' br = some (.cells ({ X with over := true, e := endC k pc f 0 false } : XC).cells ysiy m) → Fr (· = br) h h' → K (.tuple #[]) h') : AM.Spec PG yhb9 [ptr br 0, .int .i64 k, .int .u32 pc, .int .i64 f] h K := by
  refine yb17 _ _ _ _ _ _ ?_
  simp (config := {dsimp := false}) [↓y6it, ↓yswl]
  refine ⟨rfl, y5jy hb hm ho fun h' a b => ?_⟩
  exact hk h' a b
theorem yjsz {br bm : Nat} {X : XC} {C : MC} {m m' : AM.Own} {nd : Nd} (hb : h br = some (.cells X.cells ysiy m)) (hm : m ≠ .ro) (ho : X.Ok) (hX : X.m = ptr bm 0) (hc : h bm = some (.cells C.cells ynne m')) (hC : C.Ok) (hop : nd.op = 13) (hv : 0 ≤ nd.v ∧ nd.v < 4294967296)
    (hk : ∀ h', h' br = some (.cells ({ X with over := true, e := endC nd.v C.pc 0 0 false } : XC).cells ysiy m) → Fr (· = br) h h' → K (.tuple #[]) h') : AM.Spec PG yduv [ptr br 0, .agg nd.cells.toArray] h K := by
  refine ynag _ _ _ _ ?_
  unfold ywmd yr0i
  refine ⟨rfl, yd3h fun b3 h1 _ hb3 s1 c1 => ?_⟩
  have hb1 := s1 _ _ hb
  have hc1 := s1 _ _ hc
  have x0 : X.cells[0]? = some (ptr bm 0) := by rw [XC.at_0, hX]
  have w1 : IntKind.i64.wrap nd.v = nd.v := w_i64 (by omega) (by omega)
  have p0 := MC.at_pc hC
  simp (config := {dsimp := false}) [↓yv8f, ↓ys7a, ↓yw2v, ↓y024, ↓yqh2, ↓yiaa, ↓yqun, ↓ylxu, ↓ybtx, ↓yrkp, yb3e c1, Nd.cells, hop, yb3e hb1, x0, yb3e hc1, p0, w1]
  refine ⟨rfl, y7tq hb1 hm ho fun h2 b2 f2 => ?_⟩
  exact hk h2 b2 fun c o hc hh => f2 _ _ hc (s1 _ _ hh)
theorem y50k {br bm : Nat} {X : XC} {C : MC} {D : MD} {μ : MS} {m m' : AM.Own} {nd : Nd} (hb : h br = some (.cells X.cells ysiy m)) (hX : X.m = ptr bm 0) (hc : h bm = some (.cells C.cells ynne m')) (hm : m' ≠ .ro) (hC : C.Ok) (hq : C.q = ptr D.q 0) (hmem : MemAt D h μ)
    (hret : C.ret < X.fuel) (hgen : (fnd (yovn X.page) μ.gens).getD 0 = X.gen)
    (hk : ∀ h', h' bm = some (.cells ({ C with pc := nd.v } : MC).cells ynne m') → Fr (· = bm) h h' → K (.tuple #[]) h') : AM.Spec PG ys9t [ptr br 0, .agg nd.cells.toArray] h K := by
  refine ydx0 _ _ _ _ ?_
  unfold ylyv ydv2
  refine ⟨rfl, yd3h fun b3 h1 _ hb3 s1 c1 => ?_⟩
  have hb1 := s1 _ _ hb
  have hc1 := s1 _ _ hc
  have x0 : X.cells[0]? = some (ptr bm 0) := by rw [XC.at_0, hX]
  have hmem1 : MemAt D h1 μ := hmem.sub s1
  have nbr : br ≠ bm := fun e => by rw [e, hc] at hb; simp only [Option.some.injEq, AObj.cells.injEq] at hb; exact absurd hb.2.1 (by decide)
  have hlen := MC.len hC
  have stq : ∀ (K : H → Prop) (u : Dm K), u_st 1 32 (.pointer (some ⟨bm, 2, none⟩)) (.int .u32 nd.v) h1 K u = K (upd h1 bm (.cells ({ C with pc := nd.v } : MC).cells ynne m')) := fun K u => by
    rw [s_st]; exact ypi4 hc1 hm rfl rfl (by omega) (MC.set_pc hC)
  simp (config := {dsimp := false}) [↓y1wr, ↓y8zn, yb3e c1, Nd.cells, yb3e hb1, x0, stq]
  have hb2 := (yrkk h1 (.cells ({ C with pc := nd.v } : MC).cells ynne m') nbr).trans hb1
  have hc2 := yy0e h1 bm (.cells ({ C with pc := nd.v } : MC).cells ynne m')
  have hmem2 : MemAt D (upd h1 bm (.cells ({ C with pc := nd.v } : MC).cells ynne m')) μ := hmem1.over (hmem1.other hc1 (by decide) (by decide))
  have hfr : Fr (· = bm) h (upd h1 bm (.cells ({ C with pc := nd.v } : MC).cells ynne m')) := fun c o hcc hh => (yrkk _ _ hcc).trans (s1 _ _ hh)
  have hK := hk _ hc2 hfr
  generalize upd h1 bm _ = h2 at *
  have hC2 : ({ C with pc := nd.v } : MC).Ok := ⟨hC.x, hC.t⟩
  have r0 := MC.at_ret hC2
  have q0 : ({ C with pc := nd.v } : MC).cells[0]? = some (ptr D.q 0) := by rw [MC.at_0, ← hq]
  have x1 := XC.at_1 (c := X)
  have x3 := XC.at_3 (c := X)
  have x4 := XC.at_4 (c := X)
  have c4 : ¬ X.fuel ≤ C.ret := by omega
  simp (config := {dsimp := false}) [↓yk6l, ↓y1fv, yb3e hb2, yb3e hc2, x0, x1, x3, x4, r0, q0, c4]
  have d4 : decide (X.fuel ≤ C.ret) = false := decide_eq_false c4
  rw [d4, gS_ff]
  simp (config := {dsimp := false}) only [↓s_gff, s_pf, s_nil, s_fa, y1rg hb2 x0, y1rg hc2 q0, y1rg hb2 x3, y1rg hb2 x4, Nat.zero_add, Nat.add_zero]
  refine ⟨⟨rfl, ycvw hmem2 ?_⟩, ⟨rfl, ycvw hmem2 ?_⟩⟩
  · rw [hgen]
    simp (config := {dsimp := false}) [↓yx3d]
    exact hK
  · rw [hgen]
    simp (config := {dsimp := false}) [↓yx3d, yb3e hb2, x4]
    exact hK
theorem yb0k {br bm : Nat} {X : XC} {C : MC} {D : MD} {μ : MS} {m m' : AM.Own} {nd : Nd} (hop : nd.op = 8) (hb : h br = some (.cells X.cells ysiy m)) (hX : X.m = ptr bm 0) (hc : h bm = some (.cells C.cells ynne m')) (hm : m' ≠ .ro) (hC : C.Ok) (hq : C.q = ptr D.q 0) (hmem : MemAt D h μ)
    (hret : C.ret < X.fuel) (hgen : (fnd (yovn X.page) μ.gens).getD 0 = X.gen)
    (hk : ∀ h', h' bm = some (.cells ({ C with pc := nd.v } : MC).cells ynne m') → Fr (· = bm) h h' → K (.tuple #[]) h') : AM.Spec PG yo19 [ptr br 0, .agg nd.cells.toArray] h K := by
  refine ymat _ _ _ _ ?_
  unfold yyqe ytdg
  refine ⟨rfl, yd3h fun b3 h1 _ hb3 s1 c1 => ?_⟩
  have n1 : ¬ (1 ≤ nd.op ∧ nd.op ≤ 5) := by omega
  have n2 : ¬ (14 ≤ nd.op ∧ nd.op ≤ 19) := by omega
  have ld : ∀ {h' : H}, Sub h1 h' → ∀ (K : Value → Prop) (u : Dm K), ybqh true 5 (.pointer (some ⟨b3, 0, none⟩)) h' K u = K (.agg nd.cells.toArray) := fun s K u => by
    have := s _ _ c1
    simp [yzql this, Nd.cells]
  rw [ld (Sub.refl _)]
  refine ⟨rfl, y9kg n1 fun h2 s2 => ?_⟩
  simp (config := {dsimp := false}) only [↓s_gff]
  rw [ld s2]
  refine ⟨rfl, y0ok n2 fun h3 s3 => ?_⟩
  have c3 := (s2.trans s3) _ _ c1
  have op3 : nd.cells[0]? = some (.int .i64 8) := by rw [← hop]; rfl
  have c3' : h3 b3 = some (.cells nd.cells yq0s .exact) := c3
  have s03 := s1.trans (s2.trans s3)
  have hcs : cellsAt h3 b3 0 5 = some nd.cells := by rw [yzql c3']; rfl
  simp (config := {dsimp := false}) [yb3e c3', op3, hcs]
  refine ⟨rfl, y50k (s03 _ _ hb) hX (s03 _ _ hc) hm hC hq (hmem.sub s03) hret hgen fun h4 e4 f4 => ?_⟩
  exact hk h4 e4 fun c o hcc hh => f4 _ _ hcc (s03 _ _ hh)
theorem ytf9 {br bm : Nat} {X : XC} {C : MC} {m m' : AM.Own} {nd : Nd} (hop : nd.op = 13) (hv : 0 ≤ nd.v ∧ nd.v < 4294967296) (hb : h br = some (.cells X.cells ysiy m)) (hm : m ≠ .ro) (ho : X.Ok) (hX : X.m = ptr bm 0) (hc : h bm = some (.cells C.cells ynne m')) (hC : C.Ok)
    (hk : ∀ h', h' br = some (.cells ({ X with over := true, e := endC nd.v C.pc 0 0 false } : XC).cells ysiy m) → Fr (· = br) h h' → K (.tuple #[]) h') : AM.Spec PG yo19 [ptr br 0, .agg nd.cells.toArray] h K := by
  refine ymat _ _ _ _ ?_
  unfold yyqe ytdg
  refine ⟨rfl, yd3h fun b3 h1 _ hb3 s1 c1 => ?_⟩
  have n1 : ¬ (1 ≤ nd.op ∧ nd.op ≤ 5) := by omega
  have n2 : ¬ (14 ≤ nd.op ∧ nd.op ≤ 19) := by omega
  have ld : ∀ {h' : H}, Sub h1 h' → ∀ (K : Value → Prop) (u : Dm K), ybqh true 5 (.pointer (some ⟨b3, 0, none⟩)) h' K u = K (.agg nd.cells.toArray) := fun s K u => by
    have := s _ _ c1
    simp [yzql this, Nd.cells]
  rw [ld (Sub.refl _)]
  refine ⟨rfl, y9kg n1 fun h2 s2 => ?_⟩
  simp (config := {dsimp := false}) only [↓s_gff]
  rw [ld s2]
  refine ⟨rfl, y0ok n2 fun h3 s3 => ?_⟩
  have c3 := (s2.trans s3) _ _ c1
  have op3 : nd.cells[0]? = some (.int .i64 13) := by rw [← hop]; rfl
  have c3' : h3 b3 = some (.cells nd.cells yq0s .exact) := c3
  have s03 := s1.trans (s2.trans s3)
  have hcs : cellsAt h3 b3 0 5 = some nd.cells := by rw [yzql c3']; rfl
  simp (config := {dsimp := false}) [yb3e c3', op3, hcs]
  refine ⟨rfl, yjsz (s03 _ _ hb) hm ho hX (s03 _ _ hc) hC hop hv fun h4 e4 f4 => ?_⟩
  exact hk h4 e4 fun c o hcc hh => f4 _ _ hcc (s03 _ _ hh)
end
end Go.Proofs.YtnckimioabkheaaGreat

set_option linter.unusedSimpArgs false
set_option linter.unusedVariables false
set_option maxRecDepth 100000
set_option maxHeartbeats 4000000
namespace Go.Proofs.YtnckimioabkheaaGreat
open AM
def xc0 (m : Option Addr) (fuel : Int) (stop : Bool) (page gen : Int) : XC := ⟨.pointer m, fuel, stop, page, gen, zeros 256, List.replicate 1024 (.int .u8 0), false, endC 0 0 0 0 false⟩
theorem ybc5 {m : Option Addr} {fuel page gen : Int} {stop : Bool} : (xc0 m fuel stop page gen).Ok := ⟨List.length_replicate, List.length_replicate, rfl⟩
theorem ymyj {a0 : Option Addr} {a1 a3 a4 : Int} {a2 : Bool} {K : Value → Prop} {u : Dm K} : ysnr PG ysiy [(0, .pointer a0), (1, .int .i64 a1), (2, .bool a2), (3, .int .u32 a3), (4, .int .u32 a4)] K u = K (.agg (xc0 a0 a1 a2 a3 a4).cells.toArray) := by kernel_rfl
theorem yjs8 {a0 : Option Addr} {a1 a3 a4 : Int} {a2 : Bool} : boxV (.agg (xc0 a0 a1 a2 a3 a4).cells.toArray) = true := by kernel_rfl
theorem yuk8 {a0 : Option Addr} {a1 a3 a4 : Int} {a2 : Bool} : (Value.agg (xc0 a0 a1 a2 a3 a4).cells.toArray).cells.toList = (xc0 a0 a1 a2 a3 a4).cells := by kernel_rfl
theorem ynae {α : Type} {enc : α → List Value} {sz : Nat} {h : H} {v : Value} {l : List α} (hs : Sl enc sz h v l) {i : Nat} (hi : i < l.length) : ∃ b o, (∀ (k : IntKind) (K : Value → Prop) (u : Dm K), yji6 none sz v (.int k i) K u = K (.pointer (some ⟨b, o, none⟩))) ∧ cellsAt h b o sz = some (enc l[i]) := by
  obtain ⟨b, o, h1, h2⟩ := hs.at hi
  exact ⟨b, o, fun k K u => h1 k K, h2⟩
theorem MemAt.fr {h h' : H} {D : MD} {μ : MS} {b : Nat} (hm : MemAt D h μ) (hf : Fr (· = b) h h') (hb : ¬ MOwn D μ b) : MemAt D h' μ := by
  have e : ∀ c, MOwn D μ c → c ≠ b := fun c hc he => hb (he ▸ hc)
  obtain ⟨c1, h1⟩ := hm.pm
  obtain ⟨c2, h2⟩ := hm.gm
  exact ⟨hf _ _ (e _ (.inl rfl)) hm.q, ⟨c1, hf _ _ (e _ (.inr (.inl rfl))) h1⟩, ⟨c2, hf _ _ (e _ (.inr (.inr (.inl rfl)))) h2⟩, fun p hp => hf _ _ (e _ (.inr (.inr (.inr ⟨p, hp, rfl⟩)))) (hm.pg p hp)⟩
theorem yfv7 {α : Type} {enc : α → List Value} {sz : Nat} {e : TypeId} {g h h' : H} {v : Value} {l : List α} (hg : Gr enc sz e g h v l) (hs : ∀ c cs, h c = some (.cells cs e .open) → h' c = some (.cells cs e .open)) : Gr enc sz e g h' v l :=
  hg.keep fun b hb => (hs _ _ (hg.isOpen hb)).trans (hg.isOpen hb).symm
section
variable {h : H} {K : K1}
theorem y2bf {b o n : Nat} {l : List Value} {K : Value → Prop} {u : Dm K} (hc : cellsAt h b o n = some l) : ybqh true n (.pointer (some ⟨b, o, none⟩)) h K u = K (.agg l.toArray) := by
  simp [hc]
theorem ykeu {b : Nat} {nd : Nd} {E : TypeId} {m : AM.Own} {K : Value → Prop} {u : Dm K} (hb : h b = some (.cells (Value.agg nd.cells.toArray).cells.toList E m)) : ybqh true 5 (.pointer (some ⟨b, 0, none⟩)) h K u = K (.agg nd.cells.toArray) := by
  have hb' : h b = some (.cells nd.cells E m) := hb
  simp [yzql hb', Nd.cells]
theorem ytd3 {g : H} {br bm b8 : Nat} {v : Value} {a e : Int} {X : XC} {C : MC} {D : MD} {μ : MS} {m : AM.Own} (hg : Gr Nd.cells 5 yq0s g h v [⟨8, 0, 0, 0, a⟩, ⟨13, 0, 0, 0, e⟩]) (he : 0 ≤ e ∧ e < 4294967296)
    (hc : h bm = some (.cells C.cells ynne m)) (hm : m ≠ .ro) (hC : C.Ok) (hq : C.q = ptr D.q 0) (hmem : MemAt D h μ) (hret : C.ret < X.fuel)
    (hb : h br = some (.cells X.cells ysiy .exact)) (ho : X.Ok) (hX : X.m = ptr bm 0) (hov : X.over = false) (hgen : (fnd (yovn X.page) μ.gens).getD 0 = X.gen)
    (h8 : h b8 = some (.cells (endC 0 0 0 0 false) yqha .exact))
    (hk : ∀ h', h' bm = some (.cells ({ C with pc := a } : MC).cells ynne m) → (∀ c o, c ≠ bm → c ≠ br → c ≠ b8 → h c = some o → h' c = some o) → K (.agg (endC e a 0 0 false).toArray) h') :
    y1ib v (ptr b8 0) (ptr br 0) undef h (fun y8 y48 h => o_ret y48 h fun h => ybqh true 5 y8 h fun v => K v h) (fun y8 y48 h => o_ret y48 h fun h => ybqh true 5 y8 h fun v => K v h) := by
  have nbm : br ≠ bm := fun e => by rw [e, hc] at hb; simp only [Option.some.injEq, AObj.cells.injEq] at hb; exact absurd hb.2.1 (by decide)
  have n8m : b8 ≠ bm := fun e => by rw [e, hc] at h8; simp only [Option.some.injEq, AObj.cells.injEq] at h8; exact absurd h8.2.1 (by decide)
  have n8r : b8 ≠ br := fun e => by rw [e, hb] at h8; simp only [Option.some.injEq, AObj.cells.injEq] at h8; exact absurd h8.2.1 (by decide)
  have nown : ¬ MOwn D μ bm := hmem.other hc (by decide) (by decide)
  have hul := fun (K : Value → Prop) (u : Dm K) => hg.sl.ulen (K := K) (u := u)
  unfold y1ib y92s yd0v y11e
  rw [hul]
  refine yo1k 1 (fun i s h' => s = (ptr b8 0, ptr br 0, v, .int .i64 2, .int .i64 i, undef) ∧ h' bm = some (.cells ({ C with pc := if i = 0 then C.pc else a } : MC).cells ynne m) ∧ Fr (· = bm) h h') ⟨rfl, hc, fun _ _ _ hh => hh⟩ ?_
  rintro i s h' K' hi ⟨rfl, hc', hf⟩ hk'
  have hg' := yfv7 hg fun c cs hh => hf _ _ (fun e => by rw [e, hc] at hh; simp only [Option.some.injEq, AObj.cells.injEq] at hh; exact absurd hh.2.1 (by decide)) hh
  have hb' := hf _ _ nbm hb
  have h8' := hf _ _ n8m h8
  have hm' := hmem.fr hf nown
  match i, hi with
  | 0, _ =>
    have hix := fun (K : Value → Prop) (u : Dm K) => hg'.sl.ixA (k := .i64) (i := 0) (by simp) (K := K) (u := u)
    simp only [List.getElem_cons_zero, Int.natCast_zero] at hix
    refine (show yket (ptr b8 0) (ptr br 0) v (.int .i64 2) (.int .i64 0) undef h' _ _ _ from ?_)
    unfold yket
    simp (config := {dsimp := false}) only [s_lss, s_if]
    rw [if_pos (by decide), hix]
    refine yd3h fun b11 h2 _ hb11 s2 c11 => y1nc s2 hb11 c11 (by decide) rfl rfl rfl fun h3 s3 c3 f3 => ?_
    rw [ykeu c3]
    refine ⟨rfl, yb0k rfl (s3 _ _ hb') hX (s3 _ _ hc') hm (C := { C with pc := C.pc }) hC hq (hm'.sub s3) hret hgen fun h4 e4 f4 => ?_⟩
    have hb4 := f4 _ _ nbm (s3 _ _ hb')
    have o4 : X.cells[1285]? = some (.bool false) := by rw [XC.at_over ho, hov]
    simp (config := {dsimp := false}) [yb3e hb4, o4]
    exact hk' (ptr b8 0, ptr br 0, v, .int .i64 2, .int .i64 1, undef) h4 (by decide) ⟨rfl, e4, fun c o hcc hh => f4 _ _ hcc (s3 _ _ (hf _ _ hcc hh))⟩
  | 1, _ =>
    have hix := fun (K : Value → Prop) (u : Dm K) => hg'.sl.ixA (k := .i64) (i := 1) (by simp) (K := K) (u := u)
    simp only [List.getElem_cons_zero, List.getElem_cons_succ, Int.natCast_one] at hix
    refine (show yket (ptr b8 0) (ptr br 0) v (.int .i64 2) (.int .i64 1) undef h' _ _ _ from ?_)
    unfold yket
    simp (config := {dsimp := false}) only [s_lss, s_if]
    rw [if_pos (by decide), hix]
    refine yd3h fun b11 h2 _ hb11 s2 c11 => y1nc s2 hb11 c11 (by decide) rfl rfl rfl fun h3 s3 c3 f3 => ?_
    rw [ykeu c3]
    refine ⟨rfl, ytf9 rfl he (s3 _ _ hb') (by decide) ho hX (s3 _ _ hc') (C := { C with pc := a }) ⟨hC.x, hC.t⟩ fun h4 e4 f4 => ?_⟩
    have ho4 : ({ X with over := true, e := endC e a 0 0 false } : XC).Ok := ⟨ho.n, ho.l, rfl⟩
    have o4 := XC.at_over ho4
    have h84 := f4 _ _ n8r (s3 _ _ h8')
    simp (config := {dsimp := false}) [yb3e e4, o4]
    have hcs := yzql e4 (i := 1286) (n := 5)
    rw [XC.len ho4, if_pos (by decide), show ((({ X with over := true, e := endC e a 0 0 false } : XC).cells.drop 1286).take 5) = endC e a 0 0 false by
      rw [show 1286 = 1285 + 1 from rfl, ← List.drop_drop, XC.drop1285 ho4]; rfl] at hcs
    unfold yhe0
    simp (config := {dsimp := false}) only [s_pf, Nat.zero_add]
    rw [y2bf hcs]
    rw [ykdp, h84]
    refine ⟨by decide, rfl, rfl, by decide, ?_⟩
    have c8' : upd h4 b8 (.cells (endC e a 0 0 false) yqha .exact) b8 = some (.cells (endC e a 0 0 false) yqha .exact) := yy0e _ _ _
    refine (show ybqh true 5 (ptr b8 0) (upd h4 b8 (.cells (endC e a 0 0 false) yqha .exact)) (fun v => K v (upd h4 b8 (.cells (endC e a 0 0 false) yqha .exact))) from ?_)
    rw [load5 c8']
    refine hk _ ?_ fun c o n1 n2 n3 hh => ?_
    · rw [yrkk _ _ (Ne.symm n8m)]
      exact f4 _ _ (Ne.symm nbm) (s3 _ _ hc')
    · rw [yrkk _ _ n3]
      exact f4 _ _ n2 (s3 _ _ (hf _ _ n1 hh))
theorem yjk2 {g : H} {bm : Nat} {v : Value} {fuel a e : Int} {stop : Bool} {C : MC} {D : MD} {μ : MS} {m : AM.Own} (hg : Gr Nd.cells 5 yq0s g h v [⟨8, 0, 0, 0, a⟩, ⟨13, 0, 0, 0, e⟩]) (he : 0 ≤ e ∧ e < 4294967296)
    (hc : h bm = some (.cells C.cells ynne m)) (hm : m ≠ .ro) (hC : C.Ok) (hq : C.q = ptr D.q 0) (hmem : MemAt D h μ) (hret : C.ret < fuel)
    (hk : ∀ h', h' bm = some (.cells ({ C with pc := a } : MC).cells ynne m) → Fr (· = bm) h h' → K (.agg (endC e a 0 0 false).toArray) h') :
    AM.Spec PG yzuk [ptr bm 0, v, .int .i64 fuel, .bool stop] h K := by
  refine yn0z _ _ _ _ _ _ ?_
  unfold y0c7 y9hi
  refine yd3h fun b8 h1 _ hb8 s1 c8 => ?_
  have hg1 := yfv7 hg fun c cs hh => s1 _ _ hh
  have hc1 := s1 _ _ hc
  have hm1 := hmem.sub s1
  obtain ⟨ib, io, hia, hcs⟩ := ynae hg1.sl (i := 0) (by simp)
  have hix0 : ∀ (K : Value → Prop) (u : Dm K), u_ixf false 1 4 none 5 v (.int .i64 0) h1 K u = K (.int .u32 a) := fun K u => hg1.sl.ixf (k := .i64) (i := 0) (off := 4) (w := .int .u32 a) (by simp) rfl (K := K) (u := u)
  have hld : ∀ {h' : H}, Sub h1 h' → ∀ (K : Value → Prop) (u : Dm K), ybqh false 1 (.pointer (some ⟨ib, io + 4, none⟩)) h' K u = K (.int .u32 a) := fun s K u => by
    have := yg2r (m := 4) (s.cellsAt hcs) (by decide)
    simp [this, Nd.cells]
  have q0 : C.cells[0]? = some (ptr D.q 0) := by rw [MC.at_0, hq]
  generalize hgn : (fnd (yovn a) μ.gens).getD 0 = gn at *
  have hgo := fun (K : K1) (hk : K (.int .u32 gn) h1) => ycvw (D := D) (a := a) hm1 (K := K) (by rw [hgn]; exact hk)
  have run : ∀ b29 h2, h1 b29 = none → Sub h1 h2 → h2 b29 = some (.cells (xc0 (some ⟨bm, 0, none⟩) fuel stop a gn).cells ysiy .exact) →
      y1ib v (ptr b8 0) (ptr b29 0) undef h2 (fun y8 y48 h => o_ret y48 h fun h => ybqh true 5 y8 h fun v => K v h) (fun y8 y48 h => o_ret y48 h fun h => ybqh true 5 y8 h fun v => K v h) := fun b29 h2 hb29 s2 c29 => by
    have s12 := s1.trans s2
    refine ytd3 (yfv7 hg fun c cs hh => s12 _ _ hh) he (s12 _ _ hc) hm hC hq (hmem.sub s12) hret c29 ybc5 rfl rfl hgn (s2 _ _ c8) fun h' e' f' => ?_
    refine hk h' e' fun c o hcc hh => f' _ _ hcc (fun e => ?_) (fun e => ?_) (s12 _ _ hh)
    · rw [e] at hh
      have := s1 _ _ hh
      rw [hb29] at this; cases this
    · rw [e, hb8] at hh; cases hh
  unfold ymh3 yidf
  have hia0 : ∀ (K : Value → Prop) (u : Dm K), yji6 none 5 v (.int .i64 0) K u = K (.pointer (some ⟨ib, io, none⟩)) := fun K u => hia .i64 K u
  rw [hia0]
  simp (config := {dsimp := false}) only [s_fa, s_pf, y1rg hc1 q0, hix0, Nat.zero_add]
  refine ⟨?_, ?_⟩
  · rw [hld (Sub.refl _)]
    refine ⟨rfl, hgo _ ?_⟩
    rw [ymyj, yuk8]
    exact ⟨yjs8, yd3h fun b29 h2 _ hb29 s2 c29 => run b29 h2 hb29 s2 c29⟩
  · refine ⟨rfl, hgo _ ?_⟩
    rw [hld (Sub.refl _), ymyj, yuk8]
    exact ⟨yjs8, yd3h fun b29 h2 _ hb29 s2 c29 => run b29 h2 hb29 s2 c29⟩
theorem ykhn {g : H} {bm : Nat} {v : Value} {fuel a e : Int} {stop : Bool} {C : MC} {D : MD} {μ : MS} {m : AM.Own} (hg : Gr Nd.cells 5 yq0s g h v [⟨8, 0, 0, 0, a⟩, ⟨13, 0, 0, 0, e⟩]) (hgood : goodB [⟨8, 0, 0, 0, a⟩, ⟨13, 0, 0, 0, e⟩] = true) (he : 0 ≤ e ∧ e < 4294967296)
    (hc : h bm = some (.cells C.cells ynne m)) (hm : m ≠ .ro) (hC : C.Ok) (hq : C.q = ptr D.q 0) (hmem : MemAt D h μ) (hret : C.ret < fuel)
    (hk : ∀ h', h' bm = some (.cells ({ C with pc := a } : MC).cells ynne m) → Fr (· = bm) h h' → K (.agg (endC e a 0 0 false).toArray) h') :
    AM.Spec PG yv3a [ptr bm 0, v, .int .i64 fuel, .bool stop] h K := by
  refine y5x6 _ _ _ _ _ _ ?_
  unfold yc6k yeov
  refine yd3h fun b8 h1 _ hb8 s1 c8 => ?_
  have hg1 := yfv7 hg fun c cs hh => s1 _ _ hh
  have hvb := hg1.sl.box
  refine ⟨by simp [hvb], yfs3 hg1.sl (by simp) ?_⟩
  rw [hgood]
  simp (config := {dsimp := false}) only [s_not, s_if]
  rw [if_neg (by decide)]
  refine ⟨by simp [hvb], yjk2 hg1 he (s1 _ _ hc) hm hC hq (hmem.sub s1) hret fun h2 e2 f2 => ?_⟩
  have n8 : b8 ≠ bm := fun e => by rw [e, hc] at hb8; cases hb8
  have h8 := f2 _ _ n8 c8
  rw [ykdp, h8]
  refine ⟨by decide, rfl, rfl, by decide, ?_⟩
  have c8' : upd h2 b8 (.cells (endC e a 0 0 false) yqha .exact) b8 = some (.cells (endC e a 0 0 false) yqha .exact) := yy0e _ _ _
  refine (show ybqh true 5 (ptr b8 0) (upd h2 b8 (.cells (endC e a 0 0 false) yqha .exact)) (fun v => K v (upd h2 b8 (.cells (endC e a 0 0 false) yqha .exact))) from ?_)
  rw [load5 c8']
  refine hk _ ?_ fun c o hcc hh => ?_
  · rw [yrkk _ _ (Ne.symm n8)]; exact e2
  · rw [yrkk _ _ (fun e => by rw [e, hb8] at hh; cases hh)]
    exact f2 _ _ hcc (s1 _ _ hh)
end
end Go.Proofs.YtnckimioabkheaaGreat

set_option linter.unusedSimpArgs false
set_option linter.unusedVariables false
set_option maxRecDepth 100000
set_option maxHeartbeats 4000000
namespace Go.Proofs.YtnckimioabkheaaGreat
open AM
theorem yfvo : Fits 30 (segP false) (ytw8 [115]) [] := ⟨by decide +kernel, by decide +kernel, by unfold RFits; decide +kernel⟩
theorem yw38 : findF (lay2 30 (segP false) (ytw8 [115]) []).2 4096 8 = ([(48, 0, 0, 0, 0)], (0, 0, 0)) := by decide +kernel
theorem yqgd : makeN 4096 [(48, 0, 0, 0, 0)] = [⟨8, 0, 0, 0, 4096⟩, ⟨13, 0, 0, 0, 5⟩] := by decide +kernel
theorem y5tj : goodB [⟨8, 0, 0, 0, 4096⟩, ⟨13, 0, 0, 0, 5⟩] = true := by decide +kernel
section
variable {h : H} {K : K1}
theorem y95s {K : Value → Prop} {u : Dm K} : u_bin PG .eql yqha (.agg (endC 5 4096 0 0 false).toArray) (.agg #[.int .i64 5, .int .u32 4096, .int .i64 0, .int .i64 0, .bool false]) K u = K (.bool true) := by kernel_rfl
theorem ygzs {x : Int} {u : Dm K} : ynqb PG yoi5 1 [(0, .int .u32 x)] h K u = u_new [.int .u32 x] ycpa .exact h fun b h => K (.slice (some ⟨b, 0, none⟩) 1 1) h := by kernel_rfl
theorem yhss {x y : Int} {K : Value → Prop} {u : Dm K} : ysnr PG ys2z [(0, .int .i64 x), (1, .int .u32 y)] K u = K (.agg #[.int .i64 x, .int .u32 y, .int .i64 0]) := by kernel_rfl
theorem y4y2 {x y z : Int} {K : Value → Prop} {u : Dm K} : ysnr PG yqha [(0, .agg #[.int .i64 x, .int .u32 y, .int .i64 z])] K u = K (.agg #[.int .i64 x, .int .u32 y, .int .i64 z, .int .i64 0, .bool false]) := by kernel_rfl
theorem yygy (hk : ∀ h', Sub h h' → K (.bool true) h') : AM.Spec PG yajp [] h K := by
  refine y1vg _ _ ?_
  unfold y0en y27z
  rw [ygzs]
  refine yd3h fun b0 h0 _ hb0 s0 c0 => ?_
  have hv : Sl u32V 1 h0 (.slice (some ⟨b0, 0, none⟩) 1 1) [115] := Sl.of_block (l := [115]) (by simp) c0 rfl (by simp)
  simp (config := {dsimp := false})
  refine ⟨rfl, yjd9 (all := false) (data := []) hv (by simp) (by simp) Sl.nil (by simp) (by simp) ⟨by decide, by decide⟩ ⟨by decide, by decide⟩ (fun h1 _ hf => absurd yfvo hf) ?_⟩
  intro bm bm' D sq sm f h1 μ hμ hm hw1 hz1 s1 hbm0 hbm hsq hsm hown
  have hC : (mc0 (ptr D.q 0) (ptr sq 0) f).Ok := mc_ok (by simp [zeros])
  simp (config := {dsimp := false}) [yb3e hbm, MC.at_0]
  refine ⟨rfl, y9xs hm.at_ hw1 (by decide) (by decide) fun w gen h2 s2 hins => ?_⟩
  rw [hμ, yw38] at hins ⊢
  have hwb := hins.box
  simp (config := {dsimp := false}) only [s_ex0, s_ex1]
  refine yd3h fun b3 h3 _ hb3 s3 c3 => yd3h fun b4 h4 _ hb4 s4 c4 => ?_
  have s24 := s3.trans s4
  have n4 : b4 ≠ b3 := fun e => by rw [e, c3] at hb4; cases hb4
  refine y1nc s24 hb3 (s4 _ _ c3) (by decide) (by simp [hwb]) rfl rfl fun h5 s5 c3 f5 => ?_
  refine y1nc s5 (Sub.none s3 hb4) ((f5 _ n4).trans c4) (by decide) rfl rfl rfl fun h6 s6 c4 f6 => ?_
  replace c3 := (f6 _ (Ne.symm n4)).trans c3
  simp (config := {dsimp := false}) [yzql c3, hwb]
  have s16 := s2.trans s6
  refine ⟨by simp [hwb], yaqv (hins.mono s6) (by simp) fun x h7 s7 hx => ?_⟩
  rw [yqgd] at hx
  have s17 := s16.trans s7
  have hxb := hx.sl.box
  have hbm7 := s17 _ _ hbm
  refine ⟨by simp [hxb], ykhn hx y5tj ⟨by decide, by decide⟩ hbm7 (by decide) hC rfl (hm.sub s17).at_ (show (0 : Int) < 9 by decide) fun h8 e8 f8 => ?_⟩
  refine yd3h fun b6 h9 _ hb6 s9 c6 => y1nc s9 hb6 c6 (by decide) rfl rfl rfl fun h10 s10 c6' f10 => ?_
  have c6e : h10 b6 = some (.cells (endC 5 4096 0 0 false) yqha .exact) := c6'
  have nx : ∀ c cs, h7 c = some (.cells cs yq0s .open) → h10 c = some (.cells cs yq0s .open) := fun c cs hh =>
    s10 _ _ (f8 _ _ (fun e => by rw [e, hbm7] at hh; simp only [Option.some.injEq, AObj.cells.injEq] at hh; exact absurd hh.2.1 (by decide)) hh)
  have hx10 := yfv7 hx nx
  have e10 := s10 _ _ e8
  have hC2 : ({ mc0 (ptr D.q 0) (ptr sq 0) f with pc := 4096 } : MC).Ok := ⟨hC.x, hC.t⟩
  have r10 := MC.at_ret hC2
  have hall : Sub h h10 := by
    have sub1 : Sub h h1 := s0.trans s1
    have hn : h bm = none := Sub.none s0 hbm0
    refine fun c o hh => s10 _ _ (f8 _ _ (fun e => by rw [e, hn] at hh; cases hh) (s17 _ _ (sub1 _ _ hh)))
  refine ⟨by simp [hxb], yfs3 hx10.sl (by simp) ?_⟩
  rw [y5tj]
  simp (config := {dsimp := false}) only [↓s_gtt]
  rw [load5 c6e]
  rw [yhss, y4y2, y95s]
  have r35 : ({ mc0 (ptr D.q 0) (ptr sq 0) f with pc := 4096 } : MC).cells[35]? = some (.int .i64 0) := r10
  simp (config := {dsimp := false}) [yb3e e10, r35]
  rw [show (bif true then Value.bool true else Value.bool false) = .bool true from rfl]
  simp (config := {dsimp := false}) [yb3e e10, r35]
  rw [yiad, if_pos (by decide)]
  refine ⟨rfl, yfp0 (is := []) Sl.nil (by simp) fun x2 h11 s11 hx2 => ?_⟩
  have hul := fun (K : Value → Prop) (u : Dm K) => hx2.ulen (K := K) (u := u)
  have e0 : (makeN 0 []).length = 0 := rfl
  rw [e0] at hul
  simp (config := {dsimp := false}) [hul]
  exact hk h11 (hall.trans s11)
end
end Go.Proofs.YtnckimioabkheaaGreat

set_option linter.unusedSimpArgs false
set_option linter.unusedVariables false
namespace Go.Proofs.YtnckimioabkheaaGreat.AM
open Go.RowKit
section
variable {P : Program} {W : World} {ι : Env} {h : H} {w : World}
def ι0 : Env := fun _ => none
def h0 : H := fun _ => none
theorem HRel.start (W : World) : HRel P W ι0 h0 W :=
  ⟨⟨0, fun _ _ => rfl⟩, rfl, rfl, Below.refl _ _, fun _ _ h => (by cases h), fun _ _ h => (by cases h), fun _ _ _ _ _ _ _ h => (by cases h)⟩
def ebind (ι : Env) (b : Nat) (l : Loc) : Env := fun c => if c = b then some l else ι c
theorem y8cr {b : Nat} {l : Loc} (hb : ι b = none) : Env.le ι (ebind ι b l) := by
  intro c q hc
  have : c ≠ b := fun he => by rw [he, hb] at hc; cases hc
  simp [ebind, this, hc]
theorem HRel.addRo (hr : HRel P W ι h w) {b : Nat} {l : Loc} {cs : List Value} {E : TypeId} {ccs : Array Value} {CE : TypeId} {fz : Nat × Nat} (h2 : 2 ≤ b) (hb : ι b = none) (hk : l.k = 0) (hh : w.heap[l.b]? = some (.cells ccs CE fz)) (hlt : l.b < W.heap.size)
    (hc : ∀ i v, cs[i]? = some v → ∃ v', ccs[l.o + i]? = some v' ∧ CRel ι v v') : HRel P W (ebind ι b l) (upd h b (.cells cs E .ro)) w := by
  have hle : Env.le ι (ebind ι b l) := y8cr hb
  obtain ⟨n, hn⟩ := hr.nxt
  have hin : l.b < w.heap.size := by
    have := Array.getElem?_eq_some_iff.1 hh
    exact this.1
  refine ⟨⟨max n (b + 1), fun c hc => ?_⟩, ?_, ?_, hr.below, fun c q hc => ?_, fun c o hc => ?_, fun c c' o o' q q' hcc hc hc' hq hq' h1 h2' => ?_⟩
  · have : c ≠ b := by omega
    simp only [ebind, this, if_false]
    exact hn c (by omega)
  · have : (0 : Nat) ≠ b := by omega
    simp only [ebind, this, if_false]; exact hr.z0
  · have : (1 : Nat) ≠ b := by omega
    simp only [ebind, this, if_false]; exact hr.z1
  · by_cases he : c = b
    · subst he; simp only [ebind, if_true] at hc; cases hc; exact hin
    · simp only [ebind, he, if_false] at hc; exact hr.inb c q hc
  · by_cases he : c = b
    · subst he
      rw [yy0e] at hc; cases hc
      refine ⟨l, by simp [ebind], ccs, CE, fz.1, fz.2, hh, fun i v hi => ?_, fun _ => hlt, fun h => absurd rfl h, fun _ => hk, fun h => by cases h⟩
      obtain ⟨v', h1, h2⟩ := hc i v hi
      exact ⟨v', h1, h2.mono hle⟩
    · rw [yrkk _ _ he] at hc
      obtain ⟨q, h1, h2⟩ := hr.obj c o hc
      exact ⟨q, hle _ _ h1, ORel.keep hle rfl (fun _ _ _ => .inl rfl) h2⟩
  · have n1 : c ≠ b := fun he => by rw [he, yy0e] at hc; cases hc; cases h1
    have n2 : c' ≠ b := fun he => by rw [he, yy0e] at hc'; cases hc'; cases h2'
    rw [yrkk _ _ n1] at hc
    rw [yrkk _ _ n2] at hc'
    simp only [ebind, n1, if_false] at hq
    simp only [ebind, n2, if_false] at hq'
    exact hr.sep c c' o o' q q' hcc hc hc' hq hq' h1 h2'
theorem calls_of {f : FuncId} {args : List Value} {cargs : Array Value} {r : Value} (hs : Spec P f args h fun v _ => v = r) (hr : HRel P W ι h W) (ha : All2 (ARel ι) args cargs.toList) (hself : ∀ ι v, VRel ι r v → v = r) :
    Calls P f cargs W fun e w' => e = .returned r ∧ Below W.heap.size W w' :=
  (hs W ι W cargs hr ha).mono fun _ _ ⟨_, cv, ι', _, h1, _, h3, h4, h5⟩ => by
    subst h5
    exact ⟨by rw [h1, hself ι' cv h4], h3.below⟩
theorem bool_self {b : Bool} (ι : Env) (v : Value) (h : VRel ι (.bool b) v) : v = .bool b := by
  cases h with
  | a h => cases h with
    | c h => cases h with
      | s h => cases h; rfl
end
end Go.Proofs.YtnckimioabkheaaGreat.AM

set_option linter.unusedSimpArgs false
set_option linter.unusedVariables false
set_option maxRecDepth 100000
namespace Go.Proofs.YtnckimioabkheaaGreat
open AM
open Go.ChangeShapes Go.WideShapes Go.ChangeAt Go.RowKit
theorem yozf {a : Int} (h0 : 0 ≤ a) (h1 : a < 4294967296) : ∃ n : Nat, n < 4294967296 ∧ a = n := ⟨a.toNat, by omega, by omega⟩
theorem yufn {H : Type} {enc : TypeId × Value → H} {W : World} {base : Nat} {sp : Nat → Bool} {held : Bool} {fuel : Nat} {cs : List Value} {x : DataW H × List MemPlace} (h : DataW.trod enc Tryz.prog W base sp held fuel 23 cs = some x) :
    ∃ n : Nat, n < 4294967296 ∧ cs = [.int .u32 n] := by
  obtain ⟨a, rfl, _, w⟩ := DataW.trod_int Tryz.underlying23 h
  simp [Lit.wf, IntKind.min, IntKind.max, IntKind.signed, IntKind.bits] at w
  obtain ⟨n, hn, rfl⟩ := yozf (a := a) (by omega) (by omega)
  exact ⟨n, hn, rfl⟩
theorem yrg4 {H : Type} {enc : TypeId × Value → H} {W : World} {v : Value} {d : DataW H} {p : List MemPlace} {r : Reach} {b0 : Nat} (hval : Value.okWide Tryz.prog W r b0 22 v) (hj : DataW.Trod enc Tryz.prog W 0 (fun _ => true) true 22 v d p) :
    v = .slice none 0 0 ∨ (∃ a c, v = .slice (some a) 0 c) ∨
      ∃ b o n c ccs CE fz, ∃ f : Nat → Nat, 0 < n ∧ v = .slice (some ⟨b, o, none⟩) n c ∧ W.heap[b]? = some (.cells ccs CE fz) ∧ ∀ i, i < n → f i < 4294967296 ∧ ccs[o + i]? = some (.int .u32 (f i : Nat)) := by
  obtain ⟨a0, len, cap, rfl⟩ := okWide_slice Tryz.underlying22 hval
  obtain ⟨fuel, hf⟩ := hj
  rcases Go.Deep.open_slice Tryz.underlying22 hf with ⟨hcs, _⟩ | ⟨a, len', cap', m, n, D, Pl, hcs, _, hlc, hcm, hm, _, hx⟩
  · have e : Value.slice a0 len cap = .slice none 0 0 := by simpa [Value.cells] using hcs
    exact .inl e
  · have e : Value.slice a0 len cap = .slice (some a) len' cap' := by simpa [Value.cells] using hcs
    cases e
    have hlm : len ≤ m := by rw [hm]; simp; exact hlc
    by_cases h0 : len = 0
    · subst h0
      exact .inr (.inl ⟨a, cap, rfl⟩)
    have c1 : Tryz.prog.cellsOf 23 = 1 := by kernel_rfl
    have each : ∀ i, ∃ q : Nat, i < len → q < 4294967296 ∧ W.cell? (a.add (i * 1)) = some (.int .u32 q) := by
      intro i
      by_cases hi : i < len
      · obtain ⟨cs', h1, h2⟩ := hx i (by omega)
        rw [c1] at h1
        obtain ⟨q, hq, rfl⟩ := yufn h2
        obtain ⟨_, _, hcell⟩ := World.cells?_some h1
        refine ⟨q, fun _ => ⟨hq, ?_⟩⟩
        have := hcell 0 (by omega)
        simpa [Addr.add] using this
      · exact ⟨0, fun h => absurd h hi⟩
    obtain ⟨f, hfn⟩ := Classical.axiomOfChoice each
    have hcell0 := (hfn 0 (by omega)).2
    have ha0 : a.add (0 * 1) = a := by simp [Addr.add]
    rw [ha0] at hcell0
    have hcells : ∃ ccs CE fz, W.heap[a.block]? = some (.cells ccs CE fz) ∧ a.spot = none := by
      unfold World.cell? at hcell0
      split at hcell0
      · rename_i c t fz hh
        refine ⟨c, t, fz, hh, ?_⟩
        cases hs : a.spot with
        | none => rfl
        | some x => rw [hs] at hcell0; simp at hcell0
      · simp at hcell0
    obtain ⟨ccs, CE, fz, hh, hspot⟩ := hcells
    obtain ⟨ab, ao, asp⟩ := a
    simp only at hspot hh
    subst hspot
    have hadd : ∀ ao k, Addr.add ⟨ab, ao, none⟩ k = ⟨ab, ao + k, none⟩ := by
      intro ao k
      unfold Addr.add
      split
      · rename_i hk; subst hk; rfl
      · rfl
    refine .inr (.inr ⟨ab, ao, len, cap, ccs, CE, fz, f, by omega, rfl, hh, fun i hi => ?_⟩)
    have := (hfn i hi).2
    rw [hadd] at this
    unfold World.cell? at this
    simp only [hh, Option.isSome_none, Bool.false_eq_true, if_false, Nat.mul_one] at this
    exact ⟨(hfn i hi).1, this⟩
theorem yqur {H : Type} {enc : TypeId × Value → H} {W : World} {v : Value} {d : DataW H} {p : List MemPlace} {r0 : Reach} {b0 : Nat} (hval : Value.okWide Tryz.prog W r0 b0 22 v) (hj : DataW.Trod enc Tryz.prog W 0 (fun _ => true) true 22 v d p)
    {n most : Int} (hn0 : 0 ≤ n) (hn1 : n < 4294967296) :
    ∃ ι h av, HRel Tryz.prog W ι h W ∧ ARel ι av v ∧ AM.Spec Tryz.prog 3 [av, .int .u32 n, .int .i64 most] h fun v _ => v = .bool true := by
  have go : ∀ {h : AM.H} {av : Value} {ws : List Int}, Sl u32V 1 h av ws → (∀ x ∈ ws, 0 ≤ x ∧ x < 4294967296) → AM.Spec Tryz.prog 3 [av, .int .u32 n, .int .i64 most] h fun v _ => v = .bool true := fun hs hw =>
    yagh hs hw ⟨hn0, hn1⟩ (fun hk => yygy hk) fun _ _ => rfl
  rcases yrg4 hval hj with rfl | ⟨a, c, rfl⟩ | ⟨b, o, n, c, ccs, CE, fz, f, hp0, rfl, hh, hc⟩
  · exact ⟨_, _, .slice none 0 0, HRel.start W, .c (.s .sliceNil), go Sl.nil (by simp)⟩
  · exact ⟨_, _, .slice (some ⟨1, 0, none⟩) 0 0, HRel.start W, .c (.s (.empty1 a c)), go Sl.nil' (by simp)⟩
  · have hlt : b < W.heap.size := (Array.getElem?_eq_some_iff.1 hh).1
    have hrel := (HRel.start (P := Tryz.prog) W).addRo (b := 2) (l := ⟨b, o, 0⟩) (cs := (List.range n).map fun i => Value.int .u32 (f i : Nat)) (E := ycpa) (by omega) rfl rfl hh hlt (fun i x hi => by
      have hil := (List.getElem?_eq_some_iff.1 hi).1
      simp only [List.length_map, List.length_range] at hil
      simp only [List.getElem?_map, List.getElem?_range hil, Option.map_some, Option.some.injEq] at hi
      subst hi
      exact ⟨_, (hc i hil).2, .s (.int _ _)⟩)
    have hsr : ARel (ebind ι0 2 ⟨b, o, 0⟩) (.slice (some ⟨2, 0, none⟩) n c) (.slice (some ⟨b, o, none⟩) n c) := by
      have := SRel.slice (ι := ebind ι0 2 ⟨b, o, 0⟩) (b := 2) (o := 0) (n := n) (c := c) (l := ⟨b, o, 0⟩) (by simp [ebind])
      exact .c (.s this)
    refine ⟨_, _, .slice (some ⟨2, 0, none⟩) n c, hrel, hsr, ?_⟩
    refine go (ws := (List.range n).map fun i => ((f i : Nat) : Int)) ?_ ?_
    · have hb : upd AM.h0 2 (.cells ((List.range n).map fun i => Value.int .u32 (f i : Nat)) ycpa .ro) 2 = some (.cells (((List.range n).map fun i => ((f i : Nat) : Int)).map (Value.int .u32)) ycpa .ro) := by
        rw [yy0e, List.map_map]; rfl
      have := ys9b (c := c) hb
      rw [List.length_map, List.length_range] at this
      exact this
    · intro x hx
      obtain ⟨i, hi, rfl⟩ := List.mem_map.1 hx
      have := (hc i (List.mem_range.1 hi)).1
      constructor <;> omega
end Go.Proofs.YtnckimioabkheaaGreat

namespace Go.Proofs.YtnckimioabkheaaGreat
theorem Tryz.own : ownKnob Tryz.prog.godebug = none := by kernel_rfl
theorem Tryz.laidOut : laidOutB Tryz.prog = true := by kernel_rfl
theorem yyhm : mapsRowed Tryz.prog = true := by kernel_rfl
theorem yjmc : Tryz.prog.stopsHeard = true := by kernel_rfl
theorem yl67 : Tryz.prog.mayEnter = true := by kernel_rfl
theorem yaih : Tryz.prog.liftsFinal = Rows.lowerGoodRow.lifted := by kernel_rfl
end Go.Proofs.YtnckimioabkheaaGreat

namespace Go.Proofs.YtnckimioabkheaaGreat
theorem y5pp : Tryz.prog.inPlace 3 = Rows.lowerGoodRow.inPlace := by kernel_rfl
theorem yqrq : Tryz.prog.unfollowed 3 = Rows.lowerGoodRow.unfollowed := by kernel_rfl
theorem yson : Tryz.prog.recurses 3 = Rows.lowerGoodRow.recurses := by kernel_rfl
theorem yl2j : Tryz.prog.varsNamed 3 = Rows.lowerGoodRow.named := by kernel_rfl
end Go.Proofs.YtnckimioabkheaaGreat

set_option linter.unusedSimpArgs false
set_option linter.unusedVariables false
namespace Go.Proofs.YtnckimioabkheaaGreat
open Go.ChangeShapes Go.WideShapes Go.ChangeAt Go.RowKit
set_option maxRecDepth 100000 in
theorem yont (os : Os) (started : os.Started) (H : Type) (enc : TypeId × Value → H) :
    ReturnsInHanded {} Tryz.checked os 3 .any (Rows.lowerGoodSpec.pre6 enc Tryz.prog Tryz.f3 Rows.lowerGoodRow.domain false) (Rows.lowerGoodSpec.post enc Tryz.prog Tryz.f3 false true false false) := by
  refine returnsInHanded_of_change (C := Tryz.checked) Tryz.own started (by kernel_rfl) Tryz.func3
    (ChangeSpec.witness6 (enc := enc) (C := Tryz.checked) false ⟨#[], #[.slice none 0 0, .int .u32 0, .int .i64 0], []⟩ 8 (by kernel_rfl) (by kernel_rfl) (by kernel_rfl) (by kernel_rfl)) ?_
  intro W base args ds gs before hval0 hW hcnd _
  have hval : ∀ (j : Nat) t v, Tryz.f3.params[j]? = some t → args[j]? = some v → Value.okWide Tryz.prog W .any base t v := hval0
  have hW' := hW
  obtain ⟨p, q, hA0, hV, rfl, hfz, hnd⟩ := hW
  have hA : DataW.TrodAll enc Tryz.prog W 0 (fun _ => true) true Tryz.f3.params.toList args.toList ds p := hA0
  rw [Tryz.params3] at hA hval
  obtain ⟨v0, v1, v2, d0, d1, d2, p0, p1, p2, rfl, rfl, rfl, t0, t1, t2⟩ := trodAll_three hA
  obtain ⟨rfl, rfl⟩ := trodVars_none hV
  have w0 := hval 0 22 v0 rfl rfl
  have w1 := hval 1 23 v1 rfl rfl
  have w2 := hval 2 3 v2 rfl rfl
  obtain ⟨l, rfl, rfl, rfl, k1⟩ := open_int Tryz.underlying23 w1 t1
  obtain ⟨r, rfl, rfl, rfl, k2⟩ := open_int Tryz.underlying3 w2 t2
  clear hA0 hval0
  simp only [List.append_nil] at hW'
  have hlt : ∀ x ∈ p0, x.block < W.heap.size := fun x hx => hW'.lt x (by simpa using hx)
  have kw := k1
  simp [Lit.wf, IntKind.min, IntKind.max, IntKind.signed, IntKind.bits] at k1
  obtain ⟨ι, h, av, hr, ha, hspec⟩ := yqur w0 t0 (n := l) (most := r) (by omega) (by omega)
  refine (AM.calls_of (args := [av, .int .u32 l, .int .i64 r]) (cargs := #[v0, .int .u32 l, .int .i64 r]) hspec hr
    (.cons ha (.cons (AM.arel_self rfl) (.cons (AM.arel_self rfl) .nil))) AM.bool_self).mono fun e W' ⟨he, hw⟩ => ?_
  subst he
  exact ⟨_, rfl, _, _, _, [], p0, [], hW', trodAll_mk1 (shut_bool Tryz.underlying4 true),
    (by
      have := trodAll_mk3 (Below.trod Tryz.laidOut (by kernel_rfl) (of_decide_eq_true (by kernel_rfl)) t0 hw fun x hx => hlt x hx) (shut_int Tryz.underlying23 kw) (shut_int Tryz.underlying3 k2)
      simp only [List.append_nil] at this
      exact this),
    rfl, hw.frame _, fun h => by cases h⟩
theorem yhjx : joinedFacts Tryz.prog 3 Tryz.f3 Rows.lowerGoodSpec Rows.lowerGoodRow = true := by
  unfold joinedFacts
  rw [y5pp, yqrq, yson, yl2j, yyhm, yjmc, yl67, yaih, Tryz.laidOut]
  kernel_rfl
theorem lowerGood_holds : Rows.LowerGoodSaid :=
  OpenClaim.holds_of_wide 3 Tryz.f3 rfl rfl rfl rfl rfl rfl rfl ⟨rfl, rfl, rfl, rfl, rfl⟩ rfl rfl rfl rfl rfl (by kernel_rfl) Tryz.func3 yhjx
    (of_decide_eq_true (by kernel_rfl)) (by unfold Func.isWrapper; first | (rw [if_pos (by decide +kernel)]; kernel_rfl) | (rw [if_neg (by decide +kernel)]; exact ⟨rfl, rfl⟩))
    (fun os started H enc _ => yont os started H enc)
end Go.Proofs.YtnckimioabkheaaGreat

