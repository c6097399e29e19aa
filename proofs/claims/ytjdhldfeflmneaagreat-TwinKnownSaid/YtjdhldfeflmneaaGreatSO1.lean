/-
  The functions of the sort of numbers, taken apart; printed by a program (gen.py).
-/
import Derived.Test.YtjdhldfeflmneaaGreatSO0
import Derived.KernelRfl
set_option linter.unusedVariables false
set_option maxRecDepth 100000
namespace Go.Proofs.YtjdhldfeflmneaaGreat
open Go.Proofs.YtjdhldfeflmneaaGreat.AM
abbrev VP1 := Value → H → Prop
abbrev VP2 := Value → Value → H → Prop
abbrev VP3 := Value → Value → Value → H → Prop
abbrev VP4 := Value → Value → Value → Value → H → Prop
abbrev VP5 := Value → Value → Value → Value → Value → H → Prop
abbrev VP6 := Value → Value → Value → Value → Value → Value → H → Prop
abbrev VP7 := Value → Value → Value → Value → Value → Value → Value → H → Prop
abbrev VP8 := Value → Value → Value → Value → Value → Value → Value → Value → H → Prop
abbrev VP9 := Value → Value → Value → Value → Value → Value → Value → Value → Value → H → Prop
/-! #### 338: slices.insertionSortOrdered[uint32] -/
def F338_11 (x0 x1 x2 x6 x7 : Value) (h : H) (Kn : VP6) (Kr : H → Prop) (Ke2 : VP4) (Ke1 : VP4) (Ke0 : H → Prop) : Prop :=
  o_bin Tryz.prog .gtr 3 x7 x1 fun v18 => o_guard v18 true (fun k4 => k4 x0 h) (fun v20 h => o_guard v18 true (fun k5 => k5 x7 h) (fun v21 h => o_guard v18 true (fun k6 => o_indexAddr none 1 v20 v21 fun v22 => k6 v22 h) (fun v22 h => o_guard v18 true (fun k7 => o_load false 1 v22 h fun v23 => k7 v23 h) (fun v23 h => o_guard v18 true (fun k8 => k8 x0 h) (fun v24 h => o_guard v18 true (fun k9 => k9 x7 h) (fun v25 h => o_guard v18 true (fun k10 => o_bin Tryz.prog .sub 3 v25 (.int .i64 1) fun v26 => k10 v26 h) (fun v26 h => o_guard v18 true (fun k11 => o_indexAddr none 1 v24 v26 fun v27 => k11 v27 h) (fun v27 h => o_guard v18 true (fun k12 => o_load false 1 v27 h fun v28 => k12 v28 h) (fun v28 h => o_guard v18 true (fun k13 => o_dcall DS 344 [v23, v28] h fun v29 h => k13 v29 h) (fun v29 h => o_pick v18 v29 (.bool false) fun v30 => Kn x0 x1 x2 x6 x7 v30 h) h) h) h) h) h) h) h) h) h) h
theorem F338_11_ok (Kn Kr Ke2 Ke1 Ke0) (t : T) (h : H) (H0 : F338_11 (t 0) (t 1) (t 2) (t 6) (t 7) h Kn Kr Ke2 Ke1 Ke0) : Wp Tryz.prog 49 (seqL (seqL (lopC (blkC (rest 1 (blkC (seqL (rest 1 (lopC (blkC (rest 1 (bodyOf Tryz.f338.body)))))))))))) (mkQ (fun t h => Kn (t 0) (t 1) (t 2) (t 6) (t 7) (t 30) h) (fun t h => Kr  h) (keAdd 2 (fun t h => Ke2 (t 0) (t 1) (t 2) (t 6) h) (keAdd 1 (fun t h => Ke1 (t 0) (t 1) (t 2) (t 6) h) (keAdd 0 (fun t h => Ke0  h) ke0)))) t h :=
  drawD_ok dsOk (by kernel_rfl) (by kernel_rfl) H0 (by kernel_rfl)
def F338_12 (x0 x1 x2 x6 x7 x30 : Value) (h : H) (Kn : VP5) (Kr : H → Prop) (Ke2 : VP4) (Ke1 : VP4) (Ke0 : H → Prop) : Prop :=
  o_if x30 (Kn x0 x1 x2 x6 x7 h) (Ke2 x0 x1 x2 x6 h)
theorem F338_12_ok (Kn Kr Ke2 Ke1 Ke0) (t : T) (h : H) (H0 : F338_12 (t 0) (t 1) (t 2) (t 6) (t 7) (t 30) h Kn Kr Ke2 Ke1 Ke0) : Wp Tryz.prog 49 (seqR (seqL (lopC (blkC (rest 1 (blkC (seqL (rest 1 (lopC (blkC (rest 1 (bodyOf Tryz.f338.body)))))))))))) (mkQ (fun t h => Kn (t 0) (t 1) (t 2) (t 6) (t 7) h) (fun t h => Kr  h) (keAdd 2 (fun t h => Ke2 (t 0) (t 1) (t 2) (t 6) h) (keAdd 1 (fun t h => Ke1 (t 0) (t 1) (t 2) (t 6) h) (keAdd 0 (fun t h => Ke0  h) ke0)))) t h :=
  wpEqF H0 (by kernel_rfl)
def F338_10 (x0 x1 x2 x6 x7 : Value) (h : H) (Kn : VP5) (Kr : H → Prop) (Ke2 : VP4) (Ke1 : VP4) (Ke0 : H → Prop) : Prop :=
  F338_11 x0 x1 x2 x6 x7 h (fun y0 y1 y2 y6 y7 y30 h => F338_12 y0 y1 y2 y6 y7 y30 h Kn Kr Ke2 Ke1 Ke0) Kr Ke2 Ke1 Ke0
theorem F338_10_ok (Kn Kr Ke2 Ke1 Ke0) (t : T) (h : H) (H0 : F338_10 (t 0) (t 1) (t 2) (t 6) (t 7) h Kn Kr Ke2 Ke1 Ke0) : Wp Tryz.prog 49 (seqL (lopC (blkC (rest 1 (blkC (seqL (rest 1 (lopC (blkC (rest 1 (bodyOf Tryz.f338.body))))))))))) (mkQ (fun t h => Kn (t 0) (t 1) (t 2) (t 6) (t 7) h) (fun t h => Kr  h) (keAdd 2 (fun t h => Ke2 (t 0) (t 1) (t 2) (t 6) h) (keAdd 1 (fun t h => Ke1 (t 0) (t 1) (t 2) (t 6) h) (keAdd 0 (fun t h => Ke0  h) ke0)))) t h :=
  seq_ok (by kernel_rfl) (fun t h H1 => F338_12_ok Kn Kr Ke2 Ke1 Ke0 t h H1) (F338_11_ok (fun y0 y1 y2 y6 y7 y30 h => F338_12 y0 y1 y2 y6 y7 y30 h Kn Kr Ke2 Ke1 Ke0) Kr Ke2 Ke1 Ke0 t h H0)
def F338_15 (x0 x1 x2 x6 x7 : Value) (h : H) (Kn : VP5) (Kr : H → Prop) (Ke3 : VP5) (Ke2 : VP4) (Ke1 : VP4) (Ke0 : H → Prop) : Prop :=
  o_bin Tryz.prog .sub 3 x7 (.int .i64 1) fun v37 => o_bin Tryz.prog .sub 3 x7 (.int .i64 1) fun v40 => o_indexAddr none 1 x0 v40 fun v41 => o_load false 1 v41 h fun v42 => o_indexAddr none 1 x0 x7 fun v45 => o_load false 1 v45 h fun v46 => o_indexAddr none 1 x0 x7 fun v47 => o_store 1 v47 v42 h fun h => o_indexAddr none 1 x0 v37 fun v48 => o_store 1 v48 v46 h fun h => Kn x0 x1 x2 x6 x7 h
theorem F338_15_ok (Kn Kr Ke3 Ke2 Ke1 Ke0) (t : T) (h : H) (H0 : F338_15 (t 0) (t 1) (t 2) (t 6) (t 7) h Kn Kr Ke3 Ke2 Ke1 Ke0) : Wp Tryz.prog 49 (blkC (seqL (seqR (lopC (blkC (rest 1 (blkC (seqL (rest 1 (lopC (blkC (rest 1 (bodyOf Tryz.f338.body))))))))))))) (mkQ (fun t h => Kn (t 0) (t 1) (t 2) (t 6) (t 7) h) (fun t h => Kr  h) (keAdd 3 (fun t h => Ke3 (t 0) (t 1) (t 2) (t 6) (t 7) h) (keAdd 2 (fun t h => Ke2 (t 0) (t 1) (t 2) (t 6) h) (keAdd 1 (fun t h => Ke1 (t 0) (t 1) (t 2) (t 6) h) (keAdd 0 (fun t h => Ke0  h) ke0))))) t h :=
  draw_okF (by kernel_rfl) (by kernel_rfl) H0 (by kernel_rfl)
def F338_14 (x0 x1 x2 x6 x7 : Value) (h : H) (Kn : VP5) (Kr : H → Prop) (Ke2 : VP4) (Ke1 : VP4) (Ke0 : H → Prop) : Prop :=
  F338_15 x0 x1 x2 x6 x7 h Kn Kr Kn Ke2 Ke1 Ke0
theorem F338_14_ok (Kn Kr Ke2 Ke1 Ke0) (t : T) (h : H) (H0 : F338_14 (t 0) (t 1) (t 2) (t 6) (t 7) h Kn Kr Ke2 Ke1 Ke0) : Wp Tryz.prog 49 (seqL (seqR (lopC (blkC (rest 1 (blkC (seqL (rest 1 (lopC (blkC (rest 1 (bodyOf Tryz.f338.body)))))))))))) (mkQ (fun t h => Kn (t 0) (t 1) (t 2) (t 6) (t 7) h) (fun t h => Kr  h) (keAdd 2 (fun t h => Ke2 (t 0) (t 1) (t 2) (t 6) h) (keAdd 1 (fun t h => Ke1 (t 0) (t 1) (t 2) (t 6) h) (keAdd 0 (fun t h => Ke0  h) ke0)))) t h :=
  block_ok 3 (by kernel_rfl) (by kernel_rfl) (F338_15_ok Kn Kr Kn Ke2 Ke1 Ke0 t h H0)
def F338_16 (x0 x1 x2 x6 x7 : Value) (h : H) (Kn : VP5) (Kr : H → Prop) (Ke2 : VP4) (Ke1 : VP4) (Ke0 : H → Prop) : Prop :=
  o_bin Tryz.prog .sub 3 x7 (.int .i64 1) fun v32 => Kn x0 x1 x2 x6 v32 h
theorem F338_16_ok (Kn Kr Ke2 Ke1 Ke0) (t : T) (h : H) (H0 : F338_16 (t 0) (t 1) (t 2) (t 6) (t 7) h Kn Kr Ke2 Ke1 Ke0) : Wp Tryz.prog 49 (seqR (seqR (lopC (blkC (rest 1 (blkC (seqL (rest 1 (lopC (blkC (rest 1 (bodyOf Tryz.f338.body)))))))))))) (mkQ (fun t h => Kn (t 0) (t 1) (t 2) (t 6) (t 7) h) (fun t h => Kr  h) (keAdd 2 (fun t h => Ke2 (t 0) (t 1) (t 2) (t 6) h) (keAdd 1 (fun t h => Ke1 (t 0) (t 1) (t 2) (t 6) h) (keAdd 0 (fun t h => Ke0  h) ke0)))) t h :=
  wpEqF H0 (by kernel_rfl)
def F338_13 (x0 x1 x2 x6 x7 : Value) (h : H) (Kn : VP5) (Kr : H → Prop) (Ke2 : VP4) (Ke1 : VP4) (Ke0 : H → Prop) : Prop :=
  F338_14 x0 x1 x2 x6 x7 h (fun y0 y1 y2 y6 y7 h => F338_16 y0 y1 y2 y6 y7 h Kn Kr Ke2 Ke1 Ke0) Kr Ke2 Ke1 Ke0
theorem F338_13_ok (Kn Kr Ke2 Ke1 Ke0) (t : T) (h : H) (H0 : F338_13 (t 0) (t 1) (t 2) (t 6) (t 7) h Kn Kr Ke2 Ke1 Ke0) : Wp Tryz.prog 49 (seqR (lopC (blkC (rest 1 (blkC (seqL (rest 1 (lopC (blkC (rest 1 (bodyOf Tryz.f338.body))))))))))) (mkQ (fun t h => Kn (t 0) (t 1) (t 2) (t 6) (t 7) h) (fun t h => Kr  h) (keAdd 2 (fun t h => Ke2 (t 0) (t 1) (t 2) (t 6) h) (keAdd 1 (fun t h => Ke1 (t 0) (t 1) (t 2) (t 6) h) (keAdd 0 (fun t h => Ke0  h) ke0)))) t h :=
  seq_ok (by kernel_rfl) (fun t h H1 => F338_16_ok Kn Kr Ke2 Ke1 Ke0 t h H1) (F338_14_ok (fun y0 y1 y2 y6 y7 h => F338_16 y0 y1 y2 y6 y7 h Kn Kr Ke2 Ke1 Ke0) Kr Ke2 Ke1 Ke0 t h H0)
def F338_9 (x0 x1 x2 x6 x7 : Value) (h : H) (Kn : VP5) (Kr : H → Prop) (Ke2 : VP4) (Ke1 : VP4) (Ke0 : H → Prop) : Prop :=
  F338_10 x0 x1 x2 x6 x7 h (fun y0 y1 y2 y6 y7 h => F338_13 y0 y1 y2 y6 y7 h Kn Kr Ke2 Ke1 Ke0) Kr Ke2 Ke1 Ke0
theorem F338_9_ok (Kn Kr Ke2 Ke1 Ke0) (t : T) (h : H) (H0 : F338_9 (t 0) (t 1) (t 2) (t 6) (t 7) h Kn Kr Ke2 Ke1 Ke0) : Wp Tryz.prog 49 (lopC (blkC (rest 1 (blkC (seqL (rest 1 (lopC (blkC (rest 1 (bodyOf Tryz.f338.body)))))))))) (mkQ (fun t h => Kn (t 0) (t 1) (t 2) (t 6) (t 7) h) (fun t h => Kr  h) (keAdd 2 (fun t h => Ke2 (t 0) (t 1) (t 2) (t 6) h) (keAdd 1 (fun t h => Ke1 (t 0) (t 1) (t 2) (t 6) h) (keAdd 0 (fun t h => Ke0  h) ke0)))) t h :=
  seq_ok (by kernel_rfl) (fun t h H1 => F338_13_ok Kn Kr Ke2 Ke1 Ke0 t h H1) (F338_10_ok (fun y0 y1 y2 y6 y7 h => F338_13 y0 y1 y2 y6 y7 h Kn Kr Ke2 Ke1 Ke0) Kr Ke2 Ke1 Ke0 t h H0)
def F338_8 (x0 x1 x2 x6 x7 : Value) (h : H) (Kn : VP4) (Kr : H → Prop) (Ke2 : VP4) (Ke1 : VP4) (Ke0 : H → Prop) : Prop :=
  sloop (S := Value × Value × Value × Value × Value) (fun s h K => F338_9 s.1 s.2.1 s.2.2.1 s.2.2.2.1 s.2.2.2.2 h (fun y0 y1 y2 y6 y7 h => K (y0, y1, y2, y6, y7) h) Kr Ke2 Ke1 Ke0) (x0, x1, x2, x6, x7) h
theorem F338_8_ok (Kn Kr Ke2 Ke1 Ke0) (t : T) (h : H) (H0 : F338_8 (t 0) (t 1) (t 2) (t 6) (t 7) h Kn Kr Ke2 Ke1 Ke0) : Wp Tryz.prog 49 (blkC (rest 1 (blkC (seqL (rest 1 (lopC (blkC (rest 1 (bodyOf Tryz.f338.body))))))))) (mkQ (fun t h => Kn (t 0) (t 1) (t 2) (t 6) h) (fun t h => Kr  h) (keAdd 2 (fun t h => Ke2 (t 0) (t 1) (t 2) (t 6) h) (keAdd 1 (fun t h => Ke1 (t 0) (t 1) (t 2) (t 6) h) (keAdd 0 (fun t h => Ke0  h) ke0)))) t h :=
  loop_ok (fun t => (t 0, t 1, t 2, t 6, t 7)) (by kernel_rfl) (fun t h K H1 => F338_9_ok (fun y0 y1 y2 y6 y7 h => K (y0, y1, y2, y6, y7) h) Kr Ke2 Ke1 Ke0 t h H1) H0
def F338_7 (x0 x1 x2 x6 x7 : Value) (h : H) (Kn : VP4) (Kr : H → Prop) (Ke1 : VP4) (Ke0 : H → Prop) : Prop :=
  F338_8 x0 x1 x2 x6 x7 h Kn Kr Kn Ke1 Ke0
theorem F338_7_ok (Kn Kr Ke1 Ke0) (t : T) (h : H) (H0 : F338_7 (t 0) (t 1) (t 2) (t 6) (t 7) h Kn Kr Ke1 Ke0) : Wp Tryz.prog 49 (rest 1 (blkC (seqL (rest 1 (lopC (blkC (rest 1 (bodyOf Tryz.f338.body)))))))) (mkQ (fun t h => Kn (t 0) (t 1) (t 2) (t 6) h) (fun t h => Kr  h) (keAdd 1 (fun t h => Ke1 (t 0) (t 1) (t 2) (t 6) h) (keAdd 0 (fun t h => Ke0  h) ke0))) t h :=
  block_ok 2 (by kernel_rfl) (by kernel_rfl) (F338_8_ok Kn Kr Kn Ke1 Ke0 t h H0)
def F338_6 (x0 x1 x2 x6 : Value) (h : H) (Kn : VP4) (Kr : H → Prop) (Ke1 : VP4) (Ke0 : H → Prop) : Prop :=
  F338_7 x0 x1 x2 x6 x6 h Kn Kr Ke1 Ke0
theorem F338_6_ok (Kn Kr Ke1 Ke0) (t : T) (h : H) (H0 : F338_6 (t 0) (t 1) (t 2) (t 6) h Kn Kr Ke1 Ke0) : Wp Tryz.prog 49 (blkC (seqL (rest 1 (lopC (blkC (rest 1 (bodyOf Tryz.f338.body))))))) (mkQ (fun t h => Kn (t 0) (t 1) (t 2) (t 6) h) (fun t h => Kr  h) (keAdd 1 (fun t h => Ke1 (t 0) (t 1) (t 2) (t 6) h) (keAdd 0 (fun t h => Ke0  h) ke0))) t h :=
  awpTo_okF 1 H0 (by kernel_rfl) (fun t h (H1 : F338_7 (t 0) (t 1) (t 2) (t 6) (t 7) h Kn Kr Ke1 Ke0) => F338_7_ok Kn Kr Ke1 Ke0 t h H1) (by kernel_rfl)
def F338_5 (x0 x1 x2 x6 : Value) (h : H) (Kn : VP4) (Kr : H → Prop) (Ke0 : H → Prop) : Prop :=
  F338_6 x0 x1 x2 x6 h Kn Kr Kn Ke0
theorem F338_5_ok (Kn Kr Ke0) (t : T) (h : H) (H0 : F338_5 (t 0) (t 1) (t 2) (t 6) h Kn Kr Ke0) : Wp Tryz.prog 49 (seqL (rest 1 (lopC (blkC (rest 1 (bodyOf Tryz.f338.body)))))) (mkQ (fun t h => Kn (t 0) (t 1) (t 2) (t 6) h) (fun t h => Kr  h) (keAdd 0 (fun t h => Ke0  h) ke0)) t h :=
  block_ok 1 (by kernel_rfl) (by kernel_rfl) (F338_6_ok Kn Kr Kn Ke0 t h H0)
def F338_17 (x0 x1 x2 x6 : Value) (h : H) (Kn : VP4) (Kr : H → Prop) (Ke0 : H → Prop) : Prop :=
  o_bin Tryz.prog .add 3 x6 (.int .i64 1) fun v14 => Kn x0 x1 x2 v14 h
theorem F338_17_ok (Kn Kr Ke0) (t : T) (h : H) (H0 : F338_17 (t 0) (t 1) (t 2) (t 6) h Kn Kr Ke0) : Wp Tryz.prog 49 (seqR (rest 1 (lopC (blkC (rest 1 (bodyOf Tryz.f338.body)))))) (mkQ (fun t h => Kn (t 0) (t 1) (t 2) (t 6) h) (fun t h => Kr  h) (keAdd 0 (fun t h => Ke0  h) ke0)) t h :=
  wpEqF H0 (by kernel_rfl)
def F338_4 (x0 x1 x2 x6 : Value) (h : H) (Kn : VP4) (Kr : H → Prop) (Ke0 : H → Prop) : Prop :=
  F338_5 x0 x1 x2 x6 h (fun y0 y1 y2 y6 h => F338_17 y0 y1 y2 y6 h Kn Kr Ke0) Kr Ke0
theorem F338_4_ok (Kn Kr Ke0) (t : T) (h : H) (H0 : F338_4 (t 0) (t 1) (t 2) (t 6) h Kn Kr Ke0) : Wp Tryz.prog 49 (rest 1 (lopC (blkC (rest 1 (bodyOf Tryz.f338.body))))) (mkQ (fun t h => Kn (t 0) (t 1) (t 2) (t 6) h) (fun t h => Kr  h) (keAdd 0 (fun t h => Ke0  h) ke0)) t h :=
  seq_ok (by kernel_rfl) (fun t h H1 => F338_17_ok Kn Kr Ke0 t h H1) (F338_5_ok (fun y0 y1 y2 y6 h => F338_17 y0 y1 y2 y6 h Kn Kr Ke0) Kr Ke0 t h H0)
def F338_3 (x0 x1 x2 x6 : Value) (h : H) (Kn : VP4) (Kr : H → Prop) (Ke0 : H → Prop) : Prop :=
  o_bin Tryz.prog .lss 3 x6 x2 fun v12 => o_if v12 (F338_4 x0 x1 x2 x6 h Kn Kr Ke0) (Ke0 h)
theorem F338_3_ok (Kn Kr Ke0) (t : T) (h : H) (H0 : F338_3 (t 0) (t 1) (t 2) (t 6) h Kn Kr Ke0) : Wp Tryz.prog 49 (lopC (blkC (rest 1 (bodyOf Tryz.f338.body)))) (mkQ (fun t h => Kn (t 0) (t 1) (t 2) (t 6) h) (fun t h => Kr  h) (keAdd 0 (fun t h => Ke0  h) ke0)) t h :=
  awpTo_okF 1 H0 (by kernel_rfl) (fun t h (H1 : F338_4 (t 0) (t 1) (t 2) (t 6) h Kn Kr Ke0) => F338_4_ok Kn Kr Ke0 t h H1) (by kernel_rfl)
def F338_2 (x0 x1 x2 x6 : Value) (h : H) (Kn : H → Prop) (Kr : H → Prop) (Ke0 : H → Prop) : Prop :=
  sloop (S := Value × Value × Value × Value) (fun s h K => F338_3 s.1 s.2.1 s.2.2.1 s.2.2.2 h (fun y0 y1 y2 y6 h => K (y0, y1, y2, y6) h) Kr Ke0) (x0, x1, x2, x6) h
theorem F338_2_ok (Kn Kr Ke0) (t : T) (h : H) (H0 : F338_2 (t 0) (t 1) (t 2) (t 6) h Kn Kr Ke0) : Wp Tryz.prog 49 (blkC (rest 1 (bodyOf Tryz.f338.body))) (mkQ (fun t h => Kn  h) (fun t h => Kr  h) (keAdd 0 (fun t h => Ke0  h) ke0)) t h :=
  loop_ok (fun t => (t 0, t 1, t 2, t 6)) (by kernel_rfl) (fun t h K H1 => F338_3_ok (fun y0 y1 y2 y6 h => K (y0, y1, y2, y6) h) Kr Ke0 t h H1) H0
def F338_1 (x0 x1 x2 x6 : Value) (h : H) (Kn : H → Prop) (Kr : H → Prop) : Prop :=
  F338_2 x0 x1 x2 x6 h Kn Kr Kn
theorem F338_1_ok (Kn Kr) (t : T) (h : H) (H0 : F338_1 (t 0) (t 1) (t 2) (t 6) h Kn Kr) : Wp Tryz.prog 49 (rest 1 (bodyOf Tryz.f338.body)) (mkQ (fun t h => Kn  h) (fun t h => Kr  h) ke0) t h :=
  block_ok 0 (by kernel_rfl) (by kernel_rfl) (F338_2_ok Kn Kr Kn t h H0)
def F338_0 (x0 x1 x2 : Value) (h : H) (Kn : H → Prop) (Kr : H → Prop) : Prop :=
  o_bin Tryz.prog .add 3 x1 (.int .i64 1) fun v9 => F338_1 x0 x1 x2 v9 h Kn Kr
theorem F338_0_ok (Kn Kr) (t : T) (h : H) (H0 : F338_0 (t 0) (t 1) (t 2) h Kn Kr) : Wp Tryz.prog 49 (bodyOf Tryz.f338.body) (mkQ (fun t h => Kn  h) (fun t h => Kr  h) ke0) t h :=
  awpTo_okF 1 H0 (by kernel_rfl) (fun t h (H1 : F338_1 (t 0) (t 1) (t 2) (t 6) h Kn Kr) => F338_1_ok Kn Kr t h H1) (by kernel_rfl)
def F338 (x0 x1 x2 : Value) (h : H) (Q : VP1) : Prop := F338_0 x0 x1 x2 h (fun h => bif [].all boxV then Q (.tuple #[]) h else False) (fun h => bif [].all boxV then Q (.tuple #[]) h else False)
theorem F338_spec (x0 x1 x2 : Value) (h : H) (Q : VP1) (H0 : F338 x0 x1 x2 h Q) : AM.Spec Tryz.prog 338 [x0, x1, x2] h Q :=
  spec_wp mixed (fn := Tryz.f338) Tryz.func338 (c := bodyOf Tryz.f338.body) (rs := []) (N := 49) (by kernel_rfl) (by kernel_rfl) (by kernel_rfl) (by kernel_rfl) (by kernel_rfl) (Nat.le_of_ble_eq_true rfl) (F338_0_ok (fun h => bif [].all boxV then Q (.tuple #[]) h else False) (fun h => bif [].all boxV then Q (.tuple #[]) h else False) (tinit [x0, x1, x2]) h H0) (by kernel_rfl)
/-! #### 350: slices.siftDownOrdered[uint32] -/
def F350_7 (x0 x2 x3 x8 x9 : Value) (h : H) (Kn : VP6) (Kr : H → Prop) (Ke1 : VP4) (Ke0 : H → Prop) : Prop :=
  o_bin Tryz.prog .add 3 x9 (.int .i64 1) fun v18 => o_bin Tryz.prog .lss 3 v18 x2 fun v20 => o_guard v20 true (fun k5 => k5 x0 h) (fun v22 h => o_guard v20 true (fun k6 => k6 x3 h) (fun v23 h => o_guard v20 true (fun k7 => k7 x9 h) (fun v24 h => o_guard v20 true (fun k8 => o_bin Tryz.prog .add 3 v23 v24 fun v25 => k8 v25 h) (fun v25 h => o_guard v20 true (fun k9 => o_indexAddr none 1 v22 v25 fun v26 => k9 v26 h) (fun v26 h => o_guard v20 true (fun k10 => o_load false 1 v26 h fun v27 => k10 v27 h) (fun v27 h => o_guard v20 true (fun k11 => k11 x0 h) (fun v28 h => o_guard v20 true (fun k12 => k12 x3 h) (fun v29 h => o_guard v20 true (fun k13 => k13 x9 h) (fun v30 h => o_guard v20 true (fun k14 => o_bin Tryz.prog .add 3 v29 v30 fun v31 => k14 v31 h) (fun v31 h => o_guard v20 true (fun k15 => o_bin Tryz.prog .add 3 v31 (.int .i64 1) fun v32 => k15 v32 h) (fun v32 h => o_guard v20 true (fun k16 => o_indexAddr none 1 v28 v32 fun v33 => k16 v33 h) (fun v33 h => o_guard v20 true (fun k17 => o_load false 1 v33 h fun v34 => k17 v34 h) (fun v34 h => o_guard v20 true (fun k18 => o_dcall DS 344 [v27, v34] h fun v35 h => k18 v35 h) (fun v35 h => o_pick v20 v35 (.bool false) fun v36 => Kn x0 x2 x3 x8 x9 v36 h) h) h) h) h) h) h) h) h) h) h) h) h) h) h
theorem F350_7_ok (Kn Kr Ke1 Ke0) (t : T) (h : H) (H0 : F350_7 (t 0) (t 2) (t 3) (t 8) (t 9) h Kn Kr Ke1 Ke0) : Wp Tryz.prog 76 (seqL (seqL (rest 2 (blkC (lopC (blkC (rest 1 (bodyOf Tryz.f350.body)))))))) (mkQ (fun t h => Kn (t 0) (t 2) (t 3) (t 8) (t 9) (t 36) h) (fun t h => Kr  h) (keAdd 1 (fun t h => Ke1 (t 0) (t 2) (t 3) (t 8) h) (keAdd 0 (fun t h => Ke0  h) ke0))) t h :=
  drawD_ok dsOk (by kernel_rfl) (by kernel_rfl) H0 (by kernel_rfl)
def F350_8 (x0 x2 x3 x8 x9 x36 : Value) (h : H) (Kn : VP5) (Kr : H → Prop) (Ke1 : VP4) (Ke0 : H → Prop) : Prop :=
  o_if x36 (o_bin Tryz.prog .add 3 x9 (.int .i64 1) fun v38 => Kn x0 x2 x3 x8 v38 h) (Kn x0 x2 x3 x8 x9 h)
theorem F350_8_ok (Kn Kr Ke1 Ke0) (t : T) (h : H) (H0 : F350_8 (t 0) (t 2) (t 3) (t 8) (t 9) (t 36) h Kn Kr Ke1 Ke0) : Wp Tryz.prog 76 (seqR (seqL (rest 2 (blkC (lopC (blkC (rest 1 (bodyOf Tryz.f350.body)))))))) (mkQ (fun t h => Kn (t 0) (t 2) (t 3) (t 8) (t 9) h) (fun t h => Kr  h) (keAdd 1 (fun t h => Ke1 (t 0) (t 2) (t 3) (t 8) h) (keAdd 0 (fun t h => Ke0  h) ke0))) t h :=
  wpEqF H0 (by kernel_rfl)
def F350_6 (x0 x2 x3 x8 x9 : Value) (h : H) (Kn : VP5) (Kr : H → Prop) (Ke1 : VP4) (Ke0 : H → Prop) : Prop :=
  F350_7 x0 x2 x3 x8 x9 h (fun y0 y2 y3 y8 y9 y36 h => F350_8 y0 y2 y3 y8 y9 y36 h Kn Kr Ke1 Ke0) Kr Ke1 Ke0
theorem F350_6_ok (Kn Kr Ke1 Ke0) (t : T) (h : H) (H0 : F350_6 (t 0) (t 2) (t 3) (t 8) (t 9) h Kn Kr Ke1 Ke0) : Wp Tryz.prog 76 (seqL (rest 2 (blkC (lopC (blkC (rest 1 (bodyOf Tryz.f350.body))))))) (mkQ (fun t h => Kn (t 0) (t 2) (t 3) (t 8) (t 9) h) (fun t h => Kr  h) (keAdd 1 (fun t h => Ke1 (t 0) (t 2) (t 3) (t 8) h) (keAdd 0 (fun t h => Ke0  h) ke0))) t h :=
  seq_ok (by kernel_rfl) (fun t h H1 => F350_8_ok Kn Kr Ke1 Ke0 t h H1) (F350_7_ok (fun y0 y2 y3 y8 y9 y36 h => F350_8 y0 y2 y3 y8 y9 y36 h Kn Kr Ke1 Ke0) Kr Ke1 Ke0 t h H0)
def F350_11 (x0 x2 x3 x8 x9 : Value) (h : H) (Kn : VP6) (Kr : H → Prop) (Ke1 : VP4) (Ke0 : H → Prop) : Prop :=
  o_bin Tryz.prog .add 3 x3 x8 fun v42 => o_indexAddr none 1 x0 v42 fun v43 => o_load false 1 v43 h fun v44 => o_bin Tryz.prog .add 3 x3 x9 fun v48 => o_indexAddr none 1 x0 v48 fun v49 => o_load false 1 v49 h fun v50 => o_dcall DS 344 [v44, v50] h fun v51 h => o_un Tryz.prog .not v51 fun v52 => Kn x0 x2 x3 x8 x9 v52 h
theorem F350_11_ok (Kn Kr Ke1 Ke0) (t : T) (h : H) (H0 : F350_11 (t 0) (t 2) (t 3) (t 8) (t 9) h Kn Kr Ke1 Ke0) : Wp Tryz.prog 76 (seqL (seqL (seqR (rest 2 (blkC (lopC (blkC (rest 1 (bodyOf Tryz.f350.body))))))))) (mkQ (fun t h => Kn (t 0) (t 2) (t 3) (t 8) (t 9) (t 52) h) (fun t h => Kr  h) (keAdd 1 (fun t h => Ke1 (t 0) (t 2) (t 3) (t 8) h) (keAdd 0 (fun t h => Ke0  h) ke0))) t h :=
  drawD_ok dsOk (by kernel_rfl) (by kernel_rfl) H0 (by kernel_rfl)
def F350_12 (x0 x2 x3 x8 x9 x52 : Value) (h : H) (Kn : VP5) (Kr : H → Prop) (Ke1 : VP4) (Ke0 : H → Prop) : Prop :=
  o_if x52 (Kr h) (Kn x0 x2 x3 x8 x9 h)
theorem F350_12_ok (Kn Kr Ke1 Ke0) (t : T) (h : H) (H0 : F350_12 (t 0) (t 2) (t 3) (t 8) (t 9) (t 52) h Kn Kr Ke1 Ke0) : Wp Tryz.prog 76 (seqR (seqL (seqR (rest 2 (blkC (lopC (blkC (rest 1 (bodyOf Tryz.f350.body))))))))) (mkQ (fun t h => Kn (t 0) (t 2) (t 3) (t 8) (t 9) h) (fun t h => Kr  h) (keAdd 1 (fun t h => Ke1 (t 0) (t 2) (t 3) (t 8) h) (keAdd 0 (fun t h => Ke0  h) ke0))) t h :=
  wpEqF H0 (by kernel_rfl)
def F350_10 (x0 x2 x3 x8 x9 : Value) (h : H) (Kn : VP5) (Kr : H → Prop) (Ke1 : VP4) (Ke0 : H → Prop) : Prop :=
  F350_11 x0 x2 x3 x8 x9 h (fun y0 y2 y3 y8 y9 y52 h => F350_12 y0 y2 y3 y8 y9 y52 h Kn Kr Ke1 Ke0) Kr Ke1 Ke0
theorem F350_10_ok (Kn Kr Ke1 Ke0) (t : T) (h : H) (H0 : F350_10 (t 0) (t 2) (t 3) (t 8) (t 9) h Kn Kr Ke1 Ke0) : Wp Tryz.prog 76 (seqL (seqR (rest 2 (blkC (lopC (blkC (rest 1 (bodyOf Tryz.f350.body)))))))) (mkQ (fun t h => Kn (t 0) (t 2) (t 3) (t 8) (t 9) h) (fun t h => Kr  h) (keAdd 1 (fun t h => Ke1 (t 0) (t 2) (t 3) (t 8) h) (keAdd 0 (fun t h => Ke0  h) ke0))) t h :=
  seq_ok (by kernel_rfl) (fun t h H1 => F350_12_ok Kn Kr Ke1 Ke0 t h H1) (F350_11_ok (fun y0 y2 y3 y8 y9 y52 h => F350_12 y0 y2 y3 y8 y9 y52 h Kn Kr Ke1 Ke0) Kr Ke1 Ke0 t h H0)
def F350_14 (x0 x2 x3 x8 x9 : Value) (h : H) (Kn : VP4) (Kr : H → Prop) (Ke1 : VP4) (Ke0 : H → Prop) : Prop :=
  o_bin Tryz.prog .add 3 x3 x8 fun v56 => o_bin Tryz.prog .add 3 x3 x9 fun v60 => o_bin Tryz.prog .add 3 x3 x9 fun v64 => o_indexAddr none 1 x0 v64 fun v65 => o_load false 1 v65 h fun v66 => o_bin Tryz.prog .add 3 x3 x8 fun v70 => o_indexAddr none 1 x0 v70 fun v71 => o_load false 1 v71 h fun v72 => o_indexAddr none 1 x0 v56 fun v73 => o_store 1 v73 v66 h fun h => o_indexAddr none 1 x0 v60 fun v74 => o_store 1 v74 v72 h fun h => Kn x0 x2 x3 x9 h
theorem F350_14_ok (Kn Kr Ke1 Ke0) (t : T) (h : H) (H0 : F350_14 (t 0) (t 2) (t 3) (t 8) (t 9) h Kn Kr Ke1 Ke0) : Wp Tryz.prog 76 (seqL (seqR (seqR (rest 2 (blkC (lopC (blkC (rest 1 (bodyOf Tryz.f350.body))))))))) (mkQ (fun t h => Kn (t 0) (t 2) (t 3) (t 9) h) (fun t h => Kr  h) (keAdd 1 (fun t h => Ke1 (t 0) (t 2) (t 3) (t 8) h) (keAdd 0 (fun t h => Ke0  h) ke0))) t h :=
  draw_okF (by kernel_rfl) (by kernel_rfl) H0 (by kernel_rfl)
def F350_15 (x0 x2 x3 x9 : Value) (h : H) (Kn : VP4) (Kr : H → Prop) (Ke1 : VP4) (Ke0 : H → Prop) : Prop :=
  Kn x0 x2 x3 x9 h
theorem F350_15_ok (Kn Kr Ke1 Ke0) (t : T) (h : H) (H0 : F350_15 (t 0) (t 2) (t 3) (t 9) h Kn Kr Ke1 Ke0) : Wp Tryz.prog 76 (seqR (seqR (seqR (rest 2 (blkC (lopC (blkC (rest 1 (bodyOf Tryz.f350.body))))))))) (mkQ (fun t h => Kn (t 0) (t 2) (t 3) (t 8) h) (fun t h => Kr  h) (keAdd 1 (fun t h => Ke1 (t 0) (t 2) (t 3) (t 8) h) (keAdd 0 (fun t h => Ke0  h) ke0))) t h :=
  wpEqF H0 (by kernel_rfl)
def F350_13 (x0 x2 x3 x8 x9 : Value) (h : H) (Kn : VP4) (Kr : H → Prop) (Ke1 : VP4) (Ke0 : H → Prop) : Prop :=
  F350_14 x0 x2 x3 x8 x9 h (fun y0 y2 y3 y9 h => F350_15 y0 y2 y3 y9 h Kn Kr Ke1 Ke0) Kr Ke1 Ke0
theorem F350_13_ok (Kn Kr Ke1 Ke0) (t : T) (h : H) (H0 : F350_13 (t 0) (t 2) (t 3) (t 8) (t 9) h Kn Kr Ke1 Ke0) : Wp Tryz.prog 76 (seqR (seqR (rest 2 (blkC (lopC (blkC (rest 1 (bodyOf Tryz.f350.body)))))))) (mkQ (fun t h => Kn (t 0) (t 2) (t 3) (t 8) h) (fun t h => Kr  h) (keAdd 1 (fun t h => Ke1 (t 0) (t 2) (t 3) (t 8) h) (keAdd 0 (fun t h => Ke0  h) ke0))) t h :=
  seq_ok (by kernel_rfl) (fun t h H1 => F350_15_ok Kn Kr Ke1 Ke0 t h H1) (F350_14_ok (fun y0 y2 y3 y9 h => F350_15 y0 y2 y3 y9 h Kn Kr Ke1 Ke0) Kr Ke1 Ke0 t h H0)
def F350_9 (x0 x2 x3 x8 x9 : Value) (h : H) (Kn : VP4) (Kr : H → Prop) (Ke1 : VP4) (Ke0 : H → Prop) : Prop :=
  F350_10 x0 x2 x3 x8 x9 h (fun y0 y2 y3 y8 y9 h => F350_13 y0 y2 y3 y8 y9 h Kn Kr Ke1 Ke0) Kr Ke1 Ke0
theorem F350_9_ok (Kn Kr Ke1 Ke0) (t : T) (h : H) (H0 : F350_9 (t 0) (t 2) (t 3) (t 8) (t 9) h Kn Kr Ke1 Ke0) : Wp Tryz.prog 76 (seqR (rest 2 (blkC (lopC (blkC (rest 1 (bodyOf Tryz.f350.body))))))) (mkQ (fun t h => Kn (t 0) (t 2) (t 3) (t 8) h) (fun t h => Kr  h) (keAdd 1 (fun t h => Ke1 (t 0) (t 2) (t 3) (t 8) h) (keAdd 0 (fun t h => Ke0  h) ke0))) t h :=
  seq_ok (by kernel_rfl) (fun t h H1 => F350_13_ok Kn Kr Ke1 Ke0 t h H1) (F350_10_ok (fun y0 y2 y3 y8 y9 h => F350_13 y0 y2 y3 y8 y9 h Kn Kr Ke1 Ke0) Kr Ke1 Ke0 t h H0)
def F350_5 (x0 x2 x3 x8 x9 : Value) (h : H) (Kn : VP4) (Kr : H → Prop) (Ke1 : VP4) (Ke0 : H → Prop) : Prop :=
  F350_6 x0 x2 x3 x8 x9 h (fun y0 y2 y3 y8 y9 h => F350_9 y0 y2 y3 y8 y9 h Kn Kr Ke1 Ke0) Kr Ke1 Ke0
theorem F350_5_ok (Kn Kr Ke1 Ke0) (t : T) (h : H) (H0 : F350_5 (t 0) (t 2) (t 3) (t 8) (t 9) h Kn Kr Ke1 Ke0) : Wp Tryz.prog 76 (rest 2 (blkC (lopC (blkC (rest 1 (bodyOf Tryz.f350.body)))))) (mkQ (fun t h => Kn (t 0) (t 2) (t 3) (t 8) h) (fun t h => Kr  h) (keAdd 1 (fun t h => Ke1 (t 0) (t 2) (t 3) (t 8) h) (keAdd 0 (fun t h => Ke0  h) ke0))) t h :=
  seq_ok (by kernel_rfl) (fun t h H1 => F350_9_ok Kn Kr Ke1 Ke0 t h H1) (F350_6_ok (fun y0 y2 y3 y8 y9 h => F350_9 y0 y2 y3 y8 y9 h Kn Kr Ke1 Ke0) Kr Ke1 Ke0 t h H0)
def F350_4 (x0 x2 x3 x8 : Value) (h : H) (Kn : VP4) (Kr : H → Prop) (Ke1 : VP4) (Ke0 : H → Prop) : Prop :=
  o_bin Tryz.prog .mul 3 (.int .i64 2) x8 fun v12 => o_bin Tryz.prog .add 3 v12 (.int .i64 1) fun v13 => o_bin Tryz.prog .geq 3 v13 x2 fun v16 => o_if v16 (Ke0 h) (F350_5 x0 x2 x3 x8 v13 h Kn Kr Ke1 Ke0)
theorem F350_4_ok (Kn Kr Ke1 Ke0) (t : T) (h : H) (H0 : F350_4 (t 0) (t 2) (t 3) (t 8) h Kn Kr Ke1 Ke0) : Wp Tryz.prog 76 (blkC (lopC (blkC (rest 1 (bodyOf Tryz.f350.body))))) (mkQ (fun t h => Kn (t 0) (t 2) (t 3) (t 8) h) (fun t h => Kr  h) (keAdd 1 (fun t h => Ke1 (t 0) (t 2) (t 3) (t 8) h) (keAdd 0 (fun t h => Ke0  h) ke0))) t h :=
  awpTo_okF 2 H0 (by kernel_rfl) (fun t h (H1 : F350_5 (t 0) (t 2) (t 3) (t 8) (t 9) h Kn Kr Ke1 Ke0) => F350_5_ok Kn Kr Ke1 Ke0 t h H1) (by kernel_rfl)
def F350_3 (x0 x2 x3 x8 : Value) (h : H) (Kn : VP4) (Kr : H → Prop) (Ke0 : H → Prop) : Prop :=
  F350_4 x0 x2 x3 x8 h Kn Kr Kn Ke0
theorem F350_3_ok (Kn Kr Ke0) (t : T) (h : H) (H0 : F350_3 (t 0) (t 2) (t 3) (t 8) h Kn Kr Ke0) : Wp Tryz.prog 76 (lopC (blkC (rest 1 (bodyOf Tryz.f350.body)))) (mkQ (fun t h => Kn (t 0) (t 2) (t 3) (t 8) h) (fun t h => Kr  h) (keAdd 0 (fun t h => Ke0  h) ke0)) t h :=
  block_ok 1 (by kernel_rfl) (by kernel_rfl) (F350_4_ok Kn Kr Kn Ke0 t h H0)
def F350_2 (x0 x2 x3 x8 : Value) (h : H) (Kn : H → Prop) (Kr : H → Prop) (Ke0 : H → Prop) : Prop :=
  sloop (S := Value × Value × Value × Value) (fun s h K => F350_3 s.1 s.2.1 s.2.2.1 s.2.2.2 h (fun y0 y2 y3 y8 h => K (y0, y2, y3, y8) h) Kr Ke0) (x0, x2, x3, x8) h
theorem F350_2_ok (Kn Kr Ke0) (t : T) (h : H) (H0 : F350_2 (t 0) (t 2) (t 3) (t 8) h Kn Kr Ke0) : Wp Tryz.prog 76 (blkC (rest 1 (bodyOf Tryz.f350.body))) (mkQ (fun t h => Kn  h) (fun t h => Kr  h) (keAdd 0 (fun t h => Ke0  h) ke0)) t h :=
  loop_ok (fun t => (t 0, t 2, t 3, t 8)) (by kernel_rfl) (fun t h K H1 => F350_3_ok (fun y0 y2 y3 y8 h => K (y0, y2, y3, y8) h) Kr Ke0 t h H1) H0
def F350_1 (x0 x2 x3 x8 : Value) (h : H) (Kn : H → Prop) (Kr : H → Prop) : Prop :=
  F350_2 x0 x2 x3 x8 h Kn Kr Kn
theorem F350_1_ok (Kn Kr) (t : T) (h : H) (H0 : F350_1 (t 0) (t 2) (t 3) (t 8) h Kn Kr) : Wp Tryz.prog 76 (rest 1 (bodyOf Tryz.f350.body)) (mkQ (fun t h => Kn  h) (fun t h => Kr  h) ke0) t h :=
  block_ok 0 (by kernel_rfl) (by kernel_rfl) (F350_2_ok Kn Kr Kn t h H0)
def F350_0 (x0 x1 x2 x3 : Value) (h : H) (Kn : H → Prop) (Kr : H → Prop) : Prop :=
  F350_1 x0 x2 x3 x1 h Kn Kr
theorem F350_0_ok (Kn Kr) (t : T) (h : H) (H0 : F350_0 (t 0) (t 1) (t 2) (t 3) h Kn Kr) : Wp Tryz.prog 76 (bodyOf Tryz.f350.body) (mkQ (fun t h => Kn  h) (fun t h => Kr  h) ke0) t h :=
  awpTo_okF 1 H0 (by kernel_rfl) (fun t h (H1 : F350_1 (t 0) (t 2) (t 3) (t 8) h Kn Kr) => F350_1_ok Kn Kr t h H1) (by kernel_rfl)
def F350 (x0 x1 x2 x3 : Value) (h : H) (Q : VP1) : Prop := F350_0 x0 x1 x2 x3 h (fun h => bif [].all boxV then Q (.tuple #[]) h else False) (fun h => bif [].all boxV then Q (.tuple #[]) h else False)
theorem F350_spec (x0 x1 x2 x3 : Value) (h : H) (Q : VP1) (H0 : F350 x0 x1 x2 x3 h Q) : AM.Spec Tryz.prog 350 [x0, x1, x2, x3] h Q :=
  spec_wp mixed (fn := Tryz.f350) Tryz.func350 (c := bodyOf Tryz.f350.body) (rs := []) (N := 76) (by kernel_rfl) (by kernel_rfl) (by kernel_rfl) (by kernel_rfl) (by kernel_rfl) (Nat.le_of_ble_eq_true rfl) (F350_0_ok (fun h => bif [].all boxV then Q (.tuple #[]) h else False) (fun h => bif [].all boxV then Q (.tuple #[]) h else False) (tinit [x0, x1, x2, x3]) h H0) (by kernel_rfl)
/-! #### 339: slices.heapSortOrdered[uint32] -/
def F339_5 (x0 x6 x7 x8 x9 : Value) (h : H) (Kn : VP5) (Kr : H → Prop) (Ke0 : VP4) : Prop :=
  o_bin Tryz.prog .geq 3 x9 (.int .i64 0) fun v19 => o_if v19 (o_call Tryz.prog 350 [x0, x9, x8, x6] h fun v26 h => o_bin Tryz.prog .sub 3 x9 (.int .i64 1) fun v21 => Kn x0 x6 x7 x8 v21 h) (Ke0 x0 x6 x7 x8 h)
theorem F339_5_ok (Kn Kr Ke0) (t : T) (h : H) (H0 : F339_5 (t 0) (t 6) (t 7) (t 8) (t 9) h Kn Kr Ke0) : Wp Tryz.prog 56 (lopC (blkC (rest 1 (seqL (rest 3 (bodyOf Tryz.f339.body)))))) (mkQ (fun t h => Kn (t 0) (t 6) (t 7) (t 8) (t 9) h) (fun t h => Kr  h) (keAdd 0 (fun t h => Ke0 (t 0) (t 6) (t 7) (t 8) h) ke0)) t h :=
  wpEqF H0 (by kernel_rfl)
def F339_4 (x0 x6 x7 x8 x9 : Value) (h : H) (Kn : VP4) (Kr : H → Prop) (Ke0 : VP4) : Prop :=
  sloop (S := Value × Value × Value × Value × Value) (fun s h K => F339_5 s.1 s.2.1 s.2.2.1 s.2.2.2.1 s.2.2.2.2 h (fun y0 y6 y7 y8 y9 h => K (y0, y6, y7, y8, y9) h) Kr Ke0) (x0, x6, x7, x8, x9) h
theorem F339_4_ok (Kn Kr Ke0) (t : T) (h : H) (H0 : F339_4 (t 0) (t 6) (t 7) (t 8) (t 9) h Kn Kr Ke0) : Wp Tryz.prog 56 (blkC (rest 1 (seqL (rest 3 (bodyOf Tryz.f339.body))))) (mkQ (fun t h => Kn (t 0) (t 6) (t 7) (t 8) h) (fun t h => Kr  h) (keAdd 0 (fun t h => Ke0 (t 0) (t 6) (t 7) (t 8) h) ke0)) t h :=
  loop_ok (fun t => (t 0, t 6, t 7, t 8, t 9)) (by kernel_rfl) (fun t h K H1 => F339_5_ok (fun y0 y6 y7 y8 y9 h => K (y0, y6, y7, y8, y9) h) Kr Ke0 t h H1) H0
def F339_3 (x0 x6 x7 x8 x9 : Value) (h : H) (Kn : VP4) (Kr : H → Prop) : Prop :=
  F339_4 x0 x6 x7 x8 x9 h Kn Kr Kn
theorem F339_3_ok (Kn Kr) (t : T) (h : H) (H0 : F339_3 (t 0) (t 6) (t 7) (t 8) (t 9) h Kn Kr) : Wp Tryz.prog 56 (rest 1 (seqL (rest 3 (bodyOf Tryz.f339.body)))) (mkQ (fun t h => Kn (t 0) (t 6) (t 7) (t 8) h) (fun t h => Kr  h) ke0) t h :=
  block_ok 0 (by kernel_rfl) (by kernel_rfl) (F339_4_ok Kn Kr Kn t h H0)
def F339_2 (x0 x6 x7 x8 : Value) (h : H) (Kn : VP4) (Kr : H → Prop) : Prop :=
  o_bin Tryz.prog .sub 3 x8 (.int .i64 1) fun v16 => o_bin Tryz.prog .quo 3 v16 (.int .i64 2) fun v17 => F339_3 x0 x6 x7 x8 v17 h Kn Kr
theorem F339_2_ok (Kn Kr) (t : T) (h : H) (H0 : F339_2 (t 0) (t 6) (t 7) (t 8) h Kn Kr) : Wp Tryz.prog 56 (seqL (rest 3 (bodyOf Tryz.f339.body))) (mkQ (fun t h => Kn (t 0) (t 6) (t 7) (t 8) h) (fun t h => Kr  h) ke0) t h :=
  awpTo_okF 1 H0 (by kernel_rfl) (fun t h (H1 : F339_3 (t 0) (t 6) (t 7) (t 8) (t 9) h Kn Kr) => F339_3_ok Kn Kr t h H1) (by kernel_rfl)
def F339_13 (x0 x6 x7 x10 : Value) (h : H) (Kn : VP4) (Kr : H → Prop) (Ke3 : VP4) (Ke2 : H → Prop) : Prop :=
  o_bin Tryz.prog .add 3 x6 x10 fun v38 => o_bin Tryz.prog .add 3 x6 x10 fun v42 => o_indexAddr none 1 x0 v42 fun v43 => o_load false 1 v43 h fun v44 => o_indexAddr none 1 x0 x6 fun v47 => o_load false 1 v47 h fun v48 => o_indexAddr none 1 x0 x6 fun v49 => o_store 1 v49 v44 h fun h => o_indexAddr none 1 x0 v38 fun v50 => o_store 1 v50 v48 h fun h => Kn x0 x6 x7 x10 h
theorem F339_13_ok (Kn Kr Ke3 Ke2) (t : T) (h : H) (H0 : F339_13 (t 0) (t 6) (t 7) (t 10) h Kn Kr Ke3 Ke2) : Wp Tryz.prog 56 (seqL (blkC (seqL (rest 1 (lopC (blkC (rest 1 (seqR (rest 3 (bodyOf Tryz.f339.body)))))))))) (mkQ (fun t h => Kn (t 0) (t 6) (t 7) (t 10) h) (fun t h => Kr  h) (keAdd 3 (fun t h => Ke3 (t 0) (t 6) (t 7) (t 10) h) (keAdd 2 (fun t h => Ke2  h) ke0))) t h :=
  draw_okF (by kernel_rfl) (by kernel_rfl) H0 (by kernel_rfl)
def F339_14 (x0 x6 x7 x10 : Value) (h : H) (Kn : VP4) (Kr : H → Prop) (Ke3 : VP4) (Ke2 : H → Prop) : Prop :=
  o_call Tryz.prog 350 [x0, x7, x10, x6] h fun v55 h => Kn x0 x6 x7 x10 h
theorem F339_14_ok (Kn Kr Ke3 Ke2) (t : T) (h : H) (H0 : F339_14 (t 0) (t 6) (t 7) (t 10) h Kn Kr Ke3 Ke2) : Wp Tryz.prog 56 (seqR (blkC (seqL (rest 1 (lopC (blkC (rest 1 (seqR (rest 3 (bodyOf Tryz.f339.body)))))))))) (mkQ (fun t h => Kn (t 0) (t 6) (t 7) (t 10) h) (fun t h => Kr  h) (keAdd 3 (fun t h => Ke3 (t 0) (t 6) (t 7) (t 10) h) (keAdd 2 (fun t h => Ke2  h) ke0))) t h :=
  wpEqF H0 (by kernel_rfl)
def F339_12 (x0 x6 x7 x10 : Value) (h : H) (Kn : VP4) (Kr : H → Prop) (Ke3 : VP4) (Ke2 : H → Prop) : Prop :=
  F339_13 x0 x6 x7 x10 h (fun y0 y6 y7 y10 h => F339_14 y0 y6 y7 y10 h Kn Kr Ke3 Ke2) Kr Ke3 Ke2
theorem F339_12_ok (Kn Kr Ke3 Ke2) (t : T) (h : H) (H0 : F339_12 (t 0) (t 6) (t 7) (t 10) h Kn Kr Ke3 Ke2) : Wp Tryz.prog 56 (blkC (seqL (rest 1 (lopC (blkC (rest 1 (seqR (rest 3 (bodyOf Tryz.f339.body))))))))) (mkQ (fun t h => Kn (t 0) (t 6) (t 7) (t 10) h) (fun t h => Kr  h) (keAdd 3 (fun t h => Ke3 (t 0) (t 6) (t 7) (t 10) h) (keAdd 2 (fun t h => Ke2  h) ke0))) t h :=
  seq_ok (by kernel_rfl) (fun t h H1 => F339_14_ok Kn Kr Ke3 Ke2 t h H1) (F339_13_ok (fun y0 y6 y7 y10 h => F339_14 y0 y6 y7 y10 h Kn Kr Ke3 Ke2) Kr Ke3 Ke2 t h H0)
def F339_11 (x0 x6 x7 x10 : Value) (h : H) (Kn : VP4) (Kr : H → Prop) (Ke2 : H → Prop) : Prop :=
  F339_12 x0 x6 x7 x10 h Kn Kr Kn Ke2
theorem F339_11_ok (Kn Kr Ke2) (t : T) (h : H) (H0 : F339_11 (t 0) (t 6) (t 7) (t 10) h Kn Kr Ke2) : Wp Tryz.prog 56 (seqL (rest 1 (lopC (blkC (rest 1 (seqR (rest 3 (bodyOf Tryz.f339.body)))))))) (mkQ (fun t h => Kn (t 0) (t 6) (t 7) (t 10) h) (fun t h => Kr  h) (keAdd 2 (fun t h => Ke2  h) ke0)) t h :=
  block_ok 3 (by kernel_rfl) (by kernel_rfl) (F339_12_ok Kn Kr Kn Ke2 t h H0)
def F339_15 (x0 x6 x7 x10 : Value) (h : H) (Kn : VP4) (Kr : H → Prop) (Ke2 : H → Prop) : Prop :=
  o_bin Tryz.prog .sub 3 x10 (.int .i64 1) fun v32 => Kn x0 x6 x7 v32 h
theorem F339_15_ok (Kn Kr Ke2) (t : T) (h : H) (H0 : F339_15 (t 0) (t 6) (t 7) (t 10) h Kn Kr Ke2) : Wp Tryz.prog 56 (seqR (rest 1 (lopC (blkC (rest 1 (seqR (rest 3 (bodyOf Tryz.f339.body)))))))) (mkQ (fun t h => Kn (t 0) (t 6) (t 7) (t 10) h) (fun t h => Kr  h) (keAdd 2 (fun t h => Ke2  h) ke0)) t h :=
  wpEqF H0 (by kernel_rfl)
def F339_10 (x0 x6 x7 x10 : Value) (h : H) (Kn : VP4) (Kr : H → Prop) (Ke2 : H → Prop) : Prop :=
  F339_11 x0 x6 x7 x10 h (fun y0 y6 y7 y10 h => F339_15 y0 y6 y7 y10 h Kn Kr Ke2) Kr Ke2
theorem F339_10_ok (Kn Kr Ke2) (t : T) (h : H) (H0 : F339_10 (t 0) (t 6) (t 7) (t 10) h Kn Kr Ke2) : Wp Tryz.prog 56 (rest 1 (lopC (blkC (rest 1 (seqR (rest 3 (bodyOf Tryz.f339.body))))))) (mkQ (fun t h => Kn (t 0) (t 6) (t 7) (t 10) h) (fun t h => Kr  h) (keAdd 2 (fun t h => Ke2  h) ke0)) t h :=
  seq_ok (by kernel_rfl) (fun t h H1 => F339_15_ok Kn Kr Ke2 t h H1) (F339_11_ok (fun y0 y6 y7 y10 h => F339_15 y0 y6 y7 y10 h Kn Kr Ke2) Kr Ke2 t h H0)
def F339_9 (x0 x6 x7 x10 : Value) (h : H) (Kn : VP4) (Kr : H → Prop) (Ke2 : H → Prop) : Prop :=
  o_bin Tryz.prog .geq 3 x10 (.int .i64 0) fun v30 => o_if v30 (F339_10 x0 x6 x7 x10 h Kn Kr Ke2) (Ke2 h)
theorem F339_9_ok (Kn Kr Ke2) (t : T) (h : H) (H0 : F339_9 (t 0) (t 6) (t 7) (t 10) h Kn Kr Ke2) : Wp Tryz.prog 56 (lopC (blkC (rest 1 (seqR (rest 3 (bodyOf Tryz.f339.body)))))) (mkQ (fun t h => Kn (t 0) (t 6) (t 7) (t 10) h) (fun t h => Kr  h) (keAdd 2 (fun t h => Ke2  h) ke0)) t h :=
  awpTo_okF 1 H0 (by kernel_rfl) (fun t h (H1 : F339_10 (t 0) (t 6) (t 7) (t 10) h Kn Kr Ke2) => F339_10_ok Kn Kr Ke2 t h H1) (by kernel_rfl)
def F339_8 (x0 x6 x7 x10 : Value) (h : H) (Kn : H → Prop) (Kr : H → Prop) (Ke2 : H → Prop) : Prop :=
  sloop (S := Value × Value × Value × Value) (fun s h K => F339_9 s.1 s.2.1 s.2.2.1 s.2.2.2 h (fun y0 y6 y7 y10 h => K (y0, y6, y7, y10) h) Kr Ke2) (x0, x6, x7, x10) h
theorem F339_8_ok (Kn Kr Ke2) (t : T) (h : H) (H0 : F339_8 (t 0) (t 6) (t 7) (t 10) h Kn Kr Ke2) : Wp Tryz.prog 56 (blkC (rest 1 (seqR (rest 3 (bodyOf Tryz.f339.body))))) (mkQ (fun t h => Kn  h) (fun t h => Kr  h) (keAdd 2 (fun t h => Ke2  h) ke0)) t h :=
  loop_ok (fun t => (t 0, t 6, t 7, t 10)) (by kernel_rfl) (fun t h K H1 => F339_9_ok (fun y0 y6 y7 y10 h => K (y0, y6, y7, y10) h) Kr Ke2 t h H1) H0
def F339_7 (x0 x6 x7 x10 : Value) (h : H) (Kn : H → Prop) (Kr : H → Prop) : Prop :=
  F339_8 x0 x6 x7 x10 h Kn Kr Kn
theorem F339_7_ok (Kn Kr) (t : T) (h : H) (H0 : F339_7 (t 0) (t 6) (t 7) (t 10) h Kn Kr) : Wp Tryz.prog 56 (rest 1 (seqR (rest 3 (bodyOf Tryz.f339.body)))) (mkQ (fun t h => Kn  h) (fun t h => Kr  h) ke0) t h :=
  block_ok 2 (by kernel_rfl) (by kernel_rfl) (F339_8_ok Kn Kr Kn t h H0)
def F339_6 (x0 x6 x7 x8 : Value) (h : H) (Kn : H → Prop) (Kr : H → Prop) : Prop :=
  o_bin Tryz.prog .sub 3 x8 (.int .i64 1) fun v28 => F339_7 x0 x6 x7 v28 h Kn Kr
theorem F339_6_ok (Kn Kr) (t : T) (h : H) (H0 : F339_6 (t 0) (t 6) (t 7) (t 8) h Kn Kr) : Wp Tryz.prog 56 (seqR (rest 3 (bodyOf Tryz.f339.body))) (mkQ (fun t h => Kn  h) (fun t h => Kr  h) ke0) t h :=
  awpTo_okF 1 H0 (by kernel_rfl) (fun t h (H1 : F339_7 (t 0) (t 6) (t 7) (t 10) h Kn Kr) => F339_7_ok Kn Kr t h H1) (by kernel_rfl)
def F339_1 (x0 x6 x7 x8 : Value) (h : H) (Kn : H → Prop) (Kr : H → Prop) : Prop :=
  F339_2 x0 x6 x7 x8 h (fun y0 y6 y7 y8 h => F339_6 y0 y6 y7 y8 h Kn Kr) Kr
theorem F339_1_ok (Kn Kr) (t : T) (h : H) (H0 : F339_1 (t 0) (t 6) (t 7) (t 8) h Kn Kr) : Wp Tryz.prog 56 (rest 3 (bodyOf Tryz.f339.body)) (mkQ (fun t h => Kn  h) (fun t h => Kr  h) ke0) t h :=
  seq_ok (by kernel_rfl) (fun t h H1 => F339_6_ok Kn Kr t h H1) (F339_2_ok (fun y0 y6 y7 y8 h => F339_6 y0 y6 y7 y8 h Kn Kr) Kr t h H0)
def F339_0 (x0 x1 x2 : Value) (h : H) (Kn : H → Prop) (Kr : H → Prop) : Prop :=
  o_bin Tryz.prog .sub 3 x2 x1 fun v14 => F339_1 x0 x1 (.int .i64 0) v14 h Kn Kr
theorem F339_0_ok (Kn Kr) (t : T) (h : H) (H0 : F339_0 (t 0) (t 1) (t 2) h Kn Kr) : Wp Tryz.prog 56 (bodyOf Tryz.f339.body) (mkQ (fun t h => Kn  h) (fun t h => Kr  h) ke0) t h :=
  awpTo_okF 3 H0 (by kernel_rfl) (fun t h (H1 : F339_1 (t 0) (t 6) (t 7) (t 8) h Kn Kr) => F339_1_ok Kn Kr t h H1) (by kernel_rfl)
def F339 (x0 x1 x2 : Value) (h : H) (Q : VP1) : Prop := F339_0 x0 x1 x2 h (fun h => bif [].all boxV then Q (.tuple #[]) h else False) (fun h => bif [].all boxV then Q (.tuple #[]) h else False)
theorem F339_spec (x0 x1 x2 : Value) (h : H) (Q : VP1) (H0 : F339 x0 x1 x2 h Q) : AM.Spec Tryz.prog 339 [x0, x1, x2] h Q :=
  spec_wp mixed (fn := Tryz.f339) Tryz.func339 (c := bodyOf Tryz.f339.body) (rs := []) (N := 56) (by kernel_rfl) (by kernel_rfl) (by kernel_rfl) (by kernel_rfl) (by kernel_rfl) (Nat.le_of_ble_eq_true rfl) (F339_0_ok (fun h => bif [].all boxV then Q (.tuple #[]) h else False) (fun h => bif [].all boxV then Q (.tuple #[]) h else False) (tinit [x0, x1, x2]) h H0) (by kernel_rfl)
/-! #### 356: slices.order2Ordered[uint32] -/
def F356_3 (x0 x1 x2 x3 : Value) (h : H) (Kn : VP4) (Kr : VP2) : Prop :=
  o_indexAddr none 1 x0 x2 fun v12 => o_load false 1 v12 h fun v13 => o_indexAddr none 1 x0 x1 fun v16 => o_load false 1 v16 h fun v17 => o_dcall DS 344 [v13, v17] h fun v18 h => Kn x1 x2 x3 v18 h
theorem F356_3_ok (Kn Kr) (t : T) (h : H) (H0 : F356_3 (t 0) (t 1) (t 2) (t 3) h Kn Kr) : Wp Tryz.prog 28 (seqL (seqL (rest 1 (bodyOf Tryz.f356.body)))) (mkQ (fun t h => Kn (t 1) (t 2) (t 3) (t 18) h) (fun t h => Kr (t 8) (t 9) h) ke0) t h :=
  drawD_ok dsOk (by kernel_rfl) (by kernel_rfl) H0 (by kernel_rfl)
def F356_4 (x1 x2 x3 x18 : Value) (h : H) (Kn : VP2) (Kr : VP2) : Prop :=
  o_if x18 (o_nilCheck x3 fun v20 => o_load false 1 v20 h fun v21 => o_bin Tryz.prog .add 3 v21 (.int .i64 1) fun v22 => o_nilCheck x3 fun v23 => o_store 1 v23 v22 h fun h => Kr x2 x1 h) (Kn x1 x2 h)
theorem F356_4_ok (Kn Kr) (t : T) (h : H) (H0 : F356_4 (t 1) (t 2) (t 3) (t 18) h Kn Kr) : Wp Tryz.prog 28 (seqR (seqL (rest 1 (bodyOf Tryz.f356.body)))) (mkQ (fun t h => Kn (t 1) (t 2) h) (fun t h => Kr (t 8) (t 9) h) ke0) t h :=
  wpEqF H0 (by kernel_rfl)
def F356_2 (x0 x1 x2 x3 : Value) (h : H) (Kn : VP2) (Kr : VP2) : Prop :=
  F356_3 x0 x1 x2 x3 h (fun y1 y2 y3 y18 h => F356_4 y1 y2 y3 y18 h Kn Kr) Kr
theorem F356_2_ok (Kn Kr) (t : T) (h : H) (H0 : F356_2 (t 0) (t 1) (t 2) (t 3) h Kn Kr) : Wp Tryz.prog 28 (seqL (rest 1 (bodyOf Tryz.f356.body))) (mkQ (fun t h => Kn (t 1) (t 2) h) (fun t h => Kr (t 8) (t 9) h) ke0) t h :=
  seq_ok (by kernel_rfl) (fun t h H1 => F356_4_ok Kn Kr t h H1) (F356_3_ok (fun y1 y2 y3 y18 h => F356_4 y1 y2 y3 y18 h Kn Kr) Kr t h H0)
def F356_5 (x1 x2 : Value) (h : H) (Kn : VP2) (Kr : VP2) : Prop :=
  Kr x1 x2 h
theorem F356_5_ok (Kn Kr) (t : T) (h : H) (H0 : F356_5 (t 1) (t 2) h Kn Kr) : Wp Tryz.prog 28 (seqR (rest 1 (bodyOf Tryz.f356.body))) (mkQ (fun t h => Kn (t 8) (t 9) h) (fun t h => Kr (t 8) (t 9) h) ke0) t h :=
  wpEqF H0 (by kernel_rfl)
def F356_1 (x0 x1 x2 x3 : Value) (h : H) (Kn : VP2) (Kr : VP2) : Prop :=
  F356_2 x0 x1 x2 x3 h (fun y1 y2 h => F356_5 y1 y2 h Kn Kr) Kr
theorem F356_1_ok (Kn Kr) (t : T) (h : H) (H0 : F356_1 (t 0) (t 1) (t 2) (t 3) h Kn Kr) : Wp Tryz.prog 28 (rest 1 (bodyOf Tryz.f356.body)) (mkQ (fun t h => Kn (t 8) (t 9) h) (fun t h => Kr (t 8) (t 9) h) ke0) t h :=
  seq_ok (by kernel_rfl) (fun t h H1 => F356_5_ok Kn Kr t h H1) (F356_2_ok (fun y1 y2 h => F356_5 y1 y2 h Kn Kr) Kr t h H0)
def F356_0 (x0 x1 x2 x3 : Value) (h : H) (Kn : VP2) (Kr : VP2) : Prop :=
  F356_1 x0 x1 x2 x3 h Kn Kr
theorem F356_0_ok (Kn Kr) (t : T) (h : H) (H0 : F356_0 (t 0) (t 1) (t 2) (t 3) h Kn Kr) : Wp Tryz.prog 28 (bodyOf Tryz.f356.body) (mkQ (fun t h => Kn (t 8) (t 9) h) (fun t h => Kr (t 8) (t 9) h) ke0) t h :=
  awpTo_okF 1 H0 (by kernel_rfl) (fun t h (H1 : F356_1 (t 0) (t 1) (t 2) (t 3) h Kn Kr) => F356_1_ok Kn Kr t h H1) (by kernel_rfl)
def F356 (x0 x1 x2 x3 : Value) (h : H) (Q : VP1) : Prop := F356_0 x0 x1 x2 x3 h (fun y8 y9 h => bif [y8, y9].all boxV then Q (.tuple #[y8, y9]) h else False) (fun y8 y9 h => bif [y8, y9].all boxV then Q (.tuple #[y8, y9]) h else False)
theorem F356_spec (x0 x1 x2 x3 : Value) (h : H) (Q : VP1) (H0 : F356 x0 x1 x2 x3 h Q) : AM.Spec Tryz.prog 356 [x0, x1, x2, x3] h Q :=
  spec_wp mixed (fn := Tryz.f356) Tryz.func356 (c := bodyOf Tryz.f356.body) (rs := [8, 9]) (N := 28) (by kernel_rfl) (by kernel_rfl) (by kernel_rfl) (by kernel_rfl) (by kernel_rfl) (Nat.le_of_ble_eq_true rfl) (F356_0_ok (fun y8 y9 h => bif [y8, y9].all boxV then Q (.tuple #[y8, y9]) h else False) (fun y8 y9 h => bif [y8, y9].all boxV then Q (.tuple #[y8, y9]) h else False) (tinit [x0, x1, x2, x3]) h H0) (by kernel_rfl)
/-! #### 354: slices.medianOrdered[uint32] -/
def F354_0 (x0 x1 x2 x3 x4 : Value) (h : H) (Kn : VP1) (Kr : VP1) : Prop :=
  o_call Tryz.prog 356 [x0, x1, x2, x4] h fun v16 h => o_extract v16 0 fun v17 => o_extract v16 1 fun v18 => o_call Tryz.prog 356 [x0, v18, x3, x4] h fun v24 h => o_extract v24 0 fun v25 => o_extract v24 1 fun v26 => o_call Tryz.prog 356 [x0, v17, v25, x4] h fun v32 h => o_extract v32 0 fun v33 => o_extract v32 1 fun v34 => Kr v34 h
theorem F354_0_ok (Kn Kr) (t : T) (h : H) (H0 : F354_0 (t 0) (t 1) (t 2) (t 3) (t 4) h Kn Kr) : Wp Tryz.prog 36 (bodyOf Tryz.f354.body) (mkQ (fun t h => Kn (t 10) h) (fun t h => Kr (t 10) h) ke0) t h :=
  wpEqF H0 (by kernel_rfl)
def F354 (x0 x1 x2 x3 x4 : Value) (h : H) (Q : VP1) : Prop := F354_0 x0 x1 x2 x3 x4 h (fun v h => Q v h) (fun v h => Q v h)
theorem F354_spec (x0 x1 x2 x3 x4 : Value) (h : H) (Q : VP1) (H0 : F354 x0 x1 x2 x3 x4 h Q) : AM.Spec Tryz.prog 354 [x0, x1, x2, x3, x4] h Q :=
  spec_wp mixed (fn := Tryz.f354) Tryz.func354 (c := bodyOf Tryz.f354.body) (rs := [10]) (N := 36) (by kernel_rfl) (by kernel_rfl) (by kernel_rfl) (by kernel_rfl) (by kernel_rfl) (Nat.le_of_ble_eq_true rfl) (F354_0_ok (fun v h => Q v h) (fun v h => Q v h) (tinit [x0, x1, x2, x3, x4]) h H0) (by kernel_rfl)
/-! #### 353: slices.medianAdjacentOrdered[uint32] -/
def F353_0 (x0 x1 x2 : Value) (h : H) (Kn : VP1) (Kr : VP1) : Prop :=
  o_bin Tryz.prog .sub 3 x1 (.int .i64 1) fun v9 => o_bin Tryz.prog .add 3 x1 (.int .i64 1) fun v12 => o_call Tryz.prog 354 [x0, v9, x1, v12, x2] h fun v14 h => Kr v14 h
theorem F353_0_ok (Kn Kr) (t : T) (h : H) (H0 : F353_0 (t 0) (t 1) (t 2) h Kn Kr) : Wp Tryz.prog 15 (bodyOf Tryz.f353.body) (mkQ (fun t h => Kn (t 6) h) (fun t h => Kr (t 6) h) ke0) t h :=
  wpEqF H0 (by kernel_rfl)
def F353 (x0 x1 x2 : Value) (h : H) (Q : VP1) : Prop := F353_0 x0 x1 x2 h (fun v h => Q v h) (fun v h => Q v h)
theorem F353_spec (x0 x1 x2 : Value) (h : H) (Q : VP1) (H0 : F353 x0 x1 x2 h Q) : AM.Spec Tryz.prog 353 [x0, x1, x2] h Q :=
  spec_wp mixed (fn := Tryz.f353) Tryz.func353 (c := bodyOf Tryz.f353.body) (rs := [6]) (N := 15) (by kernel_rfl) (by kernel_rfl) (by kernel_rfl) (by kernel_rfl) (by kernel_rfl) (Nat.le_of_ble_eq_true rfl) (F353_0_ok (fun v h => Q v h) (fun v h => Q v h) (tinit [x0, x1, x2]) h H0) (by kernel_rfl)
/-! #### 341: slices.choosePivotOrdered[uint32] -/
def F341_5 (x0 x8 x9 x10 x11 x12 : Value) (h : H) (Kn : VP5) (Kr : VP2) : Prop :=
  o_bin Tryz.prog .geq 3 x8 (.int .i64 50) fun v34 => o_if v34 (o_call Tryz.prog 353 [x0, x10, x9] h fun v37 h => o_call Tryz.prog 353 [x0, x11, x9] h fun v40 h => o_call Tryz.prog 353 [x0, x12, x9] h fun v43 h => Kn x0 x9 v37 v40 v43 h) (Kn x0 x9 x10 x11 x12 h)
theorem F341_5_ok (Kn Kr) (t : T) (h : H) (H0 : F341_5 (t 0) (t 8) (t 9) (t 10) (t 11) (t 12) h Kn Kr) : Wp Tryz.prog 57 (seqL (cndX (rest 1 (seqL (rest 6 (bodyOf Tryz.f341.body)))))) (mkQ (fun t h => Kn (t 0) (t 9) (t 10) (t 11) (t 12) h) (fun t h => Kr (t 6) (t 7) h) ke0) t h :=
  wpEqF H0 (by kernel_rfl)
def F341_6 (x0 x9 x10 x11 x12 : Value) (h : H) (Kn : VP2) (Kr : VP2) : Prop :=
  o_call Tryz.prog 354 [x0, x10, x11, x12, x9] h fun v48 h => Kn x9 v48 h
theorem F341_6_ok (Kn Kr) (t : T) (h : H) (H0 : F341_6 (t 0) (t 9) (t 10) (t 11) (t 12) h Kn Kr) : Wp Tryz.prog 57 (seqR (cndX (rest 1 (seqL (rest 6 (bodyOf Tryz.f341.body)))))) (mkQ (fun t h => Kn (t 9) (t 11) h) (fun t h => Kr (t 6) (t 7) h) ke0) t h :=
  wpEqF H0 (by kernel_rfl)
def F341_4 (x0 x8 x9 x10 x11 x12 : Value) (h : H) (Kn : VP2) (Kr : VP2) : Prop :=
  F341_5 x0 x8 x9 x10 x11 x12 h (fun y0 y9 y10 y11 y12 h => F341_6 y0 y9 y10 y11 y12 h Kn Kr) Kr
theorem F341_4_ok (Kn Kr) (t : T) (h : H) (H0 : F341_4 (t 0) (t 8) (t 9) (t 10) (t 11) (t 12) h Kn Kr) : Wp Tryz.prog 57 (cndX (rest 1 (seqL (rest 6 (bodyOf Tryz.f341.body))))) (mkQ (fun t h => Kn (t 9) (t 11) h) (fun t h => Kr (t 6) (t 7) h) ke0) t h :=
  seq_ok (by kernel_rfl) (fun t h H1 => F341_6_ok Kn Kr t h H1) (F341_5_ok (fun y0 y9 y10 y11 y12 h => F341_6 y0 y9 y10 y11 y12 h Kn Kr) Kr t h H0)
def F341_7 (x9 x11 : Value) (h : H) (Kn : VP2) (Kr : VP2) : Prop :=
  Kn x9 x11 h
theorem F341_7_ok (Kn Kr) (t : T) (h : H) (H0 : F341_7 (t 9) (t 11) h Kn Kr) : Wp Tryz.prog 57 (cndY (rest 1 (seqL (rest 6 (bodyOf Tryz.f341.body))))) (mkQ (fun t h => Kn (t 9) (t 11) h) (fun t h => Kr (t 6) (t 7) h) ke0) t h :=
  wpEqF H0 (by kernel_rfl)
def F341_3 (x0 x8 x9 x10 x11 x12 x32 : Value) (h : H) (Kn : VP2) (Kr : VP2) : Prop :=
  o_if x32 (F341_4 x0 x8 x9 x10 x11 x12 h Kn Kr) (F341_7 x9 x11 h Kn Kr)
theorem F341_3_ok (Kn Kr) (t : T) (h : H) (H0 : F341_3 (t 0) (t 8) (t 9) (t 10) (t 11) (t 12) (t 32) h Kn Kr) : Wp Tryz.prog 57 (rest 1 (seqL (rest 6 (bodyOf Tryz.f341.body)))) (mkQ (fun t h => Kn (t 9) (t 11) h) (fun t h => Kr (t 6) (t 7) h) ke0) t h :=
  cond_ok H0 (by kernel_rfl) (F341_4_ok Kn Kr t h) (F341_7_ok Kn Kr t h) (by kernel_rfl)
def F341_2 (x0 x8 x9 x10 x11 x12 : Value) (h : H) (Kn : VP2) (Kr : VP2) : Prop :=
  o_bin Tryz.prog .geq 3 x8 (.int .i64 8) fun v32 => F341_3 x0 x8 x9 x10 x11 x12 v32 h Kn Kr
theorem F341_2_ok (Kn Kr) (t : T) (h : H) (H0 : F341_2 (t 0) (t 8) (t 9) (t 10) (t 11) (t 12) h Kn Kr) : Wp Tryz.prog 57 (seqL (rest 6 (bodyOf Tryz.f341.body))) (mkQ (fun t h => Kn (t 9) (t 11) h) (fun t h => Kr (t 6) (t 7) h) ke0) t h :=
  awpTo_okF 1 H0 (by kernel_rfl) (fun t h (H1 : F341_3 (t 0) (t 8) (t 9) (t 10) (t 11) (t 12) (t 32) h Kn Kr) => F341_3_ok Kn Kr t h H1) (by kernel_rfl)
def F341_8 (x9 x11 : Value) (h : H) (Kn : VP2) (Kr : VP2) : Prop :=
  o_load false 1 x9 h fun v49 => o_bin Tryz.prog .eql 3 v49 (.int .i64 0) fun v52 => o_if v52 (Kr x11 (.int .i64 1) h) (o_bin Tryz.prog .eql 3 v49 (.int .i64 12) fun v55 => o_if v55 (Kr x11 (.int .i64 2) h) (Kr x11 (.int .i64 0) h))
theorem F341_8_ok (Kn Kr) (t : T) (h : H) (H0 : F341_8 (t 9) (t 11) h Kn Kr) : Wp Tryz.prog 57 (seqR (rest 6 (bodyOf Tryz.f341.body))) (mkQ (fun t h => Kn (t 6) (t 7) h) (fun t h => Kr (t 6) (t 7) h) ke0) t h :=
  wpEqF H0 (by kernel_rfl)
def F341_1 (x0 x8 x9 x10 x11 x12 : Value) (h : H) (Kn : VP2) (Kr : VP2) : Prop :=
  F341_2 x0 x8 x9 x10 x11 x12 h (fun y9 y11 h => F341_8 y9 y11 h Kn Kr) Kr
theorem F341_1_ok (Kn Kr) (t : T) (h : H) (H0 : F341_1 (t 0) (t 8) (t 9) (t 10) (t 11) (t 12) h Kn Kr) : Wp Tryz.prog 57 (rest 6 (bodyOf Tryz.f341.body)) (mkQ (fun t h => Kn (t 6) (t 7) h) (fun t h => Kr (t 6) (t 7) h) ke0) t h :=
  seq_ok (by kernel_rfl) (fun t h H1 => F341_8_ok Kn Kr t h H1) (F341_2_ok (fun y9 y11 h => F341_8 y9 y11 h Kn Kr) Kr t h H0)
def F341_0 (x0 x1 x2 : Value) (h : H) (Kn : VP2) (Kr : VP2) : Prop :=
  o_bin Tryz.prog .sub 3 x2 x1 fun v15 => o_new [.int .i64 0] 3 .exact h fun b9 h => o_bin Tryz.prog .quo 3 v15 (.int .i64 4) fun v18 => o_bin Tryz.prog .mul 3 v18 (.int .i64 1) fun v19 => o_bin Tryz.prog .add 3 x1 v19 fun v20 => o_bin Tryz.prog .quo 3 v15 (.int .i64 4) fun v23 => o_bin Tryz.prog .mul 3 v23 (.int .i64 2) fun v24 => o_bin Tryz.prog .add 3 x1 v24 fun v25 => o_bin Tryz.prog .quo 3 v15 (.int .i64 4) fun v28 => o_bin Tryz.prog .mul 3 v28 (.int .i64 3) fun v29 => o_bin Tryz.prog .add 3 x1 v29 fun v30 => F341_1 x0 v15 (.pointer (some ⟨b9, 0, none⟩)) v20 v25 v30 h Kn Kr
theorem F341_0_ok (Kn Kr) (t : T) (h : H) (H0 : F341_0 (t 0) (t 1) (t 2) h Kn Kr) : Wp Tryz.prog 57 (bodyOf Tryz.f341.body) (mkQ (fun t h => Kn (t 6) (t 7) h) (fun t h => Kr (t 6) (t 7) h) ke0) t h :=
  awpTo_okF 6 H0 (by kernel_rfl) (fun t h (H1 : F341_1 (t 0) (t 8) (t 9) (t 10) (t 11) (t 12) h Kn Kr) => F341_1_ok Kn Kr t h H1) (by kernel_rfl)
def F341 (x0 x1 x2 : Value) (h : H) (Q : VP1) : Prop := F341_0 x0 x1 x2 h (fun y6 y7 h => bif [y6, y7].all boxV then Q (.tuple #[y6, y7]) h else False) (fun y6 y7 h => bif [y6, y7].all boxV then Q (.tuple #[y6, y7]) h else False)
theorem F341_spec (x0 x1 x2 : Value) (h : H) (Q : VP1) (H0 : F341 x0 x1 x2 h Q) : AM.Spec Tryz.prog 341 [x0, x1, x2] h Q :=
  spec_wp mixed (fn := Tryz.f341) Tryz.func341 (c := bodyOf Tryz.f341.body) (rs := [6, 7]) (N := 57) (by kernel_rfl) (by kernel_rfl) (by kernel_rfl) (by kernel_rfl) (by kernel_rfl) (Nat.le_of_ble_eq_true rfl) (F341_0_ok (fun y6 y7 h => bif [y6, y7].all boxV then Q (.tuple #[y6, y7]) h else False) (fun y6 y7 h => bif [y6, y7].all boxV then Q (.tuple #[y6, y7]) h else False) (tinit [x0, x1, x2]) h H0) (by kernel_rfl)
/-! #### 342: slices.reverseRangeOrdered[uint32] -/
def F342_6 (x0 x6 x7 : Value) (h : H) (Kn : VP3) (Kr : H → Prop) (Ke1 : VP3) (Ke0 : H → Prop) : Prop :=
  o_indexAddr none 1 x0 x7 fun v20 => o_load false 1 v20 h fun v21 => o_indexAddr none 1 x0 x6 fun v24 => o_load false 1 v24 h fun v25 => o_indexAddr none 1 x0 x6 fun v26 => o_store 1 v26 v21 h fun h => o_indexAddr none 1 x0 x7 fun v27 => o_store 1 v27 v25 h fun h => Kn x0 x6 x7 h
theorem F342_6_ok (Kn Kr Ke1 Ke0) (t : T) (h : H) (H0 : F342_6 (t 0) (t 6) (t 7) h Kn Kr Ke1 Ke0) : Wp Tryz.prog 32 (seqL (blkC (rest 1 (lopC (blkC (rest 2 (bodyOf Tryz.f342.body))))))) (mkQ (fun t h => Kn (t 0) (t 6) (t 7) h) (fun t h => Kr  h) (keAdd 1 (fun t h => Ke1 (t 0) (t 6) (t 7) h) (keAdd 0 (fun t h => Ke0  h) ke0))) t h :=
  draw_okF (by kernel_rfl) (by kernel_rfl) H0 (by kernel_rfl)
def F342_7 (x0 x6 x7 : Value) (h : H) (Kn : VP3) (Kr : H → Prop) (Ke1 : VP3) (Ke0 : H → Prop) : Prop :=
  o_bin Tryz.prog .add 3 x6 (.int .i64 1) fun v29 => o_bin Tryz.prog .sub 3 x7 (.int .i64 1) fun v31 => Kn x0 v29 v31 h
theorem F342_7_ok (Kn Kr Ke1 Ke0) (t : T) (h : H) (H0 : F342_7 (t 0) (t 6) (t 7) h Kn Kr Ke1 Ke0) : Wp Tryz.prog 32 (seqR (blkC (rest 1 (lopC (blkC (rest 2 (bodyOf Tryz.f342.body))))))) (mkQ (fun t h => Kn (t 0) (t 6) (t 7) h) (fun t h => Kr  h) (keAdd 1 (fun t h => Ke1 (t 0) (t 6) (t 7) h) (keAdd 0 (fun t h => Ke0  h) ke0))) t h :=
  wpEqF H0 (by kernel_rfl)
def F342_5 (x0 x6 x7 : Value) (h : H) (Kn : VP3) (Kr : H → Prop) (Ke1 : VP3) (Ke0 : H → Prop) : Prop :=
  F342_6 x0 x6 x7 h (fun y0 y6 y7 h => F342_7 y0 y6 y7 h Kn Kr Ke1 Ke0) Kr Ke1 Ke0
theorem F342_5_ok (Kn Kr Ke1 Ke0) (t : T) (h : H) (H0 : F342_5 (t 0) (t 6) (t 7) h Kn Kr Ke1 Ke0) : Wp Tryz.prog 32 (blkC (rest 1 (lopC (blkC (rest 2 (bodyOf Tryz.f342.body)))))) (mkQ (fun t h => Kn (t 0) (t 6) (t 7) h) (fun t h => Kr  h) (keAdd 1 (fun t h => Ke1 (t 0) (t 6) (t 7) h) (keAdd 0 (fun t h => Ke0  h) ke0))) t h :=
  seq_ok (by kernel_rfl) (fun t h H1 => F342_7_ok Kn Kr Ke1 Ke0 t h H1) (F342_6_ok (fun y0 y6 y7 h => F342_7 y0 y6 y7 h Kn Kr Ke1 Ke0) Kr Ke1 Ke0 t h H0)
def F342_4 (x0 x6 x7 : Value) (h : H) (Kn : VP3) (Kr : H → Prop) (Ke0 : H → Prop) : Prop :=
  F342_5 x0 x6 x7 h Kn Kr Kn Ke0
theorem F342_4_ok (Kn Kr Ke0) (t : T) (h : H) (H0 : F342_4 (t 0) (t 6) (t 7) h Kn Kr Ke0) : Wp Tryz.prog 32 (rest 1 (lopC (blkC (rest 2 (bodyOf Tryz.f342.body))))) (mkQ (fun t h => Kn (t 0) (t 6) (t 7) h) (fun t h => Kr  h) (keAdd 0 (fun t h => Ke0  h) ke0)) t h :=
  block_ok 1 (by kernel_rfl) (by kernel_rfl) (F342_5_ok Kn Kr Kn Ke0 t h H0)
def F342_3 (x0 x6 x7 : Value) (h : H) (Kn : VP3) (Kr : H → Prop) (Ke0 : H → Prop) : Prop :=
  o_bin Tryz.prog .lss 3 x6 x7 fun v13 => o_if v13 (F342_4 x0 x6 x7 h Kn Kr Ke0) (Ke0 h)
theorem F342_3_ok (Kn Kr Ke0) (t : T) (h : H) (H0 : F342_3 (t 0) (t 6) (t 7) h Kn Kr Ke0) : Wp Tryz.prog 32 (lopC (blkC (rest 2 (bodyOf Tryz.f342.body)))) (mkQ (fun t h => Kn (t 0) (t 6) (t 7) h) (fun t h => Kr  h) (keAdd 0 (fun t h => Ke0  h) ke0)) t h :=
  awpTo_okF 1 H0 (by kernel_rfl) (fun t h (H1 : F342_4 (t 0) (t 6) (t 7) h Kn Kr Ke0) => F342_4_ok Kn Kr Ke0 t h H1) (by kernel_rfl)
def F342_2 (x0 x6 x7 : Value) (h : H) (Kn : H → Prop) (Kr : H → Prop) (Ke0 : H → Prop) : Prop :=
  sloop (S := Value × Value × Value) (fun s h K => F342_3 s.1 s.2.1 s.2.2 h (fun y0 y6 y7 h => K (y0, y6, y7) h) Kr Ke0) (x0, x6, x7) h
theorem F342_2_ok (Kn Kr Ke0) (t : T) (h : H) (H0 : F342_2 (t 0) (t 6) (t 7) h Kn Kr Ke0) : Wp Tryz.prog 32 (blkC (rest 2 (bodyOf Tryz.f342.body))) (mkQ (fun t h => Kn  h) (fun t h => Kr  h) (keAdd 0 (fun t h => Ke0  h) ke0)) t h :=
  loop_ok (fun t => (t 0, t 6, t 7)) (by kernel_rfl) (fun t h K H1 => F342_3_ok (fun y0 y6 y7 h => K (y0, y6, y7) h) Kr Ke0 t h H1) H0
def F342_1 (x0 x6 x7 : Value) (h : H) (Kn : H → Prop) (Kr : H → Prop) : Prop :=
  F342_2 x0 x6 x7 h Kn Kr Kn
theorem F342_1_ok (Kn Kr) (t : T) (h : H) (H0 : F342_1 (t 0) (t 6) (t 7) h Kn Kr) : Wp Tryz.prog 32 (rest 2 (bodyOf Tryz.f342.body)) (mkQ (fun t h => Kn  h) (fun t h => Kr  h) ke0) t h :=
  block_ok 0 (by kernel_rfl) (by kernel_rfl) (F342_2_ok Kn Kr Kn t h H0)
def F342_0 (x0 x1 x2 : Value) (h : H) (Kn : H → Prop) (Kr : H → Prop) : Prop :=
  o_bin Tryz.prog .sub 3 x2 (.int .i64 1) fun v10 => F342_1 x0 x1 v10 h Kn Kr
theorem F342_0_ok (Kn Kr) (t : T) (h : H) (H0 : F342_0 (t 0) (t 1) (t 2) h Kn Kr) : Wp Tryz.prog 32 (bodyOf Tryz.f342.body) (mkQ (fun t h => Kn  h) (fun t h => Kr  h) ke0) t h :=
  awpTo_okF 2 H0 (by kernel_rfl) (fun t h (H1 : F342_1 (t 0) (t 6) (t 7) h Kn Kr) => F342_1_ok Kn Kr t h H1) (by kernel_rfl)
def F342 (x0 x1 x2 : Value) (h : H) (Q : VP1) : Prop := F342_0 x0 x1 x2 h (fun h => bif [].all boxV then Q (.tuple #[]) h else False) (fun h => bif [].all boxV then Q (.tuple #[]) h else False)
theorem F342_spec (x0 x1 x2 : Value) (h : H) (Q : VP1) (H0 : F342 x0 x1 x2 h Q) : AM.Spec Tryz.prog 342 [x0, x1, x2] h Q :=
  spec_wp mixed (fn := Tryz.f342) Tryz.func342 (c := bodyOf Tryz.f342.body) (rs := []) (N := 32) (by kernel_rfl) (by kernel_rfl) (by kernel_rfl) (by kernel_rfl) (by kernel_rfl) (Nat.le_of_ble_eq_true rfl) (F342_0_ok (fun h => bif [].all boxV then Q (.tuple #[]) h else False) (fun h => bif [].all boxV then Q (.tuple #[]) h else False) (tinit [x0, x1, x2]) h H0) (by kernel_rfl)
/-! #### 351: slices.nextPowerOfTwo -/
def F351_0 (x0 : Value) (h : H) (Kn : VP1) (Kr : VP1) : Prop :=
  o_conv .u64 x0 fun v4 => o_call Tryz.prog 328 [v4] h fun v5 h => o_bin Tryz.prog .shl 260 (.int .u64 1) v5 fun v6 => Kr v6 h
theorem F351_0_ok (Kn Kr) (t : T) (h : H) (H0 : F351_0 (t 0) h Kn Kr) : Wp Tryz.prog 7 (bodyOf Tryz.f351.body) (mkQ (fun t h => Kn (t 2) h) (fun t h => Kr (t 2) h) ke0) t h :=
  wpEqF H0 (by kernel_rfl)
def F351 (x0 : Value) (h : H) (Q : VP1) : Prop := F351_0 x0 h (fun v h => Q v h) (fun v h => Q v h)
theorem F351_spec (x0 : Value) (h : H) (Q : VP1) (H0 : F351 x0 h Q) : AM.Spec Tryz.prog 351 [x0] h Q :=
  spec_wp mixed (fn := Tryz.f351) Tryz.func351 (c := bodyOf Tryz.f351.body) (rs := [2]) (N := 7) (by kernel_rfl) (by kernel_rfl) (by kernel_rfl) (by kernel_rfl) (by kernel_rfl) (Nat.le_of_ble_eq_true rfl) (F351_0_ok (fun v h => Q v h) (fun v h => Q v h) (tinit [x0]) h H0) (by kernel_rfl)
/-! #### 352: (*slices.xorshift).Next -/
def F352_2 (x0 : Value) (h : H) (Kn : VP1) (Kr : VP1) : Prop :=
  o_nilCheck x0 fun v4 => o_load false 1 v4 h fun v5 => o_nilCheck x0 fun v7 => o_load false 1 v7 h fun v8 => o_bin Tryz.prog .shl 425 v8 (.int .u64 13) fun v9 => o_bin Tryz.prog .xor 425 v5 v9 fun v10 => o_nilCheck x0 fun v11 => o_store 1 v11 v10 h fun h => Kn x0 h
theorem F352_2_ok (Kn Kr) (t : T) (h : H) (H0 : F352_2 (t 0) h Kn Kr) : Wp Tryz.prog 33 (seqL (rest 1 (bodyOf Tryz.f352.body))) (mkQ (fun t h => Kn (t 0) h) (fun t h => Kr (t 2) h) ke0) t h :=
  draw_okF (by kernel_rfl) (by kernel_rfl) H0 (by kernel_rfl)
def F352_4 (x0 : Value) (h : H) (Kn : VP1) (Kr : VP1) : Prop :=
  o_nilCheck x0 fun v13 => o_load false 1 v13 h fun v14 => o_nilCheck x0 fun v16 => o_load false 1 v16 h fun v17 => o_bin Tryz.prog .shr 425 v17 (.int .u64 7) fun v18 => o_bin Tryz.prog .xor 425 v14 v18 fun v19 => o_nilCheck x0 fun v20 => o_store 1 v20 v19 h fun h => Kn x0 h
theorem F352_4_ok (Kn Kr) (t : T) (h : H) (H0 : F352_4 (t 0) h Kn Kr) : Wp Tryz.prog 33 (seqL (seqR (rest 1 (bodyOf Tryz.f352.body)))) (mkQ (fun t h => Kn (t 0) h) (fun t h => Kr (t 2) h) ke0) t h :=
  draw_okF (by kernel_rfl) (by kernel_rfl) H0 (by kernel_rfl)
def F352_6 (x0 : Value) (h : H) (Kn : VP1) (Kr : VP1) : Prop :=
  o_nilCheck x0 fun v22 => o_load false 1 v22 h fun v23 => o_nilCheck x0 fun v25 => o_load false 1 v25 h fun v26 => o_bin Tryz.prog .shl 425 v26 (.int .u64 17) fun v27 => o_bin Tryz.prog .xor 425 v23 v27 fun v28 => o_nilCheck x0 fun v29 => o_store 1 v29 v28 h fun h => Kn x0 h
theorem F352_6_ok (Kn Kr) (t : T) (h : H) (H0 : F352_6 (t 0) h Kn Kr) : Wp Tryz.prog 33 (seqL (seqR (seqR (rest 1 (bodyOf Tryz.f352.body))))) (mkQ (fun t h => Kn (t 0) h) (fun t h => Kr (t 2) h) ke0) t h :=
  draw_okF (by kernel_rfl) (by kernel_rfl) H0 (by kernel_rfl)
def F352_7 (x0 : Value) (h : H) (Kn : VP1) (Kr : VP1) : Prop :=
  o_nilCheck x0 fun v31 => o_load false 1 v31 h fun v32 => Kr v32 h
theorem F352_7_ok (Kn Kr) (t : T) (h : H) (H0 : F352_7 (t 0) h Kn Kr) : Wp Tryz.prog 33 (seqR (seqR (seqR (rest 1 (bodyOf Tryz.f352.body))))) (mkQ (fun t h => Kn (t 2) h) (fun t h => Kr (t 2) h) ke0) t h :=
  wpEqF H0 (by kernel_rfl)
def F352_5 (x0 : Value) (h : H) (Kn : VP1) (Kr : VP1) : Prop :=
  F352_6 x0 h (fun y0 h => F352_7 y0 h Kn Kr) Kr
theorem F352_5_ok (Kn Kr) (t : T) (h : H) (H0 : F352_5 (t 0) h Kn Kr) : Wp Tryz.prog 33 (seqR (seqR (rest 1 (bodyOf Tryz.f352.body)))) (mkQ (fun t h => Kn (t 2) h) (fun t h => Kr (t 2) h) ke0) t h :=
  seq_ok (by kernel_rfl) (fun t h H1 => F352_7_ok Kn Kr t h H1) (F352_6_ok (fun y0 h => F352_7 y0 h Kn Kr) Kr t h H0)
def F352_3 (x0 : Value) (h : H) (Kn : VP1) (Kr : VP1) : Prop :=
  F352_4 x0 h (fun y0 h => F352_5 y0 h Kn Kr) Kr
theorem F352_3_ok (Kn Kr) (t : T) (h : H) (H0 : F352_3 (t 0) h Kn Kr) : Wp Tryz.prog 33 (seqR (rest 1 (bodyOf Tryz.f352.body))) (mkQ (fun t h => Kn (t 2) h) (fun t h => Kr (t 2) h) ke0) t h :=
  seq_ok (by kernel_rfl) (fun t h H1 => F352_5_ok Kn Kr t h H1) (F352_4_ok (fun y0 h => F352_5 y0 h Kn Kr) Kr t h H0)
def F352_1 (x0 : Value) (h : H) (Kn : VP1) (Kr : VP1) : Prop :=
  F352_2 x0 h (fun y0 h => F352_3 y0 h Kn Kr) Kr
theorem F352_1_ok (Kn Kr) (t : T) (h : H) (H0 : F352_1 (t 0) h Kn Kr) : Wp Tryz.prog 33 (rest 1 (bodyOf Tryz.f352.body)) (mkQ (fun t h => Kn (t 2) h) (fun t h => Kr (t 2) h) ke0) t h :=
  seq_ok (by kernel_rfl) (fun t h H1 => F352_3_ok Kn Kr t h H1) (F352_2_ok (fun y0 h => F352_3 y0 h Kn Kr) Kr t h H0)
def F352_0 (x0 : Value) (h : H) (Kn : VP1) (Kr : VP1) : Prop :=
  F352_1 x0 h Kn Kr
theorem F352_0_ok (Kn Kr) (t : T) (h : H) (H0 : F352_0 (t 0) h Kn Kr) : Wp Tryz.prog 33 (bodyOf Tryz.f352.body) (mkQ (fun t h => Kn (t 2) h) (fun t h => Kr (t 2) h) ke0) t h :=
  awpTo_okF 1 H0 (by kernel_rfl) (fun t h (H1 : F352_1 (t 0) h Kn Kr) => F352_1_ok Kn Kr t h H1) (by kernel_rfl)
def F352 (x0 : Value) (h : H) (Q : VP1) : Prop := F352_0 x0 h (fun v h => Q v h) (fun v h => Q v h)
theorem F352_spec (x0 : Value) (h : H) (Q : VP1) (H0 : F352 x0 h Q) : AM.Spec Tryz.prog 352 [x0] h Q :=
  spec_wp mixed (fn := Tryz.f352) Tryz.func352 (c := bodyOf Tryz.f352.body) (rs := [2]) (N := 33) (by kernel_rfl) (by kernel_rfl) (by kernel_rfl) (by kernel_rfl) (by kernel_rfl) (Nat.le_of_ble_eq_true rfl) (F352_0_ok (fun v h => Q v h) (fun v h => Q v h) (tinit [x0]) h H0) (by kernel_rfl)
/-! #### 340: slices.breakPatternsOrdered[uint32] -/
def F340_10 (x0 x1 x6 x7 x8 x9 x10 : Value) (h : H) (Kn : VP7) (Kr : H → Prop) (Ke1 : VP6) (Ke0 : H → Prop) : Prop :=
  o_bin Tryz.prog .geq 3 x10 x6 fun v43 => o_if v43 (o_bin Tryz.prog .sub 3 x10 x6 fun v46 => Kn x0 x1 x6 x7 x8 x9 v46 h) (Kn x0 x1 x6 x7 x8 x9 x10 h)
theorem F340_10_ok (Kn Kr Ke1 Ke0) (t : T) (h : H) (H0 : F340_10 (t 0) (t 1) (t 6) (t 7) (t 8) (t 9) (t 10) h Kn Kr Ke1 Ke0) : Wp Tryz.prog 65 (seqL (rest 1 (blkC (seqL (rest 1 (lopC (blkC (rest 3 (cndX (rest 2 (bodyOf Tryz.f340.body))))))))))) (mkQ (fun t h => Kn (t 0) (t 1) (t 6) (t 7) (t 8) (t 9) (t 10) h) (fun t h => Kr  h) (keAdd 1 (fun t h => Ke1 (t 0) (t 1) (t 6) (t 7) (t 8) (t 9) h) (keAdd 0 (fun t h => Ke0  h) ke0))) t h :=
  wpEqF H0 (by kernel_rfl)
def F340_11 (x0 x1 x6 x7 x8 x9 x10 : Value) (h : H) (Kn : VP6) (Kr : H → Prop) (Ke1 : VP6) (Ke0 : H → Prop) : Prop :=
  o_bin Tryz.prog .add 3 x1 x10 fun v52 => o_bin Tryz.prog .add 3 x1 x10 fun v56 => o_indexAddr none 1 x0 v56 fun v57 => o_load false 1 v57 h fun v58 => o_indexAddr none 1 x0 x9 fun v61 => o_load false 1 v61 h fun v62 => o_indexAddr none 1 x0 x9 fun v63 => o_store 1 v63 v58 h fun h => o_indexAddr none 1 x0 v52 fun v64 => o_store 1 v64 v62 h fun h => Kn x0 x1 x6 x7 x8 x9 h
theorem F340_11_ok (Kn Kr Ke1 Ke0) (t : T) (h : H) (H0 : F340_11 (t 0) (t 1) (t 6) (t 7) (t 8) (t 9) (t 10) h Kn Kr Ke1 Ke0) : Wp Tryz.prog 65 (seqR (rest 1 (blkC (seqL (rest 1 (lopC (blkC (rest 3 (cndX (rest 2 (bodyOf Tryz.f340.body))))))))))) (mkQ (fun t h => Kn (t 0) (t 1) (t 6) (t 7) (t 8) (t 9) h) (fun t h => Kr  h) (keAdd 1 (fun t h => Ke1 (t 0) (t 1) (t 6) (t 7) (t 8) (t 9) h) (keAdd 0 (fun t h => Ke0  h) ke0))) t h :=
  draw_okF (by kernel_rfl) (by kernel_rfl) H0 (by kernel_rfl)
def F340_9 (x0 x1 x6 x7 x8 x9 x10 : Value) (h : H) (Kn : VP6) (Kr : H → Prop) (Ke1 : VP6) (Ke0 : H → Prop) : Prop :=
  F340_10 x0 x1 x6 x7 x8 x9 x10 h (fun y0 y1 y6 y7 y8 y9 y10 h => F340_11 y0 y1 y6 y7 y8 y9 y10 h Kn Kr Ke1 Ke0) Kr Ke1 Ke0
theorem F340_9_ok (Kn Kr Ke1 Ke0) (t : T) (h : H) (H0 : F340_9 (t 0) (t 1) (t 6) (t 7) (t 8) (t 9) (t 10) h Kn Kr Ke1 Ke0) : Wp Tryz.prog 65 (rest 1 (blkC (seqL (rest 1 (lopC (blkC (rest 3 (cndX (rest 2 (bodyOf Tryz.f340.body)))))))))) (mkQ (fun t h => Kn (t 0) (t 1) (t 6) (t 7) (t 8) (t 9) h) (fun t h => Kr  h) (keAdd 1 (fun t h => Ke1 (t 0) (t 1) (t 6) (t 7) (t 8) (t 9) h) (keAdd 0 (fun t h => Ke0  h) ke0))) t h :=
  seq_ok (by kernel_rfl) (fun t h H1 => F340_11_ok Kn Kr Ke1 Ke0 t h H1) (F340_10_ok (fun y0 y1 y6 y7 y8 y9 y10 h => F340_11 y0 y1 y6 y7 y8 y9 y10 h Kn Kr Ke1 Ke0) Kr Ke1 Ke0 t h H0)
def F340_8 (x0 x1 x6 x7 x8 x9 : Value) (h : H) (Kn : VP6) (Kr : H → Prop) (Ke1 : VP6) (Ke0 : H → Prop) : Prop :=
  o_call Tryz.prog 352 [x7] h fun v36 h => o_bin Tryz.prog .sub 260 x8 (.int .u64 1) fun v38 => o_bin Tryz.prog .and 260 v36 v38 fun v39 => o_conv .i64 v39 fun v40 => F340_9 x0 x1 x6 x7 x8 x9 v40 h Kn Kr Ke1 Ke0
theorem F340_8_ok (Kn Kr Ke1 Ke0) (t : T) (h : H) (H0 : F340_8 (t 0) (t 1) (t 6) (t 7) (t 8) (t 9) h Kn Kr Ke1 Ke0) : Wp Tryz.prog 65 (blkC (seqL (rest 1 (lopC (blkC (rest 3 (cndX (rest 2 (bodyOf Tryz.f340.body))))))))) (mkQ (fun t h => Kn (t 0) (t 1) (t 6) (t 7) (t 8) (t 9) h) (fun t h => Kr  h) (keAdd 1 (fun t h => Ke1 (t 0) (t 1) (t 6) (t 7) (t 8) (t 9) h) (keAdd 0 (fun t h => Ke0  h) ke0))) t h :=
  awpTo_okF 1 H0 (by kernel_rfl) (fun t h (H1 : F340_9 (t 0) (t 1) (t 6) (t 7) (t 8) (t 9) (t 10) h Kn Kr Ke1 Ke0) => F340_9_ok Kn Kr Ke1 Ke0 t h H1) (by kernel_rfl)
def F340_7 (x0 x1 x6 x7 x8 x9 : Value) (h : H) (Kn : VP6) (Kr : H → Prop) (Ke0 : H → Prop) : Prop :=
  F340_8 x0 x1 x6 x7 x8 x9 h Kn Kr Kn Ke0
theorem F340_7_ok (Kn Kr Ke0) (t : T) (h : H) (H0 : F340_7 (t 0) (t 1) (t 6) (t 7) (t 8) (t 9) h Kn Kr Ke0) : Wp Tryz.prog 65 (seqL (rest 1 (lopC (blkC (rest 3 (cndX (rest 2 (bodyOf Tryz.f340.body)))))))) (mkQ (fun t h => Kn (t 0) (t 1) (t 6) (t 7) (t 8) (t 9) h) (fun t h => Kr  h) (keAdd 0 (fun t h => Ke0  h) ke0)) t h :=
  block_ok 1 (by kernel_rfl) (by kernel_rfl) (F340_8_ok Kn Kr Kn Ke0 t h H0)
def F340_12 (x0 x1 x6 x7 x8 x9 : Value) (h : H) (Kn : VP6) (Kr : H → Prop) (Ke0 : H → Prop) : Prop :=
  o_bin Tryz.prog .add 3 x9 (.int .i64 1) fun v35 => Kn x0 x1 x6 x7 x8 v35 h
theorem F340_12_ok (Kn Kr Ke0) (t : T) (h : H) (H0 : F340_12 (t 0) (t 1) (t 6) (t 7) (t 8) (t 9) h Kn Kr Ke0) : Wp Tryz.prog 65 (seqR (rest 1 (lopC (blkC (rest 3 (cndX (rest 2 (bodyOf Tryz.f340.body)))))))) (mkQ (fun t h => Kn (t 0) (t 1) (t 6) (t 7) (t 8) (t 9) h) (fun t h => Kr  h) (keAdd 0 (fun t h => Ke0  h) ke0)) t h :=
  wpEqF H0 (by kernel_rfl)
def F340_6 (x0 x1 x6 x7 x8 x9 : Value) (h : H) (Kn : VP6) (Kr : H → Prop) (Ke0 : H → Prop) : Prop :=
  F340_7 x0 x1 x6 x7 x8 x9 h (fun y0 y1 y6 y7 y8 y9 h => F340_12 y0 y1 y6 y7 y8 y9 h Kn Kr Ke0) Kr Ke0
theorem F340_6_ok (Kn Kr Ke0) (t : T) (h : H) (H0 : F340_6 (t 0) (t 1) (t 6) (t 7) (t 8) (t 9) h Kn Kr Ke0) : Wp Tryz.prog 65 (rest 1 (lopC (blkC (rest 3 (cndX (rest 2 (bodyOf Tryz.f340.body))))))) (mkQ (fun t h => Kn (t 0) (t 1) (t 6) (t 7) (t 8) (t 9) h) (fun t h => Kr  h) (keAdd 0 (fun t h => Ke0  h) ke0)) t h :=
  seq_ok (by kernel_rfl) (fun t h H1 => F340_12_ok Kn Kr Ke0 t h H1) (F340_7_ok (fun y0 y1 y6 y7 y8 y9 h => F340_12 y0 y1 y6 y7 y8 y9 h Kn Kr Ke0) Kr Ke0 t h H0)
def F340_5 (x0 x1 x6 x7 x8 x9 : Value) (h : H) (Kn : VP6) (Kr : H → Prop) (Ke0 : H → Prop) : Prop :=
  o_bin Tryz.prog .quo 3 x6 (.int .i64 4) fun v29 => o_bin Tryz.prog .mul 3 v29 (.int .i64 2) fun v30 => o_bin Tryz.prog .add 3 x1 v30 fun v31 => o_bin Tryz.prog .add 3 v31 (.int .i64 1) fun v32 => o_bin Tryz.prog .leq 3 x9 v32 fun v33 => o_if v33 (F340_6 x0 x1 x6 x7 x8 x9 h Kn Kr Ke0) (Ke0 h)
theorem F340_5_ok (Kn Kr Ke0) (t : T) (h : H) (H0 : F340_5 (t 0) (t 1) (t 6) (t 7) (t 8) (t 9) h Kn Kr Ke0) : Wp Tryz.prog 65 (lopC (blkC (rest 3 (cndX (rest 2 (bodyOf Tryz.f340.body)))))) (mkQ (fun t h => Kn (t 0) (t 1) (t 6) (t 7) (t 8) (t 9) h) (fun t h => Kr  h) (keAdd 0 (fun t h => Ke0  h) ke0)) t h :=
  awpTo_okF 1 H0 (by kernel_rfl) (fun t h (H1 : F340_6 (t 0) (t 1) (t 6) (t 7) (t 8) (t 9) h Kn Kr Ke0) => F340_6_ok Kn Kr Ke0 t h H1) (by kernel_rfl)
def F340_4 (x0 x1 x6 x7 x8 x9 : Value) (h : H) (Kn : H → Prop) (Kr : H → Prop) (Ke0 : H → Prop) : Prop :=
  sloop (S := Value × Value × Value × Value × Value × Value) (fun s h K => F340_5 s.1 s.2.1 s.2.2.1 s.2.2.2.1 s.2.2.2.2.1 s.2.2.2.2.2 h (fun y0 y1 y6 y7 y8 y9 h => K (y0, y1, y6, y7, y8, y9) h) Kr Ke0) (x0, x1, x6, x7, x8, x9) h
theorem F340_4_ok (Kn Kr Ke0) (t : T) (h : H) (H0 : F340_4 (t 0) (t 1) (t 6) (t 7) (t 8) (t 9) h Kn Kr Ke0) : Wp Tryz.prog 65 (blkC (rest 3 (cndX (rest 2 (bodyOf Tryz.f340.body))))) (mkQ (fun t h => Kn  h) (fun t h => Kr  h) (keAdd 0 (fun t h => Ke0  h) ke0)) t h :=
  loop_ok (fun t => (t 0, t 1, t 6, t 7, t 8, t 9)) (by kernel_rfl) (fun t h K H1 => F340_5_ok (fun y0 y1 y6 y7 y8 y9 h => K (y0, y1, y6, y7, y8, y9) h) Kr Ke0 t h H1) H0
def F340_3 (x0 x1 x6 x7 x8 x9 : Value) (h : H) (Kn : H → Prop) (Kr : H → Prop) : Prop :=
  F340_4 x0 x1 x6 x7 x8 x9 h Kn Kr Kn
theorem F340_3_ok (Kn Kr) (t : T) (h : H) (H0 : F340_3 (t 0) (t 1) (t 6) (t 7) (t 8) (t 9) h Kn Kr) : Wp Tryz.prog 65 (rest 3 (cndX (rest 2 (bodyOf Tryz.f340.body)))) (mkQ (fun t h => Kn  h) (fun t h => Kr  h) ke0) t h :=
  block_ok 0 (by kernel_rfl) (by kernel_rfl) (F340_4_ok Kn Kr Kn t h H0)
def F340_2 (x0 x1 x6 : Value) (h : H) (Kn : H → Prop) (Kr : H → Prop) : Prop :=
  o_conv .u64 x6 fun v17 => o_new [.int .u64 0] 425 .exact h fun b7 h => o_store 1 (.pointer (some ⟨b7, 0, none⟩)) v17 h fun h => o_call Tryz.prog 351 [x6] h fun v19 h => o_bin Tryz.prog .quo 3 x6 (.int .i64 4) fun v22 => o_bin Tryz.prog .mul 3 v22 (.int .i64 2) fun v23 => o_bin Tryz.prog .add 3 x1 v23 fun v24 => o_bin Tryz.prog .sub 3 v24 (.int .i64 1) fun v25 => F340_3 x0 x1 x6 (.pointer (some ⟨b7, 0, none⟩)) v19 v25 h Kn Kr
theorem F340_2_ok (Kn Kr) (t : T) (h : H) (H0 : F340_2 (t 0) (t 1) (t 6) h Kn Kr) : Wp Tryz.prog 65 (cndX (rest 2 (bodyOf Tryz.f340.body))) (mkQ (fun t h => Kn  h) (fun t h => Kr  h) ke0) t h :=
  awpTo_okF 3 H0 (by kernel_rfl) (fun t h (H1 : F340_3 (t 0) (t 1) (t 6) (t 7) (t 8) (t 9) h Kn Kr) => F340_3_ok Kn Kr t h H1) (by kernel_rfl)
def F340_13 (h : H) (Kn : H → Prop) (Kr : H → Prop) : Prop :=
  Kn h
theorem F340_13_ok (Kn Kr) (t : T) (h : H) (H0 : F340_13  h Kn Kr) : Wp Tryz.prog 65 (cndY (rest 2 (bodyOf Tryz.f340.body))) (mkQ (fun t h => Kn  h) (fun t h => Kr  h) ke0) t h :=
  wpEqF H0 (by kernel_rfl)
def F340_1 (x0 x1 x6 x15 : Value) (h : H) (Kn : H → Prop) (Kr : H → Prop) : Prop :=
  o_if x15 (F340_2 x0 x1 x6 h Kn Kr) (F340_13  h Kn Kr)
theorem F340_1_ok (Kn Kr) (t : T) (h : H) (H0 : F340_1 (t 0) (t 1) (t 6) (t 15) h Kn Kr) : Wp Tryz.prog 65 (rest 2 (bodyOf Tryz.f340.body)) (mkQ (fun t h => Kn  h) (fun t h => Kr  h) ke0) t h :=
  cond_ok H0 (by kernel_rfl) (F340_2_ok Kn Kr t h) (F340_13_ok Kn Kr t h) (by kernel_rfl)
def F340_0 (x0 x1 x2 : Value) (h : H) (Kn : H → Prop) (Kr : H → Prop) : Prop :=
  o_bin Tryz.prog .sub 3 x2 x1 fun v13 => o_bin Tryz.prog .geq 3 v13 (.int .i64 8) fun v15 => F340_1 x0 x1 v13 v15 h Kn Kr
theorem F340_0_ok (Kn Kr) (t : T) (h : H) (H0 : F340_0 (t 0) (t 1) (t 2) h Kn Kr) : Wp Tryz.prog 65 (bodyOf Tryz.f340.body) (mkQ (fun t h => Kn  h) (fun t h => Kr  h) ke0) t h :=
  awpTo_okF 2 H0 (by kernel_rfl) (fun t h (H1 : F340_1 (t 0) (t 1) (t 6) (t 15) h Kn Kr) => F340_1_ok Kn Kr t h H1) (by kernel_rfl)
def F340 (x0 x1 x2 : Value) (h : H) (Q : VP1) : Prop := F340_0 x0 x1 x2 h (fun h => bif [].all boxV then Q (.tuple #[]) h else False) (fun h => bif [].all boxV then Q (.tuple #[]) h else False)
theorem F340_spec (x0 x1 x2 : Value) (h : H) (Q : VP1) (H0 : F340 x0 x1 x2 h Q) : AM.Spec Tryz.prog 340 [x0, x1, x2] h Q :=
  spec_wp mixed (fn := Tryz.f340) Tryz.func340 (c := bodyOf Tryz.f340.body) (rs := []) (N := 65) (by kernel_rfl) (by kernel_rfl) (by kernel_rfl) (by kernel_rfl) (by kernel_rfl) (Nat.le_of_ble_eq_true rfl) (F340_0_ok (fun h => bif [].all boxV then Q (.tuple #[]) h else False) (fun h => bif [].all boxV then Q (.tuple #[]) h else False) (tinit [x0, x1, x2]) h H0) (by kernel_rfl)
/-! #### 343: slices.partialInsertionSortOrdered[uint32] -/
def F343_13 (x0 x1 x2 x7 x8 : Value) (h : H) (Kn : VP6) (Kr : VP1) (Ke2 : VP5) (Ke1 : VP5) (Ke0 : H → Prop) : Prop :=
  o_bin Tryz.prog .lss 3 x7 x2 fun v19 => o_guard v19 true (fun k4 => k4 x0 h) (fun v21 h => o_guard v19 true (fun k5 => k5 x7 h) (fun v22 h => o_guard v19 true (fun k6 => o_indexAddr none 1 v21 v22 fun v23 => k6 v23 h) (fun v23 h => o_guard v19 true (fun k7 => o_load false 1 v23 h fun v24 => k7 v24 h) (fun v24 h => o_guard v19 true (fun k8 => k8 x0 h) (fun v25 h => o_guard v19 true (fun k9 => k9 x7 h) (fun v26 h => o_guard v19 true (fun k10 => o_bin Tryz.prog .sub 3 v26 (.int .i64 1) fun v27 => k10 v27 h) (fun v27 h => o_guard v19 true (fun k11 => o_indexAddr none 1 v25 v27 fun v28 => k11 v28 h) (fun v28 h => o_guard v19 true (fun k12 => o_load false 1 v28 h fun v29 => k12 v29 h) (fun v29 h => o_guard v19 true (fun k13 => o_dcall DS 344 [v24, v29] h fun v30 h => k13 v30 h) (fun v30 h => o_guard v19 true (fun k14 => o_un Tryz.prog .not v30 fun v31 => k14 v31 h) (fun v31 h => o_pick v19 v31 (.bool false) fun v32 => Kn x0 x1 x2 x7 x8 v32 h) h) h) h) h) h) h) h) h) h) h) h
theorem F343_13_ok (Kn Kr Ke2 Ke1 Ke0) (t : T) (h : H) (H0 : F343_13 (t 0) (t 1) (t 2) (t 7) (t 8) h Kn Kr Ke2 Ke1 Ke0) : Wp Tryz.prog 133 (seqL (seqL (lopC (blkC (seqL (blkC (seqL (rest 1 (lopC (blkC (rest 1 (seqL (rest 2 (bodyOf Tryz.f343.body)))))))))))))) (mkQ (fun t h => Kn (t 0) (t 1) (t 2) (t 7) (t 8) (t 32) h) (fun t h => Kr (t 6) h) (keAdd 2 (fun t h => Ke2 (t 0) (t 1) (t 2) (t 7) (t 8) h) (keAdd 1 (fun t h => Ke1 (t 0) (t 1) (t 2) (t 7) (t 8) h) (keAdd 0 (fun t h => Ke0  h) ke0)))) t h :=
  drawD_ok dsOk (by kernel_rfl) (by kernel_rfl) H0 (by kernel_rfl)
def F343_14 (x0 x1 x2 x7 x8 x32 : Value) (h : H) (Kn : VP5) (Kr : VP1) (Ke2 : VP5) (Ke1 : VP5) (Ke0 : H → Prop) : Prop :=
  o_if x32 (Kn x0 x1 x2 x7 x8 h) (Ke2 x0 x1 x2 x7 x8 h)
theorem F343_14_ok (Kn Kr Ke2 Ke1 Ke0) (t : T) (h : H) (H0 : F343_14 (t 0) (t 1) (t 2) (t 7) (t 8) (t 32) h Kn Kr Ke2 Ke1 Ke0) : Wp Tryz.prog 133 (seqR (seqL (lopC (blkC (seqL (blkC (seqL (rest 1 (lopC (blkC (rest 1 (seqL (rest 2 (bodyOf Tryz.f343.body)))))))))))))) (mkQ (fun t h => Kn (t 0) (t 1) (t 2) (t 7) (t 8) h) (fun t h => Kr (t 6) h) (keAdd 2 (fun t h => Ke2 (t 0) (t 1) (t 2) (t 7) (t 8) h) (keAdd 1 (fun t h => Ke1 (t 0) (t 1) (t 2) (t 7) (t 8) h) (keAdd 0 (fun t h => Ke0  h) ke0)))) t h :=
  wpEqF H0 (by kernel_rfl)
def F343_12 (x0 x1 x2 x7 x8 : Value) (h : H) (Kn : VP5) (Kr : VP1) (Ke2 : VP5) (Ke1 : VP5) (Ke0 : H → Prop) : Prop :=
  F343_13 x0 x1 x2 x7 x8 h (fun y0 y1 y2 y7 y8 y32 h => F343_14 y0 y1 y2 y7 y8 y32 h Kn Kr Ke2 Ke1 Ke0) Kr Ke2 Ke1 Ke0
theorem F343_12_ok (Kn Kr Ke2 Ke1 Ke0) (t : T) (h : H) (H0 : F343_12 (t 0) (t 1) (t 2) (t 7) (t 8) h Kn Kr Ke2 Ke1 Ke0) : Wp Tryz.prog 133 (seqL (lopC (blkC (seqL (blkC (seqL (rest 1 (lopC (blkC (rest 1 (seqL (rest 2 (bodyOf Tryz.f343.body))))))))))))) (mkQ (fun t h => Kn (t 0) (t 1) (t 2) (t 7) (t 8) h) (fun t h => Kr (t 6) h) (keAdd 2 (fun t h => Ke2 (t 0) (t 1) (t 2) (t 7) (t 8) h) (keAdd 1 (fun t h => Ke1 (t 0) (t 1) (t 2) (t 7) (t 8) h) (keAdd 0 (fun t h => Ke0  h) ke0)))) t h :=
  seq_ok (by kernel_rfl) (fun t h H1 => F343_14_ok Kn Kr Ke2 Ke1 Ke0 t h H1) (F343_13_ok (fun y0 y1 y2 y7 y8 y32 h => F343_14 y0 y1 y2 y7 y8 y32 h Kn Kr Ke2 Ke1 Ke0) Kr Ke2 Ke1 Ke0 t h H0)
def F343_15 (x0 x1 x2 x7 x8 : Value) (h : H) (Kn : VP5) (Kr : VP1) (Ke2 : VP5) (Ke1 : VP5) (Ke0 : H → Prop) : Prop :=
  o_bin Tryz.prog .add 3 x7 (.int .i64 1) fun v34 => Kn x0 x1 x2 v34 x8 h
theorem F343_15_ok (Kn Kr Ke2 Ke1 Ke0) (t : T) (h : H) (H0 : F343_15 (t 0) (t 1) (t 2) (t 7) (t 8) h Kn Kr Ke2 Ke1 Ke0) : Wp Tryz.prog 133 (seqR (lopC (blkC (seqL (blkC (seqL (rest 1 (lopC (blkC (rest 1 (seqL (rest 2 (bodyOf Tryz.f343.body))))))))))))) (mkQ (fun t h => Kn (t 0) (t 1) (t 2) (t 7) (t 8) h) (fun t h => Kr (t 6) h) (keAdd 2 (fun t h => Ke2 (t 0) (t 1) (t 2) (t 7) (t 8) h) (keAdd 1 (fun t h => Ke1 (t 0) (t 1) (t 2) (t 7) (t 8) h) (keAdd 0 (fun t h => Ke0  h) ke0)))) t h :=
  wpEqF H0 (by kernel_rfl)
def F343_11 (x0 x1 x2 x7 x8 : Value) (h : H) (Kn : VP5) (Kr : VP1) (Ke2 : VP5) (Ke1 : VP5) (Ke0 : H → Prop) : Prop :=
  F343_12 x0 x1 x2 x7 x8 h (fun y0 y1 y2 y7 y8 h => F343_15 y0 y1 y2 y7 y8 h Kn Kr Ke2 Ke1 Ke0) Kr Ke2 Ke1 Ke0
theorem F343_11_ok (Kn Kr Ke2 Ke1 Ke0) (t : T) (h : H) (H0 : F343_11 (t 0) (t 1) (t 2) (t 7) (t 8) h Kn Kr Ke2 Ke1 Ke0) : Wp Tryz.prog 133 (lopC (blkC (seqL (blkC (seqL (rest 1 (lopC (blkC (rest 1 (seqL (rest 2 (bodyOf Tryz.f343.body)))))))))))) (mkQ (fun t h => Kn (t 0) (t 1) (t 2) (t 7) (t 8) h) (fun t h => Kr (t 6) h) (keAdd 2 (fun t h => Ke2 (t 0) (t 1) (t 2) (t 7) (t 8) h) (keAdd 1 (fun t h => Ke1 (t 0) (t 1) (t 2) (t 7) (t 8) h) (keAdd 0 (fun t h => Ke0  h) ke0)))) t h :=
  seq_ok (by kernel_rfl) (fun t h H1 => F343_15_ok Kn Kr Ke2 Ke1 Ke0 t h H1) (F343_12_ok (fun y0 y1 y2 y7 y8 h => F343_15 y0 y1 y2 y7 y8 h Kn Kr Ke2 Ke1 Ke0) Kr Ke2 Ke1 Ke0 t h H0)
def F343_10 (x0 x1 x2 x7 x8 : Value) (h : H) (Kn : VP5) (Kr : VP1) (Ke2 : VP5) (Ke1 : VP5) (Ke0 : H → Prop) : Prop :=
  sloop (S := Value × Value × Value × Value × Value) (fun s h K => F343_11 s.1 s.2.1 s.2.2.1 s.2.2.2.1 s.2.2.2.2 h (fun y0 y1 y2 y7 y8 h => K (y0, y1, y2, y7, y8) h) Kr Ke2 Ke1 Ke0) (x0, x1, x2, x7, x8) h
theorem F343_10_ok (Kn Kr Ke2 Ke1 Ke0) (t : T) (h : H) (H0 : F343_10 (t 0) (t 1) (t 2) (t 7) (t 8) h Kn Kr Ke2 Ke1 Ke0) : Wp Tryz.prog 133 (blkC (seqL (blkC (seqL (rest 1 (lopC (blkC (rest 1 (seqL (rest 2 (bodyOf Tryz.f343.body))))))))))) (mkQ (fun t h => Kn (t 0) (t 1) (t 2) (t 7) (t 8) h) (fun t h => Kr (t 6) h) (keAdd 2 (fun t h => Ke2 (t 0) (t 1) (t 2) (t 7) (t 8) h) (keAdd 1 (fun t h => Ke1 (t 0) (t 1) (t 2) (t 7) (t 8) h) (keAdd 0 (fun t h => Ke0  h) ke0)))) t h :=
  loop_ok (fun t => (t 0, t 1, t 2, t 7, t 8)) (by kernel_rfl) (fun t h K H1 => F343_11_ok (fun y0 y1 y2 y7 y8 h => K (y0, y1, y2, y7, y8) h) Kr Ke2 Ke1 Ke0 t h H1) H0
def F343_9 (x0 x1 x2 x7 x8 : Value) (h : H) (Kn : VP5) (Kr : VP1) (Ke1 : VP5) (Ke0 : H → Prop) : Prop :=
  F343_10 x0 x1 x2 x7 x8 h Kn Kr Kn Ke1 Ke0
theorem F343_9_ok (Kn Kr Ke1 Ke0) (t : T) (h : H) (H0 : F343_9 (t 0) (t 1) (t 2) (t 7) (t 8) h Kn Kr Ke1 Ke0) : Wp Tryz.prog 133 (seqL (blkC (seqL (rest 1 (lopC (blkC (rest 1 (seqL (rest 2 (bodyOf Tryz.f343.body)))))))))) (mkQ (fun t h => Kn (t 0) (t 1) (t 2) (t 7) (t 8) h) (fun t h => Kr (t 6) h) (keAdd 1 (fun t h => Ke1 (t 0) (t 1) (t 2) (t 7) (t 8) h) (keAdd 0 (fun t h => Ke0  h) ke0))) t h :=
  block_ok 2 (by kernel_rfl) (by kernel_rfl) (F343_10_ok Kn Kr Kn Ke1 Ke0 t h H0)
def F343_18 (x0 x1 x2 x7 x8 : Value) (h : H) (Kn : VP5) (Kr : VP1) (Ke1 : VP5) (Ke0 : H → Prop) : Prop :=
  o_bin Tryz.prog .sub 3 x7 (.int .i64 1) fun v46 => o_bin Tryz.prog .sub 3 x7 (.int .i64 1) fun v49 => o_indexAddr none 1 x0 v49 fun v50 => o_load false 1 v50 h fun v51 => o_indexAddr none 1 x0 x7 fun v54 => o_load false 1 v54 h fun v55 => o_indexAddr none 1 x0 x7 fun v56 => o_store 1 v56 v51 h fun h => o_indexAddr none 1 x0 v46 fun v57 => o_store 1 v57 v55 h fun h => Kn x0 x1 x2 x7 x8 h
theorem F343_18_ok (Kn Kr Ke1 Ke0) (t : T) (h : H) (H0 : F343_18 (t 0) (t 1) (t 2) (t 7) (t 8) h Kn Kr Ke1 Ke0) : Wp Tryz.prog 133 (seqL (rest 2 (seqR (blkC (seqL (rest 1 (lopC (blkC (rest 1 (seqL (rest 2 (bodyOf Tryz.f343.body)))))))))))) (mkQ (fun t h => Kn (t 0) (t 1) (t 2) (t 7) (t 8) h) (fun t h => Kr (t 6) h) (keAdd 1 (fun t h => Ke1 (t 0) (t 1) (t 2) (t 7) (t 8) h) (keAdd 0 (fun t h => Ke0  h) ke0))) t h :=
  draw_okF (by kernel_rfl) (by kernel_rfl) H0 (by kernel_rfl)
def F343_30 (x0 x1 x2 x7 x8 x9 : Value) (h : H) (Kn : VP7) (Kr : VP1) (Ke5 : VP6) (Ke4 : VP5) (Ke1 : VP5) (Ke0 : H → Prop) : Prop :=
  o_indexAddr none 1 x0 x9 fun v70 => o_load false 1 v70 h fun v71 => o_bin Tryz.prog .sub 3 x9 (.int .i64 1) fun v74 => o_indexAddr none 1 x0 v74 fun v75 => o_load false 1 v75 h fun v76 => o_dcall DS 344 [v71, v76] h fun v77 h => o_un Tryz.prog .not v77 fun v78 => Kn x0 x1 x2 x7 x8 x9 v78 h
theorem F343_30_ok (Kn Kr Ke5 Ke4 Ke1 Ke0) (t : T) (h : H) (H0 : F343_30 (t 0) (t 1) (t 2) (t 7) (t 8) (t 9) h Kn Kr Ke5 Ke4 Ke1 Ke0) : Wp Tryz.prog 133 (seqL (seqL (blkC (seqL (rest 1 (lopC (blkC (rest 1 (cndX (rest 1 (seqL (seqR (rest 2 (seqR (blkC (seqL (rest 1 (lopC (blkC (rest 1 (seqL (rest 2 (bodyOf Tryz.f343.body))))))))))))))))))))))) (mkQ (fun t h => Kn (t 0) (t 1) (t 2) (t 7) (t 8) (t 9) (t 78) h) (fun t h => Kr (t 6) h) (keAdd 5 (fun t h => Ke5 (t 0) (t 1) (t 2) (t 7) (t 8) (t 9) h) (keAdd 4 (fun t h => Ke4 (t 0) (t 1) (t 2) (t 7) (t 8) h) (keAdd 1 (fun t h => Ke1 (t 0) (t 1) (t 2) (t 7) (t 8) h) (keAdd 0 (fun t h => Ke0  h) ke0))))) t h :=
  drawD_ok dsOk (by kernel_rfl) (by kernel_rfl) H0 (by kernel_rfl)
def F343_31 (x0 x1 x2 x7 x8 x9 x78 : Value) (h : H) (Kn : VP6) (Kr : VP1) (Ke5 : VP6) (Ke4 : VP5) (Ke1 : VP5) (Ke0 : H → Prop) : Prop :=
  o_if x78 (Ke4 x0 x1 x2 x7 x8 h) (Kn x0 x1 x2 x7 x8 x9 h)
theorem F343_31_ok (Kn Kr Ke5 Ke4 Ke1 Ke0) (t : T) (h : H) (H0 : F343_31 (t 0) (t 1) (t 2) (t 7) (t 8) (t 9) (t 78) h Kn Kr Ke5 Ke4 Ke1 Ke0) : Wp Tryz.prog 133 (seqR (seqL (blkC (seqL (rest 1 (lopC (blkC (rest 1 (cndX (rest 1 (seqL (seqR (rest 2 (seqR (blkC (seqL (rest 1 (lopC (blkC (rest 1 (seqL (rest 2 (bodyOf Tryz.f343.body))))))))))))))))))))))) (mkQ (fun t h => Kn (t 0) (t 1) (t 2) (t 7) (t 8) (t 9) h) (fun t h => Kr (t 6) h) (keAdd 5 (fun t h => Ke5 (t 0) (t 1) (t 2) (t 7) (t 8) (t 9) h) (keAdd 4 (fun t h => Ke4 (t 0) (t 1) (t 2) (t 7) (t 8) h) (keAdd 1 (fun t h => Ke1 (t 0) (t 1) (t 2) (t 7) (t 8) h) (keAdd 0 (fun t h => Ke0  h) ke0))))) t h :=
  wpEqF H0 (by kernel_rfl)
def F343_29 (x0 x1 x2 x7 x8 x9 : Value) (h : H) (Kn : VP6) (Kr : VP1) (Ke5 : VP6) (Ke4 : VP5) (Ke1 : VP5) (Ke0 : H → Prop) : Prop :=
  F343_30 x0 x1 x2 x7 x8 x9 h (fun y0 y1 y2 y7 y8 y9 y78 h => F343_31 y0 y1 y2 y7 y8 y9 y78 h Kn Kr Ke5 Ke4 Ke1 Ke0) Kr Ke5 Ke4 Ke1 Ke0
theorem F343_29_ok (Kn Kr Ke5 Ke4 Ke1 Ke0) (t : T) (h : H) (H0 : F343_29 (t 0) (t 1) (t 2) (t 7) (t 8) (t 9) h Kn Kr Ke5 Ke4 Ke1 Ke0) : Wp Tryz.prog 133 (seqL (blkC (seqL (rest 1 (lopC (blkC (rest 1 (cndX (rest 1 (seqL (seqR (rest 2 (seqR (blkC (seqL (rest 1 (lopC (blkC (rest 1 (seqL (rest 2 (bodyOf Tryz.f343.body)))))))))))))))))))))) (mkQ (fun t h => Kn (t 0) (t 1) (t 2) (t 7) (t 8) (t 9) h) (fun t h => Kr (t 6) h) (keAdd 5 (fun t h => Ke5 (t 0) (t 1) (t 2) (t 7) (t 8) (t 9) h) (keAdd 4 (fun t h => Ke4 (t 0) (t 1) (t 2) (t 7) (t 8) h) (keAdd 1 (fun t h => Ke1 (t 0) (t 1) (t 2) (t 7) (t 8) h) (keAdd 0 (fun t h => Ke0  h) ke0))))) t h :=
  seq_ok (by kernel_rfl) (fun t h H1 => F343_31_ok Kn Kr Ke5 Ke4 Ke1 Ke0 t h H1) (F343_30_ok (fun y0 y1 y2 y7 y8 y9 y78 h => F343_31 y0 y1 y2 y7 y8 y9 y78 h Kn Kr Ke5 Ke4 Ke1 Ke0) Kr Ke5 Ke4 Ke1 Ke0 t h H0)
def F343_32 (x0 x1 x2 x7 x8 x9 : Value) (h : H) (Kn : VP6) (Kr : VP1) (Ke5 : VP6) (Ke4 : VP5) (Ke1 : VP5) (Ke0 : H → Prop) : Prop :=
  o_bin Tryz.prog .sub 3 x9 (.int .i64 1) fun v83 => o_bin Tryz.prog .sub 3 x9 (.int .i64 1) fun v86 => o_indexAddr none 1 x0 v86 fun v87 => o_load false 1 v87 h fun v88 => o_indexAddr none 1 x0 x9 fun v91 => o_load false 1 v91 h fun v92 => o_indexAddr none 1 x0 x9 fun v93 => o_store 1 v93 v88 h fun h => o_indexAddr none 1 x0 v83 fun v94 => o_store 1 v94 v92 h fun h => Kn x0 x1 x2 x7 x8 x9 h
theorem F343_32_ok (Kn Kr Ke5 Ke4 Ke1 Ke0) (t : T) (h : H) (H0 : F343_32 (t 0) (t 1) (t 2) (t 7) (t 8) (t 9) h Kn Kr Ke5 Ke4 Ke1 Ke0) : Wp Tryz.prog 133 (seqR (blkC (seqL (rest 1 (lopC (blkC (rest 1 (cndX (rest 1 (seqL (seqR (rest 2 (seqR (blkC (seqL (rest 1 (lopC (blkC (rest 1 (seqL (rest 2 (bodyOf Tryz.f343.body)))))))))))))))))))))) (mkQ (fun t h => Kn (t 0) (t 1) (t 2) (t 7) (t 8) (t 9) h) (fun t h => Kr (t 6) h) (keAdd 5 (fun t h => Ke5 (t 0) (t 1) (t 2) (t 7) (t 8) (t 9) h) (keAdd 4 (fun t h => Ke4 (t 0) (t 1) (t 2) (t 7) (t 8) h) (keAdd 1 (fun t h => Ke1 (t 0) (t 1) (t 2) (t 7) (t 8) h) (keAdd 0 (fun t h => Ke0  h) ke0))))) t h :=
  draw_okF (by kernel_rfl) (by kernel_rfl) H0 (by kernel_rfl)
def F343_28 (x0 x1 x2 x7 x8 x9 : Value) (h : H) (Kn : VP6) (Kr : VP1) (Ke5 : VP6) (Ke4 : VP5) (Ke1 : VP5) (Ke0 : H → Prop) : Prop :=
  F343_29 x0 x1 x2 x7 x8 x9 h (fun y0 y1 y2 y7 y8 y9 h => F343_32 y0 y1 y2 y7 y8 y9 h Kn Kr Ke5 Ke4 Ke1 Ke0) Kr Ke5 Ke4 Ke1 Ke0
theorem F343_28_ok (Kn Kr Ke5 Ke4 Ke1 Ke0) (t : T) (h : H) (H0 : F343_28 (t 0) (t 1) (t 2) (t 7) (t 8) (t 9) h Kn Kr Ke5 Ke4 Ke1 Ke0) : Wp Tryz.prog 133 (blkC (seqL (rest 1 (lopC (blkC (rest 1 (cndX (rest 1 (seqL (seqR (rest 2 (seqR (blkC (seqL (rest 1 (lopC (blkC (rest 1 (seqL (rest 2 (bodyOf Tryz.f343.body))))))))))))))))))))) (mkQ (fun t h => Kn (t 0) (t 1) (t 2) (t 7) (t 8) (t 9) h) (fun t h => Kr (t 6) h) (keAdd 5 (fun t h => Ke5 (t 0) (t 1) (t 2) (t 7) (t 8) (t 9) h) (keAdd 4 (fun t h => Ke4 (t 0) (t 1) (t 2) (t 7) (t 8) h) (keAdd 1 (fun t h => Ke1 (t 0) (t 1) (t 2) (t 7) (t 8) h) (keAdd 0 (fun t h => Ke0  h) ke0))))) t h :=
  seq_ok (by kernel_rfl) (fun t h H1 => F343_32_ok Kn Kr Ke5 Ke4 Ke1 Ke0 t h H1) (F343_29_ok (fun y0 y1 y2 y7 y8 y9 h => F343_32 y0 y1 y2 y7 y8 y9 h Kn Kr Ke5 Ke4 Ke1 Ke0) Kr Ke5 Ke4 Ke1 Ke0 t h H0)
def F343_27 (x0 x1 x2 x7 x8 x9 : Value) (h : H) (Kn : VP6) (Kr : VP1) (Ke4 : VP5) (Ke1 : VP5) (Ke0 : H → Prop) : Prop :=
  F343_28 x0 x1 x2 x7 x8 x9 h Kn Kr Kn Ke4 Ke1 Ke0
theorem F343_27_ok (Kn Kr Ke4 Ke1 Ke0) (t : T) (h : H) (H0 : F343_27 (t 0) (t 1) (t 2) (t 7) (t 8) (t 9) h Kn Kr Ke4 Ke1 Ke0) : Wp Tryz.prog 133 (seqL (rest 1 (lopC (blkC (rest 1 (cndX (rest 1 (seqL (seqR (rest 2 (seqR (blkC (seqL (rest 1 (lopC (blkC (rest 1 (seqL (rest 2 (bodyOf Tryz.f343.body)))))))))))))))))))) (mkQ (fun t h => Kn (t 0) (t 1) (t 2) (t 7) (t 8) (t 9) h) (fun t h => Kr (t 6) h) (keAdd 4 (fun t h => Ke4 (t 0) (t 1) (t 2) (t 7) (t 8) h) (keAdd 1 (fun t h => Ke1 (t 0) (t 1) (t 2) (t 7) (t 8) h) (keAdd 0 (fun t h => Ke0  h) ke0)))) t h :=
  block_ok 5 (by kernel_rfl) (by kernel_rfl) (F343_28_ok Kn Kr Kn Ke4 Ke1 Ke0 t h H0)
def F343_33 (x0 x1 x2 x7 x8 x9 : Value) (h : H) (Kn : VP6) (Kr : VP1) (Ke4 : VP5) (Ke1 : VP5) (Ke0 : H → Prop) : Prop :=
  o_bin Tryz.prog .sub 3 x9 (.int .i64 1) fun v67 => Kn x0 x1 x2 x7 x8 v67 h
theorem F343_33_ok (Kn Kr Ke4 Ke1 Ke0) (t : T) (h : H) (H0 : F343_33 (t 0) (t 1) (t 2) (t 7) (t 8) (t 9) h Kn Kr Ke4 Ke1 Ke0) : Wp Tryz.prog 133 (seqR (rest 1 (lopC (blkC (rest 1 (cndX (rest 1 (seqL (seqR (rest 2 (seqR (blkC (seqL (rest 1 (lopC (blkC (rest 1 (seqL (rest 2 (bodyOf Tryz.f343.body)))))))))))))))))))) (mkQ (fun t h => Kn (t 0) (t 1) (t 2) (t 7) (t 8) (t 9) h) (fun t h => Kr (t 6) h) (keAdd 4 (fun t h => Ke4 (t 0) (t 1) (t 2) (t 7) (t 8) h) (keAdd 1 (fun t h => Ke1 (t 0) (t 1) (t 2) (t 7) (t 8) h) (keAdd 0 (fun t h => Ke0  h) ke0)))) t h :=
  wpEqF H0 (by kernel_rfl)
def F343_26 (x0 x1 x2 x7 x8 x9 : Value) (h : H) (Kn : VP6) (Kr : VP1) (Ke4 : VP5) (Ke1 : VP5) (Ke0 : H → Prop) : Prop :=
  F343_27 x0 x1 x2 x7 x8 x9 h (fun y0 y1 y2 y7 y8 y9 h => F343_33 y0 y1 y2 y7 y8 y9 h Kn Kr Ke4 Ke1 Ke0) Kr Ke4 Ke1 Ke0
theorem F343_26_ok (Kn Kr Ke4 Ke1 Ke0) (t : T) (h : H) (H0 : F343_26 (t 0) (t 1) (t 2) (t 7) (t 8) (t 9) h Kn Kr Ke4 Ke1 Ke0) : Wp Tryz.prog 133 (rest 1 (lopC (blkC (rest 1 (cndX (rest 1 (seqL (seqR (rest 2 (seqR (blkC (seqL (rest 1 (lopC (blkC (rest 1 (seqL (rest 2 (bodyOf Tryz.f343.body))))))))))))))))))) (mkQ (fun t h => Kn (t 0) (t 1) (t 2) (t 7) (t 8) (t 9) h) (fun t h => Kr (t 6) h) (keAdd 4 (fun t h => Ke4 (t 0) (t 1) (t 2) (t 7) (t 8) h) (keAdd 1 (fun t h => Ke1 (t 0) (t 1) (t 2) (t 7) (t 8) h) (keAdd 0 (fun t h => Ke0  h) ke0)))) t h :=
  seq_ok (by kernel_rfl) (fun t h H1 => F343_33_ok Kn Kr Ke4 Ke1 Ke0 t h H1) (F343_27_ok (fun y0 y1 y2 y7 y8 y9 h => F343_33 y0 y1 y2 y7 y8 y9 h Kn Kr Ke4 Ke1 Ke0) Kr Ke4 Ke1 Ke0 t h H0)
def F343_25 (x0 x1 x2 x7 x8 x9 : Value) (h : H) (Kn : VP6) (Kr : VP1) (Ke4 : VP5) (Ke1 : VP5) (Ke0 : H → Prop) : Prop :=
  o_bin Tryz.prog .geq 3 x9 (.int .i64 1) fun v65 => o_if v65 (F343_26 x0 x1 x2 x7 x8 x9 h Kn Kr Ke4 Ke1 Ke0) (Ke4 x0 x1 x2 x7 x8 h)
theorem F343_25_ok (Kn Kr Ke4 Ke1 Ke0) (t : T) (h : H) (H0 : F343_25 (t 0) (t 1) (t 2) (t 7) (t 8) (t 9) h Kn Kr Ke4 Ke1 Ke0) : Wp Tryz.prog 133 (lopC (blkC (rest 1 (cndX (rest 1 (seqL (seqR (rest 2 (seqR (blkC (seqL (rest 1 (lopC (blkC (rest 1 (seqL (rest 2 (bodyOf Tryz.f343.body)))))))))))))))))) (mkQ (fun t h => Kn (t 0) (t 1) (t 2) (t 7) (t 8) (t 9) h) (fun t h => Kr (t 6) h) (keAdd 4 (fun t h => Ke4 (t 0) (t 1) (t 2) (t 7) (t 8) h) (keAdd 1 (fun t h => Ke1 (t 0) (t 1) (t 2) (t 7) (t 8) h) (keAdd 0 (fun t h => Ke0  h) ke0)))) t h :=
  awpTo_okF 1 H0 (by kernel_rfl) (fun t h (H1 : F343_26 (t 0) (t 1) (t 2) (t 7) (t 8) (t 9) h Kn Kr Ke4 Ke1 Ke0) => F343_26_ok Kn Kr Ke4 Ke1 Ke0 t h H1) (by kernel_rfl)
def F343_24 (x0 x1 x2 x7 x8 x9 : Value) (h : H) (Kn : VP5) (Kr : VP1) (Ke4 : VP5) (Ke1 : VP5) (Ke0 : H → Prop) : Prop :=
  sloop (S := Value × Value × Value × Value × Value × Value) (fun s h K => F343_25 s.1 s.2.1 s.2.2.1 s.2.2.2.1 s.2.2.2.2.1 s.2.2.2.2.2 h (fun y0 y1 y2 y7 y8 y9 h => K (y0, y1, y2, y7, y8, y9) h) Kr Ke4 Ke1 Ke0) (x0, x1, x2, x7, x8, x9) h
theorem F343_24_ok (Kn Kr Ke4 Ke1 Ke0) (t : T) (h : H) (H0 : F343_24 (t 0) (t 1) (t 2) (t 7) (t 8) (t 9) h Kn Kr Ke4 Ke1 Ke0) : Wp Tryz.prog 133 (blkC (rest 1 (cndX (rest 1 (seqL (seqR (rest 2 (seqR (blkC (seqL (rest 1 (lopC (blkC (rest 1 (seqL (rest 2 (bodyOf Tryz.f343.body))))))))))))))))) (mkQ (fun t h => Kn (t 0) (t 1) (t 2) (t 7) (t 8) h) (fun t h => Kr (t 6) h) (keAdd 4 (fun t h => Ke4 (t 0) (t 1) (t 2) (t 7) (t 8) h) (keAdd 1 (fun t h => Ke1 (t 0) (t 1) (t 2) (t 7) (t 8) h) (keAdd 0 (fun t h => Ke0  h) ke0)))) t h :=
  loop_ok (fun t => (t 0, t 1, t 2, t 7, t 8, t 9)) (by kernel_rfl) (fun t h K H1 => F343_25_ok (fun y0 y1 y2 y7 y8 y9 h => K (y0, y1, y2, y7, y8, y9) h) Kr Ke4 Ke1 Ke0 t h H1) H0
def F343_23 (x0 x1 x2 x7 x8 x9 : Value) (h : H) (Kn : VP5) (Kr : VP1) (Ke1 : VP5) (Ke0 : H → Prop) : Prop :=
  F343_24 x0 x1 x2 x7 x8 x9 h Kn Kr Kn Ke1 Ke0
theorem F343_23_ok (Kn Kr Ke1 Ke0) (t : T) (h : H) (H0 : F343_23 (t 0) (t 1) (t 2) (t 7) (t 8) (t 9) h Kn Kr Ke1 Ke0) : Wp Tryz.prog 133 (rest 1 (cndX (rest 1 (seqL (seqR (rest 2 (seqR (blkC (seqL (rest 1 (lopC (blkC (rest 1 (seqL (rest 2 (bodyOf Tryz.f343.body)))))))))))))))) (mkQ (fun t h => Kn (t 0) (t 1) (t 2) (t 7) (t 8) h) (fun t h => Kr (t 6) h) (keAdd 1 (fun t h => Ke1 (t 0) (t 1) (t 2) (t 7) (t 8) h) (keAdd 0 (fun t h => Ke0  h) ke0))) t h :=
  block_ok 4 (by kernel_rfl) (by kernel_rfl) (F343_24_ok Kn Kr Kn Ke1 Ke0 t h H0)
def F343_22 (x0 x1 x2 x7 x8 : Value) (h : H) (Kn : VP5) (Kr : VP1) (Ke1 : VP5) (Ke0 : H → Prop) : Prop :=
  o_bin Tryz.prog .sub 3 x7 (.int .i64 1) fun v63 => F343_23 x0 x1 x2 x7 x8 v63 h Kn Kr Ke1 Ke0
theorem F343_22_ok (Kn Kr Ke1 Ke0) (t : T) (h : H) (H0 : F343_22 (t 0) (t 1) (t 2) (t 7) (t 8) h Kn Kr Ke1 Ke0) : Wp Tryz.prog 133 (cndX (rest 1 (seqL (seqR (rest 2 (seqR (blkC (seqL (rest 1 (lopC (blkC (rest 1 (seqL (rest 2 (bodyOf Tryz.f343.body))))))))))))))) (mkQ (fun t h => Kn (t 0) (t 1) (t 2) (t 7) (t 8) h) (fun t h => Kr (t 6) h) (keAdd 1 (fun t h => Ke1 (t 0) (t 1) (t 2) (t 7) (t 8) h) (keAdd 0 (fun t h => Ke0  h) ke0))) t h :=
  awpTo_okF 1 H0 (by kernel_rfl) (fun t h (H1 : F343_23 (t 0) (t 1) (t 2) (t 7) (t 8) (t 9) h Kn Kr Ke1 Ke0) => F343_23_ok Kn Kr Ke1 Ke0 t h H1) (by kernel_rfl)
def F343_34 (x0 x1 x2 x7 x8 : Value) (h : H) (Kn : VP5) (Kr : VP1) (Ke1 : VP5) (Ke0 : H → Prop) : Prop :=
  Kn x0 x1 x2 x7 x8 h
theorem F343_34_ok (Kn Kr Ke1 Ke0) (t : T) (h : H) (H0 : F343_34 (t 0) (t 1) (t 2) (t 7) (t 8) h Kn Kr Ke1 Ke0) : Wp Tryz.prog 133 (cndY (rest 1 (seqL (seqR (rest 2 (seqR (blkC (seqL (rest 1 (lopC (blkC (rest 1 (seqL (rest 2 (bodyOf Tryz.f343.body))))))))))))))) (mkQ (fun t h => Kn (t 0) (t 1) (t 2) (t 7) (t 8) h) (fun t h => Kr (t 6) h) (keAdd 1 (fun t h => Ke1 (t 0) (t 1) (t 2) (t 7) (t 8) h) (keAdd 0 (fun t h => Ke0  h) ke0))) t h :=
  wpEqF H0 (by kernel_rfl)
def F343_21 (x0 x1 x2 x7 x8 x61 : Value) (h : H) (Kn : VP5) (Kr : VP1) (Ke1 : VP5) (Ke0 : H → Prop) : Prop :=
  o_if x61 (F343_22 x0 x1 x2 x7 x8 h Kn Kr Ke1 Ke0) (F343_34 x0 x1 x2 x7 x8 h Kn Kr Ke1 Ke0)
theorem F343_21_ok (Kn Kr Ke1 Ke0) (t : T) (h : H) (H0 : F343_21 (t 0) (t 1) (t 2) (t 7) (t 8) (t 61) h Kn Kr Ke1 Ke0) : Wp Tryz.prog 133 (rest 1 (seqL (seqR (rest 2 (seqR (blkC (seqL (rest 1 (lopC (blkC (rest 1 (seqL (rest 2 (bodyOf Tryz.f343.body)))))))))))))) (mkQ (fun t h => Kn (t 0) (t 1) (t 2) (t 7) (t 8) h) (fun t h => Kr (t 6) h) (keAdd 1 (fun t h => Ke1 (t 0) (t 1) (t 2) (t 7) (t 8) h) (keAdd 0 (fun t h => Ke0  h) ke0))) t h :=
  cond_ok H0 (by kernel_rfl) (F343_22_ok Kn Kr Ke1 Ke0 t h) (F343_34_ok Kn Kr Ke1 Ke0 t h) (by kernel_rfl)
def F343_20 (x0 x1 x2 x7 x8 : Value) (h : H) (Kn : VP5) (Kr : VP1) (Ke1 : VP5) (Ke0 : H → Prop) : Prop :=
  o_bin Tryz.prog .sub 3 x7 x1 fun v60 => o_bin Tryz.prog .geq 3 v60 (.int .i64 2) fun v61 => F343_21 x0 x1 x2 x7 x8 v61 h Kn Kr Ke1 Ke0
theorem F343_20_ok (Kn Kr Ke1 Ke0) (t : T) (h : H) (H0 : F343_20 (t 0) (t 1) (t 2) (t 7) (t 8) h Kn Kr Ke1 Ke0) : Wp Tryz.prog 133 (seqL (seqR (rest 2 (seqR (blkC (seqL (rest 1 (lopC (blkC (rest 1 (seqL (rest 2 (bodyOf Tryz.f343.body))))))))))))) (mkQ (fun t h => Kn (t 0) (t 1) (t 2) (t 7) (t 8) h) (fun t h => Kr (t 6) h) (keAdd 1 (fun t h => Ke1 (t 0) (t 1) (t 2) (t 7) (t 8) h) (keAdd 0 (fun t h => Ke0  h) ke0))) t h :=
  awpTo_okF 1 H0 (by kernel_rfl) (fun t h (H1 : F343_21 (t 0) (t 1) (t 2) (t 7) (t 8) (t 61) h Kn Kr Ke1 Ke0) => F343_21_ok Kn Kr Ke1 Ke0 t h H1) (by kernel_rfl)
def F343_45 (x0 x1 x2 x7 x8 x10 : Value) (h : H) (Kn : VP7) (Kr : VP1) (Ke7 : VP6) (Ke6 : VP5) (Ke1 : VP5) (Ke0 : H → Prop) : Prop :=
  o_indexAddr none 1 x0 x10 fun v108 => o_load false 1 v108 h fun v109 => o_bin Tryz.prog .sub 3 x10 (.int .i64 1) fun v112 => o_indexAddr none 1 x0 v112 fun v113 => o_load false 1 v113 h fun v114 => o_dcall DS 344 [v109, v114] h fun v115 h => o_un Tryz.prog .not v115 fun v116 => Kn x0 x1 x2 x7 x8 x10 v116 h
theorem F343_45_ok (Kn Kr Ke7 Ke6 Ke1 Ke0) (t : T) (h : H) (H0 : F343_45 (t 0) (t 1) (t 2) (t 7) (t 8) (t 10) h Kn Kr Ke7 Ke6 Ke1 Ke0) : Wp Tryz.prog 133 (seqL (seqL (blkC (seqL (rest 1 (lopC (blkC (rest 1 (cndX (rest 1 (seqR (seqR (rest 2 (seqR (blkC (seqL (rest 1 (lopC (blkC (rest 1 (seqL (rest 2 (bodyOf Tryz.f343.body))))))))))))))))))))))) (mkQ (fun t h => Kn (t 0) (t 1) (t 2) (t 7) (t 8) (t 10) (t 116) h) (fun t h => Kr (t 6) h) (keAdd 7 (fun t h => Ke7 (t 0) (t 1) (t 2) (t 7) (t 8) (t 10) h) (keAdd 6 (fun t h => Ke6 (t 0) (t 1) (t 2) (t 7) (t 8) h) (keAdd 1 (fun t h => Ke1 (t 0) (t 1) (t 2) (t 7) (t 8) h) (keAdd 0 (fun t h => Ke0  h) ke0))))) t h :=
  drawD_ok dsOk (by kernel_rfl) (by kernel_rfl) H0 (by kernel_rfl)
def F343_46 (x0 x1 x2 x7 x8 x10 x116 : Value) (h : H) (Kn : VP6) (Kr : VP1) (Ke7 : VP6) (Ke6 : VP5) (Ke1 : VP5) (Ke0 : H → Prop) : Prop :=
  o_if x116 (Ke6 x0 x1 x2 x7 x8 h) (Kn x0 x1 x2 x7 x8 x10 h)
theorem F343_46_ok (Kn Kr Ke7 Ke6 Ke1 Ke0) (t : T) (h : H) (H0 : F343_46 (t 0) (t 1) (t 2) (t 7) (t 8) (t 10) (t 116) h Kn Kr Ke7 Ke6 Ke1 Ke0) : Wp Tryz.prog 133 (seqR (seqL (blkC (seqL (rest 1 (lopC (blkC (rest 1 (cndX (rest 1 (seqR (seqR (rest 2 (seqR (blkC (seqL (rest 1 (lopC (blkC (rest 1 (seqL (rest 2 (bodyOf Tryz.f343.body))))))))))))))))))))))) (mkQ (fun t h => Kn (t 0) (t 1) (t 2) (t 7) (t 8) (t 10) h) (fun t h => Kr (t 6) h) (keAdd 7 (fun t h => Ke7 (t 0) (t 1) (t 2) (t 7) (t 8) (t 10) h) (keAdd 6 (fun t h => Ke6 (t 0) (t 1) (t 2) (t 7) (t 8) h) (keAdd 1 (fun t h => Ke1 (t 0) (t 1) (t 2) (t 7) (t 8) h) (keAdd 0 (fun t h => Ke0  h) ke0))))) t h :=
  wpEqF H0 (by kernel_rfl)
def F343_44 (x0 x1 x2 x7 x8 x10 : Value) (h : H) (Kn : VP6) (Kr : VP1) (Ke7 : VP6) (Ke6 : VP5) (Ke1 : VP5) (Ke0 : H → Prop) : Prop :=
  F343_45 x0 x1 x2 x7 x8 x10 h (fun y0 y1 y2 y7 y8 y10 y116 h => F343_46 y0 y1 y2 y7 y8 y10 y116 h Kn Kr Ke7 Ke6 Ke1 Ke0) Kr Ke7 Ke6 Ke1 Ke0
theorem F343_44_ok (Kn Kr Ke7 Ke6 Ke1 Ke0) (t : T) (h : H) (H0 : F343_44 (t 0) (t 1) (t 2) (t 7) (t 8) (t 10) h Kn Kr Ke7 Ke6 Ke1 Ke0) : Wp Tryz.prog 133 (seqL (blkC (seqL (rest 1 (lopC (blkC (rest 1 (cndX (rest 1 (seqR (seqR (rest 2 (seqR (blkC (seqL (rest 1 (lopC (blkC (rest 1 (seqL (rest 2 (bodyOf Tryz.f343.body)))))))))))))))))))))) (mkQ (fun t h => Kn (t 0) (t 1) (t 2) (t 7) (t 8) (t 10) h) (fun t h => Kr (t 6) h) (keAdd 7 (fun t h => Ke7 (t 0) (t 1) (t 2) (t 7) (t 8) (t 10) h) (keAdd 6 (fun t h => Ke6 (t 0) (t 1) (t 2) (t 7) (t 8) h) (keAdd 1 (fun t h => Ke1 (t 0) (t 1) (t 2) (t 7) (t 8) h) (keAdd 0 (fun t h => Ke0  h) ke0))))) t h :=
  seq_ok (by kernel_rfl) (fun t h H1 => F343_46_ok Kn Kr Ke7 Ke6 Ke1 Ke0 t h H1) (F343_45_ok (fun y0 y1 y2 y7 y8 y10 y116 h => F343_46 y0 y1 y2 y7 y8 y10 y116 h Kn Kr Ke7 Ke6 Ke1 Ke0) Kr Ke7 Ke6 Ke1 Ke0 t h H0)
def F343_47 (x0 x1 x2 x7 x8 x10 : Value) (h : H) (Kn : VP6) (Kr : VP1) (Ke7 : VP6) (Ke6 : VP5) (Ke1 : VP5) (Ke0 : H → Prop) : Prop :=
  o_bin Tryz.prog .sub 3 x10 (.int .i64 1) fun v121 => o_bin Tryz.prog .sub 3 x10 (.int .i64 1) fun v124 => o_indexAddr none 1 x0 v124 fun v125 => o_load false 1 v125 h fun v126 => o_indexAddr none 1 x0 x10 fun v129 => o_load false 1 v129 h fun v130 => o_indexAddr none 1 x0 x10 fun v131 => o_store 1 v131 v126 h fun h => o_indexAddr none 1 x0 v121 fun v132 => o_store 1 v132 v130 h fun h => Kn x0 x1 x2 x7 x8 x10 h
theorem F343_47_ok (Kn Kr Ke7 Ke6 Ke1 Ke0) (t : T) (h : H) (H0 : F343_47 (t 0) (t 1) (t 2) (t 7) (t 8) (t 10) h Kn Kr Ke7 Ke6 Ke1 Ke0) : Wp Tryz.prog 133 (seqR (blkC (seqL (rest 1 (lopC (blkC (rest 1 (cndX (rest 1 (seqR (seqR (rest 2 (seqR (blkC (seqL (rest 1 (lopC (blkC (rest 1 (seqL (rest 2 (bodyOf Tryz.f343.body)))))))))))))))))))))) (mkQ (fun t h => Kn (t 0) (t 1) (t 2) (t 7) (t 8) (t 10) h) (fun t h => Kr (t 6) h) (keAdd 7 (fun t h => Ke7 (t 0) (t 1) (t 2) (t 7) (t 8) (t 10) h) (keAdd 6 (fun t h => Ke6 (t 0) (t 1) (t 2) (t 7) (t 8) h) (keAdd 1 (fun t h => Ke1 (t 0) (t 1) (t 2) (t 7) (t 8) h) (keAdd 0 (fun t h => Ke0  h) ke0))))) t h :=
  draw_okF (by kernel_rfl) (by kernel_rfl) H0 (by kernel_rfl)
def F343_43 (x0 x1 x2 x7 x8 x10 : Value) (h : H) (Kn : VP6) (Kr : VP1) (Ke7 : VP6) (Ke6 : VP5) (Ke1 : VP5) (Ke0 : H → Prop) : Prop :=
  F343_44 x0 x1 x2 x7 x8 x10 h (fun y0 y1 y2 y7 y8 y10 h => F343_47 y0 y1 y2 y7 y8 y10 h Kn Kr Ke7 Ke6 Ke1 Ke0) Kr Ke7 Ke6 Ke1 Ke0
theorem F343_43_ok (Kn Kr Ke7 Ke6 Ke1 Ke0) (t : T) (h : H) (H0 : F343_43 (t 0) (t 1) (t 2) (t 7) (t 8) (t 10) h Kn Kr Ke7 Ke6 Ke1 Ke0) : Wp Tryz.prog 133 (blkC (seqL (rest 1 (lopC (blkC (rest 1 (cndX (rest 1 (seqR (seqR (rest 2 (seqR (blkC (seqL (rest 1 (lopC (blkC (rest 1 (seqL (rest 2 (bodyOf Tryz.f343.body))))))))))))))))))))) (mkQ (fun t h => Kn (t 0) (t 1) (t 2) (t 7) (t 8) (t 10) h) (fun t h => Kr (t 6) h) (keAdd 7 (fun t h => Ke7 (t 0) (t 1) (t 2) (t 7) (t 8) (t 10) h) (keAdd 6 (fun t h => Ke6 (t 0) (t 1) (t 2) (t 7) (t 8) h) (keAdd 1 (fun t h => Ke1 (t 0) (t 1) (t 2) (t 7) (t 8) h) (keAdd 0 (fun t h => Ke0  h) ke0))))) t h :=
  seq_ok (by kernel_rfl) (fun t h H1 => F343_47_ok Kn Kr Ke7 Ke6 Ke1 Ke0 t h H1) (F343_44_ok (fun y0 y1 y2 y7 y8 y10 h => F343_47 y0 y1 y2 y7 y8 y10 h Kn Kr Ke7 Ke6 Ke1 Ke0) Kr Ke7 Ke6 Ke1 Ke0 t h H0)
def F343_42 (x0 x1 x2 x7 x8 x10 : Value) (h : H) (Kn : VP6) (Kr : VP1) (Ke6 : VP5) (Ke1 : VP5) (Ke0 : H → Prop) : Prop :=
  F343_43 x0 x1 x2 x7 x8 x10 h Kn Kr Kn Ke6 Ke1 Ke0
theorem F343_42_ok (Kn Kr Ke6 Ke1 Ke0) (t : T) (h : H) (H0 : F343_42 (t 0) (t 1) (t 2) (t 7) (t 8) (t 10) h Kn Kr Ke6 Ke1 Ke0) : Wp Tryz.prog 133 (seqL (rest 1 (lopC (blkC (rest 1 (cndX (rest 1 (seqR (seqR (rest 2 (seqR (blkC (seqL (rest 1 (lopC (blkC (rest 1 (seqL (rest 2 (bodyOf Tryz.f343.body)))))))))))))))))))) (mkQ (fun t h => Kn (t 0) (t 1) (t 2) (t 7) (t 8) (t 10) h) (fun t h => Kr (t 6) h) (keAdd 6 (fun t h => Ke6 (t 0) (t 1) (t 2) (t 7) (t 8) h) (keAdd 1 (fun t h => Ke1 (t 0) (t 1) (t 2) (t 7) (t 8) h) (keAdd 0 (fun t h => Ke0  h) ke0)))) t h :=
  block_ok 7 (by kernel_rfl) (by kernel_rfl) (F343_43_ok Kn Kr Kn Ke6 Ke1 Ke0 t h H0)
def F343_48 (x0 x1 x2 x7 x8 x10 : Value) (h : H) (Kn : VP6) (Kr : VP1) (Ke6 : VP5) (Ke1 : VP5) (Ke0 : H → Prop) : Prop :=
  o_bin Tryz.prog .add 3 x10 (.int .i64 1) fun v105 => Kn x0 x1 x2 x7 x8 v105 h
theorem F343_48_ok (Kn Kr Ke6 Ke1 Ke0) (t : T) (h : H) (H0 : F343_48 (t 0) (t 1) (t 2) (t 7) (t 8) (t 10) h Kn Kr Ke6 Ke1 Ke0) : Wp Tryz.prog 133 (seqR (rest 1 (lopC (blkC (rest 1 (cndX (rest 1 (seqR (seqR (rest 2 (seqR (blkC (seqL (rest 1 (lopC (blkC (rest 1 (seqL (rest 2 (bodyOf Tryz.f343.body)))))))))))))))))))) (mkQ (fun t h => Kn (t 0) (t 1) (t 2) (t 7) (t 8) (t 10) h) (fun t h => Kr (t 6) h) (keAdd 6 (fun t h => Ke6 (t 0) (t 1) (t 2) (t 7) (t 8) h) (keAdd 1 (fun t h => Ke1 (t 0) (t 1) (t 2) (t 7) (t 8) h) (keAdd 0 (fun t h => Ke0  h) ke0)))) t h :=
  wpEqF H0 (by kernel_rfl)
def F343_41 (x0 x1 x2 x7 x8 x10 : Value) (h : H) (Kn : VP6) (Kr : VP1) (Ke6 : VP5) (Ke1 : VP5) (Ke0 : H → Prop) : Prop :=
  F343_42 x0 x1 x2 x7 x8 x10 h (fun y0 y1 y2 y7 y8 y10 h => F343_48 y0 y1 y2 y7 y8 y10 h Kn Kr Ke6 Ke1 Ke0) Kr Ke6 Ke1 Ke0
theorem F343_41_ok (Kn Kr Ke6 Ke1 Ke0) (t : T) (h : H) (H0 : F343_41 (t 0) (t 1) (t 2) (t 7) (t 8) (t 10) h Kn Kr Ke6 Ke1 Ke0) : Wp Tryz.prog 133 (rest 1 (lopC (blkC (rest 1 (cndX (rest 1 (seqR (seqR (rest 2 (seqR (blkC (seqL (rest 1 (lopC (blkC (rest 1 (seqL (rest 2 (bodyOf Tryz.f343.body))))))))))))))))))) (mkQ (fun t h => Kn (t 0) (t 1) (t 2) (t 7) (t 8) (t 10) h) (fun t h => Kr (t 6) h) (keAdd 6 (fun t h => Ke6 (t 0) (t 1) (t 2) (t 7) (t 8) h) (keAdd 1 (fun t h => Ke1 (t 0) (t 1) (t 2) (t 7) (t 8) h) (keAdd 0 (fun t h => Ke0  h) ke0)))) t h :=
  seq_ok (by kernel_rfl) (fun t h H1 => F343_48_ok Kn Kr Ke6 Ke1 Ke0 t h H1) (F343_42_ok (fun y0 y1 y2 y7 y8 y10 h => F343_48 y0 y1 y2 y7 y8 y10 h Kn Kr Ke6 Ke1 Ke0) Kr Ke6 Ke1 Ke0 t h H0)
def F343_40 (x0 x1 x2 x7 x8 x10 : Value) (h : H) (Kn : VP6) (Kr : VP1) (Ke6 : VP5) (Ke1 : VP5) (Ke0 : H → Prop) : Prop :=
  o_bin Tryz.prog .lss 3 x10 x2 fun v103 => o_if v103 (F343_41 x0 x1 x2 x7 x8 x10 h Kn Kr Ke6 Ke1 Ke0) (Ke6 x0 x1 x2 x7 x8 h)
theorem F343_40_ok (Kn Kr Ke6 Ke1 Ke0) (t : T) (h : H) (H0 : F343_40 (t 0) (t 1) (t 2) (t 7) (t 8) (t 10) h Kn Kr Ke6 Ke1 Ke0) : Wp Tryz.prog 133 (lopC (blkC (rest 1 (cndX (rest 1 (seqR (seqR (rest 2 (seqR (blkC (seqL (rest 1 (lopC (blkC (rest 1 (seqL (rest 2 (bodyOf Tryz.f343.body)))))))))))))))))) (mkQ (fun t h => Kn (t 0) (t 1) (t 2) (t 7) (t 8) (t 10) h) (fun t h => Kr (t 6) h) (keAdd 6 (fun t h => Ke6 (t 0) (t 1) (t 2) (t 7) (t 8) h) (keAdd 1 (fun t h => Ke1 (t 0) (t 1) (t 2) (t 7) (t 8) h) (keAdd 0 (fun t h => Ke0  h) ke0)))) t h :=
  awpTo_okF 1 H0 (by kernel_rfl) (fun t h (H1 : F343_41 (t 0) (t 1) (t 2) (t 7) (t 8) (t 10) h Kn Kr Ke6 Ke1 Ke0) => F343_41_ok Kn Kr Ke6 Ke1 Ke0 t h H1) (by kernel_rfl)
def F343_39 (x0 x1 x2 x7 x8 x10 : Value) (h : H) (Kn : VP5) (Kr : VP1) (Ke6 : VP5) (Ke1 : VP5) (Ke0 : H → Prop) : Prop :=
  sloop (S := Value × Value × Value × Value × Value × Value) (fun s h K => F343_40 s.1 s.2.1 s.2.2.1 s.2.2.2.1 s.2.2.2.2.1 s.2.2.2.2.2 h (fun y0 y1 y2 y7 y8 y10 h => K (y0, y1, y2, y7, y8, y10) h) Kr Ke6 Ke1 Ke0) (x0, x1, x2, x7, x8, x10) h
theorem F343_39_ok (Kn Kr Ke6 Ke1 Ke0) (t : T) (h : H) (H0 : F343_39 (t 0) (t 1) (t 2) (t 7) (t 8) (t 10) h Kn Kr Ke6 Ke1 Ke0) : Wp Tryz.prog 133 (blkC (rest 1 (cndX (rest 1 (seqR (seqR (rest 2 (seqR (blkC (seqL (rest 1 (lopC (blkC (rest 1 (seqL (rest 2 (bodyOf Tryz.f343.body))))))))))))))))) (mkQ (fun t h => Kn (t 0) (t 1) (t 2) (t 7) (t 8) h) (fun t h => Kr (t 6) h) (keAdd 6 (fun t h => Ke6 (t 0) (t 1) (t 2) (t 7) (t 8) h) (keAdd 1 (fun t h => Ke1 (t 0) (t 1) (t 2) (t 7) (t 8) h) (keAdd 0 (fun t h => Ke0  h) ke0)))) t h :=
  loop_ok (fun t => (t 0, t 1, t 2, t 7, t 8, t 10)) (by kernel_rfl) (fun t h K H1 => F343_40_ok (fun y0 y1 y2 y7 y8 y10 h => K (y0, y1, y2, y7, y8, y10) h) Kr Ke6 Ke1 Ke0 t h H1) H0
def F343_38 (x0 x1 x2 x7 x8 x10 : Value) (h : H) (Kn : VP5) (Kr : VP1) (Ke1 : VP5) (Ke0 : H → Prop) : Prop :=
  F343_39 x0 x1 x2 x7 x8 x10 h Kn Kr Kn Ke1 Ke0
theorem F343_38_ok (Kn Kr Ke1 Ke0) (t : T) (h : H) (H0 : F343_38 (t 0) (t 1) (t 2) (t 7) (t 8) (t 10) h Kn Kr Ke1 Ke0) : Wp Tryz.prog 133 (rest 1 (cndX (rest 1 (seqR (seqR (rest 2 (seqR (blkC (seqL (rest 1 (lopC (blkC (rest 1 (seqL (rest 2 (bodyOf Tryz.f343.body)))))))))))))))) (mkQ (fun t h => Kn (t 0) (t 1) (t 2) (t 7) (t 8) h) (fun t h => Kr (t 6) h) (keAdd 1 (fun t h => Ke1 (t 0) (t 1) (t 2) (t 7) (t 8) h) (keAdd 0 (fun t h => Ke0  h) ke0))) t h :=
  block_ok 6 (by kernel_rfl) (by kernel_rfl) (F343_39_ok Kn Kr Kn Ke1 Ke0 t h H0)
def F343_37 (x0 x1 x2 x7 x8 : Value) (h : H) (Kn : VP5) (Kr : VP1) (Ke1 : VP5) (Ke0 : H → Prop) : Prop :=
  o_bin Tryz.prog .add 3 x7 (.int .i64 1) fun v100 => F343_38 x0 x1 x2 x7 x8 v100 h Kn Kr Ke1 Ke0
theorem F343_37_ok (Kn Kr Ke1 Ke0) (t : T) (h : H) (H0 : F343_37 (t 0) (t 1) (t 2) (t 7) (t 8) h Kn Kr Ke1 Ke0) : Wp Tryz.prog 133 (cndX (rest 1 (seqR (seqR (rest 2 (seqR (blkC (seqL (rest 1 (lopC (blkC (rest 1 (seqL (rest 2 (bodyOf Tryz.f343.body))))))))))))))) (mkQ (fun t h => Kn (t 0) (t 1) (t 2) (t 7) (t 8) h) (fun t h => Kr (t 6) h) (keAdd 1 (fun t h => Ke1 (t 0) (t 1) (t 2) (t 7) (t 8) h) (keAdd 0 (fun t h => Ke0  h) ke0))) t h :=
  awpTo_okF 1 H0 (by kernel_rfl) (fun t h (H1 : F343_38 (t 0) (t 1) (t 2) (t 7) (t 8) (t 10) h Kn Kr Ke1 Ke0) => F343_38_ok Kn Kr Ke1 Ke0 t h H1) (by kernel_rfl)
def F343_49 (x0 x1 x2 x7 x8 : Value) (h : H) (Kn : VP5) (Kr : VP1) (Ke1 : VP5) (Ke0 : H → Prop) : Prop :=
  Kn x0 x1 x2 x7 x8 h
theorem F343_49_ok (Kn Kr Ke1 Ke0) (t : T) (h : H) (H0 : F343_49 (t 0) (t 1) (t 2) (t 7) (t 8) h Kn Kr Ke1 Ke0) : Wp Tryz.prog 133 (cndY (rest 1 (seqR (seqR (rest 2 (seqR (blkC (seqL (rest 1 (lopC (blkC (rest 1 (seqL (rest 2 (bodyOf Tryz.f343.body))))))))))))))) (mkQ (fun t h => Kn (t 0) (t 1) (t 2) (t 7) (t 8) h) (fun t h => Kr (t 6) h) (keAdd 1 (fun t h => Ke1 (t 0) (t 1) (t 2) (t 7) (t 8) h) (keAdd 0 (fun t h => Ke0  h) ke0))) t h :=
  wpEqF H0 (by kernel_rfl)
def F343_36 (x0 x1 x2 x7 x8 x98 : Value) (h : H) (Kn : VP5) (Kr : VP1) (Ke1 : VP5) (Ke0 : H → Prop) : Prop :=
  o_if x98 (F343_37 x0 x1 x2 x7 x8 h Kn Kr Ke1 Ke0) (F343_49 x0 x1 x2 x7 x8 h Kn Kr Ke1 Ke0)
theorem F343_36_ok (Kn Kr Ke1 Ke0) (t : T) (h : H) (H0 : F343_36 (t 0) (t 1) (t 2) (t 7) (t 8) (t 98) h Kn Kr Ke1 Ke0) : Wp Tryz.prog 133 (rest 1 (seqR (seqR (rest 2 (seqR (blkC (seqL (rest 1 (lopC (blkC (rest 1 (seqL (rest 2 (bodyOf Tryz.f343.body)))))))))))))) (mkQ (fun t h => Kn (t 0) (t 1) (t 2) (t 7) (t 8) h) (fun t h => Kr (t 6) h) (keAdd 1 (fun t h => Ke1 (t 0) (t 1) (t 2) (t 7) (t 8) h) (keAdd 0 (fun t h => Ke0  h) ke0))) t h :=
  cond_ok H0 (by kernel_rfl) (F343_37_ok Kn Kr Ke1 Ke0 t h) (F343_49_ok Kn Kr Ke1 Ke0 t h) (by kernel_rfl)
def F343_35 (x0 x1 x2 x7 x8 : Value) (h : H) (Kn : VP5) (Kr : VP1) (Ke1 : VP5) (Ke0 : H → Prop) : Prop :=
  o_bin Tryz.prog .sub 3 x2 x7 fun v97 => o_bin Tryz.prog .geq 3 v97 (.int .i64 2) fun v98 => F343_36 x0 x1 x2 x7 x8 v98 h Kn Kr Ke1 Ke0
theorem F343_35_ok (Kn Kr Ke1 Ke0) (t : T) (h : H) (H0 : F343_35 (t 0) (t 1) (t 2) (t 7) (t 8) h Kn Kr Ke1 Ke0) : Wp Tryz.prog 133 (seqR (seqR (rest 2 (seqR (blkC (seqL (rest 1 (lopC (blkC (rest 1 (seqL (rest 2 (bodyOf Tryz.f343.body))))))))))))) (mkQ (fun t h => Kn (t 0) (t 1) (t 2) (t 7) (t 8) h) (fun t h => Kr (t 6) h) (keAdd 1 (fun t h => Ke1 (t 0) (t 1) (t 2) (t 7) (t 8) h) (keAdd 0 (fun t h => Ke0  h) ke0))) t h :=
  awpTo_okF 1 H0 (by kernel_rfl) (fun t h (H1 : F343_36 (t 0) (t 1) (t 2) (t 7) (t 8) (t 98) h Kn Kr Ke1 Ke0) => F343_36_ok Kn Kr Ke1 Ke0 t h H1) (by kernel_rfl)
def F343_19 (x0 x1 x2 x7 x8 : Value) (h : H) (Kn : VP5) (Kr : VP1) (Ke1 : VP5) (Ke0 : H → Prop) : Prop :=
  F343_20 x0 x1 x2 x7 x8 h (fun y0 y1 y2 y7 y8 h => F343_35 y0 y1 y2 y7 y8 h Kn Kr Ke1 Ke0) Kr Ke1 Ke0
theorem F343_19_ok (Kn Kr Ke1 Ke0) (t : T) (h : H) (H0 : F343_19 (t 0) (t 1) (t 2) (t 7) (t 8) h Kn Kr Ke1 Ke0) : Wp Tryz.prog 133 (seqR (rest 2 (seqR (blkC (seqL (rest 1 (lopC (blkC (rest 1 (seqL (rest 2 (bodyOf Tryz.f343.body)))))))))))) (mkQ (fun t h => Kn (t 0) (t 1) (t 2) (t 7) (t 8) h) (fun t h => Kr (t 6) h) (keAdd 1 (fun t h => Ke1 (t 0) (t 1) (t 2) (t 7) (t 8) h) (keAdd 0 (fun t h => Ke0  h) ke0))) t h :=
  seq_ok (by kernel_rfl) (fun t h H1 => F343_35_ok Kn Kr Ke1 Ke0 t h H1) (F343_20_ok (fun y0 y1 y2 y7 y8 h => F343_35 y0 y1 y2 y7 y8 h Kn Kr Ke1 Ke0) Kr Ke1 Ke0 t h H0)
def F343_17 (x0 x1 x2 x7 x8 : Value) (h : H) (Kn : VP5) (Kr : VP1) (Ke1 : VP5) (Ke0 : H → Prop) : Prop :=
  F343_18 x0 x1 x2 x7 x8 h (fun y0 y1 y2 y7 y8 h => F343_19 y0 y1 y2 y7 y8 h Kn Kr Ke1 Ke0) Kr Ke1 Ke0
theorem F343_17_ok (Kn Kr Ke1 Ke0) (t : T) (h : H) (H0 : F343_17 (t 0) (t 1) (t 2) (t 7) (t 8) h Kn Kr Ke1 Ke0) : Wp Tryz.prog 133 (rest 2 (seqR (blkC (seqL (rest 1 (lopC (blkC (rest 1 (seqL (rest 2 (bodyOf Tryz.f343.body))))))))))) (mkQ (fun t h => Kn (t 0) (t 1) (t 2) (t 7) (t 8) h) (fun t h => Kr (t 6) h) (keAdd 1 (fun t h => Ke1 (t 0) (t 1) (t 2) (t 7) (t 8) h) (keAdd 0 (fun t h => Ke0  h) ke0))) t h :=
  seq_ok (by kernel_rfl) (fun t h H1 => F343_19_ok Kn Kr Ke1 Ke0 t h H1) (F343_18_ok (fun y0 y1 y2 y7 y8 h => F343_19 y0 y1 y2 y7 y8 h Kn Kr Ke1 Ke0) Kr Ke1 Ke0 t h H0)
def F343_16 (x0 x1 x2 x7 x8 : Value) (h : H) (Kn : VP5) (Kr : VP1) (Ke1 : VP5) (Ke0 : H → Prop) : Prop :=
  o_bin Tryz.prog .eql 3 x7 x2 fun v37 => o_if v37 (Kr (.bool true) h) (o_bin Tryz.prog .sub 3 x2 x1 fun v40 => o_bin Tryz.prog .lss 3 v40 (.int .i64 50) fun v41 => o_if v41 (Kr (.bool false) h) (F343_17 x0 x1 x2 x7 x8 h Kn Kr Ke1 Ke0))
theorem F343_16_ok (Kn Kr Ke1 Ke0) (t : T) (h : H) (H0 : F343_16 (t 0) (t 1) (t 2) (t 7) (t 8) h Kn Kr Ke1 Ke0) : Wp Tryz.prog 133 (seqR (blkC (seqL (rest 1 (lopC (blkC (rest 1 (seqL (rest 2 (bodyOf Tryz.f343.body)))))))))) (mkQ (fun t h => Kn (t 0) (t 1) (t 2) (t 7) (t 8) h) (fun t h => Kr (t 6) h) (keAdd 1 (fun t h => Ke1 (t 0) (t 1) (t 2) (t 7) (t 8) h) (keAdd 0 (fun t h => Ke0  h) ke0))) t h :=
  awpTo_okF 2 H0 (by kernel_rfl) (fun t h (H1 : F343_17 (t 0) (t 1) (t 2) (t 7) (t 8) h Kn Kr Ke1 Ke0) => F343_17_ok Kn Kr Ke1 Ke0 t h H1) (by kernel_rfl)
def F343_8 (x0 x1 x2 x7 x8 : Value) (h : H) (Kn : VP5) (Kr : VP1) (Ke1 : VP5) (Ke0 : H → Prop) : Prop :=
  F343_9 x0 x1 x2 x7 x8 h (fun y0 y1 y2 y7 y8 h => F343_16 y0 y1 y2 y7 y8 h Kn Kr Ke1 Ke0) Kr Ke1 Ke0
theorem F343_8_ok (Kn Kr Ke1 Ke0) (t : T) (h : H) (H0 : F343_8 (t 0) (t 1) (t 2) (t 7) (t 8) h Kn Kr Ke1 Ke0) : Wp Tryz.prog 133 (blkC (seqL (rest 1 (lopC (blkC (rest 1 (seqL (rest 2 (bodyOf Tryz.f343.body))))))))) (mkQ (fun t h => Kn (t 0) (t 1) (t 2) (t 7) (t 8) h) (fun t h => Kr (t 6) h) (keAdd 1 (fun t h => Ke1 (t 0) (t 1) (t 2) (t 7) (t 8) h) (keAdd 0 (fun t h => Ke0  h) ke0))) t h :=
  seq_ok (by kernel_rfl) (fun t h H1 => F343_16_ok Kn Kr Ke1 Ke0 t h H1) (F343_9_ok (fun y0 y1 y2 y7 y8 h => F343_16 y0 y1 y2 y7 y8 h Kn Kr Ke1 Ke0) Kr Ke1 Ke0 t h H0)
def F343_7 (x0 x1 x2 x7 x8 : Value) (h : H) (Kn : VP5) (Kr : VP1) (Ke0 : H → Prop) : Prop :=
  F343_8 x0 x1 x2 x7 x8 h Kn Kr Kn Ke0
theorem F343_7_ok (Kn Kr Ke0) (t : T) (h : H) (H0 : F343_7 (t 0) (t 1) (t 2) (t 7) (t 8) h Kn Kr Ke0) : Wp Tryz.prog 133 (seqL (rest 1 (lopC (blkC (rest 1 (seqL (rest 2 (bodyOf Tryz.f343.body)))))))) (mkQ (fun t h => Kn (t 0) (t 1) (t 2) (t 7) (t 8) h) (fun t h => Kr (t 6) h) (keAdd 0 (fun t h => Ke0  h) ke0)) t h :=
  block_ok 1 (by kernel_rfl) (by kernel_rfl) (F343_8_ok Kn Kr Kn Ke0 t h H0)
def F343_50 (x0 x1 x2 x7 x8 : Value) (h : H) (Kn : VP5) (Kr : VP1) (Ke0 : H → Prop) : Prop :=
  o_bin Tryz.prog .add 3 x8 (.int .i64 1) fun v16 => Kn x0 x1 x2 x7 v16 h
theorem F343_50_ok (Kn Kr Ke0) (t : T) (h : H) (H0 : F343_50 (t 0) (t 1) (t 2) (t 7) (t 8) h Kn Kr Ke0) : Wp Tryz.prog 133 (seqR (rest 1 (lopC (blkC (rest 1 (seqL (rest 2 (bodyOf Tryz.f343.body)))))))) (mkQ (fun t h => Kn (t 0) (t 1) (t 2) (t 7) (t 8) h) (fun t h => Kr (t 6) h) (keAdd 0 (fun t h => Ke0  h) ke0)) t h :=
  wpEqF H0 (by kernel_rfl)
def F343_6 (x0 x1 x2 x7 x8 : Value) (h : H) (Kn : VP5) (Kr : VP1) (Ke0 : H → Prop) : Prop :=
  F343_7 x0 x1 x2 x7 x8 h (fun y0 y1 y2 y7 y8 h => F343_50 y0 y1 y2 y7 y8 h Kn Kr Ke0) Kr Ke0
theorem F343_6_ok (Kn Kr Ke0) (t : T) (h : H) (H0 : F343_6 (t 0) (t 1) (t 2) (t 7) (t 8) h Kn Kr Ke0) : Wp Tryz.prog 133 (rest 1 (lopC (blkC (rest 1 (seqL (rest 2 (bodyOf Tryz.f343.body))))))) (mkQ (fun t h => Kn (t 0) (t 1) (t 2) (t 7) (t 8) h) (fun t h => Kr (t 6) h) (keAdd 0 (fun t h => Ke0  h) ke0)) t h :=
  seq_ok (by kernel_rfl) (fun t h H1 => F343_50_ok Kn Kr Ke0 t h H1) (F343_7_ok (fun y0 y1 y2 y7 y8 h => F343_50 y0 y1 y2 y7 y8 h Kn Kr Ke0) Kr Ke0 t h H0)
def F343_5 (x0 x1 x2 x7 x8 : Value) (h : H) (Kn : VP5) (Kr : VP1) (Ke0 : H → Prop) : Prop :=
  o_bin Tryz.prog .lss 3 x8 (.int .i64 5) fun v14 => o_if v14 (F343_6 x0 x1 x2 x7 x8 h Kn Kr Ke0) (Ke0 h)
theorem F343_5_ok (Kn Kr Ke0) (t : T) (h : H) (H0 : F343_5 (t 0) (t 1) (t 2) (t 7) (t 8) h Kn Kr Ke0) : Wp Tryz.prog 133 (lopC (blkC (rest 1 (seqL (rest 2 (bodyOf Tryz.f343.body)))))) (mkQ (fun t h => Kn (t 0) (t 1) (t 2) (t 7) (t 8) h) (fun t h => Kr (t 6) h) (keAdd 0 (fun t h => Ke0  h) ke0)) t h :=
  awpTo_okF 1 H0 (by kernel_rfl) (fun t h (H1 : F343_6 (t 0) (t 1) (t 2) (t 7) (t 8) h Kn Kr Ke0) => F343_6_ok Kn Kr Ke0 t h H1) (by kernel_rfl)
def F343_4 (x0 x1 x2 x7 x8 : Value) (h : H) (Kn : H → Prop) (Kr : VP1) (Ke0 : H → Prop) : Prop :=
  sloop (S := Value × Value × Value × Value × Value) (fun s h K => F343_5 s.1 s.2.1 s.2.2.1 s.2.2.2.1 s.2.2.2.2 h (fun y0 y1 y2 y7 y8 h => K (y0, y1, y2, y7, y8) h) Kr Ke0) (x0, x1, x2, x7, x8) h
theorem F343_4_ok (Kn Kr Ke0) (t : T) (h : H) (H0 : F343_4 (t 0) (t 1) (t 2) (t 7) (t 8) h Kn Kr Ke0) : Wp Tryz.prog 133 (blkC (rest 1 (seqL (rest 2 (bodyOf Tryz.f343.body))))) (mkQ (fun t h => Kn  h) (fun t h => Kr (t 6) h) (keAdd 0 (fun t h => Ke0  h) ke0)) t h :=
  loop_ok (fun t => (t 0, t 1, t 2, t 7, t 8)) (by kernel_rfl) (fun t h K H1 => F343_5_ok (fun y0 y1 y2 y7 y8 h => K (y0, y1, y2, y7, y8) h) Kr Ke0 t h H1) H0
def F343_3 (x0 x1 x2 x7 x8 : Value) (h : H) (Kn : H → Prop) (Kr : VP1) : Prop :=
  F343_4 x0 x1 x2 x7 x8 h Kn Kr Kn
theorem F343_3_ok (Kn Kr) (t : T) (h : H) (H0 : F343_3 (t 0) (t 1) (t 2) (t 7) (t 8) h Kn Kr) : Wp Tryz.prog 133 (rest 1 (seqL (rest 2 (bodyOf Tryz.f343.body)))) (mkQ (fun t h => Kn  h) (fun t h => Kr (t 6) h) ke0) t h :=
  block_ok 0 (by kernel_rfl) (by kernel_rfl) (F343_4_ok Kn Kr Kn t h H0)
def F343_2 (x0 x1 x2 x7 : Value) (h : H) (Kn : H → Prop) (Kr : VP1) : Prop :=
  F343_3 x0 x1 x2 x7 (.int .i64 0) h Kn Kr
theorem F343_2_ok (Kn Kr) (t : T) (h : H) (H0 : F343_2 (t 0) (t 1) (t 2) (t 7) h Kn Kr) : Wp Tryz.prog 133 (seqL (rest 2 (bodyOf Tryz.f343.body))) (mkQ (fun t h => Kn  h) (fun t h => Kr (t 6) h) ke0) t h :=
  awpTo_okF 1 H0 (by kernel_rfl) (fun t h (H1 : F343_3 (t 0) (t 1) (t 2) (t 7) (t 8) h Kn Kr) => F343_3_ok Kn Kr t h H1) (by kernel_rfl)
def F343_51 (h : H) (Kn : VP1) (Kr : VP1) : Prop :=
  Kr (.bool false) h
theorem F343_51_ok (Kn Kr) (t : T) (h : H) (H0 : F343_51  h Kn Kr) : Wp Tryz.prog 133 (seqR (rest 2 (bodyOf Tryz.f343.body))) (mkQ (fun t h => Kn (t 6) h) (fun t h => Kr (t 6) h) ke0) t h :=
  wpEqF H0 (by kernel_rfl)
def F343_1 (x0 x1 x2 x7 : Value) (h : H) (Kn : VP1) (Kr : VP1) : Prop :=
  F343_2 x0 x1 x2 x7 h (fun  h => F343_51  h Kn Kr) Kr
theorem F343_1_ok (Kn Kr) (t : T) (h : H) (H0 : F343_1 (t 0) (t 1) (t 2) (t 7) h Kn Kr) : Wp Tryz.prog 133 (rest 2 (bodyOf Tryz.f343.body)) (mkQ (fun t h => Kn (t 6) h) (fun t h => Kr (t 6) h) ke0) t h :=
  seq_ok (by kernel_rfl) (fun t h H1 => F343_51_ok Kn Kr t h H1) (F343_2_ok (fun  h => F343_51  h Kn Kr) Kr t h H0)
def F343_0 (x0 x1 x2 : Value) (h : H) (Kn : VP1) (Kr : VP1) : Prop :=
  o_bin Tryz.prog .add 3 x1 (.int .i64 1) fun v12 => F343_1 x0 x1 x2 v12 h Kn Kr
theorem F343_0_ok (Kn Kr) (t : T) (h : H) (H0 : F343_0 (t 0) (t 1) (t 2) h Kn Kr) : Wp Tryz.prog 133 (bodyOf Tryz.f343.body) (mkQ (fun t h => Kn (t 6) h) (fun t h => Kr (t 6) h) ke0) t h :=
  awpTo_okF 2 H0 (by kernel_rfl) (fun t h (H1 : F343_1 (t 0) (t 1) (t 2) (t 7) h Kn Kr) => F343_1_ok Kn Kr t h H1) (by kernel_rfl)
def F343 (x0 x1 x2 : Value) (h : H) (Q : VP1) : Prop := F343_0 x0 x1 x2 h (fun v h => Q v h) (fun v h => Q v h)
theorem F343_spec (x0 x1 x2 : Value) (h : H) (Q : VP1) (H0 : F343 x0 x1 x2 h Q) : AM.Spec Tryz.prog 343 [x0, x1, x2] h Q :=
  spec_wp mixed (fn := Tryz.f343) Tryz.func343 (c := bodyOf Tryz.f343.body) (rs := [6]) (N := 133) (by kernel_rfl) (by kernel_rfl) (by kernel_rfl) (by kernel_rfl) (by kernel_rfl) (Nat.le_of_ble_eq_true rfl) (F343_0_ok (fun v h => Q v h) (fun v h => Q v h) (tinit [x0, x1, x2]) h H0) (by kernel_rfl)
/-! #### 346: slices.partitionOrdered[uint32] -/
def F346_2 (x0 x1 x2 x3 : Value) (h : H) (Kn : VP3) (Kr : VP2) : Prop :=
  o_indexAddr none 1 x0 x3 fun v18 => o_load false 1 v18 h fun v19 => o_indexAddr none 1 x0 x1 fun v22 => o_load false 1 v22 h fun v23 => o_indexAddr none 1 x0 x1 fun v24 => o_store 1 v24 v19 h fun h => o_indexAddr none 1 x0 x3 fun v25 => o_store 1 v25 v23 h fun h => Kn x0 x1 x2 h
theorem F346_2_ok (Kn Kr) (t : T) (h : H) (H0 : F346_2 (t 0) (t 1) (t 2) (t 3) h Kn Kr) : Wp Tryz.prog 168 (seqL (rest 1 (bodyOf Tryz.f346.body))) (mkQ (fun t h => Kn (t 0) (t 1) (t 2) h) (fun t h => Kr (t 8) (t 9) h) ke0) t h :=
  draw_okF (by kernel_rfl) (by kernel_rfl) H0 (by kernel_rfl)
def F346_9 (x0 x1 x10 x11 : Value) (h : H) (Kn : VP5) (Kr : VP2) (Ke0 : VP4) : Prop :=
  o_bin Tryz.prog .leq 3 x10 x11 fun v32 => o_guard v32 true (fun k4 => k4 x0 h) (fun v34 h => o_guard v32 true (fun k5 => k5 x10 h) (fun v35 h => o_guard v32 true (fun k6 => o_indexAddr none 1 v34 v35 fun v36 => k6 v36 h) (fun v36 h => o_guard v32 true (fun k7 => o_load false 1 v36 h fun v37 => k7 v37 h) (fun v37 h => o_guard v32 true (fun k8 => k8 x0 h) (fun v38 h => o_guard v32 true (fun k9 => k9 x1 h) (fun v39 h => o_guard v32 true (fun k10 => o_indexAddr none 1 v38 v39 fun v40 => k10 v40 h) (fun v40 h => o_guard v32 true (fun k11 => o_load false 1 v40 h fun v41 => k11 v41 h) (fun v41 h => o_guard v32 true (fun k12 => o_dcall DS 344 [v37, v41] h fun v42 h => k12 v42 h) (fun v42 h => o_pick v32 v42 (.bool false) fun v43 => Kn x0 x1 x10 x11 v43 h) h) h) h) h) h) h) h) h) h
theorem F346_9_ok (Kn Kr Ke0) (t : T) (h : H) (H0 : F346_9 (t 0) (t 1) (t 10) (t 11) h Kn Kr Ke0) : Wp Tryz.prog 168 (seqL (seqL (lopC (blkC (seqL (rest 1 (seqR (rest 1 (bodyOf Tryz.f346.body))))))))) (mkQ (fun t h => Kn (t 0) (t 1) (t 10) (t 11) (t 43) h) (fun t h => Kr (t 8) (t 9) h) (keAdd 0 (fun t h => Ke0 (t 0) (t 1) (t 10) (t 11) h) ke0)) t h :=
  drawD_ok dsOk (by kernel_rfl) (by kernel_rfl) H0 (by kernel_rfl)
def F346_10 (x0 x1 x10 x11 x43 : Value) (h : H) (Kn : VP4) (Kr : VP2) (Ke0 : VP4) : Prop :=
  o_if x43 (Kn x0 x1 x10 x11 h) (Ke0 x0 x1 x10 x11 h)
theorem F346_10_ok (Kn Kr Ke0) (t : T) (h : H) (H0 : F346_10 (t 0) (t 1) (t 10) (t 11) (t 43) h Kn Kr Ke0) : Wp Tryz.prog 168 (seqR (seqL (lopC (blkC (seqL (rest 1 (seqR (rest 1 (bodyOf Tryz.f346.body))))))))) (mkQ (fun t h => Kn (t 0) (t 1) (t 10) (t 11) h) (fun t h => Kr (t 8) (t 9) h) (keAdd 0 (fun t h => Ke0 (t 0) (t 1) (t 10) (t 11) h) ke0)) t h :=
  wpEqF H0 (by kernel_rfl)
def F346_8 (x0 x1 x10 x11 : Value) (h : H) (Kn : VP4) (Kr : VP2) (Ke0 : VP4) : Prop :=
  F346_9 x0 x1 x10 x11 h (fun y0 y1 y10 y11 y43 h => F346_10 y0 y1 y10 y11 y43 h Kn Kr Ke0) Kr Ke0
theorem F346_8_ok (Kn Kr Ke0) (t : T) (h : H) (H0 : F346_8 (t 0) (t 1) (t 10) (t 11) h Kn Kr Ke0) : Wp Tryz.prog 168 (seqL (lopC (blkC (seqL (rest 1 (seqR (rest 1 (bodyOf Tryz.f346.body)))))))) (mkQ (fun t h => Kn (t 0) (t 1) (t 10) (t 11) h) (fun t h => Kr (t 8) (t 9) h) (keAdd 0 (fun t h => Ke0 (t 0) (t 1) (t 10) (t 11) h) ke0)) t h :=
  seq_ok (by kernel_rfl) (fun t h H1 => F346_10_ok Kn Kr Ke0 t h H1) (F346_9_ok (fun y0 y1 y10 y11 y43 h => F346_10 y0 y1 y10 y11 y43 h Kn Kr Ke0) Kr Ke0 t h H0)
def F346_11 (x0 x1 x10 x11 : Value) (h : H) (Kn : VP4) (Kr : VP2) (Ke0 : VP4) : Prop :=
  o_bin Tryz.prog .add 3 x10 (.int .i64 1) fun v45 => Kn x0 x1 v45 x11 h
theorem F346_11_ok (Kn Kr Ke0) (t : T) (h : H) (H0 : F346_11 (t 0) (t 1) (t 10) (t 11) h Kn Kr Ke0) : Wp Tryz.prog 168 (seqR (lopC (blkC (seqL (rest 1 (seqR (rest 1 (bodyOf Tryz.f346.body)))))))) (mkQ (fun t h => Kn (t 0) (t 1) (t 10) (t 11) h) (fun t h => Kr (t 8) (t 9) h) (keAdd 0 (fun t h => Ke0 (t 0) (t 1) (t 10) (t 11) h) ke0)) t h :=
  wpEqF H0 (by kernel_rfl)
def F346_7 (x0 x1 x10 x11 : Value) (h : H) (Kn : VP4) (Kr : VP2) (Ke0 : VP4) : Prop :=
  F346_8 x0 x1 x10 x11 h (fun y0 y1 y10 y11 h => F346_11 y0 y1 y10 y11 h Kn Kr Ke0) Kr Ke0
theorem F346_7_ok (Kn Kr Ke0) (t : T) (h : H) (H0 : F346_7 (t 0) (t 1) (t 10) (t 11) h Kn Kr Ke0) : Wp Tryz.prog 168 (lopC (blkC (seqL (rest 1 (seqR (rest 1 (bodyOf Tryz.f346.body))))))) (mkQ (fun t h => Kn (t 0) (t 1) (t 10) (t 11) h) (fun t h => Kr (t 8) (t 9) h) (keAdd 0 (fun t h => Ke0 (t 0) (t 1) (t 10) (t 11) h) ke0)) t h :=
  seq_ok (by kernel_rfl) (fun t h H1 => F346_11_ok Kn Kr Ke0 t h H1) (F346_8_ok (fun y0 y1 y10 y11 h => F346_11 y0 y1 y10 y11 h Kn Kr Ke0) Kr Ke0 t h H0)
def F346_6 (x0 x1 x10 x11 : Value) (h : H) (Kn : VP4) (Kr : VP2) (Ke0 : VP4) : Prop :=
  sloop (S := Value × Value × Value × Value) (fun s h K => F346_7 s.1 s.2.1 s.2.2.1 s.2.2.2 h (fun y0 y1 y10 y11 h => K (y0, y1, y10, y11) h) Kr Ke0) (x0, x1, x10, x11) h
theorem F346_6_ok (Kn Kr Ke0) (t : T) (h : H) (H0 : F346_6 (t 0) (t 1) (t 10) (t 11) h Kn Kr Ke0) : Wp Tryz.prog 168 (blkC (seqL (rest 1 (seqR (rest 1 (bodyOf Tryz.f346.body)))))) (mkQ (fun t h => Kn (t 0) (t 1) (t 10) (t 11) h) (fun t h => Kr (t 8) (t 9) h) (keAdd 0 (fun t h => Ke0 (t 0) (t 1) (t 10) (t 11) h) ke0)) t h :=
  loop_ok (fun t => (t 0, t 1, t 10, t 11)) (by kernel_rfl) (fun t h K H1 => F346_7_ok (fun y0 y1 y10 y11 h => K (y0, y1, y10, y11) h) Kr Ke0 t h H1) H0
def F346_5 (x0 x1 x10 x11 : Value) (h : H) (Kn : VP4) (Kr : VP2) : Prop :=
  F346_6 x0 x1 x10 x11 h Kn Kr Kn
theorem F346_5_ok (Kn Kr) (t : T) (h : H) (H0 : F346_5 (t 0) (t 1) (t 10) (t 11) h Kn Kr) : Wp Tryz.prog 168 (seqL (rest 1 (seqR (rest 1 (bodyOf Tryz.f346.body))))) (mkQ (fun t h => Kn (t 0) (t 1) (t 10) (t 11) h) (fun t h => Kr (t 8) (t 9) h) ke0) t h :=
  block_ok 0 (by kernel_rfl) (by kernel_rfl) (F346_6_ok Kn Kr Kn t h H0)
def F346_17 (x0 x1 x10 x11 : Value) (h : H) (Kn : VP5) (Kr : VP2) (Ke2 : VP4) : Prop :=
  o_bin Tryz.prog .leq 3 x10 x11 fun v48 => o_guard v48 true (fun k4 => k4 x0 h) (fun v50 h => o_guard v48 true (fun k5 => k5 x11 h) (fun v51 h => o_guard v48 true (fun k6 => o_indexAddr none 1 v50 v51 fun v52 => k6 v52 h) (fun v52 h => o_guard v48 true (fun k7 => o_load false 1 v52 h fun v53 => k7 v53 h) (fun v53 h => o_guard v48 true (fun k8 => k8 x0 h) (fun v54 h => o_guard v48 true (fun k9 => k9 x1 h) (fun v55 h => o_guard v48 true (fun k10 => o_indexAddr none 1 v54 v55 fun v56 => k10 v56 h) (fun v56 h => o_guard v48 true (fun k11 => o_load false 1 v56 h fun v57 => k11 v57 h) (fun v57 h => o_guard v48 true (fun k12 => o_dcall DS 344 [v53, v57] h fun v58 h => k12 v58 h) (fun v58 h => o_guard v48 true (fun k13 => o_un Tryz.prog .not v58 fun v59 => k13 v59 h) (fun v59 h => o_pick v48 v59 (.bool false) fun v60 => Kn x0 x1 x10 x11 v60 h) h) h) h) h) h) h) h) h) h) h
theorem F346_17_ok (Kn Kr Ke2) (t : T) (h : H) (H0 : F346_17 (t 0) (t 1) (t 10) (t 11) h Kn Kr Ke2) : Wp Tryz.prog 168 (seqL (seqL (lopC (blkC (seqL (seqR (rest 1 (seqR (rest 1 (bodyOf Tryz.f346.body)))))))))) (mkQ (fun t h => Kn (t 0) (t 1) (t 10) (t 11) (t 60) h) (fun t h => Kr (t 8) (t 9) h) (keAdd 2 (fun t h => Ke2 (t 0) (t 1) (t 10) (t 11) h) ke0)) t h :=
  drawD_ok dsOk (by kernel_rfl) (by kernel_rfl) H0 (by kernel_rfl)
def F346_18 (x0 x1 x10 x11 x60 : Value) (h : H) (Kn : VP4) (Kr : VP2) (Ke2 : VP4) : Prop :=
  o_if x60 (Kn x0 x1 x10 x11 h) (Ke2 x0 x1 x10 x11 h)
theorem F346_18_ok (Kn Kr Ke2) (t : T) (h : H) (H0 : F346_18 (t 0) (t 1) (t 10) (t 11) (t 60) h Kn Kr Ke2) : Wp Tryz.prog 168 (seqR (seqL (lopC (blkC (seqL (seqR (rest 1 (seqR (rest 1 (bodyOf Tryz.f346.body)))))))))) (mkQ (fun t h => Kn (t 0) (t 1) (t 10) (t 11) h) (fun t h => Kr (t 8) (t 9) h) (keAdd 2 (fun t h => Ke2 (t 0) (t 1) (t 10) (t 11) h) ke0)) t h :=
  wpEqF H0 (by kernel_rfl)
def F346_16 (x0 x1 x10 x11 : Value) (h : H) (Kn : VP4) (Kr : VP2) (Ke2 : VP4) : Prop :=
  F346_17 x0 x1 x10 x11 h (fun y0 y1 y10 y11 y60 h => F346_18 y0 y1 y10 y11 y60 h Kn Kr Ke2) Kr Ke2
theorem F346_16_ok (Kn Kr Ke2) (t : T) (h : H) (H0 : F346_16 (t 0) (t 1) (t 10) (t 11) h Kn Kr Ke2) : Wp Tryz.prog 168 (seqL (lopC (blkC (seqL (seqR (rest 1 (seqR (rest 1 (bodyOf Tryz.f346.body))))))))) (mkQ (fun t h => Kn (t 0) (t 1) (t 10) (t 11) h) (fun t h => Kr (t 8) (t 9) h) (keAdd 2 (fun t h => Ke2 (t 0) (t 1) (t 10) (t 11) h) ke0)) t h :=
  seq_ok (by kernel_rfl) (fun t h H1 => F346_18_ok Kn Kr Ke2 t h H1) (F346_17_ok (fun y0 y1 y10 y11 y60 h => F346_18 y0 y1 y10 y11 y60 h Kn Kr Ke2) Kr Ke2 t h H0)
def F346_19 (x0 x1 x10 x11 : Value) (h : H) (Kn : VP4) (Kr : VP2) (Ke2 : VP4) : Prop :=
  o_bin Tryz.prog .sub 3 x11 (.int .i64 1) fun v62 => Kn x0 x1 x10 v62 h
theorem F346_19_ok (Kn Kr Ke2) (t : T) (h : H) (H0 : F346_19 (t 0) (t 1) (t 10) (t 11) h Kn Kr Ke2) : Wp Tryz.prog 168 (seqR (lopC (blkC (seqL (seqR (rest 1 (seqR (rest 1 (bodyOf Tryz.f346.body))))))))) (mkQ (fun t h => Kn (t 0) (t 1) (t 10) (t 11) h) (fun t h => Kr (t 8) (t 9) h) (keAdd 2 (fun t h => Ke2 (t 0) (t 1) (t 10) (t 11) h) ke0)) t h :=
  wpEqF H0 (by kernel_rfl)
def F346_15 (x0 x1 x10 x11 : Value) (h : H) (Kn : VP4) (Kr : VP2) (Ke2 : VP4) : Prop :=
  F346_16 x0 x1 x10 x11 h (fun y0 y1 y10 y11 h => F346_19 y0 y1 y10 y11 h Kn Kr Ke2) Kr Ke2
theorem F346_15_ok (Kn Kr Ke2) (t : T) (h : H) (H0 : F346_15 (t 0) (t 1) (t 10) (t 11) h Kn Kr Ke2) : Wp Tryz.prog 168 (lopC (blkC (seqL (seqR (rest 1 (seqR (rest 1 (bodyOf Tryz.f346.body)))))))) (mkQ (fun t h => Kn (t 0) (t 1) (t 10) (t 11) h) (fun t h => Kr (t 8) (t 9) h) (keAdd 2 (fun t h => Ke2 (t 0) (t 1) (t 10) (t 11) h) ke0)) t h :=
  seq_ok (by kernel_rfl) (fun t h H1 => F346_19_ok Kn Kr Ke2 t h H1) (F346_16_ok (fun y0 y1 y10 y11 h => F346_19 y0 y1 y10 y11 h Kn Kr Ke2) Kr Ke2 t h H0)
def F346_14 (x0 x1 x10 x11 : Value) (h : H) (Kn : VP4) (Kr : VP2) (Ke2 : VP4) : Prop :=
  sloop (S := Value × Value × Value × Value) (fun s h K => F346_15 s.1 s.2.1 s.2.2.1 s.2.2.2 h (fun y0 y1 y10 y11 h => K (y0, y1, y10, y11) h) Kr Ke2) (x0, x1, x10, x11) h
theorem F346_14_ok (Kn Kr Ke2) (t : T) (h : H) (H0 : F346_14 (t 0) (t 1) (t 10) (t 11) h Kn Kr Ke2) : Wp Tryz.prog 168 (blkC (seqL (seqR (rest 1 (seqR (rest 1 (bodyOf Tryz.f346.body))))))) (mkQ (fun t h => Kn (t 0) (t 1) (t 10) (t 11) h) (fun t h => Kr (t 8) (t 9) h) (keAdd 2 (fun t h => Ke2 (t 0) (t 1) (t 10) (t 11) h) ke0)) t h :=
  loop_ok (fun t => (t 0, t 1, t 10, t 11)) (by kernel_rfl) (fun t h K H1 => F346_15_ok (fun y0 y1 y10 y11 h => K (y0, y1, y10, y11) h) Kr Ke2 t h H1) H0
def F346_13 (x0 x1 x10 x11 : Value) (h : H) (Kn : VP4) (Kr : VP2) : Prop :=
  F346_14 x0 x1 x10 x11 h Kn Kr Kn
theorem F346_13_ok (Kn Kr) (t : T) (h : H) (H0 : F346_13 (t 0) (t 1) (t 10) (t 11) h Kn Kr) : Wp Tryz.prog 168 (seqL (seqR (rest 1 (seqR (rest 1 (bodyOf Tryz.f346.body)))))) (mkQ (fun t h => Kn (t 0) (t 1) (t 10) (t 11) h) (fun t h => Kr (t 8) (t 9) h) ke0) t h :=
  block_ok 2 (by kernel_rfl) (by kernel_rfl) (F346_14_ok Kn Kr Kn t h H0)
def F346_24 (x0 x1 x11 : Value) (h : H) (Kn : VP1) (Kr : VP2) : Prop :=
  o_indexAddr none 1 x0 x1 fun v72 => o_load false 1 v72 h fun v73 => o_indexAddr none 1 x0 x11 fun v76 => o_load false 1 v76 h fun v77 => o_indexAddr none 1 x0 x11 fun v78 => o_store 1 v78 v73 h fun h => o_indexAddr none 1 x0 x1 fun v79 => o_store 1 v79 v77 h fun h => Kn x11 h
theorem F346_24_ok (Kn Kr) (t : T) (h : H) (H0 : F346_24 (t 0) (t 1) (t 11) h Kn Kr) : Wp Tryz.prog 168 (seqL (cndX (rest 1 (seqL (seqR (seqR (rest 1 (seqR (rest 1 (bodyOf Tryz.f346.body)))))))))) (mkQ (fun t h => Kn (t 11) h) (fun t h => Kr (t 8) (t 9) h) ke0) t h :=
  draw_okF (by kernel_rfl) (by kernel_rfl) H0 (by kernel_rfl)
def F346_25 (x11 : Value) (h : H) (Kn : VP4) (Kr : VP2) : Prop :=
  Kr x11 (.bool true) h
theorem F346_25_ok (Kn Kr) (t : T) (h : H) (H0 : F346_25 (t 11) h Kn Kr) : Wp Tryz.prog 168 (seqR (cndX (rest 1 (seqL (seqR (seqR (rest 1 (seqR (rest 1 (bodyOf Tryz.f346.body)))))))))) (mkQ (fun t h => Kn (t 0) (t 1) (t 10) (t 11) h) (fun t h => Kr (t 8) (t 9) h) ke0) t h :=
  wpEqF H0 (by kernel_rfl)
def F346_23 (x0 x1 x11 : Value) (h : H) (Kn : VP4) (Kr : VP2) : Prop :=
  F346_24 x0 x1 x11 h (fun y11 h => F346_25 y11 h Kn Kr) Kr
theorem F346_23_ok (Kn Kr) (t : T) (h : H) (H0 : F346_23 (t 0) (t 1) (t 11) h Kn Kr) : Wp Tryz.prog 168 (cndX (rest 1 (seqL (seqR (seqR (rest 1 (seqR (rest 1 (bodyOf Tryz.f346.body))))))))) (mkQ (fun t h => Kn (t 0) (t 1) (t 10) (t 11) h) (fun t h => Kr (t 8) (t 9) h) ke0) t h :=
  seq_ok (by kernel_rfl) (fun t h H1 => F346_25_ok Kn Kr t h H1) (F346_24_ok (fun y11 h => F346_25 y11 h Kn Kr) Kr t h H0)
def F346_26 (x0 x1 x10 x11 : Value) (h : H) (Kn : VP4) (Kr : VP2) : Prop :=
  Kn x0 x1 x10 x11 h
theorem F346_26_ok (Kn Kr) (t : T) (h : H) (H0 : F346_26 (t 0) (t 1) (t 10) (t 11) h Kn Kr) : Wp Tryz.prog 168 (cndY (rest 1 (seqL (seqR (seqR (rest 1 (seqR (rest 1 (bodyOf Tryz.f346.body))))))))) (mkQ (fun t h => Kn (t 0) (t 1) (t 10) (t 11) h) (fun t h => Kr (t 8) (t 9) h) ke0) t h :=
  wpEqF H0 (by kernel_rfl)
def F346_22 (x0 x1 x10 x11 x65 : Value) (h : H) (Kn : VP4) (Kr : VP2) : Prop :=
  o_if x65 (F346_23 x0 x1 x11 h Kn Kr) (F346_26 x0 x1 x10 x11 h Kn Kr)
theorem F346_22_ok (Kn Kr) (t : T) (h : H) (H0 : F346_22 (t 0) (t 1) (t 10) (t 11) (t 65) h Kn Kr) : Wp Tryz.prog 168 (rest 1 (seqL (seqR (seqR (rest 1 (seqR (rest 1 (bodyOf Tryz.f346.body)))))))) (mkQ (fun t h => Kn (t 0) (t 1) (t 10) (t 11) h) (fun t h => Kr (t 8) (t 9) h) ke0) t h :=
  cond_ok H0 (by kernel_rfl) (F346_23_ok Kn Kr t h) (F346_26_ok Kn Kr t h) (by kernel_rfl)
def F346_21 (x0 x1 x10 x11 : Value) (h : H) (Kn : VP4) (Kr : VP2) : Prop :=
  o_bin Tryz.prog .gtr 3 x10 x11 fun v65 => F346_22 x0 x1 x10 x11 v65 h Kn Kr
theorem F346_21_ok (Kn Kr) (t : T) (h : H) (H0 : F346_21 (t 0) (t 1) (t 10) (t 11) h Kn Kr) : Wp Tryz.prog 168 (seqL (seqR (seqR (rest 1 (seqR (rest 1 (bodyOf Tryz.f346.body))))))) (mkQ (fun t h => Kn (t 0) (t 1) (t 10) (t 11) h) (fun t h => Kr (t 8) (t 9) h) ke0) t h :=
  awpTo_okF 1 H0 (by kernel_rfl) (fun t h (H1 : F346_22 (t 0) (t 1) (t 10) (t 11) (t 65) h Kn Kr) => F346_22_ok Kn Kr t h H1) (by kernel_rfl)
def F346_28 (x0 x1 x10 x11 : Value) (h : H) (Kn : VP4) (Kr : VP2) : Prop :=
  o_indexAddr none 1 x0 x11 fun v87 => o_load false 1 v87 h fun v88 => o_indexAddr none 1 x0 x10 fun v91 => o_load false 1 v91 h fun v92 => o_indexAddr none 1 x0 x10 fun v93 => o_store 1 v93 v88 h fun h => o_indexAddr none 1 x0 x11 fun v94 => o_store 1 v94 v92 h fun h => Kn x0 x1 x10 x11 h
theorem F346_28_ok (Kn Kr) (t : T) (h : H) (H0 : F346_28 (t 0) (t 1) (t 10) (t 11) h Kn Kr) : Wp Tryz.prog 168 (seqL (seqR (seqR (seqR (rest 1 (seqR (rest 1 (bodyOf Tryz.f346.body)))))))) (mkQ (fun t h => Kn (t 0) (t 1) (t 10) (t 11) h) (fun t h => Kr (t 8) (t 9) h) ke0) t h :=
  draw_okF (by kernel_rfl) (by kernel_rfl) H0 (by kernel_rfl)
def F346_39 (x0 x1 x10 x11 : Value) (h : H) (Kn : VP5) (Kr : VP2) (Ke6 : VP4) (Ke5 : VP4) (Ke4 : VP3) : Prop :=
  o_bin Tryz.prog .leq 3 x10 x11 fun v101 => o_guard v101 true (fun k4 => k4 x0 h) (fun v103 h => o_guard v101 true (fun k5 => k5 x10 h) (fun v104 h => o_guard v101 true (fun k6 => o_indexAddr none 1 v103 v104 fun v105 => k6 v105 h) (fun v105 h => o_guard v101 true (fun k7 => o_load false 1 v105 h fun v106 => k7 v106 h) (fun v106 h => o_guard v101 true (fun k8 => k8 x0 h) (fun v107 h => o_guard v101 true (fun k9 => k9 x1 h) (fun v108 h => o_guard v101 true (fun k10 => o_indexAddr none 1 v107 v108 fun v109 => k10 v109 h) (fun v109 h => o_guard v101 true (fun k11 => o_load false 1 v109 h fun v110 => k11 v110 h) (fun v110 h => o_guard v101 true (fun k12 => o_dcall DS 344 [v106, v110] h fun v111 h => k12 v111 h) (fun v111 h => o_pick v101 v111 (.bool false) fun v112 => Kn x0 x1 x10 x11 v112 h) h) h) h) h) h) h) h) h) h
theorem F346_39_ok (Kn Kr Ke6 Ke5 Ke4) (t : T) (h : H) (H0 : F346_39 (t 0) (t 1) (t 10) (t 11) h Kn Kr Ke6 Ke5 Ke4) : Wp Tryz.prog 168 (seqL (seqL (lopC (blkC (seqL (blkC (lopC (blkC (seqL (rest 2 (seqR (seqR (seqR (seqR (rest 1 (seqR (rest 1 (bodyOf Tryz.f346.body)))))))))))))))))) (mkQ (fun t h => Kn (t 0) (t 1) (t 10) (t 11) (t 112) h) (fun t h => Kr (t 8) (t 9) h) (keAdd 6 (fun t h => Ke6 (t 0) (t 1) (t 10) (t 11) h) (keAdd 5 (fun t h => Ke5 (t 0) (t 1) (t 10) (t 11) h) (keAdd 4 (fun t h => Ke4 (t 0) (t 1) (t 11) h) ke0)))) t h :=
  drawD_ok dsOk (by kernel_rfl) (by kernel_rfl) H0 (by kernel_rfl)
def F346_40 (x0 x1 x10 x11 x112 : Value) (h : H) (Kn : VP4) (Kr : VP2) (Ke6 : VP4) (Ke5 : VP4) (Ke4 : VP3) : Prop :=
  o_if x112 (Kn x0 x1 x10 x11 h) (Ke6 x0 x1 x10 x11 h)
theorem F346_40_ok (Kn Kr Ke6 Ke5 Ke4) (t : T) (h : H) (H0 : F346_40 (t 0) (t 1) (t 10) (t 11) (t 112) h Kn Kr Ke6 Ke5 Ke4) : Wp Tryz.prog 168 (seqR (seqL (lopC (blkC (seqL (blkC (lopC (blkC (seqL (rest 2 (seqR (seqR (seqR (seqR (rest 1 (seqR (rest 1 (bodyOf Tryz.f346.body)))))))))))))))))) (mkQ (fun t h => Kn (t 0) (t 1) (t 10) (t 11) h) (fun t h => Kr (t 8) (t 9) h) (keAdd 6 (fun t h => Ke6 (t 0) (t 1) (t 10) (t 11) h) (keAdd 5 (fun t h => Ke5 (t 0) (t 1) (t 10) (t 11) h) (keAdd 4 (fun t h => Ke4 (t 0) (t 1) (t 11) h) ke0)))) t h :=
  wpEqF H0 (by kernel_rfl)
def F346_38 (x0 x1 x10 x11 : Value) (h : H) (Kn : VP4) (Kr : VP2) (Ke6 : VP4) (Ke5 : VP4) (Ke4 : VP3) : Prop :=
  F346_39 x0 x1 x10 x11 h (fun y0 y1 y10 y11 y112 h => F346_40 y0 y1 y10 y11 y112 h Kn Kr Ke6 Ke5 Ke4) Kr Ke6 Ke5 Ke4
theorem F346_38_ok (Kn Kr Ke6 Ke5 Ke4) (t : T) (h : H) (H0 : F346_38 (t 0) (t 1) (t 10) (t 11) h Kn Kr Ke6 Ke5 Ke4) : Wp Tryz.prog 168 (seqL (lopC (blkC (seqL (blkC (lopC (blkC (seqL (rest 2 (seqR (seqR (seqR (seqR (rest 1 (seqR (rest 1 (bodyOf Tryz.f346.body))))))))))))))))) (mkQ (fun t h => Kn (t 0) (t 1) (t 10) (t 11) h) (fun t h => Kr (t 8) (t 9) h) (keAdd 6 (fun t h => Ke6 (t 0) (t 1) (t 10) (t 11) h) (keAdd 5 (fun t h => Ke5 (t 0) (t 1) (t 10) (t 11) h) (keAdd 4 (fun t h => Ke4 (t 0) (t 1) (t 11) h) ke0)))) t h :=
  seq_ok (by kernel_rfl) (fun t h H1 => F346_40_ok Kn Kr Ke6 Ke5 Ke4 t h H1) (F346_39_ok (fun y0 y1 y10 y11 y112 h => F346_40 y0 y1 y10 y11 y112 h Kn Kr Ke6 Ke5 Ke4) Kr Ke6 Ke5 Ke4 t h H0)
def F346_41 (x0 x1 x10 x11 : Value) (h : H) (Kn : VP4) (Kr : VP2) (Ke6 : VP4) (Ke5 : VP4) (Ke4 : VP3) : Prop :=
  o_bin Tryz.prog .add 3 x10 (.int .i64 1) fun v114 => Kn x0 x1 v114 x11 h
theorem F346_41_ok (Kn Kr Ke6 Ke5 Ke4) (t : T) (h : H) (H0 : F346_41 (t 0) (t 1) (t 10) (t 11) h Kn Kr Ke6 Ke5 Ke4) : Wp Tryz.prog 168 (seqR (lopC (blkC (seqL (blkC (lopC (blkC (seqL (rest 2 (seqR (seqR (seqR (seqR (rest 1 (seqR (rest 1 (bodyOf Tryz.f346.body))))))))))))))))) (mkQ (fun t h => Kn (t 0) (t 1) (t 10) (t 11) h) (fun t h => Kr (t 8) (t 9) h) (keAdd 6 (fun t h => Ke6 (t 0) (t 1) (t 10) (t 11) h) (keAdd 5 (fun t h => Ke5 (t 0) (t 1) (t 10) (t 11) h) (keAdd 4 (fun t h => Ke4 (t 0) (t 1) (t 11) h) ke0)))) t h :=
  wpEqF H0 (by kernel_rfl)
def F346_37 (x0 x1 x10 x11 : Value) (h : H) (Kn : VP4) (Kr : VP2) (Ke6 : VP4) (Ke5 : VP4) (Ke4 : VP3) : Prop :=
  F346_38 x0 x1 x10 x11 h (fun y0 y1 y10 y11 h => F346_41 y0 y1 y10 y11 h Kn Kr Ke6 Ke5 Ke4) Kr Ke6 Ke5 Ke4
theorem F346_37_ok (Kn Kr Ke6 Ke5 Ke4) (t : T) (h : H) (H0 : F346_37 (t 0) (t 1) (t 10) (t 11) h Kn Kr Ke6 Ke5 Ke4) : Wp Tryz.prog 168 (lopC (blkC (seqL (blkC (lopC (blkC (seqL (rest 2 (seqR (seqR (seqR (seqR (rest 1 (seqR (rest 1 (bodyOf Tryz.f346.body)))))))))))))))) (mkQ (fun t h => Kn (t 0) (t 1) (t 10) (t 11) h) (fun t h => Kr (t 8) (t 9) h) (keAdd 6 (fun t h => Ke6 (t 0) (t 1) (t 10) (t 11) h) (keAdd 5 (fun t h => Ke5 (t 0) (t 1) (t 10) (t 11) h) (keAdd 4 (fun t h => Ke4 (t 0) (t 1) (t 11) h) ke0)))) t h :=
  seq_ok (by kernel_rfl) (fun t h H1 => F346_41_ok Kn Kr Ke6 Ke5 Ke4 t h H1) (F346_38_ok (fun y0 y1 y10 y11 h => F346_41 y0 y1 y10 y11 h Kn Kr Ke6 Ke5 Ke4) Kr Ke6 Ke5 Ke4 t h H0)
def F346_36 (x0 x1 x10 x11 : Value) (h : H) (Kn : VP4) (Kr : VP2) (Ke6 : VP4) (Ke5 : VP4) (Ke4 : VP3) : Prop :=
  sloop (S := Value × Value × Value × Value) (fun s h K => F346_37 s.1 s.2.1 s.2.2.1 s.2.2.2 h (fun y0 y1 y10 y11 h => K (y0, y1, y10, y11) h) Kr Ke6 Ke5 Ke4) (x0, x1, x10, x11) h
theorem F346_36_ok (Kn Kr Ke6 Ke5 Ke4) (t : T) (h : H) (H0 : F346_36 (t 0) (t 1) (t 10) (t 11) h Kn Kr Ke6 Ke5 Ke4) : Wp Tryz.prog 168 (blkC (seqL (blkC (lopC (blkC (seqL (rest 2 (seqR (seqR (seqR (seqR (rest 1 (seqR (rest 1 (bodyOf Tryz.f346.body))))))))))))))) (mkQ (fun t h => Kn (t 0) (t 1) (t 10) (t 11) h) (fun t h => Kr (t 8) (t 9) h) (keAdd 6 (fun t h => Ke6 (t 0) (t 1) (t 10) (t 11) h) (keAdd 5 (fun t h => Ke5 (t 0) (t 1) (t 10) (t 11) h) (keAdd 4 (fun t h => Ke4 (t 0) (t 1) (t 11) h) ke0)))) t h :=
  loop_ok (fun t => (t 0, t 1, t 10, t 11)) (by kernel_rfl) (fun t h K H1 => F346_37_ok (fun y0 y1 y10 y11 h => K (y0, y1, y10, y11) h) Kr Ke6 Ke5 Ke4 t h H1) H0
def F346_35 (x0 x1 x10 x11 : Value) (h : H) (Kn : VP4) (Kr : VP2) (Ke5 : VP4) (Ke4 : VP3) : Prop :=
  F346_36 x0 x1 x10 x11 h Kn Kr Kn Ke5 Ke4
theorem F346_35_ok (Kn Kr Ke5 Ke4) (t : T) (h : H) (H0 : F346_35 (t 0) (t 1) (t 10) (t 11) h Kn Kr Ke5 Ke4) : Wp Tryz.prog 168 (seqL (blkC (lopC (blkC (seqL (rest 2 (seqR (seqR (seqR (seqR (rest 1 (seqR (rest 1 (bodyOf Tryz.f346.body)))))))))))))) (mkQ (fun t h => Kn (t 0) (t 1) (t 10) (t 11) h) (fun t h => Kr (t 8) (t 9) h) (keAdd 5 (fun t h => Ke5 (t 0) (t 1) (t 10) (t 11) h) (keAdd 4 (fun t h => Ke4 (t 0) (t 1) (t 11) h) ke0))) t h :=
  block_ok 6 (by kernel_rfl) (by kernel_rfl) (F346_36_ok Kn Kr Kn Ke5 Ke4 t h H0)
def F346_47 (x0 x1 x10 x11 : Value) (h : H) (Kn : VP5) (Kr : VP2) (Ke8 : VP4) (Ke5 : VP4) (Ke4 : VP3) : Prop :=
  o_bin Tryz.prog .leq 3 x10 x11 fun v117 => o_guard v117 true (fun k4 => k4 x0 h) (fun v119 h => o_guard v117 true (fun k5 => k5 x11 h) (fun v120 h => o_guard v117 true (fun k6 => o_indexAddr none 1 v119 v120 fun v121 => k6 v121 h) (fun v121 h => o_guard v117 true (fun k7 => o_load false 1 v121 h fun v122 => k7 v122 h) (fun v122 h => o_guard v117 true (fun k8 => k8 x0 h) (fun v123 h => o_guard v117 true (fun k9 => k9 x1 h) (fun v124 h => o_guard v117 true (fun k10 => o_indexAddr none 1 v123 v124 fun v125 => k10 v125 h) (fun v125 h => o_guard v117 true (fun k11 => o_load false 1 v125 h fun v126 => k11 v126 h) (fun v126 h => o_guard v117 true (fun k12 => o_dcall DS 344 [v122, v126] h fun v127 h => k12 v127 h) (fun v127 h => o_guard v117 true (fun k13 => o_un Tryz.prog .not v127 fun v128 => k13 v128 h) (fun v128 h => o_pick v117 v128 (.bool false) fun v129 => Kn x0 x1 x10 x11 v129 h) h) h) h) h) h) h) h) h) h) h
theorem F346_47_ok (Kn Kr Ke8 Ke5 Ke4) (t : T) (h : H) (H0 : F346_47 (t 0) (t 1) (t 10) (t 11) h Kn Kr Ke8 Ke5 Ke4) : Wp Tryz.prog 168 (seqL (seqL (lopC (blkC (seqL (seqR (blkC (lopC (blkC (seqL (rest 2 (seqR (seqR (seqR (seqR (rest 1 (seqR (rest 1 (bodyOf Tryz.f346.body))))))))))))))))))) (mkQ (fun t h => Kn (t 0) (t 1) (t 10) (t 11) (t 129) h) (fun t h => Kr (t 8) (t 9) h) (keAdd 8 (fun t h => Ke8 (t 0) (t 1) (t 10) (t 11) h) (keAdd 5 (fun t h => Ke5 (t 0) (t 1) (t 10) (t 11) h) (keAdd 4 (fun t h => Ke4 (t 0) (t 1) (t 11) h) ke0)))) t h :=
  drawD_ok dsOk (by kernel_rfl) (by kernel_rfl) H0 (by kernel_rfl)
def F346_48 (x0 x1 x10 x11 x129 : Value) (h : H) (Kn : VP4) (Kr : VP2) (Ke8 : VP4) (Ke5 : VP4) (Ke4 : VP3) : Prop :=
  o_if x129 (Kn x0 x1 x10 x11 h) (Ke8 x0 x1 x10 x11 h)
theorem F346_48_ok (Kn Kr Ke8 Ke5 Ke4) (t : T) (h : H) (H0 : F346_48 (t 0) (t 1) (t 10) (t 11) (t 129) h Kn Kr Ke8 Ke5 Ke4) : Wp Tryz.prog 168 (seqR (seqL (lopC (blkC (seqL (seqR (blkC (lopC (blkC (seqL (rest 2 (seqR (seqR (seqR (seqR (rest 1 (seqR (rest 1 (bodyOf Tryz.f346.body))))))))))))))))))) (mkQ (fun t h => Kn (t 0) (t 1) (t 10) (t 11) h) (fun t h => Kr (t 8) (t 9) h) (keAdd 8 (fun t h => Ke8 (t 0) (t 1) (t 10) (t 11) h) (keAdd 5 (fun t h => Ke5 (t 0) (t 1) (t 10) (t 11) h) (keAdd 4 (fun t h => Ke4 (t 0) (t 1) (t 11) h) ke0)))) t h :=
  wpEqF H0 (by kernel_rfl)
def F346_46 (x0 x1 x10 x11 : Value) (h : H) (Kn : VP4) (Kr : VP2) (Ke8 : VP4) (Ke5 : VP4) (Ke4 : VP3) : Prop :=
  F346_47 x0 x1 x10 x11 h (fun y0 y1 y10 y11 y129 h => F346_48 y0 y1 y10 y11 y129 h Kn Kr Ke8 Ke5 Ke4) Kr Ke8 Ke5 Ke4
theorem F346_46_ok (Kn Kr Ke8 Ke5 Ke4) (t : T) (h : H) (H0 : F346_46 (t 0) (t 1) (t 10) (t 11) h Kn Kr Ke8 Ke5 Ke4) : Wp Tryz.prog 168 (seqL (lopC (blkC (seqL (seqR (blkC (lopC (blkC (seqL (rest 2 (seqR (seqR (seqR (seqR (rest 1 (seqR (rest 1 (bodyOf Tryz.f346.body)))))))))))))))))) (mkQ (fun t h => Kn (t 0) (t 1) (t 10) (t 11) h) (fun t h => Kr (t 8) (t 9) h) (keAdd 8 (fun t h => Ke8 (t 0) (t 1) (t 10) (t 11) h) (keAdd 5 (fun t h => Ke5 (t 0) (t 1) (t 10) (t 11) h) (keAdd 4 (fun t h => Ke4 (t 0) (t 1) (t 11) h) ke0)))) t h :=
  seq_ok (by kernel_rfl) (fun t h H1 => F346_48_ok Kn Kr Ke8 Ke5 Ke4 t h H1) (F346_47_ok (fun y0 y1 y10 y11 y129 h => F346_48 y0 y1 y10 y11 y129 h Kn Kr Ke8 Ke5 Ke4) Kr Ke8 Ke5 Ke4 t h H0)
def F346_49 (x0 x1 x10 x11 : Value) (h : H) (Kn : VP4) (Kr : VP2) (Ke8 : VP4) (Ke5 : VP4) (Ke4 : VP3) : Prop :=
  o_bin Tryz.prog .sub 3 x11 (.int .i64 1) fun v131 => Kn x0 x1 x10 v131 h
theorem F346_49_ok (Kn Kr Ke8 Ke5 Ke4) (t : T) (h : H) (H0 : F346_49 (t 0) (t 1) (t 10) (t 11) h Kn Kr Ke8 Ke5 Ke4) : Wp Tryz.prog 168 (seqR (lopC (blkC (seqL (seqR (blkC (lopC (blkC (seqL (rest 2 (seqR (seqR (seqR (seqR (rest 1 (seqR (rest 1 (bodyOf Tryz.f346.body)))))))))))))))))) (mkQ (fun t h => Kn (t 0) (t 1) (t 10) (t 11) h) (fun t h => Kr (t 8) (t 9) h) (keAdd 8 (fun t h => Ke8 (t 0) (t 1) (t 10) (t 11) h) (keAdd 5 (fun t h => Ke5 (t 0) (t 1) (t 10) (t 11) h) (keAdd 4 (fun t h => Ke4 (t 0) (t 1) (t 11) h) ke0)))) t h :=
  wpEqF H0 (by kernel_rfl)
def F346_45 (x0 x1 x10 x11 : Value) (h : H) (Kn : VP4) (Kr : VP2) (Ke8 : VP4) (Ke5 : VP4) (Ke4 : VP3) : Prop :=
  F346_46 x0 x1 x10 x11 h (fun y0 y1 y10 y11 h => F346_49 y0 y1 y10 y11 h Kn Kr Ke8 Ke5 Ke4) Kr Ke8 Ke5 Ke4
theorem F346_45_ok (Kn Kr Ke8 Ke5 Ke4) (t : T) (h : H) (H0 : F346_45 (t 0) (t 1) (t 10) (t 11) h Kn Kr Ke8 Ke5 Ke4) : Wp Tryz.prog 168 (lopC (blkC (seqL (seqR (blkC (lopC (blkC (seqL (rest 2 (seqR (seqR (seqR (seqR (rest 1 (seqR (rest 1 (bodyOf Tryz.f346.body))))))))))))))))) (mkQ (fun t h => Kn (t 0) (t 1) (t 10) (t 11) h) (fun t h => Kr (t 8) (t 9) h) (keAdd 8 (fun t h => Ke8 (t 0) (t 1) (t 10) (t 11) h) (keAdd 5 (fun t h => Ke5 (t 0) (t 1) (t 10) (t 11) h) (keAdd 4 (fun t h => Ke4 (t 0) (t 1) (t 11) h) ke0)))) t h :=
  seq_ok (by kernel_rfl) (fun t h H1 => F346_49_ok Kn Kr Ke8 Ke5 Ke4 t h H1) (F346_46_ok (fun y0 y1 y10 y11 h => F346_49 y0 y1 y10 y11 h Kn Kr Ke8 Ke5 Ke4) Kr Ke8 Ke5 Ke4 t h H0)
def F346_44 (x0 x1 x10 x11 : Value) (h : H) (Kn : VP4) (Kr : VP2) (Ke8 : VP4) (Ke5 : VP4) (Ke4 : VP3) : Prop :=
  sloop (S := Value × Value × Value × Value) (fun s h K => F346_45 s.1 s.2.1 s.2.2.1 s.2.2.2 h (fun y0 y1 y10 y11 h => K (y0, y1, y10, y11) h) Kr Ke8 Ke5 Ke4) (x0, x1, x10, x11) h
theorem F346_44_ok (Kn Kr Ke8 Ke5 Ke4) (t : T) (h : H) (H0 : F346_44 (t 0) (t 1) (t 10) (t 11) h Kn Kr Ke8 Ke5 Ke4) : Wp Tryz.prog 168 (blkC (seqL (seqR (blkC (lopC (blkC (seqL (rest 2 (seqR (seqR (seqR (seqR (rest 1 (seqR (rest 1 (bodyOf Tryz.f346.body)))))))))))))))) (mkQ (fun t h => Kn (t 0) (t 1) (t 10) (t 11) h) (fun t h => Kr (t 8) (t 9) h) (keAdd 8 (fun t h => Ke8 (t 0) (t 1) (t 10) (t 11) h) (keAdd 5 (fun t h => Ke5 (t 0) (t 1) (t 10) (t 11) h) (keAdd 4 (fun t h => Ke4 (t 0) (t 1) (t 11) h) ke0)))) t h :=
  loop_ok (fun t => (t 0, t 1, t 10, t 11)) (by kernel_rfl) (fun t h K H1 => F346_45_ok (fun y0 y1 y10 y11 h => K (y0, y1, y10, y11) h) Kr Ke8 Ke5 Ke4 t h H1) H0
def F346_43 (x0 x1 x10 x11 : Value) (h : H) (Kn : VP4) (Kr : VP2) (Ke5 : VP4) (Ke4 : VP3) : Prop :=
  F346_44 x0 x1 x10 x11 h Kn Kr Kn Ke5 Ke4
theorem F346_43_ok (Kn Kr Ke5 Ke4) (t : T) (h : H) (H0 : F346_43 (t 0) (t 1) (t 10) (t 11) h Kn Kr Ke5 Ke4) : Wp Tryz.prog 168 (seqL (seqR (blkC (lopC (blkC (seqL (rest 2 (seqR (seqR (seqR (seqR (rest 1 (seqR (rest 1 (bodyOf Tryz.f346.body))))))))))))))) (mkQ (fun t h => Kn (t 0) (t 1) (t 10) (t 11) h) (fun t h => Kr (t 8) (t 9) h) (keAdd 5 (fun t h => Ke5 (t 0) (t 1) (t 10) (t 11) h) (keAdd 4 (fun t h => Ke4 (t 0) (t 1) (t 11) h) ke0))) t h :=
  block_ok 8 (by kernel_rfl) (by kernel_rfl) (F346_44_ok Kn Kr Kn Ke5 Ke4 t h H0)
def F346_52 (x0 x1 x10 x11 : Value) (h : H) (Kn : VP4) (Kr : VP2) (Ke5 : VP4) (Ke4 : VP3) : Prop :=
  o_indexAddr none 1 x0 x11 fun v141 => o_load false 1 v141 h fun v142 => o_indexAddr none 1 x0 x10 fun v145 => o_load false 1 v145 h fun v146 => o_indexAddr none 1 x0 x10 fun v147 => o_store 1 v147 v142 h fun h => o_indexAddr none 1 x0 x11 fun v148 => o_store 1 v148 v146 h fun h => Kn x0 x1 x10 x11 h
theorem F346_52_ok (Kn Kr Ke5 Ke4) (t : T) (h : H) (H0 : F346_52 (t 0) (t 1) (t 10) (t 11) h Kn Kr Ke5 Ke4) : Wp Tryz.prog 168 (seqL (rest 1 (seqR (seqR (blkC (lopC (blkC (seqL (rest 2 (seqR (seqR (seqR (seqR (rest 1 (seqR (rest 1 (bodyOf Tryz.f346.body))))))))))))))))) (mkQ (fun t h => Kn (t 0) (t 1) (t 10) (t 11) h) (fun t h => Kr (t 8) (t 9) h) (keAdd 5 (fun t h => Ke5 (t 0) (t 1) (t 10) (t 11) h) (keAdd 4 (fun t h => Ke4 (t 0) (t 1) (t 11) h) ke0))) t h :=
  draw_okF (by kernel_rfl) (by kernel_rfl) H0 (by kernel_rfl)
def F346_53 (x0 x1 x10 x11 : Value) (h : H) (Kn : VP4) (Kr : VP2) (Ke5 : VP4) (Ke4 : VP3) : Prop :=
  o_bin Tryz.prog .add 3 x10 (.int .i64 1) fun v150 => o_bin Tryz.prog .sub 3 x11 (.int .i64 1) fun v152 => Kn x0 x1 v150 v152 h
theorem F346_53_ok (Kn Kr Ke5 Ke4) (t : T) (h : H) (H0 : F346_53 (t 0) (t 1) (t 10) (t 11) h Kn Kr Ke5 Ke4) : Wp Tryz.prog 168 (seqR (rest 1 (seqR (seqR (blkC (lopC (blkC (seqL (rest 2 (seqR (seqR (seqR (seqR (rest 1 (seqR (rest 1 (bodyOf Tryz.f346.body))))))))))))))))) (mkQ (fun t h => Kn (t 0) (t 1) (t 10) (t 11) h) (fun t h => Kr (t 8) (t 9) h) (keAdd 5 (fun t h => Ke5 (t 0) (t 1) (t 10) (t 11) h) (keAdd 4 (fun t h => Ke4 (t 0) (t 1) (t 11) h) ke0))) t h :=
  wpEqF H0 (by kernel_rfl)
def F346_51 (x0 x1 x10 x11 : Value) (h : H) (Kn : VP4) (Kr : VP2) (Ke5 : VP4) (Ke4 : VP3) : Prop :=
  F346_52 x0 x1 x10 x11 h (fun y0 y1 y10 y11 h => F346_53 y0 y1 y10 y11 h Kn Kr Ke5 Ke4) Kr Ke5 Ke4
theorem F346_51_ok (Kn Kr Ke5 Ke4) (t : T) (h : H) (H0 : F346_51 (t 0) (t 1) (t 10) (t 11) h Kn Kr Ke5 Ke4) : Wp Tryz.prog 168 (rest 1 (seqR (seqR (blkC (lopC (blkC (seqL (rest 2 (seqR (seqR (seqR (seqR (rest 1 (seqR (rest 1 (bodyOf Tryz.f346.body)))))))))))))))) (mkQ (fun t h => Kn (t 0) (t 1) (t 10) (t 11) h) (fun t h => Kr (t 8) (t 9) h) (keAdd 5 (fun t h => Ke5 (t 0) (t 1) (t 10) (t 11) h) (keAdd 4 (fun t h => Ke4 (t 0) (t 1) (t 11) h) ke0))) t h :=
  seq_ok (by kernel_rfl) (fun t h H1 => F346_53_ok Kn Kr Ke5 Ke4 t h H1) (F346_52_ok (fun y0 y1 y10 y11 h => F346_53 y0 y1 y10 y11 h Kn Kr Ke5 Ke4) Kr Ke5 Ke4 t h H0)
def F346_50 (x0 x1 x10 x11 : Value) (h : H) (Kn : VP4) (Kr : VP2) (Ke5 : VP4) (Ke4 : VP3) : Prop :=
  o_bin Tryz.prog .gtr 3 x10 x11 fun v134 => o_if v134 (Ke4 x0 x1 x11 h) (F346_51 x0 x1 x10 x11 h Kn Kr Ke5 Ke4)
theorem F346_50_ok (Kn Kr Ke5 Ke4) (t : T) (h : H) (H0 : F346_50 (t 0) (t 1) (t 10) (t 11) h Kn Kr Ke5 Ke4) : Wp Tryz.prog 168 (seqR (seqR (blkC (lopC (blkC (seqL (rest 2 (seqR (seqR (seqR (seqR (rest 1 (seqR (rest 1 (bodyOf Tryz.f346.body))))))))))))))) (mkQ (fun t h => Kn (t 0) (t 1) (t 10) (t 11) h) (fun t h => Kr (t 8) (t 9) h) (keAdd 5 (fun t h => Ke5 (t 0) (t 1) (t 10) (t 11) h) (keAdd 4 (fun t h => Ke4 (t 0) (t 1) (t 11) h) ke0))) t h :=
  awpTo_okF 1 H0 (by kernel_rfl) (fun t h (H1 : F346_51 (t 0) (t 1) (t 10) (t 11) h Kn Kr Ke5 Ke4) => F346_51_ok Kn Kr Ke5 Ke4 t h H1) (by kernel_rfl)
def F346_42 (x0 x1 x10 x11 : Value) (h : H) (Kn : VP4) (Kr : VP2) (Ke5 : VP4) (Ke4 : VP3) : Prop :=
  F346_43 x0 x1 x10 x11 h (fun y0 y1 y10 y11 h => F346_50 y0 y1 y10 y11 h Kn Kr Ke5 Ke4) Kr Ke5 Ke4
theorem F346_42_ok (Kn Kr Ke5 Ke4) (t : T) (h : H) (H0 : F346_42 (t 0) (t 1) (t 10) (t 11) h Kn Kr Ke5 Ke4) : Wp Tryz.prog 168 (seqR (blkC (lopC (blkC (seqL (rest 2 (seqR (seqR (seqR (seqR (rest 1 (seqR (rest 1 (bodyOf Tryz.f346.body)))))))))))))) (mkQ (fun t h => Kn (t 0) (t 1) (t 10) (t 11) h) (fun t h => Kr (t 8) (t 9) h) (keAdd 5 (fun t h => Ke5 (t 0) (t 1) (t 10) (t 11) h) (keAdd 4 (fun t h => Ke4 (t 0) (t 1) (t 11) h) ke0))) t h :=
  seq_ok (by kernel_rfl) (fun t h H1 => F346_50_ok Kn Kr Ke5 Ke4 t h H1) (F346_43_ok (fun y0 y1 y10 y11 h => F346_50 y0 y1 y10 y11 h Kn Kr Ke5 Ke4) Kr Ke5 Ke4 t h H0)
def F346_34 (x0 x1 x10 x11 : Value) (h : H) (Kn : VP4) (Kr : VP2) (Ke5 : VP4) (Ke4 : VP3) : Prop :=
  F346_35 x0 x1 x10 x11 h (fun y0 y1 y10 y11 h => F346_42 y0 y1 y10 y11 h Kn Kr Ke5 Ke4) Kr Ke5 Ke4
theorem F346_34_ok (Kn Kr Ke5 Ke4) (t : T) (h : H) (H0 : F346_34 (t 0) (t 1) (t 10) (t 11) h Kn Kr Ke5 Ke4) : Wp Tryz.prog 168 (blkC (lopC (blkC (seqL (rest 2 (seqR (seqR (seqR (seqR (rest 1 (seqR (rest 1 (bodyOf Tryz.f346.body))))))))))))) (mkQ (fun t h => Kn (t 0) (t 1) (t 10) (t 11) h) (fun t h => Kr (t 8) (t 9) h) (keAdd 5 (fun t h => Ke5 (t 0) (t 1) (t 10) (t 11) h) (keAdd 4 (fun t h => Ke4 (t 0) (t 1) (t 11) h) ke0))) t h :=
  seq_ok (by kernel_rfl) (fun t h H1 => F346_42_ok Kn Kr Ke5 Ke4 t h H1) (F346_35_ok (fun y0 y1 y10 y11 h => F346_42 y0 y1 y10 y11 h Kn Kr Ke5 Ke4) Kr Ke5 Ke4 t h H0)
def F346_33 (x0 x1 x10 x11 : Value) (h : H) (Kn : VP4) (Kr : VP2) (Ke4 : VP3) : Prop :=
  F346_34 x0 x1 x10 x11 h Kn Kr Kn Ke4
theorem F346_33_ok (Kn Kr Ke4) (t : T) (h : H) (H0 : F346_33 (t 0) (t 1) (t 10) (t 11) h Kn Kr Ke4) : Wp Tryz.prog 168 (lopC (blkC (seqL (rest 2 (seqR (seqR (seqR (seqR (rest 1 (seqR (rest 1 (bodyOf Tryz.f346.body)))))))))))) (mkQ (fun t h => Kn (t 0) (t 1) (t 10) (t 11) h) (fun t h => Kr (t 8) (t 9) h) (keAdd 4 (fun t h => Ke4 (t 0) (t 1) (t 11) h) ke0)) t h :=
  block_ok 5 (by kernel_rfl) (by kernel_rfl) (F346_34_ok Kn Kr Kn Ke4 t h H0)
def F346_32 (x0 x1 x10 x11 : Value) (h : H) (Kn : VP3) (Kr : VP2) (Ke4 : VP3) : Prop :=
  sloop (S := Value × Value × Value × Value) (fun s h K => F346_33 s.1 s.2.1 s.2.2.1 s.2.2.2 h (fun y0 y1 y10 y11 h => K (y0, y1, y10, y11) h) Kr Ke4) (x0, x1, x10, x11) h
theorem F346_32_ok (Kn Kr Ke4) (t : T) (h : H) (H0 : F346_32 (t 0) (t 1) (t 10) (t 11) h Kn Kr Ke4) : Wp Tryz.prog 168 (blkC (seqL (rest 2 (seqR (seqR (seqR (seqR (rest 1 (seqR (rest 1 (bodyOf Tryz.f346.body))))))))))) (mkQ (fun t h => Kn (t 0) (t 1) (t 11) h) (fun t h => Kr (t 8) (t 9) h) (keAdd 4 (fun t h => Ke4 (t 0) (t 1) (t 11) h) ke0)) t h :=
  loop_ok (fun t => (t 0, t 1, t 10, t 11)) (by kernel_rfl) (fun t h K H1 => F346_33_ok (fun y0 y1 y10 y11 h => K (y0, y1, y10, y11) h) Kr Ke4 t h H1) H0
def F346_31 (x0 x1 x10 x11 : Value) (h : H) (Kn : VP3) (Kr : VP2) : Prop :=
  F346_32 x0 x1 x10 x11 h Kn Kr Kn
theorem F346_31_ok (Kn Kr) (t : T) (h : H) (H0 : F346_31 (t 0) (t 1) (t 10) (t 11) h Kn Kr) : Wp Tryz.prog 168 (seqL (rest 2 (seqR (seqR (seqR (seqR (rest 1 (seqR (rest 1 (bodyOf Tryz.f346.body)))))))))) (mkQ (fun t h => Kn (t 0) (t 1) (t 11) h) (fun t h => Kr (t 8) (t 9) h) ke0) t h :=
  block_ok 4 (by kernel_rfl) (by kernel_rfl) (F346_32_ok Kn Kr Kn t h H0)
def F346_55 (x0 x1 x11 : Value) (h : H) (Kn : VP1) (Kr : VP2) : Prop :=
  o_indexAddr none 1 x0 x1 fun v159 => o_load false 1 v159 h fun v160 => o_indexAddr none 1 x0 x11 fun v163 => o_load false 1 v163 h fun v164 => o_indexAddr none 1 x0 x11 fun v165 => o_store 1 v165 v160 h fun h => o_indexAddr none 1 x0 x1 fun v166 => o_store 1 v166 v164 h fun h => Kn x11 h
theorem F346_55_ok (Kn Kr) (t : T) (h : H) (H0 : F346_55 (t 0) (t 1) (t 11) h Kn Kr) : Wp Tryz.prog 168 (seqL (seqR (rest 2 (seqR (seqR (seqR (seqR (rest 1 (seqR (rest 1 (bodyOf Tryz.f346.body))))))))))) (mkQ (fun t h => Kn (t 11) h) (fun t h => Kr (t 8) (t 9) h) ke0) t h :=
  draw_okF (by kernel_rfl) (by kernel_rfl) H0 (by kernel_rfl)
def F346_56 (x11 : Value) (h : H) (Kn : VP2) (Kr : VP2) : Prop :=
  Kr x11 (.bool false) h
theorem F346_56_ok (Kn Kr) (t : T) (h : H) (H0 : F346_56 (t 11) h Kn Kr) : Wp Tryz.prog 168 (seqR (seqR (rest 2 (seqR (seqR (seqR (seqR (rest 1 (seqR (rest 1 (bodyOf Tryz.f346.body))))))))))) (mkQ (fun t h => Kn (t 8) (t 9) h) (fun t h => Kr (t 8) (t 9) h) ke0) t h :=
  wpEqF H0 (by kernel_rfl)
def F346_54 (x0 x1 x11 : Value) (h : H) (Kn : VP2) (Kr : VP2) : Prop :=
  F346_55 x0 x1 x11 h (fun y11 h => F346_56 y11 h Kn Kr) Kr
theorem F346_54_ok (Kn Kr) (t : T) (h : H) (H0 : F346_54 (t 0) (t 1) (t 11) h Kn Kr) : Wp Tryz.prog 168 (seqR (rest 2 (seqR (seqR (seqR (seqR (rest 1 (seqR (rest 1 (bodyOf Tryz.f346.body)))))))))) (mkQ (fun t h => Kn (t 8) (t 9) h) (fun t h => Kr (t 8) (t 9) h) ke0) t h :=
  seq_ok (by kernel_rfl) (fun t h H1 => F346_56_ok Kn Kr t h H1) (F346_55_ok (fun y11 h => F346_56 y11 h Kn Kr) Kr t h H0)
def F346_30 (x0 x1 x10 x11 : Value) (h : H) (Kn : VP2) (Kr : VP2) : Prop :=
  F346_31 x0 x1 x10 x11 h (fun y0 y1 y11 h => F346_54 y0 y1 y11 h Kn Kr) Kr
theorem F346_30_ok (Kn Kr) (t : T) (h : H) (H0 : F346_30 (t 0) (t 1) (t 10) (t 11) h Kn Kr) : Wp Tryz.prog 168 (rest 2 (seqR (seqR (seqR (seqR (rest 1 (seqR (rest 1 (bodyOf Tryz.f346.body))))))))) (mkQ (fun t h => Kn (t 8) (t 9) h) (fun t h => Kr (t 8) (t 9) h) ke0) t h :=
  seq_ok (by kernel_rfl) (fun t h H1 => F346_54_ok Kn Kr t h H1) (F346_31_ok (fun y0 y1 y11 h => F346_54 y0 y1 y11 h Kn Kr) Kr t h H0)
def F346_29 (x0 x1 x10 x11 : Value) (h : H) (Kn : VP2) (Kr : VP2) : Prop :=
  o_bin Tryz.prog .add 3 x10 (.int .i64 1) fun v96 => o_bin Tryz.prog .sub 3 x11 (.int .i64 1) fun v98 => F346_30 x0 x1 v96 v98 h Kn Kr
theorem F346_29_ok (Kn Kr) (t : T) (h : H) (H0 : F346_29 (t 0) (t 1) (t 10) (t 11) h Kn Kr) : Wp Tryz.prog 168 (seqR (seqR (seqR (seqR (rest 1 (seqR (rest 1 (bodyOf Tryz.f346.body)))))))) (mkQ (fun t h => Kn (t 8) (t 9) h) (fun t h => Kr (t 8) (t 9) h) ke0) t h :=
  awpTo_okF 2 H0 (by kernel_rfl) (fun t h (H1 : F346_30 (t 0) (t 1) (t 10) (t 11) h Kn Kr) => F346_30_ok Kn Kr t h H1) (by kernel_rfl)
def F346_27 (x0 x1 x10 x11 : Value) (h : H) (Kn : VP2) (Kr : VP2) : Prop :=
  F346_28 x0 x1 x10 x11 h (fun y0 y1 y10 y11 h => F346_29 y0 y1 y10 y11 h Kn Kr) Kr
theorem F346_27_ok (Kn Kr) (t : T) (h : H) (H0 : F346_27 (t 0) (t 1) (t 10) (t 11) h Kn Kr) : Wp Tryz.prog 168 (seqR (seqR (seqR (rest 1 (seqR (rest 1 (bodyOf Tryz.f346.body))))))) (mkQ (fun t h => Kn (t 8) (t 9) h) (fun t h => Kr (t 8) (t 9) h) ke0) t h :=
  seq_ok (by kernel_rfl) (fun t h H1 => F346_29_ok Kn Kr t h H1) (F346_28_ok (fun y0 y1 y10 y11 h => F346_29 y0 y1 y10 y11 h Kn Kr) Kr t h H0)
def F346_20 (x0 x1 x10 x11 : Value) (h : H) (Kn : VP2) (Kr : VP2) : Prop :=
  F346_21 x0 x1 x10 x11 h (fun y0 y1 y10 y11 h => F346_27 y0 y1 y10 y11 h Kn Kr) Kr
theorem F346_20_ok (Kn Kr) (t : T) (h : H) (H0 : F346_20 (t 0) (t 1) (t 10) (t 11) h Kn Kr) : Wp Tryz.prog 168 (seqR (seqR (rest 1 (seqR (rest 1 (bodyOf Tryz.f346.body)))))) (mkQ (fun t h => Kn (t 8) (t 9) h) (fun t h => Kr (t 8) (t 9) h) ke0) t h :=
  seq_ok (by kernel_rfl) (fun t h H1 => F346_27_ok Kn Kr t h H1) (F346_21_ok (fun y0 y1 y10 y11 h => F346_27 y0 y1 y10 y11 h Kn Kr) Kr t h H0)
def F346_12 (x0 x1 x10 x11 : Value) (h : H) (Kn : VP2) (Kr : VP2) : Prop :=
  F346_13 x0 x1 x10 x11 h (fun y0 y1 y10 y11 h => F346_20 y0 y1 y10 y11 h Kn Kr) Kr
theorem F346_12_ok (Kn Kr) (t : T) (h : H) (H0 : F346_12 (t 0) (t 1) (t 10) (t 11) h Kn Kr) : Wp Tryz.prog 168 (seqR (rest 1 (seqR (rest 1 (bodyOf Tryz.f346.body))))) (mkQ (fun t h => Kn (t 8) (t 9) h) (fun t h => Kr (t 8) (t 9) h) ke0) t h :=
  seq_ok (by kernel_rfl) (fun t h H1 => F346_20_ok Kn Kr t h H1) (F346_13_ok (fun y0 y1 y10 y11 h => F346_20 y0 y1 y10 y11 h Kn Kr) Kr t h H0)
def F346_4 (x0 x1 x10 x11 : Value) (h : H) (Kn : VP2) (Kr : VP2) : Prop :=
  F346_5 x0 x1 x10 x11 h (fun y0 y1 y10 y11 h => F346_12 y0 y1 y10 y11 h Kn Kr) Kr
theorem F346_4_ok (Kn Kr) (t : T) (h : H) (H0 : F346_4 (t 0) (t 1) (t 10) (t 11) h Kn Kr) : Wp Tryz.prog 168 (rest 1 (seqR (rest 1 (bodyOf Tryz.f346.body)))) (mkQ (fun t h => Kn (t 8) (t 9) h) (fun t h => Kr (t 8) (t 9) h) ke0) t h :=
  seq_ok (by kernel_rfl) (fun t h H1 => F346_12_ok Kn Kr t h H1) (F346_5_ok (fun y0 y1 y10 y11 h => F346_12 y0 y1 y10 y11 h Kn Kr) Kr t h H0)
def F346_3 (x0 x1 x2 : Value) (h : H) (Kn : VP2) (Kr : VP2) : Prop :=
  o_bin Tryz.prog .add 3 x1 (.int .i64 1) fun v27 => o_bin Tryz.prog .sub 3 x2 (.int .i64 1) fun v29 => F346_4 x0 x1 v27 v29 h Kn Kr
theorem F346_3_ok (Kn Kr) (t : T) (h : H) (H0 : F346_3 (t 0) (t 1) (t 2) h Kn Kr) : Wp Tryz.prog 168 (seqR (rest 1 (bodyOf Tryz.f346.body))) (mkQ (fun t h => Kn (t 8) (t 9) h) (fun t h => Kr (t 8) (t 9) h) ke0) t h :=
  awpTo_okF 1 H0 (by kernel_rfl) (fun t h (H1 : F346_4 (t 0) (t 1) (t 10) (t 11) h Kn Kr) => F346_4_ok Kn Kr t h H1) (by kernel_rfl)
def F346_1 (x0 x1 x2 x3 : Value) (h : H) (Kn : VP2) (Kr : VP2) : Prop :=
  F346_2 x0 x1 x2 x3 h (fun y0 y1 y2 h => F346_3 y0 y1 y2 h Kn Kr) Kr
theorem F346_1_ok (Kn Kr) (t : T) (h : H) (H0 : F346_1 (t 0) (t 1) (t 2) (t 3) h Kn Kr) : Wp Tryz.prog 168 (rest 1 (bodyOf Tryz.f346.body)) (mkQ (fun t h => Kn (t 8) (t 9) h) (fun t h => Kr (t 8) (t 9) h) ke0) t h :=
  seq_ok (by kernel_rfl) (fun t h H1 => F346_3_ok Kn Kr t h H1) (F346_2_ok (fun y0 y1 y2 h => F346_3 y0 y1 y2 h Kn Kr) Kr t h H0)
def F346_0 (x0 x1 x2 x3 : Value) (h : H) (Kn : VP2) (Kr : VP2) : Prop :=
  F346_1 x0 x1 x2 x3 h Kn Kr
theorem F346_0_ok (Kn Kr) (t : T) (h : H) (H0 : F346_0 (t 0) (t 1) (t 2) (t 3) h Kn Kr) : Wp Tryz.prog 168 (bodyOf Tryz.f346.body) (mkQ (fun t h => Kn (t 8) (t 9) h) (fun t h => Kr (t 8) (t 9) h) ke0) t h :=
  awpTo_okF 1 H0 (by kernel_rfl) (fun t h (H1 : F346_1 (t 0) (t 1) (t 2) (t 3) h Kn Kr) => F346_1_ok Kn Kr t h H1) (by kernel_rfl)
def F346 (x0 x1 x2 x3 : Value) (h : H) (Q : VP1) : Prop := F346_0 x0 x1 x2 x3 h (fun y8 y9 h => bif [y8, y9].all boxV then Q (.tuple #[y8, y9]) h else False) (fun y8 y9 h => bif [y8, y9].all boxV then Q (.tuple #[y8, y9]) h else False)
theorem F346_spec (x0 x1 x2 x3 : Value) (h : H) (Q : VP1) (H0 : F346 x0 x1 x2 x3 h Q) : AM.Spec Tryz.prog 346 [x0, x1, x2, x3] h Q :=
  spec_wp mixed (fn := Tryz.f346) Tryz.func346 (c := bodyOf Tryz.f346.body) (rs := [8, 9]) (N := 168) (by kernel_rfl) (by kernel_rfl) (by kernel_rfl) (by kernel_rfl) (by kernel_rfl) (Nat.le_of_ble_eq_true rfl) (F346_0_ok (fun y8 y9 h => bif [y8, y9].all boxV then Q (.tuple #[y8, y9]) h else False) (fun y8 y9 h => bif [y8, y9].all boxV then Q (.tuple #[y8, y9]) h else False) (tinit [x0, x1, x2, x3]) h H0) (by kernel_rfl)
/-! #### 345: slices.partitionEqualOrdered[uint32] -/
def F345_2 (x0 x1 x2 x3 : Value) (h : H) (Kn : VP3) (Kr : VP1) : Prop :=
  o_indexAddr none 1 x0 x3 fun v17 => o_load false 1 v17 h fun v18 => o_indexAddr none 1 x0 x1 fun v21 => o_load false 1 v21 h fun v22 => o_indexAddr none 1 x0 x1 fun v23 => o_store 1 v23 v18 h fun h => o_indexAddr none 1 x0 x3 fun v24 => o_store 1 v24 v22 h fun h => Kn x0 x1 x2 h
theorem F345_2_ok (Kn Kr) (t : T) (h : H) (H0 : F345_2 (t 0) (t 1) (t 2) (t 3) h Kn Kr) : Wp Tryz.prog 84 (seqL (rest 1 (bodyOf Tryz.f345.body))) (mkQ (fun t h => Kn (t 0) (t 1) (t 2) h) (fun t h => Kr (t 8) h) ke0) t h :=
  draw_okF (by kernel_rfl) (by kernel_rfl) H0 (by kernel_rfl)
def F345_13 (x0 x1 x9 x10 : Value) (h : H) (Kn : VP5) (Kr : VP1) (Ke2 : VP4) (Ke1 : VP4) (Ke0 : VP1) : Prop :=
  o_bin Tryz.prog .leq 3 x9 x10 fun v31 => o_guard v31 true (fun k4 => k4 x0 h) (fun v33 h => o_guard v31 true (fun k5 => k5 x1 h) (fun v34 h => o_guard v31 true (fun k6 => o_indexAddr none 1 v33 v34 fun v35 => k6 v35 h) (fun v35 h => o_guard v31 true (fun k7 => o_load false 1 v35 h fun v36 => k7 v36 h) (fun v36 h => o_guard v31 true (fun k8 => k8 x0 h) (fun v37 h => o_guard v31 true (fun k9 => k9 x9 h) (fun v38 h => o_guard v31 true (fun k10 => o_indexAddr none 1 v37 v38 fun v39 => k10 v39 h) (fun v39 h => o_guard v31 true (fun k11 => o_load false 1 v39 h fun v40 => k11 v40 h) (fun v40 h => o_guard v31 true (fun k12 => o_dcall DS 344 [v36, v40] h fun v41 h => k12 v41 h) (fun v41 h => o_guard v31 true (fun k13 => o_un Tryz.prog .not v41 fun v42 => k13 v42 h) (fun v42 h => o_pick v31 v42 (.bool false) fun v43 => Kn x0 x1 x9 x10 v43 h) h) h) h) h) h) h) h) h) h) h
theorem F345_13_ok (Kn Kr Ke2 Ke1 Ke0) (t : T) (h : H) (H0 : F345_13 (t 0) (t 1) (t 9) (t 10) h Kn Kr Ke2 Ke1 Ke0) : Wp Tryz.prog 84 (seqL (seqL (lopC (blkC (seqL (blkC (lopC (blkC (seqL (rest 1 (seqR (rest 1 (bodyOf Tryz.f345.body))))))))))))) (mkQ (fun t h => Kn (t 0) (t 1) (t 9) (t 10) (t 43) h) (fun t h => Kr (t 8) h) (keAdd 2 (fun t h => Ke2 (t 0) (t 1) (t 9) (t 10) h) (keAdd 1 (fun t h => Ke1 (t 0) (t 1) (t 9) (t 10) h) (keAdd 0 (fun t h => Ke0 (t 9) h) ke0)))) t h :=
  drawD_ok dsOk (by kernel_rfl) (by kernel_rfl) H0 (by kernel_rfl)
def F345_14 (x0 x1 x9 x10 x43 : Value) (h : H) (Kn : VP4) (Kr : VP1) (Ke2 : VP4) (Ke1 : VP4) (Ke0 : VP1) : Prop :=
  o_if x43 (Kn x0 x1 x9 x10 h) (Ke2 x0 x1 x9 x10 h)
theorem F345_14_ok (Kn Kr Ke2 Ke1 Ke0) (t : T) (h : H) (H0 : F345_14 (t 0) (t 1) (t 9) (t 10) (t 43) h Kn Kr Ke2 Ke1 Ke0) : Wp Tryz.prog 84 (seqR (seqL (lopC (blkC (seqL (blkC (lopC (blkC (seqL (rest 1 (seqR (rest 1 (bodyOf Tryz.f345.body))))))))))))) (mkQ (fun t h => Kn (t 0) (t 1) (t 9) (t 10) h) (fun t h => Kr (t 8) h) (keAdd 2 (fun t h => Ke2 (t 0) (t 1) (t 9) (t 10) h) (keAdd 1 (fun t h => Ke1 (t 0) (t 1) (t 9) (t 10) h) (keAdd 0 (fun t h => Ke0 (t 9) h) ke0)))) t h :=
  wpEqF H0 (by kernel_rfl)
def F345_12 (x0 x1 x9 x10 : Value) (h : H) (Kn : VP4) (Kr : VP1) (Ke2 : VP4) (Ke1 : VP4) (Ke0 : VP1) : Prop :=
  F345_13 x0 x1 x9 x10 h (fun y0 y1 y9 y10 y43 h => F345_14 y0 y1 y9 y10 y43 h Kn Kr Ke2 Ke1 Ke0) Kr Ke2 Ke1 Ke0
theorem F345_12_ok (Kn Kr Ke2 Ke1 Ke0) (t : T) (h : H) (H0 : F345_12 (t 0) (t 1) (t 9) (t 10) h Kn Kr Ke2 Ke1 Ke0) : Wp Tryz.prog 84 (seqL (lopC (blkC (seqL (blkC (lopC (blkC (seqL (rest 1 (seqR (rest 1 (bodyOf Tryz.f345.body)))))))))))) (mkQ (fun t h => Kn (t 0) (t 1) (t 9) (t 10) h) (fun t h => Kr (t 8) h) (keAdd 2 (fun t h => Ke2 (t 0) (t 1) (t 9) (t 10) h) (keAdd 1 (fun t h => Ke1 (t 0) (t 1) (t 9) (t 10) h) (keAdd 0 (fun t h => Ke0 (t 9) h) ke0)))) t h :=
  seq_ok (by kernel_rfl) (fun t h H1 => F345_14_ok Kn Kr Ke2 Ke1 Ke0 t h H1) (F345_13_ok (fun y0 y1 y9 y10 y43 h => F345_14 y0 y1 y9 y10 y43 h Kn Kr Ke2 Ke1 Ke0) Kr Ke2 Ke1 Ke0 t h H0)
def F345_15 (x0 x1 x9 x10 : Value) (h : H) (Kn : VP4) (Kr : VP1) (Ke2 : VP4) (Ke1 : VP4) (Ke0 : VP1) : Prop :=
  o_bin Tryz.prog .add 3 x9 (.int .i64 1) fun v45 => Kn x0 x1 v45 x10 h
theorem F345_15_ok (Kn Kr Ke2 Ke1 Ke0) (t : T) (h : H) (H0 : F345_15 (t 0) (t 1) (t 9) (t 10) h Kn Kr Ke2 Ke1 Ke0) : Wp Tryz.prog 84 (seqR (lopC (blkC (seqL (blkC (lopC (blkC (seqL (rest 1 (seqR (rest 1 (bodyOf Tryz.f345.body)))))))))))) (mkQ (fun t h => Kn (t 0) (t 1) (t 9) (t 10) h) (fun t h => Kr (t 8) h) (keAdd 2 (fun t h => Ke2 (t 0) (t 1) (t 9) (t 10) h) (keAdd 1 (fun t h => Ke1 (t 0) (t 1) (t 9) (t 10) h) (keAdd 0 (fun t h => Ke0 (t 9) h) ke0)))) t h :=
  wpEqF H0 (by kernel_rfl)
def F345_11 (x0 x1 x9 x10 : Value) (h : H) (Kn : VP4) (Kr : VP1) (Ke2 : VP4) (Ke1 : VP4) (Ke0 : VP1) : Prop :=
  F345_12 x0 x1 x9 x10 h (fun y0 y1 y9 y10 h => F345_15 y0 y1 y9 y10 h Kn Kr Ke2 Ke1 Ke0) Kr Ke2 Ke1 Ke0
theorem F345_11_ok (Kn Kr Ke2 Ke1 Ke0) (t : T) (h : H) (H0 : F345_11 (t 0) (t 1) (t 9) (t 10) h Kn Kr Ke2 Ke1 Ke0) : Wp Tryz.prog 84 (lopC (blkC (seqL (blkC (lopC (blkC (seqL (rest 1 (seqR (rest 1 (bodyOf Tryz.f345.body))))))))))) (mkQ (fun t h => Kn (t 0) (t 1) (t 9) (t 10) h) (fun t h => Kr (t 8) h) (keAdd 2 (fun t h => Ke2 (t 0) (t 1) (t 9) (t 10) h) (keAdd 1 (fun t h => Ke1 (t 0) (t 1) (t 9) (t 10) h) (keAdd 0 (fun t h => Ke0 (t 9) h) ke0)))) t h :=
  seq_ok (by kernel_rfl) (fun t h H1 => F345_15_ok Kn Kr Ke2 Ke1 Ke0 t h H1) (F345_12_ok (fun y0 y1 y9 y10 h => F345_15 y0 y1 y9 y10 h Kn Kr Ke2 Ke1 Ke0) Kr Ke2 Ke1 Ke0 t h H0)
def F345_10 (x0 x1 x9 x10 : Value) (h : H) (Kn : VP4) (Kr : VP1) (Ke2 : VP4) (Ke1 : VP4) (Ke0 : VP1) : Prop :=
  sloop (S := Value × Value × Value × Value) (fun s h K => F345_11 s.1 s.2.1 s.2.2.1 s.2.2.2 h (fun y0 y1 y9 y10 h => K (y0, y1, y9, y10) h) Kr Ke2 Ke1 Ke0) (x0, x1, x9, x10) h
theorem F345_10_ok (Kn Kr Ke2 Ke1 Ke0) (t : T) (h : H) (H0 : F345_10 (t 0) (t 1) (t 9) (t 10) h Kn Kr Ke2 Ke1 Ke0) : Wp Tryz.prog 84 (blkC (seqL (blkC (lopC (blkC (seqL (rest 1 (seqR (rest 1 (bodyOf Tryz.f345.body)))))))))) (mkQ (fun t h => Kn (t 0) (t 1) (t 9) (t 10) h) (fun t h => Kr (t 8) h) (keAdd 2 (fun t h => Ke2 (t 0) (t 1) (t 9) (t 10) h) (keAdd 1 (fun t h => Ke1 (t 0) (t 1) (t 9) (t 10) h) (keAdd 0 (fun t h => Ke0 (t 9) h) ke0)))) t h :=
  loop_ok (fun t => (t 0, t 1, t 9, t 10)) (by kernel_rfl) (fun t h K H1 => F345_11_ok (fun y0 y1 y9 y10 h => K (y0, y1, y9, y10) h) Kr Ke2 Ke1 Ke0 t h H1) H0
def F345_9 (x0 x1 x9 x10 : Value) (h : H) (Kn : VP4) (Kr : VP1) (Ke1 : VP4) (Ke0 : VP1) : Prop :=
  F345_10 x0 x1 x9 x10 h Kn Kr Kn Ke1 Ke0
theorem F345_9_ok (Kn Kr Ke1 Ke0) (t : T) (h : H) (H0 : F345_9 (t 0) (t 1) (t 9) (t 10) h Kn Kr Ke1 Ke0) : Wp Tryz.prog 84 (seqL (blkC (lopC (blkC (seqL (rest 1 (seqR (rest 1 (bodyOf Tryz.f345.body))))))))) (mkQ (fun t h => Kn (t 0) (t 1) (t 9) (t 10) h) (fun t h => Kr (t 8) h) (keAdd 1 (fun t h => Ke1 (t 0) (t 1) (t 9) (t 10) h) (keAdd 0 (fun t h => Ke0 (t 9) h) ke0))) t h :=
  block_ok 2 (by kernel_rfl) (by kernel_rfl) (F345_10_ok Kn Kr Kn Ke1 Ke0 t h H0)
def F345_21 (x0 x1 x9 x10 : Value) (h : H) (Kn : VP5) (Kr : VP1) (Ke4 : VP4) (Ke1 : VP4) (Ke0 : VP1) : Prop :=
  o_bin Tryz.prog .leq 3 x9 x10 fun v48 => o_guard v48 true (fun k4 => k4 x0 h) (fun v50 h => o_guard v48 true (fun k5 => k5 x1 h) (fun v51 h => o_guard v48 true (fun k6 => o_indexAddr none 1 v50 v51 fun v52 => k6 v52 h) (fun v52 h => o_guard v48 true (fun k7 => o_load false 1 v52 h fun v53 => k7 v53 h) (fun v53 h => o_guard v48 true (fun k8 => k8 x0 h) (fun v54 h => o_guard v48 true (fun k9 => k9 x10 h) (fun v55 h => o_guard v48 true (fun k10 => o_indexAddr none 1 v54 v55 fun v56 => k10 v56 h) (fun v56 h => o_guard v48 true (fun k11 => o_load false 1 v56 h fun v57 => k11 v57 h) (fun v57 h => o_guard v48 true (fun k12 => o_dcall DS 344 [v53, v57] h fun v58 h => k12 v58 h) (fun v58 h => o_pick v48 v58 (.bool false) fun v59 => Kn x0 x1 x9 x10 v59 h) h) h) h) h) h) h) h) h) h
theorem F345_21_ok (Kn Kr Ke4 Ke1 Ke0) (t : T) (h : H) (H0 : F345_21 (t 0) (t 1) (t 9) (t 10) h Kn Kr Ke4 Ke1 Ke0) : Wp Tryz.prog 84 (seqL (seqL (lopC (blkC (seqL (seqR (blkC (lopC (blkC (seqL (rest 1 (seqR (rest 1 (bodyOf Tryz.f345.body)))))))))))))) (mkQ (fun t h => Kn (t 0) (t 1) (t 9) (t 10) (t 59) h) (fun t h => Kr (t 8) h) (keAdd 4 (fun t h => Ke4 (t 0) (t 1) (t 9) (t 10) h) (keAdd 1 (fun t h => Ke1 (t 0) (t 1) (t 9) (t 10) h) (keAdd 0 (fun t h => Ke0 (t 9) h) ke0)))) t h :=
  drawD_ok dsOk (by kernel_rfl) (by kernel_rfl) H0 (by kernel_rfl)
def F345_22 (x0 x1 x9 x10 x59 : Value) (h : H) (Kn : VP4) (Kr : VP1) (Ke4 : VP4) (Ke1 : VP4) (Ke0 : VP1) : Prop :=
  o_if x59 (Kn x0 x1 x9 x10 h) (Ke4 x0 x1 x9 x10 h)
theorem F345_22_ok (Kn Kr Ke4 Ke1 Ke0) (t : T) (h : H) (H0 : F345_22 (t 0) (t 1) (t 9) (t 10) (t 59) h Kn Kr Ke4 Ke1 Ke0) : Wp Tryz.prog 84 (seqR (seqL (lopC (blkC (seqL (seqR (blkC (lopC (blkC (seqL (rest 1 (seqR (rest 1 (bodyOf Tryz.f345.body)))))))))))))) (mkQ (fun t h => Kn (t 0) (t 1) (t 9) (t 10) h) (fun t h => Kr (t 8) h) (keAdd 4 (fun t h => Ke4 (t 0) (t 1) (t 9) (t 10) h) (keAdd 1 (fun t h => Ke1 (t 0) (t 1) (t 9) (t 10) h) (keAdd 0 (fun t h => Ke0 (t 9) h) ke0)))) t h :=
  wpEqF H0 (by kernel_rfl)
def F345_20 (x0 x1 x9 x10 : Value) (h : H) (Kn : VP4) (Kr : VP1) (Ke4 : VP4) (Ke1 : VP4) (Ke0 : VP1) : Prop :=
  F345_21 x0 x1 x9 x10 h (fun y0 y1 y9 y10 y59 h => F345_22 y0 y1 y9 y10 y59 h Kn Kr Ke4 Ke1 Ke0) Kr Ke4 Ke1 Ke0
theorem F345_20_ok (Kn Kr Ke4 Ke1 Ke0) (t : T) (h : H) (H0 : F345_20 (t 0) (t 1) (t 9) (t 10) h Kn Kr Ke4 Ke1 Ke0) : Wp Tryz.prog 84 (seqL (lopC (blkC (seqL (seqR (blkC (lopC (blkC (seqL (rest 1 (seqR (rest 1 (bodyOf Tryz.f345.body))))))))))))) (mkQ (fun t h => Kn (t 0) (t 1) (t 9) (t 10) h) (fun t h => Kr (t 8) h) (keAdd 4 (fun t h => Ke4 (t 0) (t 1) (t 9) (t 10) h) (keAdd 1 (fun t h => Ke1 (t 0) (t 1) (t 9) (t 10) h) (keAdd 0 (fun t h => Ke0 (t 9) h) ke0)))) t h :=
  seq_ok (by kernel_rfl) (fun t h H1 => F345_22_ok Kn Kr Ke4 Ke1 Ke0 t h H1) (F345_21_ok (fun y0 y1 y9 y10 y59 h => F345_22 y0 y1 y9 y10 y59 h Kn Kr Ke4 Ke1 Ke0) Kr Ke4 Ke1 Ke0 t h H0)
def F345_23 (x0 x1 x9 x10 : Value) (h : H) (Kn : VP4) (Kr : VP1) (Ke4 : VP4) (Ke1 : VP4) (Ke0 : VP1) : Prop :=
  o_bin Tryz.prog .sub 3 x10 (.int .i64 1) fun v61 => Kn x0 x1 x9 v61 h
theorem F345_23_ok (Kn Kr Ke4 Ke1 Ke0) (t : T) (h : H) (H0 : F345_23 (t 0) (t 1) (t 9) (t 10) h Kn Kr Ke4 Ke1 Ke0) : Wp Tryz.prog 84 (seqR (lopC (blkC (seqL (seqR (blkC (lopC (blkC (seqL (rest 1 (seqR (rest 1 (bodyOf Tryz.f345.body))))))))))))) (mkQ (fun t h => Kn (t 0) (t 1) (t 9) (t 10) h) (fun t h => Kr (t 8) h) (keAdd 4 (fun t h => Ke4 (t 0) (t 1) (t 9) (t 10) h) (keAdd 1 (fun t h => Ke1 (t 0) (t 1) (t 9) (t 10) h) (keAdd 0 (fun t h => Ke0 (t 9) h) ke0)))) t h :=
  wpEqF H0 (by kernel_rfl)
def F345_19 (x0 x1 x9 x10 : Value) (h : H) (Kn : VP4) (Kr : VP1) (Ke4 : VP4) (Ke1 : VP4) (Ke0 : VP1) : Prop :=
  F345_20 x0 x1 x9 x10 h (fun y0 y1 y9 y10 h => F345_23 y0 y1 y9 y10 h Kn Kr Ke4 Ke1 Ke0) Kr Ke4 Ke1 Ke0
theorem F345_19_ok (Kn Kr Ke4 Ke1 Ke0) (t : T) (h : H) (H0 : F345_19 (t 0) (t 1) (t 9) (t 10) h Kn Kr Ke4 Ke1 Ke0) : Wp Tryz.prog 84 (lopC (blkC (seqL (seqR (blkC (lopC (blkC (seqL (rest 1 (seqR (rest 1 (bodyOf Tryz.f345.body)))))))))))) (mkQ (fun t h => Kn (t 0) (t 1) (t 9) (t 10) h) (fun t h => Kr (t 8) h) (keAdd 4 (fun t h => Ke4 (t 0) (t 1) (t 9) (t 10) h) (keAdd 1 (fun t h => Ke1 (t 0) (t 1) (t 9) (t 10) h) (keAdd 0 (fun t h => Ke0 (t 9) h) ke0)))) t h :=
  seq_ok (by kernel_rfl) (fun t h H1 => F345_23_ok Kn Kr Ke4 Ke1 Ke0 t h H1) (F345_20_ok (fun y0 y1 y9 y10 h => F345_23 y0 y1 y9 y10 h Kn Kr Ke4 Ke1 Ke0) Kr Ke4 Ke1 Ke0 t h H0)
def F345_18 (x0 x1 x9 x10 : Value) (h : H) (Kn : VP4) (Kr : VP1) (Ke4 : VP4) (Ke1 : VP4) (Ke0 : VP1) : Prop :=
  sloop (S := Value × Value × Value × Value) (fun s h K => F345_19 s.1 s.2.1 s.2.2.1 s.2.2.2 h (fun y0 y1 y9 y10 h => K (y0, y1, y9, y10) h) Kr Ke4 Ke1 Ke0) (x0, x1, x9, x10) h
theorem F345_18_ok (Kn Kr Ke4 Ke1 Ke0) (t : T) (h : H) (H0 : F345_18 (t 0) (t 1) (t 9) (t 10) h Kn Kr Ke4 Ke1 Ke0) : Wp Tryz.prog 84 (blkC (seqL (seqR (blkC (lopC (blkC (seqL (rest 1 (seqR (rest 1 (bodyOf Tryz.f345.body))))))))))) (mkQ (fun t h => Kn (t 0) (t 1) (t 9) (t 10) h) (fun t h => Kr (t 8) h) (keAdd 4 (fun t h => Ke4 (t 0) (t 1) (t 9) (t 10) h) (keAdd 1 (fun t h => Ke1 (t 0) (t 1) (t 9) (t 10) h) (keAdd 0 (fun t h => Ke0 (t 9) h) ke0)))) t h :=
  loop_ok (fun t => (t 0, t 1, t 9, t 10)) (by kernel_rfl) (fun t h K H1 => F345_19_ok (fun y0 y1 y9 y10 h => K (y0, y1, y9, y10) h) Kr Ke4 Ke1 Ke0 t h H1) H0
def F345_17 (x0 x1 x9 x10 : Value) (h : H) (Kn : VP4) (Kr : VP1) (Ke1 : VP4) (Ke0 : VP1) : Prop :=
  F345_18 x0 x1 x9 x10 h Kn Kr Kn Ke1 Ke0
theorem F345_17_ok (Kn Kr Ke1 Ke0) (t : T) (h : H) (H0 : F345_17 (t 0) (t 1) (t 9) (t 10) h Kn Kr Ke1 Ke0) : Wp Tryz.prog 84 (seqL (seqR (blkC (lopC (blkC (seqL (rest 1 (seqR (rest 1 (bodyOf Tryz.f345.body)))))))))) (mkQ (fun t h => Kn (t 0) (t 1) (t 9) (t 10) h) (fun t h => Kr (t 8) h) (keAdd 1 (fun t h => Ke1 (t 0) (t 1) (t 9) (t 10) h) (keAdd 0 (fun t h => Ke0 (t 9) h) ke0))) t h :=
  block_ok 4 (by kernel_rfl) (by kernel_rfl) (F345_18_ok Kn Kr Kn Ke1 Ke0 t h H0)
def F345_26 (x0 x1 x9 x10 : Value) (h : H) (Kn : VP4) (Kr : VP1) (Ke1 : VP4) (Ke0 : VP1) : Prop :=
  o_indexAddr none 1 x0 x10 fun v71 => o_load false 1 v71 h fun v72 => o_indexAddr none 1 x0 x9 fun v75 => o_load false 1 v75 h fun v76 => o_indexAddr none 1 x0 x9 fun v77 => o_store 1 v77 v72 h fun h => o_indexAddr none 1 x0 x10 fun v78 => o_store 1 v78 v76 h fun h => Kn x0 x1 x9 x10 h
theorem F345_26_ok (Kn Kr Ke1 Ke0) (t : T) (h : H) (H0 : F345_26 (t 0) (t 1) (t 9) (t 10) h Kn Kr Ke1 Ke0) : Wp Tryz.prog 84 (seqL (rest 1 (seqR (seqR (blkC (lopC (blkC (seqL (rest 1 (seqR (rest 1 (bodyOf Tryz.f345.body)))))))))))) (mkQ (fun t h => Kn (t 0) (t 1) (t 9) (t 10) h) (fun t h => Kr (t 8) h) (keAdd 1 (fun t h => Ke1 (t 0) (t 1) (t 9) (t 10) h) (keAdd 0 (fun t h => Ke0 (t 9) h) ke0))) t h :=
  draw_okF (by kernel_rfl) (by kernel_rfl) H0 (by kernel_rfl)
def F345_27 (x0 x1 x9 x10 : Value) (h : H) (Kn : VP4) (Kr : VP1) (Ke1 : VP4) (Ke0 : VP1) : Prop :=
  o_bin Tryz.prog .add 3 x9 (.int .i64 1) fun v80 => o_bin Tryz.prog .sub 3 x10 (.int .i64 1) fun v82 => Kn x0 x1 v80 v82 h
theorem F345_27_ok (Kn Kr Ke1 Ke0) (t : T) (h : H) (H0 : F345_27 (t 0) (t 1) (t 9) (t 10) h Kn Kr Ke1 Ke0) : Wp Tryz.prog 84 (seqR (rest 1 (seqR (seqR (blkC (lopC (blkC (seqL (rest 1 (seqR (rest 1 (bodyOf Tryz.f345.body)))))))))))) (mkQ (fun t h => Kn (t 0) (t 1) (t 9) (t 10) h) (fun t h => Kr (t 8) h) (keAdd 1 (fun t h => Ke1 (t 0) (t 1) (t 9) (t 10) h) (keAdd 0 (fun t h => Ke0 (t 9) h) ke0))) t h :=
  wpEqF H0 (by kernel_rfl)
def F345_25 (x0 x1 x9 x10 : Value) (h : H) (Kn : VP4) (Kr : VP1) (Ke1 : VP4) (Ke0 : VP1) : Prop :=
  F345_26 x0 x1 x9 x10 h (fun y0 y1 y9 y10 h => F345_27 y0 y1 y9 y10 h Kn Kr Ke1 Ke0) Kr Ke1 Ke0
theorem F345_25_ok (Kn Kr Ke1 Ke0) (t : T) (h : H) (H0 : F345_25 (t 0) (t 1) (t 9) (t 10) h Kn Kr Ke1 Ke0) : Wp Tryz.prog 84 (rest 1 (seqR (seqR (blkC (lopC (blkC (seqL (rest 1 (seqR (rest 1 (bodyOf Tryz.f345.body))))))))))) (mkQ (fun t h => Kn (t 0) (t 1) (t 9) (t 10) h) (fun t h => Kr (t 8) h) (keAdd 1 (fun t h => Ke1 (t 0) (t 1) (t 9) (t 10) h) (keAdd 0 (fun t h => Ke0 (t 9) h) ke0))) t h :=
  seq_ok (by kernel_rfl) (fun t h H1 => F345_27_ok Kn Kr Ke1 Ke0 t h H1) (F345_26_ok (fun y0 y1 y9 y10 h => F345_27 y0 y1 y9 y10 h Kn Kr Ke1 Ke0) Kr Ke1 Ke0 t h H0)
def F345_24 (x0 x1 x9 x10 : Value) (h : H) (Kn : VP4) (Kr : VP1) (Ke1 : VP4) (Ke0 : VP1) : Prop :=
  o_bin Tryz.prog .gtr 3 x9 x10 fun v64 => o_if v64 (Ke0 x9 h) (F345_25 x0 x1 x9 x10 h Kn Kr Ke1 Ke0)
theorem F345_24_ok (Kn Kr Ke1 Ke0) (t : T) (h : H) (H0 : F345_24 (t 0) (t 1) (t 9) (t 10) h Kn Kr Ke1 Ke0) : Wp Tryz.prog 84 (seqR (seqR (blkC (lopC (blkC (seqL (rest 1 (seqR (rest 1 (bodyOf Tryz.f345.body)))))))))) (mkQ (fun t h => Kn (t 0) (t 1) (t 9) (t 10) h) (fun t h => Kr (t 8) h) (keAdd 1 (fun t h => Ke1 (t 0) (t 1) (t 9) (t 10) h) (keAdd 0 (fun t h => Ke0 (t 9) h) ke0))) t h :=
  awpTo_okF 1 H0 (by kernel_rfl) (fun t h (H1 : F345_25 (t 0) (t 1) (t 9) (t 10) h Kn Kr Ke1 Ke0) => F345_25_ok Kn Kr Ke1 Ke0 t h H1) (by kernel_rfl)
def F345_16 (x0 x1 x9 x10 : Value) (h : H) (Kn : VP4) (Kr : VP1) (Ke1 : VP4) (Ke0 : VP1) : Prop :=
  F345_17 x0 x1 x9 x10 h (fun y0 y1 y9 y10 h => F345_24 y0 y1 y9 y10 h Kn Kr Ke1 Ke0) Kr Ke1 Ke0
theorem F345_16_ok (Kn Kr Ke1 Ke0) (t : T) (h : H) (H0 : F345_16 (t 0) (t 1) (t 9) (t 10) h Kn Kr Ke1 Ke0) : Wp Tryz.prog 84 (seqR (blkC (lopC (blkC (seqL (rest 1 (seqR (rest 1 (bodyOf Tryz.f345.body))))))))) (mkQ (fun t h => Kn (t 0) (t 1) (t 9) (t 10) h) (fun t h => Kr (t 8) h) (keAdd 1 (fun t h => Ke1 (t 0) (t 1) (t 9) (t 10) h) (keAdd 0 (fun t h => Ke0 (t 9) h) ke0))) t h :=
  seq_ok (by kernel_rfl) (fun t h H1 => F345_24_ok Kn Kr Ke1 Ke0 t h H1) (F345_17_ok (fun y0 y1 y9 y10 h => F345_24 y0 y1 y9 y10 h Kn Kr Ke1 Ke0) Kr Ke1 Ke0 t h H0)
def F345_8 (x0 x1 x9 x10 : Value) (h : H) (Kn : VP4) (Kr : VP1) (Ke1 : VP4) (Ke0 : VP1) : Prop :=
  F345_9 x0 x1 x9 x10 h (fun y0 y1 y9 y10 h => F345_16 y0 y1 y9 y10 h Kn Kr Ke1 Ke0) Kr Ke1 Ke0
theorem F345_8_ok (Kn Kr Ke1 Ke0) (t : T) (h : H) (H0 : F345_8 (t 0) (t 1) (t 9) (t 10) h Kn Kr Ke1 Ke0) : Wp Tryz.prog 84 (blkC (lopC (blkC (seqL (rest 1 (seqR (rest 1 (bodyOf Tryz.f345.body)))))))) (mkQ (fun t h => Kn (t 0) (t 1) (t 9) (t 10) h) (fun t h => Kr (t 8) h) (keAdd 1 (fun t h => Ke1 (t 0) (t 1) (t 9) (t 10) h) (keAdd 0 (fun t h => Ke0 (t 9) h) ke0))) t h :=
  seq_ok (by kernel_rfl) (fun t h H1 => F345_16_ok Kn Kr Ke1 Ke0 t h H1) (F345_9_ok (fun y0 y1 y9 y10 h => F345_16 y0 y1 y9 y10 h Kn Kr Ke1 Ke0) Kr Ke1 Ke0 t h H0)
def F345_7 (x0 x1 x9 x10 : Value) (h : H) (Kn : VP4) (Kr : VP1) (Ke0 : VP1) : Prop :=
  F345_8 x0 x1 x9 x10 h Kn Kr Kn Ke0
theorem F345_7_ok (Kn Kr Ke0) (t : T) (h : H) (H0 : F345_7 (t 0) (t 1) (t 9) (t 10) h Kn Kr Ke0) : Wp Tryz.prog 84 (lopC (blkC (seqL (rest 1 (seqR (rest 1 (bodyOf Tryz.f345.body))))))) (mkQ (fun t h => Kn (t 0) (t 1) (t 9) (t 10) h) (fun t h => Kr (t 8) h) (keAdd 0 (fun t h => Ke0 (t 9) h) ke0)) t h :=
  block_ok 1 (by kernel_rfl) (by kernel_rfl) (F345_8_ok Kn Kr Kn Ke0 t h H0)
def F345_6 (x0 x1 x9 x10 : Value) (h : H) (Kn : VP1) (Kr : VP1) (Ke0 : VP1) : Prop :=
  sloop (S := Value × Value × Value × Value) (fun s h K => F345_7 s.1 s.2.1 s.2.2.1 s.2.2.2 h (fun y0 y1 y9 y10 h => K (y0, y1, y9, y10) h) Kr Ke0) (x0, x1, x9, x10) h
theorem F345_6_ok (Kn Kr Ke0) (t : T) (h : H) (H0 : F345_6 (t 0) (t 1) (t 9) (t 10) h Kn Kr Ke0) : Wp Tryz.prog 84 (blkC (seqL (rest 1 (seqR (rest 1 (bodyOf Tryz.f345.body)))))) (mkQ (fun t h => Kn (t 9) h) (fun t h => Kr (t 8) h) (keAdd 0 (fun t h => Ke0 (t 9) h) ke0)) t h :=
  loop_ok (fun t => (t 0, t 1, t 9, t 10)) (by kernel_rfl) (fun t h K H1 => F345_7_ok (fun y0 y1 y9 y10 h => K (y0, y1, y9, y10) h) Kr Ke0 t h H1) H0
def F345_5 (x0 x1 x9 x10 : Value) (h : H) (Kn : VP1) (Kr : VP1) : Prop :=
  F345_6 x0 x1 x9 x10 h Kn Kr Kn
theorem F345_5_ok (Kn Kr) (t : T) (h : H) (H0 : F345_5 (t 0) (t 1) (t 9) (t 10) h Kn Kr) : Wp Tryz.prog 84 (seqL (rest 1 (seqR (rest 1 (bodyOf Tryz.f345.body))))) (mkQ (fun t h => Kn (t 9) h) (fun t h => Kr (t 8) h) ke0) t h :=
  block_ok 0 (by kernel_rfl) (by kernel_rfl) (F345_6_ok Kn Kr Kn t h H0)
def F345_28 (x9 : Value) (h : H) (Kn : VP1) (Kr : VP1) : Prop :=
  Kr x9 h
theorem F345_28_ok (Kn Kr) (t : T) (h : H) (H0 : F345_28 (t 9) h Kn Kr) : Wp Tryz.prog 84 (seqR (rest 1 (seqR (rest 1 (bodyOf Tryz.f345.body))))) (mkQ (fun t h => Kn (t 8) h) (fun t h => Kr (t 8) h) ke0) t h :=
  wpEqF H0 (by kernel_rfl)
def F345_4 (x0 x1 x9 x10 : Value) (h : H) (Kn : VP1) (Kr : VP1) : Prop :=
  F345_5 x0 x1 x9 x10 h (fun y9 h => F345_28 y9 h Kn Kr) Kr
theorem F345_4_ok (Kn Kr) (t : T) (h : H) (H0 : F345_4 (t 0) (t 1) (t 9) (t 10) h Kn Kr) : Wp Tryz.prog 84 (rest 1 (seqR (rest 1 (bodyOf Tryz.f345.body)))) (mkQ (fun t h => Kn (t 8) h) (fun t h => Kr (t 8) h) ke0) t h :=
  seq_ok (by kernel_rfl) (fun t h H1 => F345_28_ok Kn Kr t h H1) (F345_5_ok (fun y9 h => F345_28 y9 h Kn Kr) Kr t h H0)
def F345_3 (x0 x1 x2 : Value) (h : H) (Kn : VP1) (Kr : VP1) : Prop :=
  o_bin Tryz.prog .add 3 x1 (.int .i64 1) fun v26 => o_bin Tryz.prog .sub 3 x2 (.int .i64 1) fun v28 => F345_4 x0 x1 v26 v28 h Kn Kr
theorem F345_3_ok (Kn Kr) (t : T) (h : H) (H0 : F345_3 (t 0) (t 1) (t 2) h Kn Kr) : Wp Tryz.prog 84 (seqR (rest 1 (bodyOf Tryz.f345.body))) (mkQ (fun t h => Kn (t 8) h) (fun t h => Kr (t 8) h) ke0) t h :=
  awpTo_okF 1 H0 (by kernel_rfl) (fun t h (H1 : F345_4 (t 0) (t 1) (t 9) (t 10) h Kn Kr) => F345_4_ok Kn Kr t h H1) (by kernel_rfl)
def F345_1 (x0 x1 x2 x3 : Value) (h : H) (Kn : VP1) (Kr : VP1) : Prop :=
  F345_2 x0 x1 x2 x3 h (fun y0 y1 y2 h => F345_3 y0 y1 y2 h Kn Kr) Kr
theorem F345_1_ok (Kn Kr) (t : T) (h : H) (H0 : F345_1 (t 0) (t 1) (t 2) (t 3) h Kn Kr) : Wp Tryz.prog 84 (rest 1 (bodyOf Tryz.f345.body)) (mkQ (fun t h => Kn (t 8) h) (fun t h => Kr (t 8) h) ke0) t h :=
  seq_ok (by kernel_rfl) (fun t h H1 => F345_3_ok Kn Kr t h H1) (F345_2_ok (fun y0 y1 y2 h => F345_3 y0 y1 y2 h Kn Kr) Kr t h H0)
def F345_0 (x0 x1 x2 x3 : Value) (h : H) (Kn : VP1) (Kr : VP1) : Prop :=
  F345_1 x0 x1 x2 x3 h Kn Kr
theorem F345_0_ok (Kn Kr) (t : T) (h : H) (H0 : F345_0 (t 0) (t 1) (t 2) (t 3) h Kn Kr) : Wp Tryz.prog 84 (bodyOf Tryz.f345.body) (mkQ (fun t h => Kn (t 8) h) (fun t h => Kr (t 8) h) ke0) t h :=
  awpTo_okF 1 H0 (by kernel_rfl) (fun t h (H1 : F345_1 (t 0) (t 1) (t 2) (t 3) h Kn Kr) => F345_1_ok Kn Kr t h H1) (by kernel_rfl)
def F345 (x0 x1 x2 x3 : Value) (h : H) (Q : VP1) : Prop := F345_0 x0 x1 x2 x3 h (fun v h => Q v h) (fun v h => Q v h)
theorem F345_spec (x0 x1 x2 x3 : Value) (h : H) (Q : VP1) (H0 : F345 x0 x1 x2 x3 h Q) : AM.Spec Tryz.prog 345 [x0, x1, x2, x3] h Q :=
  spec_wp mixed (fn := Tryz.f345) Tryz.func345 (c := bodyOf Tryz.f345.body) (rs := [8]) (N := 84) (by kernel_rfl) (by kernel_rfl) (by kernel_rfl) (by kernel_rfl) (by kernel_rfl) (Nat.le_of_ble_eq_true rfl) (F345_0_ok (fun v h => Q v h) (fun v h => Q v h) (tinit [x0, x1, x2, x3]) h H0) (by kernel_rfl)
/-! #### 327: slices.pdqsortOrdered[uint32] -/
def F327_6 (x0 x1 x2 x3 x8 x9 x10 : Value) (h : H) (Kn : VP7) (Kr : H → Prop) (Ke1 : VP6) (Ke0 : H → Prop) : Prop :=
  o_un Tryz.prog .not x8 fun v35 => o_if v35 (o_call Tryz.prog 340 [x0, x1, x2] h fun v39 h => o_bin Tryz.prog .sub 3 x3 (.int .i64 1) fun v41 => Kn x0 x1 x2 v41 x8 x9 x10 h) (Kn x0 x1 x2 x3 x8 x9 x10 h)
theorem F327_6_ok (Kn Kr Ke1 Ke0) (t : T) (h : H) (H0 : F327_6 (t 0) (t 1) (t 2) (t 3) (t 8) (t 9) (t 10) h Kn Kr Ke1 Ke0) : Wp Tryz.prog 134 (seqL (rest 3 (blkC (lopC (blkC (rest 2 (bodyOf Tryz.f327.body))))))) (mkQ (fun t h => Kn (t 0) (t 1) (t 2) (t 3) (t 8) (t 9) (t 10) h) (fun t h => Kr  h) (keAdd 1 (fun t h => Ke1 (t 0) (t 1) (t 2) (t 3) (t 8) (t 9) h) (keAdd 0 (fun t h => Ke0  h) ke0))) t h :=
  wpEqF H0 (by kernel_rfl)
def F327_9 (x0 x1 x2 x3 x8 x9 x10 x11 x12 : Value) (h : H) (Kn : VP9) (Kr : H → Prop) (Ke1 : VP6) (Ke0 : H → Prop) : Prop :=
  o_bin Tryz.prog .eql 417 x12 (.int .i64 2) fun v50 => o_if v50 (o_call Tryz.prog 342 [x0, x1, x2] h fun v54 h => o_bin Tryz.prog .sub 3 x2 (.int .i64 1) fun v56 => o_bin Tryz.prog .sub 3 x11 x1 fun v59 => o_bin Tryz.prog .sub 3 v56 v59 fun v60 => Kn x0 x1 x2 x3 x8 x9 x10 v60 (.int .i64 1) h) (Kn x0 x1 x2 x3 x8 x9 x10 x11 x12 h)
theorem F327_9_ok (Kn Kr Ke1 Ke0) (t : T) (h : H) (H0 : F327_9 (t 0) (t 1) (t 2) (t 3) (t 8) (t 9) (t 10) (t 11) (t 12) h Kn Kr Ke1 Ke0) : Wp Tryz.prog 134 (seqL (rest 1 (seqR (rest 3 (blkC (lopC (blkC (rest 2 (bodyOf Tryz.f327.body))))))))) (mkQ (fun t h => Kn (t 0) (t 1) (t 2) (t 3) (t 8) (t 9) (t 10) (t 11) (t 12) h) (fun t h => Kr  h) (keAdd 1 (fun t h => Ke1 (t 0) (t 1) (t 2) (t 3) (t 8) (t 9) h) (keAdd 0 (fun t h => Ke0  h) ke0))) t h :=
  wpEqF H0 (by kernel_rfl)
def F327_11 (x0 x1 x2 x3 x8 x9 x10 x11 x12 : Value) (h : H) (Kn : VP8) (Kr : H → Prop) (Ke1 : VP6) (Ke0 : H → Prop) : Prop :=
  o_guard x8 true (fun k2 => k2 x9 h) (fun v63 h => o_pick x8 v63 (.bool false) fun v64 => o_guard v64 true (fun k6 => o_bin Tryz.prog .eql 417 x12 (.int .i64 1) fun v67 => k6 v67 h) (fun v67 h => o_pick v64 v67 (.bool false) fun v68 => o_if v68 (o_call Tryz.prog 343 [x0, x1, x2] h fun v72 h => o_if v72 (Kr h) (Kn x0 x1 x2 x3 x8 x9 x10 x11 h)) (Kn x0 x1 x2 x3 x8 x9 x10 x11 h)) h) h
theorem F327_11_ok (Kn Kr Ke1 Ke0) (t : T) (h : H) (H0 : F327_11 (t 0) (t 1) (t 2) (t 3) (t 8) (t 9) (t 10) (t 11) (t 12) h Kn Kr Ke1 Ke0) : Wp Tryz.prog 134 (seqL (seqR (rest 1 (seqR (rest 3 (blkC (lopC (blkC (rest 2 (bodyOf Tryz.f327.body)))))))))) (mkQ (fun t h => Kn (t 0) (t 1) (t 2) (t 3) (t 8) (t 9) (t 10) (t 11) h) (fun t h => Kr  h) (keAdd 1 (fun t h => Ke1 (t 0) (t 1) (t 2) (t 3) (t 8) (t 9) h) (keAdd 0 (fun t h => Ke0  h) ke0))) t h :=
  wpEqF H0 (by kernel_rfl)
def F327_14 (x0 x1 x2 x3 x8 x9 x10 x11 : Value) (h : H) (Kn : VP9) (Kr : H → Prop) (Ke1 : VP6) (Ke0 : H → Prop) : Prop :=
  o_bin Tryz.prog .gtr 3 x1 (.int .i64 0) fun v74 => o_guard v74 true (fun k3 => k3 x0 h) (fun v76 h => o_guard v74 true (fun k4 => k4 x1 h) (fun v77 h => o_guard v74 true (fun k5 => o_bin Tryz.prog .sub 3 v77 (.int .i64 1) fun v78 => k5 v78 h) (fun v78 h => o_guard v74 true (fun k6 => o_indexAddr none 1 v76 v78 fun v79 => k6 v79 h) (fun v79 h => o_guard v74 true (fun k7 => o_load false 1 v79 h fun v80 => k7 v80 h) (fun v80 h => o_guard v74 true (fun k8 => k8 x0 h) (fun v81 h => o_guard v74 true (fun k9 => k9 x11 h) (fun v82 h => o_guard v74 true (fun k10 => o_indexAddr none 1 v81 v82 fun v83 => k10 v83 h) (fun v83 h => o_guard v74 true (fun k11 => o_load false 1 v83 h fun v84 => k11 v84 h) (fun v84 h => o_guard v74 true (fun k12 => o_dcall DS 344 [v80, v84] h fun v85 h => k12 v85 h) (fun v85 h => o_guard v74 true (fun k13 => o_un Tryz.prog .not v85 fun v86 => k13 v86 h) (fun v86 h => o_pick v74 v86 (.bool false) fun v87 => Kn x0 x1 x2 x3 x8 x9 x10 x11 v87 h) h) h) h) h) h) h) h) h) h) h) h
theorem F327_14_ok (Kn Kr Ke1 Ke0) (t : T) (h : H) (H0 : F327_14 (t 0) (t 1) (t 2) (t 3) (t 8) (t 9) (t 10) (t 11) h Kn Kr Ke1 Ke0) : Wp Tryz.prog 134 (seqL (seqL (seqR (seqR (rest 1 (seqR (rest 3 (blkC (lopC (blkC (rest 2 (bodyOf Tryz.f327.body)))))))))))) (mkQ (fun t h => Kn (t 0) (t 1) (t 2) (t 3) (t 8) (t 9) (t 10) (t 11) (t 87) h) (fun t h => Kr  h) (keAdd 1 (fun t h => Ke1 (t 0) (t 1) (t 2) (t 3) (t 8) (t 9) h) (keAdd 0 (fun t h => Ke0  h) ke0))) t h :=
  drawD_ok dsOk (by kernel_rfl) (by kernel_rfl) H0 (by kernel_rfl)
def F327_15 (x0 x1 x2 x3 x8 x9 x10 x11 x87 : Value) (h : H) (Kn : VP6) (Kr : H → Prop) (Ke1 : VP6) (Ke0 : H → Prop) : Prop :=
  o_if x87 (o_call Tryz.prog 345 [x0, x1, x2, x11] h fun v92 h => Ke1 x0 v92 x2 x3 x8 x9 h) (Kn x0 x1 x2 x3 x10 x11 h)
theorem F327_15_ok (Kn Kr Ke1 Ke0) (t : T) (h : H) (H0 : F327_15 (t 0) (t 1) (t 2) (t 3) (t 8) (t 9) (t 10) (t 11) (t 87) h Kn Kr Ke1 Ke0) : Wp Tryz.prog 134 (seqR (seqL (seqR (seqR (rest 1 (seqR (rest 3 (blkC (lopC (blkC (rest 2 (bodyOf Tryz.f327.body)))))))))))) (mkQ (fun t h => Kn (t 0) (t 1) (t 2) (t 3) (t 10) (t 11) h) (fun t h => Kr  h) (keAdd 1 (fun t h => Ke1 (t 0) (t 1) (t 2) (t 3) (t 8) (t 9) h) (keAdd 0 (fun t h => Ke0  h) ke0))) t h :=
  wpEqF H0 (by kernel_rfl)
def F327_13 (x0 x1 x2 x3 x8 x9 x10 x11 : Value) (h : H) (Kn : VP6) (Kr : H → Prop) (Ke1 : VP6) (Ke0 : H → Prop) : Prop :=
  F327_14 x0 x1 x2 x3 x8 x9 x10 x11 h (fun y0 y1 y2 y3 y8 y9 y10 y11 y87 h => F327_15 y0 y1 y2 y3 y8 y9 y10 y11 y87 h Kn Kr Ke1 Ke0) Kr Ke1 Ke0
theorem F327_13_ok (Kn Kr Ke1 Ke0) (t : T) (h : H) (H0 : F327_13 (t 0) (t 1) (t 2) (t 3) (t 8) (t 9) (t 10) (t 11) h Kn Kr Ke1 Ke0) : Wp Tryz.prog 134 (seqL (seqR (seqR (rest 1 (seqR (rest 3 (blkC (lopC (blkC (rest 2 (bodyOf Tryz.f327.body))))))))))) (mkQ (fun t h => Kn (t 0) (t 1) (t 2) (t 3) (t 10) (t 11) h) (fun t h => Kr  h) (keAdd 1 (fun t h => Ke1 (t 0) (t 1) (t 2) (t 3) (t 8) (t 9) h) (keAdd 0 (fun t h => Ke0  h) ke0))) t h :=
  seq_ok (by kernel_rfl) (fun t h H1 => F327_15_ok Kn Kr Ke1 Ke0 t h H1) (F327_14_ok (fun y0 y1 y2 y3 y8 y9 y10 y11 y87 h => F327_15 y0 y1 y2 y3 y8 y9 y10 y11 y87 h Kn Kr Ke1 Ke0) Kr Ke1 Ke0 t h H0)
def F327_16 (x0 x1 x2 x3 x10 x11 : Value) (h : H) (Kn : VP6) (Kr : H → Prop) (Ke1 : VP6) (Ke0 : H → Prop) : Prop :=
  o_call Tryz.prog 346 [x0, x1, x2, x11] h fun v99 h => o_extract v99 0 fun v100 => o_extract v99 1 fun v101 => o_bin Tryz.prog .sub 3 v100 x1 fun v105 => o_bin Tryz.prog .sub 3 x2 v100 fun v108 => o_bin Tryz.prog .quo 3 x10 (.int .i64 8) fun v110 => o_bin Tryz.prog .lss 3 v105 v108 fun v113 => o_if v113 (o_bin Tryz.prog .geq 3 v105 v110 fun v116 => o_call Tryz.prog 327 [x0, x1, v100, x3] h fun v121 h => o_bin Tryz.prog .add 3 v100 (.int .i64 1) fun v123 => Kn x0 v123 x2 x3 v116 v101 h) (o_bin Tryz.prog .geq 3 v108 v110 fun v126 => o_bin Tryz.prog .add 3 v100 (.int .i64 1) fun v129 => o_call Tryz.prog 327 [x0, v129, x2, x3] h fun v132 h => Kn x0 x1 v100 x3 v126 v101 h)
theorem F327_16_ok (Kn Kr Ke1 Ke0) (t : T) (h : H) (H0 : F327_16 (t 0) (t 1) (t 2) (t 3) (t 10) (t 11) h Kn Kr Ke1 Ke0) : Wp Tryz.prog 134 (seqR (seqR (seqR (rest 1 (seqR (rest 3 (blkC (lopC (blkC (rest 2 (bodyOf Tryz.f327.body))))))))))) (mkQ (fun t h => Kn (t 0) (t 1) (t 2) (t 3) (t 8) (t 9) h) (fun t h => Kr  h) (keAdd 1 (fun t h => Ke1 (t 0) (t 1) (t 2) (t 3) (t 8) (t 9) h) (keAdd 0 (fun t h => Ke0  h) ke0))) t h :=
  wpEqF H0 (by kernel_rfl)
def F327_12 (x0 x1 x2 x3 x8 x9 x10 x11 : Value) (h : H) (Kn : VP6) (Kr : H → Prop) (Ke1 : VP6) (Ke0 : H → Prop) : Prop :=
  F327_13 x0 x1 x2 x3 x8 x9 x10 x11 h (fun y0 y1 y2 y3 y10 y11 h => F327_16 y0 y1 y2 y3 y10 y11 h Kn Kr Ke1 Ke0) Kr Ke1 Ke0
theorem F327_12_ok (Kn Kr Ke1 Ke0) (t : T) (h : H) (H0 : F327_12 (t 0) (t 1) (t 2) (t 3) (t 8) (t 9) (t 10) (t 11) h Kn Kr Ke1 Ke0) : Wp Tryz.prog 134 (seqR (seqR (rest 1 (seqR (rest 3 (blkC (lopC (blkC (rest 2 (bodyOf Tryz.f327.body)))))))))) (mkQ (fun t h => Kn (t 0) (t 1) (t 2) (t 3) (t 8) (t 9) h) (fun t h => Kr  h) (keAdd 1 (fun t h => Ke1 (t 0) (t 1) (t 2) (t 3) (t 8) (t 9) h) (keAdd 0 (fun t h => Ke0  h) ke0))) t h :=
  seq_ok (by kernel_rfl) (fun t h H1 => F327_16_ok Kn Kr Ke1 Ke0 t h H1) (F327_13_ok (fun y0 y1 y2 y3 y10 y11 h => F327_16 y0 y1 y2 y3 y10 y11 h Kn Kr Ke1 Ke0) Kr Ke1 Ke0 t h H0)
def F327_10 (x0 x1 x2 x3 x8 x9 x10 x11 x12 : Value) (h : H) (Kn : VP6) (Kr : H → Prop) (Ke1 : VP6) (Ke0 : H → Prop) : Prop :=
  F327_11 x0 x1 x2 x3 x8 x9 x10 x11 x12 h (fun y0 y1 y2 y3 y8 y9 y10 y11 h => F327_12 y0 y1 y2 y3 y8 y9 y10 y11 h Kn Kr Ke1 Ke0) Kr Ke1 Ke0
theorem F327_10_ok (Kn Kr Ke1 Ke0) (t : T) (h : H) (H0 : F327_10 (t 0) (t 1) (t 2) (t 3) (t 8) (t 9) (t 10) (t 11) (t 12) h Kn Kr Ke1 Ke0) : Wp Tryz.prog 134 (seqR (rest 1 (seqR (rest 3 (blkC (lopC (blkC (rest 2 (bodyOf Tryz.f327.body))))))))) (mkQ (fun t h => Kn (t 0) (t 1) (t 2) (t 3) (t 8) (t 9) h) (fun t h => Kr  h) (keAdd 1 (fun t h => Ke1 (t 0) (t 1) (t 2) (t 3) (t 8) (t 9) h) (keAdd 0 (fun t h => Ke0  h) ke0))) t h :=
  seq_ok (by kernel_rfl) (fun t h H1 => F327_12_ok Kn Kr Ke1 Ke0 t h H1) (F327_11_ok (fun y0 y1 y2 y3 y8 y9 y10 y11 h => F327_12 y0 y1 y2 y3 y8 y9 y10 y11 h Kn Kr Ke1 Ke0) Kr Ke1 Ke0 t h H0)
def F327_8 (x0 x1 x2 x3 x8 x9 x10 x11 x12 : Value) (h : H) (Kn : VP6) (Kr : H → Prop) (Ke1 : VP6) (Ke0 : H → Prop) : Prop :=
  F327_9 x0 x1 x2 x3 x8 x9 x10 x11 x12 h (fun y0 y1 y2 y3 y8 y9 y10 y11 y12 h => F327_10 y0 y1 y2 y3 y8 y9 y10 y11 y12 h Kn Kr Ke1 Ke0) Kr Ke1 Ke0
theorem F327_8_ok (Kn Kr Ke1 Ke0) (t : T) (h : H) (H0 : F327_8 (t 0) (t 1) (t 2) (t 3) (t 8) (t 9) (t 10) (t 11) (t 12) h Kn Kr Ke1 Ke0) : Wp Tryz.prog 134 (rest 1 (seqR (rest 3 (blkC (lopC (blkC (rest 2 (bodyOf Tryz.f327.body)))))))) (mkQ (fun t h => Kn (t 0) (t 1) (t 2) (t 3) (t 8) (t 9) h) (fun t h => Kr  h) (keAdd 1 (fun t h => Ke1 (t 0) (t 1) (t 2) (t 3) (t 8) (t 9) h) (keAdd 0 (fun t h => Ke0  h) ke0))) t h :=
  seq_ok (by kernel_rfl) (fun t h H1 => F327_10_ok Kn Kr Ke1 Ke0 t h H1) (F327_9_ok (fun y0 y1 y2 y3 y8 y9 y10 y11 y12 h => F327_10 y0 y1 y2 y3 y8 y9 y10 y11 y12 h Kn Kr Ke1 Ke0) Kr Ke1 Ke0 t h H0)
def F327_7 (x0 x1 x2 x3 x8 x9 x10 : Value) (h : H) (Kn : VP6) (Kr : H → Prop) (Ke1 : VP6) (Ke0 : H → Prop) : Prop :=
  o_call Tryz.prog 341 [x0, x1, x2] h fun v46 h => o_extract v46 0 fun v47 => o_extract v46 1 fun v48 => F327_8 x0 x1 x2 x3 x8 x9 x10 v47 v48 h Kn Kr Ke1 Ke0
theorem F327_7_ok (Kn Kr Ke1 Ke0) (t : T) (h : H) (H0 : F327_7 (t 0) (t 1) (t 2) (t 3) (t 8) (t 9) (t 10) h Kn Kr Ke1 Ke0) : Wp Tryz.prog 134 (seqR (rest 3 (blkC (lopC (blkC (rest 2 (bodyOf Tryz.f327.body))))))) (mkQ (fun t h => Kn (t 0) (t 1) (t 2) (t 3) (t 8) (t 9) h) (fun t h => Kr  h) (keAdd 1 (fun t h => Ke1 (t 0) (t 1) (t 2) (t 3) (t 8) (t 9) h) (keAdd 0 (fun t h => Ke0  h) ke0))) t h :=
  awpTo_okF 1 H0 (by kernel_rfl) (fun t h (H1 : F327_8 (t 0) (t 1) (t 2) (t 3) (t 8) (t 9) (t 10) (t 11) (t 12) h Kn Kr Ke1 Ke0) => F327_8_ok Kn Kr Ke1 Ke0 t h H1) (by kernel_rfl)
def F327_5 (x0 x1 x2 x3 x8 x9 x10 : Value) (h : H) (Kn : VP6) (Kr : H → Prop) (Ke1 : VP6) (Ke0 : H → Prop) : Prop :=
  F327_6 x0 x1 x2 x3 x8 x9 x10 h (fun y0 y1 y2 y3 y8 y9 y10 h => F327_7 y0 y1 y2 y3 y8 y9 y10 h Kn Kr Ke1 Ke0) Kr Ke1 Ke0
theorem F327_5_ok (Kn Kr Ke1 Ke0) (t : T) (h : H) (H0 : F327_5 (t 0) (t 1) (t 2) (t 3) (t 8) (t 9) (t 10) h Kn Kr Ke1 Ke0) : Wp Tryz.prog 134 (rest 3 (blkC (lopC (blkC (rest 2 (bodyOf Tryz.f327.body)))))) (mkQ (fun t h => Kn (t 0) (t 1) (t 2) (t 3) (t 8) (t 9) h) (fun t h => Kr  h) (keAdd 1 (fun t h => Ke1 (t 0) (t 1) (t 2) (t 3) (t 8) (t 9) h) (keAdd 0 (fun t h => Ke0  h) ke0))) t h :=
  seq_ok (by kernel_rfl) (fun t h H1 => F327_7_ok Kn Kr Ke1 Ke0 t h H1) (F327_6_ok (fun y0 y1 y2 y3 y8 y9 y10 h => F327_7 y0 y1 y2 y3 y8 y9 y10 h Kn Kr Ke1 Ke0) Kr Ke1 Ke0 t h H0)
def F327_4 (x0 x1 x2 x3 x8 x9 : Value) (h : H) (Kn : VP6) (Kr : H → Prop) (Ke1 : VP6) (Ke0 : H → Prop) : Prop :=
  o_bin Tryz.prog .sub 3 x2 x1 fun v21 => o_bin Tryz.prog .leq 3 v21 (.int .i64 12) fun v23 => o_if v23 (o_call Tryz.prog 338 [x0, x1, x2] h fun v27 h => Kr h) (o_bin Tryz.prog .eql 3 x3 (.int .i64 0) fun v29 => o_if v29 (o_call Tryz.prog 339 [x0, x1, x2] h fun v33 h => Kr h) (F327_5 x0 x1 x2 x3 x8 x9 v21 h Kn Kr Ke1 Ke0))
theorem F327_4_ok (Kn Kr Ke1 Ke0) (t : T) (h : H) (H0 : F327_4 (t 0) (t 1) (t 2) (t 3) (t 8) (t 9) h Kn Kr Ke1 Ke0) : Wp Tryz.prog 134 (blkC (lopC (blkC (rest 2 (bodyOf Tryz.f327.body))))) (mkQ (fun t h => Kn (t 0) (t 1) (t 2) (t 3) (t 8) (t 9) h) (fun t h => Kr  h) (keAdd 1 (fun t h => Ke1 (t 0) (t 1) (t 2) (t 3) (t 8) (t 9) h) (keAdd 0 (fun t h => Ke0  h) ke0))) t h :=
  awpTo_okF 3 H0 (by kernel_rfl) (fun t h (H1 : F327_5 (t 0) (t 1) (t 2) (t 3) (t 8) (t 9) (t 10) h Kn Kr Ke1 Ke0) => F327_5_ok Kn Kr Ke1 Ke0 t h H1) (by kernel_rfl)
def F327_3 (x0 x1 x2 x3 x8 x9 : Value) (h : H) (Kn : VP6) (Kr : H → Prop) (Ke0 : H → Prop) : Prop :=
  F327_4 x0 x1 x2 x3 x8 x9 h Kn Kr Kn Ke0
theorem F327_3_ok (Kn Kr Ke0) (t : T) (h : H) (H0 : F327_3 (t 0) (t 1) (t 2) (t 3) (t 8) (t 9) h Kn Kr Ke0) : Wp Tryz.prog 134 (lopC (blkC (rest 2 (bodyOf Tryz.f327.body)))) (mkQ (fun t h => Kn (t 0) (t 1) (t 2) (t 3) (t 8) (t 9) h) (fun t h => Kr  h) (keAdd 0 (fun t h => Ke0  h) ke0)) t h :=
  block_ok 1 (by kernel_rfl) (by kernel_rfl) (F327_4_ok Kn Kr Kn Ke0 t h H0)
def F327_2 (x0 x1 x2 x3 x8 x9 : Value) (h : H) (Kn : H → Prop) (Kr : H → Prop) (Ke0 : H → Prop) : Prop :=
  sloop (S := Value × Value × Value × Value × Value × Value) (fun s h K => F327_3 s.1 s.2.1 s.2.2.1 s.2.2.2.1 s.2.2.2.2.1 s.2.2.2.2.2 h (fun y0 y1 y2 y3 y8 y9 h => K (y0, y1, y2, y3, y8, y9) h) Kr Ke0) (x0, x1, x2, x3, x8, x9) h
theorem F327_2_ok (Kn Kr Ke0) (t : T) (h : H) (H0 : F327_2 (t 0) (t 1) (t 2) (t 3) (t 8) (t 9) h Kn Kr Ke0) : Wp Tryz.prog 134 (blkC (rest 2 (bodyOf Tryz.f327.body))) (mkQ (fun t h => Kn  h) (fun t h => Kr  h) (keAdd 0 (fun t h => Ke0  h) ke0)) t h :=
  loop_ok (fun t => (t 0, t 1, t 2, t 3, t 8, t 9)) (by kernel_rfl) (fun t h K H1 => F327_3_ok (fun y0 y1 y2 y3 y8 y9 h => K (y0, y1, y2, y3, y8, y9) h) Kr Ke0 t h H1) H0
def F327_1 (x0 x1 x2 x3 x8 x9 : Value) (h : H) (Kn : H → Prop) (Kr : H → Prop) : Prop :=
  F327_2 x0 x1 x2 x3 x8 x9 h Kn Kr Kn
theorem F327_1_ok (Kn Kr) (t : T) (h : H) (H0 : F327_1 (t 0) (t 1) (t 2) (t 3) (t 8) (t 9) h Kn Kr) : Wp Tryz.prog 134 (rest 2 (bodyOf Tryz.f327.body)) (mkQ (fun t h => Kn  h) (fun t h => Kr  h) ke0) t h :=
  block_ok 0 (by kernel_rfl) (by kernel_rfl) (F327_2_ok Kn Kr Kn t h H0)
def F327_0 (x0 x1 x2 x3 : Value) (h : H) (Kn : H → Prop) (Kr : H → Prop) : Prop :=
  F327_1 x0 x1 x2 x3 (.bool true) (.bool true) h Kn Kr
theorem F327_0_ok (Kn Kr) (t : T) (h : H) (H0 : F327_0 (t 0) (t 1) (t 2) (t 3) h Kn Kr) : Wp Tryz.prog 134 (bodyOf Tryz.f327.body) (mkQ (fun t h => Kn  h) (fun t h => Kr  h) ke0) t h :=
  awpTo_okF 2 H0 (by kernel_rfl) (fun t h (H1 : F327_1 (t 0) (t 1) (t 2) (t 3) (t 8) (t 9) h Kn Kr) => F327_1_ok Kn Kr t h H1) (by kernel_rfl)
def F327 (x0 x1 x2 x3 : Value) (h : H) (Q : VP1) : Prop := F327_0 x0 x1 x2 x3 h (fun h => bif [].all boxV then Q (.tuple #[]) h else False) (fun h => bif [].all boxV then Q (.tuple #[]) h else False)
theorem F327_spec (x0 x1 x2 x3 : Value) (h : H) (Q : VP1) (H0 : F327 x0 x1 x2 x3 h Q) : AM.Spec Tryz.prog 327 [x0, x1, x2, x3] h Q :=
  spec_wp mixed (fn := Tryz.f327) Tryz.func327 (c := bodyOf Tryz.f327.body) (rs := []) (N := 134) (by kernel_rfl) (by kernel_rfl) (by kernel_rfl) (by kernel_rfl) (by kernel_rfl) (Nat.le_of_ble_eq_true rfl) (F327_0_ok (fun h => bif [].all boxV then Q (.tuple #[]) h else False) (fun h => bif [].all boxV then Q (.tuple #[]) h else False) (tinit [x0, x1, x2, x3]) h H0) (by kernel_rfl)
/-! #### 295: slices.Sort[[]uint32,uint32] -/
def F295_0 (x0 : Value) (h : H) (Kn : H → Prop) (Kr : H → Prop) : Prop :=
  o_lenSl x0 fun v4 => o_conv .u64 v4 fun v8 => o_call Tryz.prog 328 [v8] h fun v9 h => o_call Tryz.prog 327 [x0, (.int .i64 0), v4, v9] h fun v10 h => Kn h
theorem F295_0_ok (Kn Kr) (t : T) (h : H) (H0 : F295_0 (t 0) h Kn Kr) : Wp Tryz.prog 11 (bodyOf Tryz.f295.body) (mkQ (fun t h => Kn  h) (fun t h => Kr  h) ke0) t h :=
  wpEqF H0 (by kernel_rfl)
def F295 (x0 : Value) (h : H) (Q : VP1) : Prop := F295_0 x0 h (fun h => bif [].all boxV then Q (.tuple #[]) h else False) (fun h => bif [].all boxV then Q (.tuple #[]) h else False)
theorem F295_spec (x0 : Value) (h : H) (Q : VP1) (H0 : F295 x0 h Q) : AM.Spec Tryz.prog 295 [x0] h Q :=
  spec_wp mixed (fn := Tryz.f295) Tryz.func295 (c := bodyOf Tryz.f295.body) (rs := []) (N := 11) (by kernel_rfl) (by kernel_rfl) (by kernel_rfl) (by kernel_rfl) (by kernel_rfl) (Nat.le_of_ble_eq_true rfl) (F295_0_ok (fun h => bif [].all boxV then Q (.tuple #[]) h else False) (fun h => bif [].all boxV then Q (.tuple #[]) h else False) (tinit [x0]) h H0) (by kernel_rfl)
end Go.Proofs.YtjdhldfeflmneaaGreat
