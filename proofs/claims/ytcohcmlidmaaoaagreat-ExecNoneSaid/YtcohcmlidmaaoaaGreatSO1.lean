/-
  The functions of the sort of numbers, taken apart; printed by a program (gen.py).
-/
import Derived.Test.YtcohcmlidmaaoaaGreatSO0
import Derived.KernelRfl
set_option linter.unusedVariables false
set_option maxRecDepth 100000
namespace Go.Proofs.YtcohcmlidmaaoaaGreat
open Go.Proofs.YtcohcmlidmaaoaaGreat.AM
abbrev q0 (K : H → Prop) : T → H → Prop := fun t h => K  h
abbrev q1 (K : Value → H → Prop) (a0 : Nat) : T → H → Prop := fun t h => K (t a0) h
abbrev q2 (K : Value → Value → H → Prop) (a0 a1 : Nat) : T → H → Prop := fun t h => K (t a0) (t a1) h
abbrev q3 (K : Value → Value → Value → H → Prop) (a0 a1 a2 : Nat) : T → H → Prop := fun t h => K (t a0) (t a1) (t a2) h
abbrev q4 (K : Value → Value → Value → Value → H → Prop) (a0 a1 a2 a3 : Nat) : T → H → Prop := fun t h => K (t a0) (t a1) (t a2) (t a3) h
abbrev q5 (K : Value → Value → Value → Value → Value → H → Prop) (a0 a1 a2 a3 a4 : Nat) : T → H → Prop := fun t h => K (t a0) (t a1) (t a2) (t a3) (t a4) h
abbrev q6 (K : Value → Value → Value → Value → Value → Value → H → Prop) (a0 a1 a2 a3 a4 a5 : Nat) : T → H → Prop := fun t h => K (t a0) (t a1) (t a2) (t a3) (t a4) (t a5) h
abbrev q7 (K : Value → Value → Value → Value → Value → Value → Value → H → Prop) (a0 a1 a2 a3 a4 a5 a6 : Nat) : T → H → Prop := fun t h => K (t a0) (t a1) (t a2) (t a3) (t a4) (t a5) (t a6) h
abbrev q8 (K : Value → Value → Value → Value → Value → Value → Value → Value → H → Prop) (a0 a1 a2 a3 a4 a5 a6 a7 : Nat) : T → H → Prop := fun t h => K (t a0) (t a1) (t a2) (t a3) (t a4) (t a5) (t a6) (t a7) h
abbrev q9 (K : Value → Value → Value → Value → Value → Value → Value → Value → Value → H → Prop) (a0 a1 a2 a3 a4 a5 a6 a7 a8 : Nat) : T → H → Prop := fun t h => K (t a0) (t a1) (t a2) (t a3) (t a4) (t a5) (t a6) (t a7) (t a8) h
abbrev VP1 := Value → H → Prop
abbrev VP2 := Value → Value → H → Prop
abbrev VP3 := Value → Value → Value → H → Prop
abbrev VP4 := Value → Value → Value → Value → H → Prop
abbrev VP5 := Value → Value → Value → Value → Value → H → Prop
abbrev VP6 := Value → Value → Value → Value → Value → Value → H → Prop
abbrev VP7 := Value → Value → Value → Value → Value → Value → Value → H → Prop
abbrev VP8 := Value → Value → Value → Value → Value → Value → Value → Value → H → Prop
abbrev VP9 := Value → Value → Value → Value → Value → Value → Value → Value → Value → H → Prop
/-! #### 173: slices.insertionSortOrdered[uint32] -/
def F173_11 (x0 x1 x2 x6 x7 : Value) (h : H) (Kn : VP6) (Kr : H → Prop) (Ke2 : VP4) (Ke1 : VP4) (Ke0 : H → Prop) : Prop :=
  o_bin Tryz.prog .gtr 3 x7 x1 fun v18 => o_guard v18 true (fun k4 => k4 x0 h) (fun v20 h => o_guard v18 true (fun k5 => k5 x7 h) (fun v21 h => o_guard v18 true (fun k6 => o_indexAddr none 1 v20 v21 fun v22 => k6 v22 h) (fun v22 h => o_guard v18 true (fun k7 => o_load false 1 v22 h fun v23 => k7 v23 h) (fun v23 h => o_guard v18 true (fun k8 => k8 x0 h) (fun v24 h => o_guard v18 true (fun k9 => k9 x7 h) (fun v25 h => o_guard v18 true (fun k10 => o_bin Tryz.prog .sub 3 v25 (.int .i64 1) fun v26 => k10 v26 h) (fun v26 h => o_guard v18 true (fun k11 => o_indexAddr none 1 v24 v26 fun v27 => k11 v27 h) (fun v27 h => o_guard v18 true (fun k12 => o_load false 1 v27 h fun v28 => k12 v28 h) (fun v28 h => o_guard v18 true (fun k13 => o_dcall DS 179 [v23, v28] h fun v29 h => k13 v29 h) (fun v29 h => o_pick v18 v29 (.bool false) fun v30 => Kn x0 x1 x2 x6 x7 v30 h) h) h) h) h) h) h) h) h) h) h
theorem F173_11_ok (Kn Kr Ke2 Ke1 Ke0) (t : T) (h : H) (H0 : F173_11 (t 0) (t 1) (t 2) (t 6) (t 7) h Kn Kr Ke2 Ke1 Ke0) : Wp Tryz.prog 49 (seqL (seqL (lopC (blkC (rest 1 (blkC (seqL (rest 1 (lopC (blkC (rest 1 (bodyOf Tryz.f173.body)))))))))))) (mkQ (q6 Kn 0 1 2 6 7 30) (q0 Kr) (keAdd 2 (q4 Ke2 0 1 2 6) (keAdd 1 (q4 Ke1 0 1 2 6) (keAdd 0 (q0 Ke0) ke0)))) t h :=
  drawD_ok dsOk (by kernel_rfl) (by kernel_rfl) H0 (by kernel_rfl)
def F173_12 (x0 x1 x2 x6 x7 x30 : Value) (h : H) (Kn : VP5) (Kr : H → Prop) (Ke2 : VP4) (Ke1 : VP4) (Ke0 : H → Prop) : Prop :=
  o_if x30 (Kn x0 x1 x2 x6 x7 h) (Ke2 x0 x1 x2 x6 h)
theorem F173_12_ok (Kn Kr Ke2 Ke1 Ke0) (t : T) (h : H) (H0 : F173_12 (t 0) (t 1) (t 2) (t 6) (t 7) (t 30) h Kn Kr Ke2 Ke1 Ke0) : Wp Tryz.prog 49 (seqR (seqL (lopC (blkC (rest 1 (blkC (seqL (rest 1 (lopC (blkC (rest 1 (bodyOf Tryz.f173.body)))))))))))) (mkQ (q5 Kn 0 1 2 6 7) (q0 Kr) (keAdd 2 (q4 Ke2 0 1 2 6) (keAdd 1 (q4 Ke1 0 1 2 6) (keAdd 0 (q0 Ke0) ke0)))) t h :=
  wpEqF H0 (by kernel_rfl)
def F173_10 (x0 x1 x2 x6 x7 : Value) (h : H) (Kn : VP5) (Kr : H → Prop) (Ke2 : VP4) (Ke1 : VP4) (Ke0 : H → Prop) : Prop :=
  F173_11 x0 x1 x2 x6 x7 h (fun y0 y1 y2 y6 y7 y30 h => F173_12 y0 y1 y2 y6 y7 y30 h Kn Kr Ke2 Ke1 Ke0) Kr Ke2 Ke1 Ke0
theorem F173_10_ok (Kn Kr Ke2 Ke1 Ke0) (t : T) (h : H) (H0 : F173_10 (t 0) (t 1) (t 2) (t 6) (t 7) h Kn Kr Ke2 Ke1 Ke0) : Wp Tryz.prog 49 (seqL (lopC (blkC (rest 1 (blkC (seqL (rest 1 (lopC (blkC (rest 1 (bodyOf Tryz.f173.body))))))))))) (mkQ (q5 Kn 0 1 2 6 7) (q0 Kr) (keAdd 2 (q4 Ke2 0 1 2 6) (keAdd 1 (q4 Ke1 0 1 2 6) (keAdd 0 (q0 Ke0) ke0)))) t h :=
  seq_ok (by kernel_rfl) (fun t h H1 => F173_12_ok Kn Kr Ke2 Ke1 Ke0 t h H1) (F173_11_ok (fun y0 y1 y2 y6 y7 y30 h => F173_12 y0 y1 y2 y6 y7 y30 h Kn Kr Ke2 Ke1 Ke0) Kr Ke2 Ke1 Ke0 t h H0)
def F173_15 (x0 x1 x2 x6 x7 : Value) (h : H) (Kn : VP5) (Kr : H → Prop) (Ke3 : VP5) (Ke2 : VP4) (Ke1 : VP4) (Ke0 : H → Prop) : Prop :=
  o_bin Tryz.prog .sub 3 x7 (.int .i64 1) fun v37 => o_bin Tryz.prog .sub 3 x7 (.int .i64 1) fun v40 => o_indexAddr none 1 x0 v40 fun v41 => o_load false 1 v41 h fun v42 => o_indexAddr none 1 x0 x7 fun v45 => o_load false 1 v45 h fun v46 => o_indexAddr none 1 x0 x7 fun v47 => o_store 1 v47 v42 h fun h => o_indexAddr none 1 x0 v37 fun v48 => o_store 1 v48 v46 h fun h => Kn x0 x1 x2 x6 x7 h
theorem F173_15_ok (Kn Kr Ke3 Ke2 Ke1 Ke0) (t : T) (h : H) (H0 : F173_15 (t 0) (t 1) (t 2) (t 6) (t 7) h Kn Kr Ke3 Ke2 Ke1 Ke0) : Wp Tryz.prog 49 (blkC (seqL (seqR (lopC (blkC (rest 1 (blkC (seqL (rest 1 (lopC (blkC (rest 1 (bodyOf Tryz.f173.body))))))))))))) (mkQ (q5 Kn 0 1 2 6 7) (q0 Kr) (keAdd 3 (q5 Ke3 0 1 2 6 7) (keAdd 2 (q4 Ke2 0 1 2 6) (keAdd 1 (q4 Ke1 0 1 2 6) (keAdd 0 (q0 Ke0) ke0))))) t h :=
  draw_okF (by kernel_rfl) (by kernel_rfl) H0 (by kernel_rfl)
def F173_14 (x0 x1 x2 x6 x7 : Value) (h : H) (Kn : VP5) (Kr : H → Prop) (Ke2 : VP4) (Ke1 : VP4) (Ke0 : H → Prop) : Prop :=
  F173_15 x0 x1 x2 x6 x7 h Kn Kr Kn Ke2 Ke1 Ke0
theorem F173_14_ok (Kn Kr Ke2 Ke1 Ke0) (t : T) (h : H) (H0 : F173_14 (t 0) (t 1) (t 2) (t 6) (t 7) h Kn Kr Ke2 Ke1 Ke0) : Wp Tryz.prog 49 (seqL (seqR (lopC (blkC (rest 1 (blkC (seqL (rest 1 (lopC (blkC (rest 1 (bodyOf Tryz.f173.body)))))))))))) (mkQ (q5 Kn 0 1 2 6 7) (q0 Kr) (keAdd 2 (q4 Ke2 0 1 2 6) (keAdd 1 (q4 Ke1 0 1 2 6) (keAdd 0 (q0 Ke0) ke0)))) t h :=
  block_ok 3 (by kernel_rfl) (by kernel_rfl) (F173_15_ok Kn Kr Kn Ke2 Ke1 Ke0 t h H0)
def F173_16 (x0 x1 x2 x6 x7 : Value) (h : H) (Kn : VP5) (Kr : H → Prop) (Ke2 : VP4) (Ke1 : VP4) (Ke0 : H → Prop) : Prop :=
  o_bin Tryz.prog .sub 3 x7 (.int .i64 1) fun v32 => Kn x0 x1 x2 x6 v32 h
theorem F173_16_ok (Kn Kr Ke2 Ke1 Ke0) (t : T) (h : H) (H0 : F173_16 (t 0) (t 1) (t 2) (t 6) (t 7) h Kn Kr Ke2 Ke1 Ke0) : Wp Tryz.prog 49 (seqR (seqR (lopC (blkC (rest 1 (blkC (seqL (rest 1 (lopC (blkC (rest 1 (bodyOf Tryz.f173.body)))))))))))) (mkQ (q5 Kn 0 1 2 6 7) (q0 Kr) (keAdd 2 (q4 Ke2 0 1 2 6) (keAdd 1 (q4 Ke1 0 1 2 6) (keAdd 0 (q0 Ke0) ke0)))) t h :=
  wpEqF H0 (by kernel_rfl)
def F173_13 (x0 x1 x2 x6 x7 : Value) (h : H) (Kn : VP5) (Kr : H → Prop) (Ke2 : VP4) (Ke1 : VP4) (Ke0 : H → Prop) : Prop :=
  F173_14 x0 x1 x2 x6 x7 h (fun y0 y1 y2 y6 y7 h => F173_16 y0 y1 y2 y6 y7 h Kn Kr Ke2 Ke1 Ke0) Kr Ke2 Ke1 Ke0
theorem F173_13_ok (Kn Kr Ke2 Ke1 Ke0) (t : T) (h : H) (H0 : F173_13 (t 0) (t 1) (t 2) (t 6) (t 7) h Kn Kr Ke2 Ke1 Ke0) : Wp Tryz.prog 49 (seqR (lopC (blkC (rest 1 (blkC (seqL (rest 1 (lopC (blkC (rest 1 (bodyOf Tryz.f173.body))))))))))) (mkQ (q5 Kn 0 1 2 6 7) (q0 Kr) (keAdd 2 (q4 Ke2 0 1 2 6) (keAdd 1 (q4 Ke1 0 1 2 6) (keAdd 0 (q0 Ke0) ke0)))) t h :=
  seq_ok (by kernel_rfl) (fun t h H1 => F173_16_ok Kn Kr Ke2 Ke1 Ke0 t h H1) (F173_14_ok (fun y0 y1 y2 y6 y7 h => F173_16 y0 y1 y2 y6 y7 h Kn Kr Ke2 Ke1 Ke0) Kr Ke2 Ke1 Ke0 t h H0)
def F173_9 (x0 x1 x2 x6 x7 : Value) (h : H) (Kn : VP5) (Kr : H → Prop) (Ke2 : VP4) (Ke1 : VP4) (Ke0 : H → Prop) : Prop :=
  F173_10 x0 x1 x2 x6 x7 h (fun y0 y1 y2 y6 y7 h => F173_13 y0 y1 y2 y6 y7 h Kn Kr Ke2 Ke1 Ke0) Kr Ke2 Ke1 Ke0
theorem F173_9_ok (Kn Kr Ke2 Ke1 Ke0) (t : T) (h : H) (H0 : F173_9 (t 0) (t 1) (t 2) (t 6) (t 7) h Kn Kr Ke2 Ke1 Ke0) : Wp Tryz.prog 49 (lopC (blkC (rest 1 (blkC (seqL (rest 1 (lopC (blkC (rest 1 (bodyOf Tryz.f173.body)))))))))) (mkQ (q5 Kn 0 1 2 6 7) (q0 Kr) (keAdd 2 (q4 Ke2 0 1 2 6) (keAdd 1 (q4 Ke1 0 1 2 6) (keAdd 0 (q0 Ke0) ke0)))) t h :=
  seq_ok (by kernel_rfl) (fun t h H1 => F173_13_ok Kn Kr Ke2 Ke1 Ke0 t h H1) (F173_10_ok (fun y0 y1 y2 y6 y7 h => F173_13 y0 y1 y2 y6 y7 h Kn Kr Ke2 Ke1 Ke0) Kr Ke2 Ke1 Ke0 t h H0)
def F173_8 (x0 x1 x2 x6 x7 : Value) (h : H) (Kn : VP4) (Kr : H → Prop) (Ke2 : VP4) (Ke1 : VP4) (Ke0 : H → Prop) : Prop :=
  sloop (S := Value × Value × Value × Value × Value) (fun s h K => F173_9 s.1 s.2.1 s.2.2.1 s.2.2.2.1 s.2.2.2.2 h (fun y0 y1 y2 y6 y7 h => K (y0, y1, y2, y6, y7) h) Kr Ke2 Ke1 Ke0) (x0, x1, x2, x6, x7) h
theorem F173_8_ok (Kn Kr Ke2 Ke1 Ke0) (t : T) (h : H) (H0 : F173_8 (t 0) (t 1) (t 2) (t 6) (t 7) h Kn Kr Ke2 Ke1 Ke0) : Wp Tryz.prog 49 (blkC (rest 1 (blkC (seqL (rest 1 (lopC (blkC (rest 1 (bodyOf Tryz.f173.body))))))))) (mkQ (q4 Kn 0 1 2 6) (q0 Kr) (keAdd 2 (q4 Ke2 0 1 2 6) (keAdd 1 (q4 Ke1 0 1 2 6) (keAdd 0 (q0 Ke0) ke0)))) t h :=
  loop_ok (fun t => (t 0, t 1, t 2, t 6, t 7)) (by kernel_rfl) (fun t h K H1 => F173_9_ok (fun y0 y1 y2 y6 y7 h => K (y0, y1, y2, y6, y7) h) Kr Ke2 Ke1 Ke0 t h H1) H0
def F173_7 (x0 x1 x2 x6 x7 : Value) (h : H) (Kn : VP4) (Kr : H → Prop) (Ke1 : VP4) (Ke0 : H → Prop) : Prop :=
  F173_8 x0 x1 x2 x6 x7 h Kn Kr Kn Ke1 Ke0
theorem F173_7_ok (Kn Kr Ke1 Ke0) (t : T) (h : H) (H0 : F173_7 (t 0) (t 1) (t 2) (t 6) (t 7) h Kn Kr Ke1 Ke0) : Wp Tryz.prog 49 (rest 1 (blkC (seqL (rest 1 (lopC (blkC (rest 1 (bodyOf Tryz.f173.body)))))))) (mkQ (q4 Kn 0 1 2 6) (q0 Kr) (keAdd 1 (q4 Ke1 0 1 2 6) (keAdd 0 (q0 Ke0) ke0))) t h :=
  block_ok 2 (by kernel_rfl) (by kernel_rfl) (F173_8_ok Kn Kr Kn Ke1 Ke0 t h H0)
def F173_6 (x0 x1 x2 x6 : Value) (h : H) (Kn : VP4) (Kr : H → Prop) (Ke1 : VP4) (Ke0 : H → Prop) : Prop :=
  F173_7 x0 x1 x2 x6 x6 h Kn Kr Ke1 Ke0
theorem F173_6_ok (Kn Kr Ke1 Ke0) (t : T) (h : H) (H0 : F173_6 (t 0) (t 1) (t 2) (t 6) h Kn Kr Ke1 Ke0) : Wp Tryz.prog 49 (blkC (seqL (rest 1 (lopC (blkC (rest 1 (bodyOf Tryz.f173.body))))))) (mkQ (q4 Kn 0 1 2 6) (q0 Kr) (keAdd 1 (q4 Ke1 0 1 2 6) (keAdd 0 (q0 Ke0) ke0))) t h :=
  awpTo_okF 1 H0 (by kernel_rfl) (fun t h (H1 : F173_7 (t 0) (t 1) (t 2) (t 6) (t 7) h Kn Kr Ke1 Ke0) => F173_7_ok Kn Kr Ke1 Ke0 t h H1) (by kernel_rfl)
def F173_5 (x0 x1 x2 x6 : Value) (h : H) (Kn : VP4) (Kr : H → Prop) (Ke0 : H → Prop) : Prop :=
  F173_6 x0 x1 x2 x6 h Kn Kr Kn Ke0
theorem F173_5_ok (Kn Kr Ke0) (t : T) (h : H) (H0 : F173_5 (t 0) (t 1) (t 2) (t 6) h Kn Kr Ke0) : Wp Tryz.prog 49 (seqL (rest 1 (lopC (blkC (rest 1 (bodyOf Tryz.f173.body)))))) (mkQ (q4 Kn 0 1 2 6) (q0 Kr) (keAdd 0 (q0 Ke0) ke0)) t h :=
  block_ok 1 (by kernel_rfl) (by kernel_rfl) (F173_6_ok Kn Kr Kn Ke0 t h H0)
def F173_17 (x0 x1 x2 x6 : Value) (h : H) (Kn : VP4) (Kr : H → Prop) (Ke0 : H → Prop) : Prop :=
  o_bin Tryz.prog .add 3 x6 (.int .i64 1) fun v14 => Kn x0 x1 x2 v14 h
theorem F173_17_ok (Kn Kr Ke0) (t : T) (h : H) (H0 : F173_17 (t 0) (t 1) (t 2) (t 6) h Kn Kr Ke0) : Wp Tryz.prog 49 (seqR (rest 1 (lopC (blkC (rest 1 (bodyOf Tryz.f173.body)))))) (mkQ (q4 Kn 0 1 2 6) (q0 Kr) (keAdd 0 (q0 Ke0) ke0)) t h :=
  wpEqF H0 (by kernel_rfl)
def F173_4 (x0 x1 x2 x6 : Value) (h : H) (Kn : VP4) (Kr : H → Prop) (Ke0 : H → Prop) : Prop :=
  F173_5 x0 x1 x2 x6 h (fun y0 y1 y2 y6 h => F173_17 y0 y1 y2 y6 h Kn Kr Ke0) Kr Ke0
theorem F173_4_ok (Kn Kr Ke0) (t : T) (h : H) (H0 : F173_4 (t 0) (t 1) (t 2) (t 6) h Kn Kr Ke0) : Wp Tryz.prog 49 (rest 1 (lopC (blkC (rest 1 (bodyOf Tryz.f173.body))))) (mkQ (q4 Kn 0 1 2 6) (q0 Kr) (keAdd 0 (q0 Ke0) ke0)) t h :=
  seq_ok (by kernel_rfl) (fun t h H1 => F173_17_ok Kn Kr Ke0 t h H1) (F173_5_ok (fun y0 y1 y2 y6 h => F173_17 y0 y1 y2 y6 h Kn Kr Ke0) Kr Ke0 t h H0)
def F173_3 (x0 x1 x2 x6 : Value) (h : H) (Kn : VP4) (Kr : H → Prop) (Ke0 : H → Prop) : Prop :=
  o_bin Tryz.prog .lss 3 x6 x2 fun v12 => o_if v12 (F173_4 x0 x1 x2 x6 h Kn Kr Ke0) (Ke0 h)
theorem F173_3_ok (Kn Kr Ke0) (t : T) (h : H) (H0 : F173_3 (t 0) (t 1) (t 2) (t 6) h Kn Kr Ke0) : Wp Tryz.prog 49 (lopC (blkC (rest 1 (bodyOf Tryz.f173.body)))) (mkQ (q4 Kn 0 1 2 6) (q0 Kr) (keAdd 0 (q0 Ke0) ke0)) t h :=
  awpTo_okF 1 H0 (by kernel_rfl) (fun t h (H1 : F173_4 (t 0) (t 1) (t 2) (t 6) h Kn Kr Ke0) => F173_4_ok Kn Kr Ke0 t h H1) (by kernel_rfl)
def F173_2 (x0 x1 x2 x6 : Value) (h : H) (Kn : H → Prop) (Kr : H → Prop) (Ke0 : H → Prop) : Prop :=
  sloop (S := Value × Value × Value × Value) (fun s h K => F173_3 s.1 s.2.1 s.2.2.1 s.2.2.2 h (fun y0 y1 y2 y6 h => K (y0, y1, y2, y6) h) Kr Ke0) (x0, x1, x2, x6) h
theorem F173_2_ok (Kn Kr Ke0) (t : T) (h : H) (H0 : F173_2 (t 0) (t 1) (t 2) (t 6) h Kn Kr Ke0) : Wp Tryz.prog 49 (blkC (rest 1 (bodyOf Tryz.f173.body))) (mkQ (q0 Kn) (q0 Kr) (keAdd 0 (q0 Ke0) ke0)) t h :=
  loop_ok (fun t => (t 0, t 1, t 2, t 6)) (by kernel_rfl) (fun t h K H1 => F173_3_ok (fun y0 y1 y2 y6 h => K (y0, y1, y2, y6) h) Kr Ke0 t h H1) H0
def F173_1 (x0 x1 x2 x6 : Value) (h : H) (Kn : H → Prop) (Kr : H → Prop) : Prop :=
  F173_2 x0 x1 x2 x6 h Kn Kr Kn
theorem F173_1_ok (Kn Kr) (t : T) (h : H) (H0 : F173_1 (t 0) (t 1) (t 2) (t 6) h Kn Kr) : Wp Tryz.prog 49 (rest 1 (bodyOf Tryz.f173.body)) (mkQ (q0 Kn) (q0 Kr) ke0) t h :=
  block_ok 0 (by kernel_rfl) (by kernel_rfl) (F173_2_ok Kn Kr Kn t h H0)
def F173_0 (x0 x1 x2 : Value) (h : H) (Kn : H → Prop) (Kr : H → Prop) : Prop :=
  o_bin Tryz.prog .add 3 x1 (.int .i64 1) fun v9 => F173_1 x0 x1 x2 v9 h Kn Kr
theorem F173_0_ok (Kn Kr) (t : T) (h : H) (H0 : F173_0 (t 0) (t 1) (t 2) h Kn Kr) : Wp Tryz.prog 49 (bodyOf Tryz.f173.body) (mkQ (q0 Kn) (q0 Kr) ke0) t h :=
  awpTo_okF 1 H0 (by kernel_rfl) (fun t h (H1 : F173_1 (t 0) (t 1) (t 2) (t 6) h Kn Kr) => F173_1_ok Kn Kr t h H1) (by kernel_rfl)
def F173 (x0 x1 x2 : Value) (h : H) (Q : VP1) : Prop := F173_0 x0 x1 x2 h (fun h => bif [].all boxV then Q (.tuple #[]) h else False) (fun h => bif [].all boxV then Q (.tuple #[]) h else False)
theorem F173_spec (x0 x1 x2 : Value) (h : H) (Q : VP1) (H0 : F173 x0 x1 x2 h Q) : AM.Spec Tryz.prog 173 [x0, x1, x2] h Q :=
  spec_wp mixed (fn := Tryz.f173) Tryz.func173 (c := bodyOf Tryz.f173.body) (rs := []) (N := 49) (by kernel_rfl) (by kernel_rfl) (by kernel_rfl) (by kernel_rfl) (by kernel_rfl) (Nat.le_of_ble_eq_true rfl) (F173_0_ok (fun h => bif [].all boxV then Q (.tuple #[]) h else False) (fun h => bif [].all boxV then Q (.tuple #[]) h else False) (tinit [x0, x1, x2]) h H0) (by kernel_rfl)
def F185_7 (x0 x2 x3 x8 x9 : Value) (h : H) (Kn : VP6) (Kr : H → Prop) (Ke1 : VP4) (Ke0 : H → Prop) : Prop :=
  o_bin Tryz.prog .add 3 x9 (.int .i64 1) fun v18 => o_bin Tryz.prog .lss 3 v18 x2 fun v20 => o_guard v20 true (fun k5 => k5 x0 h) (fun v22 h => o_guard v20 true (fun k6 => k6 x3 h) (fun v23 h => o_guard v20 true (fun k7 => k7 x9 h) (fun v24 h => o_guard v20 true (fun k8 => o_bin Tryz.prog .add 3 v23 v24 fun v25 => k8 v25 h) (fun v25 h => o_guard v20 true (fun k9 => o_indexAddr none 1 v22 v25 fun v26 => k9 v26 h) (fun v26 h => o_guard v20 true (fun k10 => o_load false 1 v26 h fun v27 => k10 v27 h) (fun v27 h => o_guard v20 true (fun k11 => k11 x0 h) (fun v28 h => o_guard v20 true (fun k12 => k12 x3 h) (fun v29 h => o_guard v20 true (fun k13 => k13 x9 h) (fun v30 h => o_guard v20 true (fun k14 => o_bin Tryz.prog .add 3 v29 v30 fun v31 => k14 v31 h) (fun v31 h => o_guard v20 true (fun k15 => o_bin Tryz.prog .add 3 v31 (.int .i64 1) fun v32 => k15 v32 h) (fun v32 h => o_guard v20 true (fun k16 => o_indexAddr none 1 v28 v32 fun v33 => k16 v33 h) (fun v33 h => o_guard v20 true (fun k17 => o_load false 1 v33 h fun v34 => k17 v34 h) (fun v34 h => o_guard v20 true (fun k18 => o_dcall DS 179 [v27, v34] h fun v35 h => k18 v35 h) (fun v35 h => o_pick v20 v35 (.bool false) fun v36 => Kn x0 x2 x3 x8 x9 v36 h) h) h) h) h) h) h) h) h) h) h) h) h) h) h
theorem F185_7_ok (Kn Kr Ke1 Ke0) (t : T) (h : H) (H0 : F185_7 (t 0) (t 2) (t 3) (t 8) (t 9) h Kn Kr Ke1 Ke0) : Wp Tryz.prog 76 (seqL (seqL (rest 2 (blkC (lopC (blkC (rest 1 (bodyOf Tryz.f185.body)))))))) (mkQ (q6 Kn 0 2 3 8 9 36) (q0 Kr) (keAdd 1 (q4 Ke1 0 2 3 8) (keAdd 0 (q0 Ke0) ke0))) t h :=
  drawD_ok dsOk (by kernel_rfl) (by kernel_rfl) H0 (by kernel_rfl)
def F185_8 (x0 x2 x3 x8 x9 x36 : Value) (h : H) (Kn : VP5) (Kr : H → Prop) (Ke1 : VP4) (Ke0 : H → Prop) : Prop :=
  o_if x36 (o_bin Tryz.prog .add 3 x9 (.int .i64 1) fun v38 => Kn x0 x2 x3 x8 v38 h) (Kn x0 x2 x3 x8 x9 h)
theorem F185_8_ok (Kn Kr Ke1 Ke0) (t : T) (h : H) (H0 : F185_8 (t 0) (t 2) (t 3) (t 8) (t 9) (t 36) h Kn Kr Ke1 Ke0) : Wp Tryz.prog 76 (seqR (seqL (rest 2 (blkC (lopC (blkC (rest 1 (bodyOf Tryz.f185.body)))))))) (mkQ (q5 Kn 0 2 3 8 9) (q0 Kr) (keAdd 1 (q4 Ke1 0 2 3 8) (keAdd 0 (q0 Ke0) ke0))) t h :=
  wpEqF H0 (by kernel_rfl)
def F185_6 (x0 x2 x3 x8 x9 : Value) (h : H) (Kn : VP5) (Kr : H → Prop) (Ke1 : VP4) (Ke0 : H → Prop) : Prop :=
  F185_7 x0 x2 x3 x8 x9 h (fun y0 y2 y3 y8 y9 y36 h => F185_8 y0 y2 y3 y8 y9 y36 h Kn Kr Ke1 Ke0) Kr Ke1 Ke0
theorem F185_6_ok (Kn Kr Ke1 Ke0) (t : T) (h : H) (H0 : F185_6 (t 0) (t 2) (t 3) (t 8) (t 9) h Kn Kr Ke1 Ke0) : Wp Tryz.prog 76 (seqL (rest 2 (blkC (lopC (blkC (rest 1 (bodyOf Tryz.f185.body))))))) (mkQ (q5 Kn 0 2 3 8 9) (q0 Kr) (keAdd 1 (q4 Ke1 0 2 3 8) (keAdd 0 (q0 Ke0) ke0))) t h :=
  seq_ok (by kernel_rfl) (fun t h H1 => F185_8_ok Kn Kr Ke1 Ke0 t h H1) (F185_7_ok (fun y0 y2 y3 y8 y9 y36 h => F185_8 y0 y2 y3 y8 y9 y36 h Kn Kr Ke1 Ke0) Kr Ke1 Ke0 t h H0)
def F185_11 (x0 x2 x3 x8 x9 : Value) (h : H) (Kn : VP6) (Kr : H → Prop) (Ke1 : VP4) (Ke0 : H → Prop) : Prop :=
  o_bin Tryz.prog .add 3 x3 x8 fun v42 => o_indexAddr none 1 x0 v42 fun v43 => o_load false 1 v43 h fun v44 => o_bin Tryz.prog .add 3 x3 x9 fun v48 => o_indexAddr none 1 x0 v48 fun v49 => o_load false 1 v49 h fun v50 => o_dcall DS 179 [v44, v50] h fun v51 h => o_un Tryz.prog .not v51 fun v52 => Kn x0 x2 x3 x8 x9 v52 h
theorem F185_11_ok (Kn Kr Ke1 Ke0) (t : T) (h : H) (H0 : F185_11 (t 0) (t 2) (t 3) (t 8) (t 9) h Kn Kr Ke1 Ke0) : Wp Tryz.prog 76 (seqL (seqL (seqR (rest 2 (blkC (lopC (blkC (rest 1 (bodyOf Tryz.f185.body))))))))) (mkQ (q6 Kn 0 2 3 8 9 52) (q0 Kr) (keAdd 1 (q4 Ke1 0 2 3 8) (keAdd 0 (q0 Ke0) ke0))) t h :=
  drawD_ok dsOk (by kernel_rfl) (by kernel_rfl) H0 (by kernel_rfl)
def F185_12 (x0 x2 x3 x8 x9 x52 : Value) (h : H) (Kn : VP5) (Kr : H → Prop) (Ke1 : VP4) (Ke0 : H → Prop) : Prop :=
  o_if x52 (Kr h) (Kn x0 x2 x3 x8 x9 h)
theorem F185_12_ok (Kn Kr Ke1 Ke0) (t : T) (h : H) (H0 : F185_12 (t 0) (t 2) (t 3) (t 8) (t 9) (t 52) h Kn Kr Ke1 Ke0) : Wp Tryz.prog 76 (seqR (seqL (seqR (rest 2 (blkC (lopC (blkC (rest 1 (bodyOf Tryz.f185.body))))))))) (mkQ (q5 Kn 0 2 3 8 9) (q0 Kr) (keAdd 1 (q4 Ke1 0 2 3 8) (keAdd 0 (q0 Ke0) ke0))) t h :=
  wpEqF H0 (by kernel_rfl)
def F185_10 (x0 x2 x3 x8 x9 : Value) (h : H) (Kn : VP5) (Kr : H → Prop) (Ke1 : VP4) (Ke0 : H → Prop) : Prop :=
  F185_11 x0 x2 x3 x8 x9 h (fun y0 y2 y3 y8 y9 y52 h => F185_12 y0 y2 y3 y8 y9 y52 h Kn Kr Ke1 Ke0) Kr Ke1 Ke0
theorem F185_10_ok (Kn Kr Ke1 Ke0) (t : T) (h : H) (H0 : F185_10 (t 0) (t 2) (t 3) (t 8) (t 9) h Kn Kr Ke1 Ke0) : Wp Tryz.prog 76 (seqL (seqR (rest 2 (blkC (lopC (blkC (rest 1 (bodyOf Tryz.f185.body)))))))) (mkQ (q5 Kn 0 2 3 8 9) (q0 Kr) (keAdd 1 (q4 Ke1 0 2 3 8) (keAdd 0 (q0 Ke0) ke0))) t h :=
  seq_ok (by kernel_rfl) (fun t h H1 => F185_12_ok Kn Kr Ke1 Ke0 t h H1) (F185_11_ok (fun y0 y2 y3 y8 y9 y52 h => F185_12 y0 y2 y3 y8 y9 y52 h Kn Kr Ke1 Ke0) Kr Ke1 Ke0 t h H0)
def F185_14 (x0 x2 x3 x8 x9 : Value) (h : H) (Kn : VP4) (Kr : H → Prop) (Ke1 : VP4) (Ke0 : H → Prop) : Prop :=
  o_bin Tryz.prog .add 3 x3 x8 fun v56 => o_bin Tryz.prog .add 3 x3 x9 fun v60 => o_bin Tryz.prog .add 3 x3 x9 fun v64 => o_indexAddr none 1 x0 v64 fun v65 => o_load false 1 v65 h fun v66 => o_bin Tryz.prog .add 3 x3 x8 fun v70 => o_indexAddr none 1 x0 v70 fun v71 => o_load false 1 v71 h fun v72 => o_indexAddr none 1 x0 v56 fun v73 => o_store 1 v73 v66 h fun h => o_indexAddr none 1 x0 v60 fun v74 => o_store 1 v74 v72 h fun h => Kn x0 x2 x3 x9 h
theorem F185_14_ok (Kn Kr Ke1 Ke0) (t : T) (h : H) (H0 : F185_14 (t 0) (t 2) (t 3) (t 8) (t 9) h Kn Kr Ke1 Ke0) : Wp Tryz.prog 76 (seqL (seqR (seqR (rest 2 (blkC (lopC (blkC (rest 1 (bodyOf Tryz.f185.body))))))))) (mkQ (q4 Kn 0 2 3 9) (q0 Kr) (keAdd 1 (q4 Ke1 0 2 3 8) (keAdd 0 (q0 Ke0) ke0))) t h :=
  draw_okF (by kernel_rfl) (by kernel_rfl) H0 (by kernel_rfl)
def F185_15 (x0 x2 x3 x9 : Value) (h : H) (Kn : VP4) (Kr : H → Prop) (Ke1 : VP4) (Ke0 : H → Prop) : Prop :=
  Kn x0 x2 x3 x9 h
theorem F185_15_ok (Kn Kr Ke1 Ke0) (t : T) (h : H) (H0 : F185_15 (t 0) (t 2) (t 3) (t 9) h Kn Kr Ke1 Ke0) : Wp Tryz.prog 76 (seqR (seqR (seqR (rest 2 (blkC (lopC (blkC (rest 1 (bodyOf Tryz.f185.body))))))))) (mkQ (q4 Kn 0 2 3 8) (q0 Kr) (keAdd 1 (q4 Ke1 0 2 3 8) (keAdd 0 (q0 Ke0) ke0))) t h :=
  wpEqF H0 (by kernel_rfl)
def F185_13 (x0 x2 x3 x8 x9 : Value) (h : H) (Kn : VP4) (Kr : H → Prop) (Ke1 : VP4) (Ke0 : H → Prop) : Prop :=
  F185_14 x0 x2 x3 x8 x9 h (fun y0 y2 y3 y9 h => F185_15 y0 y2 y3 y9 h Kn Kr Ke1 Ke0) Kr Ke1 Ke0
theorem F185_13_ok (Kn Kr Ke1 Ke0) (t : T) (h : H) (H0 : F185_13 (t 0) (t 2) (t 3) (t 8) (t 9) h Kn Kr Ke1 Ke0) : Wp Tryz.prog 76 (seqR (seqR (rest 2 (blkC (lopC (blkC (rest 1 (bodyOf Tryz.f185.body)))))))) (mkQ (q4 Kn 0 2 3 8) (q0 Kr) (keAdd 1 (q4 Ke1 0 2 3 8) (keAdd 0 (q0 Ke0) ke0))) t h :=
  seq_ok (by kernel_rfl) (fun t h H1 => F185_15_ok Kn Kr Ke1 Ke0 t h H1) (F185_14_ok (fun y0 y2 y3 y9 h => F185_15 y0 y2 y3 y9 h Kn Kr Ke1 Ke0) Kr Ke1 Ke0 t h H0)
def F185_9 (x0 x2 x3 x8 x9 : Value) (h : H) (Kn : VP4) (Kr : H → Prop) (Ke1 : VP4) (Ke0 : H → Prop) : Prop :=
  F185_10 x0 x2 x3 x8 x9 h (fun y0 y2 y3 y8 y9 h => F185_13 y0 y2 y3 y8 y9 h Kn Kr Ke1 Ke0) Kr Ke1 Ke0
theorem F185_9_ok (Kn Kr Ke1 Ke0) (t : T) (h : H) (H0 : F185_9 (t 0) (t 2) (t 3) (t 8) (t 9) h Kn Kr Ke1 Ke0) : Wp Tryz.prog 76 (seqR (rest 2 (blkC (lopC (blkC (rest 1 (bodyOf Tryz.f185.body))))))) (mkQ (q4 Kn 0 2 3 8) (q0 Kr) (keAdd 1 (q4 Ke1 0 2 3 8) (keAdd 0 (q0 Ke0) ke0))) t h :=
  seq_ok (by kernel_rfl) (fun t h H1 => F185_13_ok Kn Kr Ke1 Ke0 t h H1) (F185_10_ok (fun y0 y2 y3 y8 y9 h => F185_13 y0 y2 y3 y8 y9 h Kn Kr Ke1 Ke0) Kr Ke1 Ke0 t h H0)
def F185_5 (x0 x2 x3 x8 x9 : Value) (h : H) (Kn : VP4) (Kr : H → Prop) (Ke1 : VP4) (Ke0 : H → Prop) : Prop :=
  F185_6 x0 x2 x3 x8 x9 h (fun y0 y2 y3 y8 y9 h => F185_9 y0 y2 y3 y8 y9 h Kn Kr Ke1 Ke0) Kr Ke1 Ke0
theorem F185_5_ok (Kn Kr Ke1 Ke0) (t : T) (h : H) (H0 : F185_5 (t 0) (t 2) (t 3) (t 8) (t 9) h Kn Kr Ke1 Ke0) : Wp Tryz.prog 76 (rest 2 (blkC (lopC (blkC (rest 1 (bodyOf Tryz.f185.body)))))) (mkQ (q4 Kn 0 2 3 8) (q0 Kr) (keAdd 1 (q4 Ke1 0 2 3 8) (keAdd 0 (q0 Ke0) ke0))) t h :=
  seq_ok (by kernel_rfl) (fun t h H1 => F185_9_ok Kn Kr Ke1 Ke0 t h H1) (F185_6_ok (fun y0 y2 y3 y8 y9 h => F185_9 y0 y2 y3 y8 y9 h Kn Kr Ke1 Ke0) Kr Ke1 Ke0 t h H0)
def F185_4 (x0 x2 x3 x8 : Value) (h : H) (Kn : VP4) (Kr : H → Prop) (Ke1 : VP4) (Ke0 : H → Prop) : Prop :=
  o_bin Tryz.prog .mul 3 (.int .i64 2) x8 fun v12 => o_bin Tryz.prog .add 3 v12 (.int .i64 1) fun v13 => o_bin Tryz.prog .geq 3 v13 x2 fun v16 => o_if v16 (Ke0 h) (F185_5 x0 x2 x3 x8 v13 h Kn Kr Ke1 Ke0)
theorem F185_4_ok (Kn Kr Ke1 Ke0) (t : T) (h : H) (H0 : F185_4 (t 0) (t 2) (t 3) (t 8) h Kn Kr Ke1 Ke0) : Wp Tryz.prog 76 (blkC (lopC (blkC (rest 1 (bodyOf Tryz.f185.body))))) (mkQ (q4 Kn 0 2 3 8) (q0 Kr) (keAdd 1 (q4 Ke1 0 2 3 8) (keAdd 0 (q0 Ke0) ke0))) t h :=
  awpTo_okF 2 H0 (by kernel_rfl) (fun t h (H1 : F185_5 (t 0) (t 2) (t 3) (t 8) (t 9) h Kn Kr Ke1 Ke0) => F185_5_ok Kn Kr Ke1 Ke0 t h H1) (by kernel_rfl)
def F185_3 (x0 x2 x3 x8 : Value) (h : H) (Kn : VP4) (Kr : H → Prop) (Ke0 : H → Prop) : Prop :=
  F185_4 x0 x2 x3 x8 h Kn Kr Kn Ke0
theorem F185_3_ok (Kn Kr Ke0) (t : T) (h : H) (H0 : F185_3 (t 0) (t 2) (t 3) (t 8) h Kn Kr Ke0) : Wp Tryz.prog 76 (lopC (blkC (rest 1 (bodyOf Tryz.f185.body)))) (mkQ (q4 Kn 0 2 3 8) (q0 Kr) (keAdd 0 (q0 Ke0) ke0)) t h :=
  block_ok 1 (by kernel_rfl) (by kernel_rfl) (F185_4_ok Kn Kr Kn Ke0 t h H0)
def F185_2 (x0 x2 x3 x8 : Value) (h : H) (Kn : H → Prop) (Kr : H → Prop) (Ke0 : H → Prop) : Prop :=
  sloop (S := Value × Value × Value × Value) (fun s h K => F185_3 s.1 s.2.1 s.2.2.1 s.2.2.2 h (fun y0 y2 y3 y8 h => K (y0, y2, y3, y8) h) Kr Ke0) (x0, x2, x3, x8) h
theorem F185_2_ok (Kn Kr Ke0) (t : T) (h : H) (H0 : F185_2 (t 0) (t 2) (t 3) (t 8) h Kn Kr Ke0) : Wp Tryz.prog 76 (blkC (rest 1 (bodyOf Tryz.f185.body))) (mkQ (q0 Kn) (q0 Kr) (keAdd 0 (q0 Ke0) ke0)) t h :=
  loop_ok (fun t => (t 0, t 2, t 3, t 8)) (by kernel_rfl) (fun t h K H1 => F185_3_ok (fun y0 y2 y3 y8 h => K (y0, y2, y3, y8) h) Kr Ke0 t h H1) H0
def F185_1 (x0 x2 x3 x8 : Value) (h : H) (Kn : H → Prop) (Kr : H → Prop) : Prop :=
  F185_2 x0 x2 x3 x8 h Kn Kr Kn
theorem F185_1_ok (Kn Kr) (t : T) (h : H) (H0 : F185_1 (t 0) (t 2) (t 3) (t 8) h Kn Kr) : Wp Tryz.prog 76 (rest 1 (bodyOf Tryz.f185.body)) (mkQ (q0 Kn) (q0 Kr) ke0) t h :=
  block_ok 0 (by kernel_rfl) (by kernel_rfl) (F185_2_ok Kn Kr Kn t h H0)
def F185_0 (x0 x1 x2 x3 : Value) (h : H) (Kn : H → Prop) (Kr : H → Prop) : Prop :=
  F185_1 x0 x2 x3 x1 h Kn Kr
theorem F185_0_ok (Kn Kr) (t : T) (h : H) (H0 : F185_0 (t 0) (t 1) (t 2) (t 3) h Kn Kr) : Wp Tryz.prog 76 (bodyOf Tryz.f185.body) (mkQ (q0 Kn) (q0 Kr) ke0) t h :=
  awpTo_okF 1 H0 (by kernel_rfl) (fun t h (H1 : F185_1 (t 0) (t 2) (t 3) (t 8) h Kn Kr) => F185_1_ok Kn Kr t h H1) (by kernel_rfl)
def F185 (x0 x1 x2 x3 : Value) (h : H) (Q : VP1) : Prop := F185_0 x0 x1 x2 x3 h (fun h => bif [].all boxV then Q (.tuple #[]) h else False) (fun h => bif [].all boxV then Q (.tuple #[]) h else False)
theorem F185_spec (x0 x1 x2 x3 : Value) (h : H) (Q : VP1) (H0 : F185 x0 x1 x2 x3 h Q) : AM.Spec Tryz.prog 185 [x0, x1, x2, x3] h Q :=
  spec_wp mixed (fn := Tryz.f185) Tryz.func185 (c := bodyOf Tryz.f185.body) (rs := []) (N := 76) (by kernel_rfl) (by kernel_rfl) (by kernel_rfl) (by kernel_rfl) (by kernel_rfl) (Nat.le_of_ble_eq_true rfl) (F185_0_ok (fun h => bif [].all boxV then Q (.tuple #[]) h else False) (fun h => bif [].all boxV then Q (.tuple #[]) h else False) (tinit [x0, x1, x2, x3]) h H0) (by kernel_rfl)
def F174_5 (x0 x6 x7 x8 x9 : Value) (h : H) (Kn : VP5) (Kr : H → Prop) (Ke0 : VP4) : Prop :=
  o_bin Tryz.prog .geq 3 x9 (.int .i64 0) fun v19 => o_if v19 (o_call Tryz.prog 185 [x0, x9, x8, x6] h fun v26 h => o_bin Tryz.prog .sub 3 x9 (.int .i64 1) fun v21 => Kn x0 x6 x7 x8 v21 h) (Ke0 x0 x6 x7 x8 h)
theorem F174_5_ok (Kn Kr Ke0) (t : T) (h : H) (H0 : F174_5 (t 0) (t 6) (t 7) (t 8) (t 9) h Kn Kr Ke0) : Wp Tryz.prog 56 (lopC (blkC (rest 1 (seqL (rest 3 (bodyOf Tryz.f174.body)))))) (mkQ (q5 Kn 0 6 7 8 9) (q0 Kr) (keAdd 0 (q4 Ke0 0 6 7 8) ke0)) t h :=
  wpEqF H0 (by kernel_rfl)
def F174_4 (x0 x6 x7 x8 x9 : Value) (h : H) (Kn : VP4) (Kr : H → Prop) (Ke0 : VP4) : Prop :=
  sloop (S := Value × Value × Value × Value × Value) (fun s h K => F174_5 s.1 s.2.1 s.2.2.1 s.2.2.2.1 s.2.2.2.2 h (fun y0 y6 y7 y8 y9 h => K (y0, y6, y7, y8, y9) h) Kr Ke0) (x0, x6, x7, x8, x9) h
theorem F174_4_ok (Kn Kr Ke0) (t : T) (h : H) (H0 : F174_4 (t 0) (t 6) (t 7) (t 8) (t 9) h Kn Kr Ke0) : Wp Tryz.prog 56 (blkC (rest 1 (seqL (rest 3 (bodyOf Tryz.f174.body))))) (mkQ (q4 Kn 0 6 7 8) (q0 Kr) (keAdd 0 (q4 Ke0 0 6 7 8) ke0)) t h :=
  loop_ok (fun t => (t 0, t 6, t 7, t 8, t 9)) (by kernel_rfl) (fun t h K H1 => F174_5_ok (fun y0 y6 y7 y8 y9 h => K (y0, y6, y7, y8, y9) h) Kr Ke0 t h H1) H0
def F174_3 (x0 x6 x7 x8 x9 : Value) (h : H) (Kn : VP4) (Kr : H → Prop) : Prop :=
  F174_4 x0 x6 x7 x8 x9 h Kn Kr Kn
theorem F174_3_ok (Kn Kr) (t : T) (h : H) (H0 : F174_3 (t 0) (t 6) (t 7) (t 8) (t 9) h Kn Kr) : Wp Tryz.prog 56 (rest 1 (seqL (rest 3 (bodyOf Tryz.f174.body)))) (mkQ (q4 Kn 0 6 7 8) (q0 Kr) ke0) t h :=
  block_ok 0 (by kernel_rfl) (by kernel_rfl) (F174_4_ok Kn Kr Kn t h H0)
def F174_2 (x0 x6 x7 x8 : Value) (h : H) (Kn : VP4) (Kr : H → Prop) : Prop :=
  o_bin Tryz.prog .sub 3 x8 (.int .i64 1) fun v16 => o_bin Tryz.prog .quo 3 v16 (.int .i64 2) fun v17 => F174_3 x0 x6 x7 x8 v17 h Kn Kr
theorem F174_2_ok (Kn Kr) (t : T) (h : H) (H0 : F174_2 (t 0) (t 6) (t 7) (t 8) h Kn Kr) : Wp Tryz.prog 56 (seqL (rest 3 (bodyOf Tryz.f174.body))) (mkQ (q4 Kn 0 6 7 8) (q0 Kr) ke0) t h :=
  awpTo_okF 1 H0 (by kernel_rfl) (fun t h (H1 : F174_3 (t 0) (t 6) (t 7) (t 8) (t 9) h Kn Kr) => F174_3_ok Kn Kr t h H1) (by kernel_rfl)
def F174_13 (x0 x6 x7 x10 : Value) (h : H) (Kn : VP4) (Kr : H → Prop) (Ke3 : VP4) (Ke2 : H → Prop) : Prop :=
  o_bin Tryz.prog .add 3 x6 x10 fun v38 => o_bin Tryz.prog .add 3 x6 x10 fun v42 => o_indexAddr none 1 x0 v42 fun v43 => o_load false 1 v43 h fun v44 => o_indexAddr none 1 x0 x6 fun v47 => o_load false 1 v47 h fun v48 => o_indexAddr none 1 x0 x6 fun v49 => o_store 1 v49 v44 h fun h => o_indexAddr none 1 x0 v38 fun v50 => o_store 1 v50 v48 h fun h => Kn x0 x6 x7 x10 h
theorem F174_13_ok (Kn Kr Ke3 Ke2) (t : T) (h : H) (H0 : F174_13 (t 0) (t 6) (t 7) (t 10) h Kn Kr Ke3 Ke2) : Wp Tryz.prog 56 (seqL (blkC (seqL (rest 1 (lopC (blkC (rest 1 (seqR (rest 3 (bodyOf Tryz.f174.body)))))))))) (mkQ (q4 Kn 0 6 7 10) (q0 Kr) (keAdd 3 (q4 Ke3 0 6 7 10) (keAdd 2 (q0 Ke2) ke0))) t h :=
  draw_okF (by kernel_rfl) (by kernel_rfl) H0 (by kernel_rfl)
def F174_14 (x0 x6 x7 x10 : Value) (h : H) (Kn : VP4) (Kr : H → Prop) (Ke3 : VP4) (Ke2 : H → Prop) : Prop :=
  o_call Tryz.prog 185 [x0, x7, x10, x6] h fun v55 h => Kn x0 x6 x7 x10 h
theorem F174_14_ok (Kn Kr Ke3 Ke2) (t : T) (h : H) (H0 : F174_14 (t 0) (t 6) (t 7) (t 10) h Kn Kr Ke3 Ke2) : Wp Tryz.prog 56 (seqR (blkC (seqL (rest 1 (lopC (blkC (rest 1 (seqR (rest 3 (bodyOf Tryz.f174.body)))))))))) (mkQ (q4 Kn 0 6 7 10) (q0 Kr) (keAdd 3 (q4 Ke3 0 6 7 10) (keAdd 2 (q0 Ke2) ke0))) t h :=
  wpEqF H0 (by kernel_rfl)
def F174_12 (x0 x6 x7 x10 : Value) (h : H) (Kn : VP4) (Kr : H → Prop) (Ke3 : VP4) (Ke2 : H → Prop) : Prop :=
  F174_13 x0 x6 x7 x10 h (fun y0 y6 y7 y10 h => F174_14 y0 y6 y7 y10 h Kn Kr Ke3 Ke2) Kr Ke3 Ke2
theorem F174_12_ok (Kn Kr Ke3 Ke2) (t : T) (h : H) (H0 : F174_12 (t 0) (t 6) (t 7) (t 10) h Kn Kr Ke3 Ke2) : Wp Tryz.prog 56 (blkC (seqL (rest 1 (lopC (blkC (rest 1 (seqR (rest 3 (bodyOf Tryz.f174.body))))))))) (mkQ (q4 Kn 0 6 7 10) (q0 Kr) (keAdd 3 (q4 Ke3 0 6 7 10) (keAdd 2 (q0 Ke2) ke0))) t h :=
  seq_ok (by kernel_rfl) (fun t h H1 => F174_14_ok Kn Kr Ke3 Ke2 t h H1) (F174_13_ok (fun y0 y6 y7 y10 h => F174_14 y0 y6 y7 y10 h Kn Kr Ke3 Ke2) Kr Ke3 Ke2 t h H0)
def F174_11 (x0 x6 x7 x10 : Value) (h : H) (Kn : VP4) (Kr : H → Prop) (Ke2 : H → Prop) : Prop :=
  F174_12 x0 x6 x7 x10 h Kn Kr Kn Ke2
theorem F174_11_ok (Kn Kr Ke2) (t : T) (h : H) (H0 : F174_11 (t 0) (t 6) (t 7) (t 10) h Kn Kr Ke2) : Wp Tryz.prog 56 (seqL (rest 1 (lopC (blkC (rest 1 (seqR (rest 3 (bodyOf Tryz.f174.body)))))))) (mkQ (q4 Kn 0 6 7 10) (q0 Kr) (keAdd 2 (q0 Ke2) ke0)) t h :=
  block_ok 3 (by kernel_rfl) (by kernel_rfl) (F174_12_ok Kn Kr Kn Ke2 t h H0)
def F174_15 (x0 x6 x7 x10 : Value) (h : H) (Kn : VP4) (Kr : H → Prop) (Ke2 : H → Prop) : Prop :=
  o_bin Tryz.prog .sub 3 x10 (.int .i64 1) fun v32 => Kn x0 x6 x7 v32 h
theorem F174_15_ok (Kn Kr Ke2) (t : T) (h : H) (H0 : F174_15 (t 0) (t 6) (t 7) (t 10) h Kn Kr Ke2) : Wp Tryz.prog 56 (seqR (rest 1 (lopC (blkC (rest 1 (seqR (rest 3 (bodyOf Tryz.f174.body)))))))) (mkQ (q4 Kn 0 6 7 10) (q0 Kr) (keAdd 2 (q0 Ke2) ke0)) t h :=
  wpEqF H0 (by kernel_rfl)
def F174_10 (x0 x6 x7 x10 : Value) (h : H) (Kn : VP4) (Kr : H → Prop) (Ke2 : H → Prop) : Prop :=
  F174_11 x0 x6 x7 x10 h (fun y0 y6 y7 y10 h => F174_15 y0 y6 y7 y10 h Kn Kr Ke2) Kr Ke2
theorem F174_10_ok (Kn Kr Ke2) (t : T) (h : H) (H0 : F174_10 (t 0) (t 6) (t 7) (t 10) h Kn Kr Ke2) : Wp Tryz.prog 56 (rest 1 (lopC (blkC (rest 1 (seqR (rest 3 (bodyOf Tryz.f174.body))))))) (mkQ (q4 Kn 0 6 7 10) (q0 Kr) (keAdd 2 (q0 Ke2) ke0)) t h :=
  seq_ok (by kernel_rfl) (fun t h H1 => F174_15_ok Kn Kr Ke2 t h H1) (F174_11_ok (fun y0 y6 y7 y10 h => F174_15 y0 y6 y7 y10 h Kn Kr Ke2) Kr Ke2 t h H0)
def F174_9 (x0 x6 x7 x10 : Value) (h : H) (Kn : VP4) (Kr : H → Prop) (Ke2 : H → Prop) : Prop :=
  o_bin Tryz.prog .geq 3 x10 (.int .i64 0) fun v30 => o_if v30 (F174_10 x0 x6 x7 x10 h Kn Kr Ke2) (Ke2 h)
theorem F174_9_ok (Kn Kr Ke2) (t : T) (h : H) (H0 : F174_9 (t 0) (t 6) (t 7) (t 10) h Kn Kr Ke2) : Wp Tryz.prog 56 (lopC (blkC (rest 1 (seqR (rest 3 (bodyOf Tryz.f174.body)))))) (mkQ (q4 Kn 0 6 7 10) (q0 Kr) (keAdd 2 (q0 Ke2) ke0)) t h :=
  awpTo_okF 1 H0 (by kernel_rfl) (fun t h (H1 : F174_10 (t 0) (t 6) (t 7) (t 10) h Kn Kr Ke2) => F174_10_ok Kn Kr Ke2 t h H1) (by kernel_rfl)
def F174_8 (x0 x6 x7 x10 : Value) (h : H) (Kn : H → Prop) (Kr : H → Prop) (Ke2 : H → Prop) : Prop :=
  sloop (S := Value × Value × Value × Value) (fun s h K => F174_9 s.1 s.2.1 s.2.2.1 s.2.2.2 h (fun y0 y6 y7 y10 h => K (y0, y6, y7, y10) h) Kr Ke2) (x0, x6, x7, x10) h
theorem F174_8_ok (Kn Kr Ke2) (t : T) (h : H) (H0 : F174_8 (t 0) (t 6) (t 7) (t 10) h Kn Kr Ke2) : Wp Tryz.prog 56 (blkC (rest 1 (seqR (rest 3 (bodyOf Tryz.f174.body))))) (mkQ (q0 Kn) (q0 Kr) (keAdd 2 (q0 Ke2) ke0)) t h :=
  loop_ok (fun t => (t 0, t 6, t 7, t 10)) (by kernel_rfl) (fun t h K H1 => F174_9_ok (fun y0 y6 y7 y10 h => K (y0, y6, y7, y10) h) Kr Ke2 t h H1) H0
def F174_7 (x0 x6 x7 x10 : Value) (h : H) (Kn : H → Prop) (Kr : H → Prop) : Prop :=
  F174_8 x0 x6 x7 x10 h Kn Kr Kn
theorem F174_7_ok (Kn Kr) (t : T) (h : H) (H0 : F174_7 (t 0) (t 6) (t 7) (t 10) h Kn Kr) : Wp Tryz.prog 56 (rest 1 (seqR (rest 3 (bodyOf Tryz.f174.body)))) (mkQ (q0 Kn) (q0 Kr) ke0) t h :=
  block_ok 2 (by kernel_rfl) (by kernel_rfl) (F174_8_ok Kn Kr Kn t h H0)
def F174_6 (x0 x6 x7 x8 : Value) (h : H) (Kn : H → Prop) (Kr : H → Prop) : Prop :=
  o_bin Tryz.prog .sub 3 x8 (.int .i64 1) fun v28 => F174_7 x0 x6 x7 v28 h Kn Kr
theorem F174_6_ok (Kn Kr) (t : T) (h : H) (H0 : F174_6 (t 0) (t 6) (t 7) (t 8) h Kn Kr) : Wp Tryz.prog 56 (seqR (rest 3 (bodyOf Tryz.f174.body))) (mkQ (q0 Kn) (q0 Kr) ke0) t h :=
  awpTo_okF 1 H0 (by kernel_rfl) (fun t h (H1 : F174_7 (t 0) (t 6) (t 7) (t 10) h Kn Kr) => F174_7_ok Kn Kr t h H1) (by kernel_rfl)
def F174_1 (x0 x6 x7 x8 : Value) (h : H) (Kn : H → Prop) (Kr : H → Prop) : Prop :=
  F174_2 x0 x6 x7 x8 h (fun y0 y6 y7 y8 h => F174_6 y0 y6 y7 y8 h Kn Kr) Kr
theorem F174_1_ok (Kn Kr) (t : T) (h : H) (H0 : F174_1 (t 0) (t 6) (t 7) (t 8) h Kn Kr) : Wp Tryz.prog 56 (rest 3 (bodyOf Tryz.f174.body)) (mkQ (q0 Kn) (q0 Kr) ke0) t h :=
  seq_ok (by kernel_rfl) (fun t h H1 => F174_6_ok Kn Kr t h H1) (F174_2_ok (fun y0 y6 y7 y8 h => F174_6 y0 y6 y7 y8 h Kn Kr) Kr t h H0)
def F174_0 (x0 x1 x2 : Value) (h : H) (Kn : H → Prop) (Kr : H → Prop) : Prop :=
  o_bin Tryz.prog .sub 3 x2 x1 fun v14 => F174_1 x0 x1 (.int .i64 0) v14 h Kn Kr
theorem F174_0_ok (Kn Kr) (t : T) (h : H) (H0 : F174_0 (t 0) (t 1) (t 2) h Kn Kr) : Wp Tryz.prog 56 (bodyOf Tryz.f174.body) (mkQ (q0 Kn) (q0 Kr) ke0) t h :=
  awpTo_okF 3 H0 (by kernel_rfl) (fun t h (H1 : F174_1 (t 0) (t 6) (t 7) (t 8) h Kn Kr) => F174_1_ok Kn Kr t h H1) (by kernel_rfl)
def F174 (x0 x1 x2 : Value) (h : H) (Q : VP1) : Prop := F174_0 x0 x1 x2 h (fun h => bif [].all boxV then Q (.tuple #[]) h else False) (fun h => bif [].all boxV then Q (.tuple #[]) h else False)
theorem F174_spec (x0 x1 x2 : Value) (h : H) (Q : VP1) (H0 : F174 x0 x1 x2 h Q) : AM.Spec Tryz.prog 174 [x0, x1, x2] h Q :=
  spec_wp mixed (fn := Tryz.f174) Tryz.func174 (c := bodyOf Tryz.f174.body) (rs := []) (N := 56) (by kernel_rfl) (by kernel_rfl) (by kernel_rfl) (by kernel_rfl) (by kernel_rfl) (Nat.le_of_ble_eq_true rfl) (F174_0_ok (fun h => bif [].all boxV then Q (.tuple #[]) h else False) (fun h => bif [].all boxV then Q (.tuple #[]) h else False) (tinit [x0, x1, x2]) h H0) (by kernel_rfl)
def F191_3 (x0 x1 x2 x3 : Value) (h : H) (Kn : VP4) (Kr : VP2) : Prop :=
  o_indexAddr none 1 x0 x2 fun v12 => o_load false 1 v12 h fun v13 => o_indexAddr none 1 x0 x1 fun v16 => o_load false 1 v16 h fun v17 => o_dcall DS 179 [v13, v17] h fun v18 h => Kn x1 x2 x3 v18 h
theorem F191_3_ok (Kn Kr) (t : T) (h : H) (H0 : F191_3 (t 0) (t 1) (t 2) (t 3) h Kn Kr) : Wp Tryz.prog 28 (seqL (seqL (rest 1 (bodyOf Tryz.f191.body)))) (mkQ (q4 Kn 1 2 3 18) (q2 Kr 8 9) ke0) t h :=
  drawD_ok dsOk (by kernel_rfl) (by kernel_rfl) H0 (by kernel_rfl)
def F191_4 (x1 x2 x3 x18 : Value) (h : H) (Kn : VP2) (Kr : VP2) : Prop :=
  o_if x18 (o_nilCheck x3 fun v20 => o_load false 1 v20 h fun v21 => o_bin Tryz.prog .add 3 v21 (.int .i64 1) fun v22 => o_nilCheck x3 fun v23 => o_store 1 v23 v22 h fun h => Kr x2 x1 h) (Kn x1 x2 h)
theorem F191_4_ok (Kn Kr) (t : T) (h : H) (H0 : F191_4 (t 1) (t 2) (t 3) (t 18) h Kn Kr) : Wp Tryz.prog 28 (seqR (seqL (rest 1 (bodyOf Tryz.f191.body)))) (mkQ (q2 Kn 1 2) (q2 Kr 8 9) ke0) t h :=
  wpEqF H0 (by kernel_rfl)
def F191_2 (x0 x1 x2 x3 : Value) (h : H) (Kn : VP2) (Kr : VP2) : Prop :=
  F191_3 x0 x1 x2 x3 h (fun y1 y2 y3 y18 h => F191_4 y1 y2 y3 y18 h Kn Kr) Kr
theorem F191_2_ok (Kn Kr) (t : T) (h : H) (H0 : F191_2 (t 0) (t 1) (t 2) (t 3) h Kn Kr) : Wp Tryz.prog 28 (seqL (rest 1 (bodyOf Tryz.f191.body))) (mkQ (q2 Kn 1 2) (q2 Kr 8 9) ke0) t h :=
  seq_ok (by kernel_rfl) (fun t h H1 => F191_4_ok Kn Kr t h H1) (F191_3_ok (fun y1 y2 y3 y18 h => F191_4 y1 y2 y3 y18 h Kn Kr) Kr t h H0)
def F191_5 (x1 x2 : Value) (h : H) (Kn : VP2) (Kr : VP2) : Prop :=
  Kr x1 x2 h
theorem F191_5_ok (Kn Kr) (t : T) (h : H) (H0 : F191_5 (t 1) (t 2) h Kn Kr) : Wp Tryz.prog 28 (seqR (rest 1 (bodyOf Tryz.f191.body))) (mkQ (q2 Kn 8 9) (q2 Kr 8 9) ke0) t h :=
  wpEqF H0 (by kernel_rfl)
def F191_1 (x0 x1 x2 x3 : Value) (h : H) (Kn : VP2) (Kr : VP2) : Prop :=
  F191_2 x0 x1 x2 x3 h (fun y1 y2 h => F191_5 y1 y2 h Kn Kr) Kr
theorem F191_1_ok (Kn Kr) (t : T) (h : H) (H0 : F191_1 (t 0) (t 1) (t 2) (t 3) h Kn Kr) : Wp Tryz.prog 28 (rest 1 (bodyOf Tryz.f191.body)) (mkQ (q2 Kn 8 9) (q2 Kr 8 9) ke0) t h :=
  seq_ok (by kernel_rfl) (fun t h H1 => F191_5_ok Kn Kr t h H1) (F191_2_ok (fun y1 y2 h => F191_5 y1 y2 h Kn Kr) Kr t h H0)
def F191_0 (x0 x1 x2 x3 : Value) (h : H) (Kn : VP2) (Kr : VP2) : Prop :=
  F191_1 x0 x1 x2 x3 h Kn Kr
theorem F191_0_ok (Kn Kr) (t : T) (h : H) (H0 : F191_0 (t 0) (t 1) (t 2) (t 3) h Kn Kr) : Wp Tryz.prog 28 (bodyOf Tryz.f191.body) (mkQ (q2 Kn 8 9) (q2 Kr 8 9) ke0) t h :=
  awpTo_okF 1 H0 (by kernel_rfl) (fun t h (H1 : F191_1 (t 0) (t 1) (t 2) (t 3) h Kn Kr) => F191_1_ok Kn Kr t h H1) (by kernel_rfl)
def F191 (x0 x1 x2 x3 : Value) (h : H) (Q : VP1) : Prop := F191_0 x0 x1 x2 x3 h (fun y8 y9 h => bif [y8, y9].all boxV then Q (.tuple #[y8, y9]) h else False) (fun y8 y9 h => bif [y8, y9].all boxV then Q (.tuple #[y8, y9]) h else False)
theorem F191_spec (x0 x1 x2 x3 : Value) (h : H) (Q : VP1) (H0 : F191 x0 x1 x2 x3 h Q) : AM.Spec Tryz.prog 191 [x0, x1, x2, x3] h Q :=
  spec_wp mixed (fn := Tryz.f191) Tryz.func191 (c := bodyOf Tryz.f191.body) (rs := [8, 9]) (N := 28) (by kernel_rfl) (by kernel_rfl) (by kernel_rfl) (by kernel_rfl) (by kernel_rfl) (Nat.le_of_ble_eq_true rfl) (F191_0_ok (fun y8 y9 h => bif [y8, y9].all boxV then Q (.tuple #[y8, y9]) h else False) (fun y8 y9 h => bif [y8, y9].all boxV then Q (.tuple #[y8, y9]) h else False) (tinit [x0, x1, x2, x3]) h H0) (by kernel_rfl)
def F189_0 (x0 x1 x2 x3 x4 : Value) (h : H) (Kn : VP1) (Kr : VP1) : Prop :=
  o_call Tryz.prog 191 [x0, x1, x2, x4] h fun v16 h => o_extract v16 0 fun v17 => o_extract v16 1 fun v18 => o_call Tryz.prog 191 [x0, v18, x3, x4] h fun v24 h => o_extract v24 0 fun v25 => o_extract v24 1 fun v26 => o_call Tryz.prog 191 [x0, v17, v25, x4] h fun v32 h => o_extract v32 0 fun v33 => o_extract v32 1 fun v34 => Kr v34 h
theorem F189_0_ok (Kn Kr) (t : T) (h : H) (H0 : F189_0 (t 0) (t 1) (t 2) (t 3) (t 4) h Kn Kr) : Wp Tryz.prog 36 (bodyOf Tryz.f189.body) (mkQ (q1 Kn 10) (q1 Kr 10) ke0) t h :=
  wpEqF H0 (by kernel_rfl)
def F189 (x0 x1 x2 x3 x4 : Value) (h : H) (Q : VP1) : Prop := F189_0 x0 x1 x2 x3 x4 h (fun v h => Q v h) (fun v h => Q v h)
theorem F189_spec (x0 x1 x2 x3 x4 : Value) (h : H) (Q : VP1) (H0 : F189 x0 x1 x2 x3 x4 h Q) : AM.Spec Tryz.prog 189 [x0, x1, x2, x3, x4] h Q :=
  spec_wp mixed (fn := Tryz.f189) Tryz.func189 (c := bodyOf Tryz.f189.body) (rs := [10]) (N := 36) (by kernel_rfl) (by kernel_rfl) (by kernel_rfl) (by kernel_rfl) (by kernel_rfl) (Nat.le_of_ble_eq_true rfl) (F189_0_ok (fun v h => Q v h) (fun v h => Q v h) (tinit [x0, x1, x2, x3, x4]) h H0) (by kernel_rfl)
def F176_5 (x0 x8 x9 x10 x11 x12 : Value) (h : H) (Kn : VP5) (Kr : VP2) : Prop :=
  o_bin Tryz.prog .geq 3 x8 (.int .i64 50) fun v34 => o_if v34 (o_call Tryz.prog 188 [x0, x10, x9] h fun v37 h => o_call Tryz.prog 188 [x0, x11, x9] h fun v40 h => o_call Tryz.prog 188 [x0, x12, x9] h fun v43 h => Kn x0 x9 v37 v40 v43 h) (Kn x0 x9 x10 x11 x12 h)
theorem F176_5_ok (Kn Kr) (t : T) (h : H) (H0 : F176_5 (t 0) (t 8) (t 9) (t 10) (t 11) (t 12) h Kn Kr) : Wp Tryz.prog 57 (seqL (cndX (rest 1 (seqL (rest 6 (bodyOf Tryz.f176.body)))))) (mkQ (q5 Kn 0 9 10 11 12) (q2 Kr 6 7) ke0) t h :=
  wpEqF H0 (by kernel_rfl)
def F176_6 (x0 x9 x10 x11 x12 : Value) (h : H) (Kn : VP2) (Kr : VP2) : Prop :=
  o_call Tryz.prog 189 [x0, x10, x11, x12, x9] h fun v48 h => Kn x9 v48 h
theorem F176_6_ok (Kn Kr) (t : T) (h : H) (H0 : F176_6 (t 0) (t 9) (t 10) (t 11) (t 12) h Kn Kr) : Wp Tryz.prog 57 (seqR (cndX (rest 1 (seqL (rest 6 (bodyOf Tryz.f176.body)))))) (mkQ (q2 Kn 9 11) (q2 Kr 6 7) ke0) t h :=
  wpEqF H0 (by kernel_rfl)
def F176_4 (x0 x8 x9 x10 x11 x12 : Value) (h : H) (Kn : VP2) (Kr : VP2) : Prop :=
  F176_5 x0 x8 x9 x10 x11 x12 h (fun y0 y9 y10 y11 y12 h => F176_6 y0 y9 y10 y11 y12 h Kn Kr) Kr
theorem F176_4_ok (Kn Kr) (t : T) (h : H) (H0 : F176_4 (t 0) (t 8) (t 9) (t 10) (t 11) (t 12) h Kn Kr) : Wp Tryz.prog 57 (cndX (rest 1 (seqL (rest 6 (bodyOf Tryz.f176.body))))) (mkQ (q2 Kn 9 11) (q2 Kr 6 7) ke0) t h :=
  seq_ok (by kernel_rfl) (fun t h H1 => F176_6_ok Kn Kr t h H1) (F176_5_ok (fun y0 y9 y10 y11 y12 h => F176_6 y0 y9 y10 y11 y12 h Kn Kr) Kr t h H0)
def F176_7 (x9 x11 : Value) (h : H) (Kn : VP2) (Kr : VP2) : Prop :=
  Kn x9 x11 h
theorem F176_7_ok (Kn Kr) (t : T) (h : H) (H0 : F176_7 (t 9) (t 11) h Kn Kr) : Wp Tryz.prog 57 (cndY (rest 1 (seqL (rest 6 (bodyOf Tryz.f176.body))))) (mkQ (q2 Kn 9 11) (q2 Kr 6 7) ke0) t h :=
  wpEqF H0 (by kernel_rfl)
def F176_3 (x0 x8 x9 x10 x11 x12 x32 : Value) (h : H) (Kn : VP2) (Kr : VP2) : Prop :=
  o_if x32 (F176_4 x0 x8 x9 x10 x11 x12 h Kn Kr) (F176_7 x9 x11 h Kn Kr)
theorem F176_3_ok (Kn Kr) (t : T) (h : H) (H0 : F176_3 (t 0) (t 8) (t 9) (t 10) (t 11) (t 12) (t 32) h Kn Kr) : Wp Tryz.prog 57 (rest 1 (seqL (rest 6 (bodyOf Tryz.f176.body)))) (mkQ (q2 Kn 9 11) (q2 Kr 6 7) ke0) t h :=
  cond_ok H0 (by kernel_rfl) (F176_4_ok Kn Kr t h) (F176_7_ok Kn Kr t h) (by kernel_rfl)
def F176_2 (x0 x8 x9 x10 x11 x12 : Value) (h : H) (Kn : VP2) (Kr : VP2) : Prop :=
  o_bin Tryz.prog .geq 3 x8 (.int .i64 8) fun v32 => F176_3 x0 x8 x9 x10 x11 x12 v32 h Kn Kr
theorem F176_2_ok (Kn Kr) (t : T) (h : H) (H0 : F176_2 (t 0) (t 8) (t 9) (t 10) (t 11) (t 12) h Kn Kr) : Wp Tryz.prog 57 (seqL (rest 6 (bodyOf Tryz.f176.body))) (mkQ (q2 Kn 9 11) (q2 Kr 6 7) ke0) t h :=
  awpTo_okF 1 H0 (by kernel_rfl) (fun t h (H1 : F176_3 (t 0) (t 8) (t 9) (t 10) (t 11) (t 12) (t 32) h Kn Kr) => F176_3_ok Kn Kr t h H1) (by kernel_rfl)
def F176_8 (x9 x11 : Value) (h : H) (Kn : VP2) (Kr : VP2) : Prop :=
  o_load false 1 x9 h fun v49 => o_bin Tryz.prog .eql 3 v49 (.int .i64 0) fun v52 => o_if v52 (Kr x11 (.int .i64 1) h) (o_bin Tryz.prog .eql 3 v49 (.int .i64 12) fun v55 => o_if v55 (Kr x11 (.int .i64 2) h) (Kr x11 (.int .i64 0) h))
theorem F176_8_ok (Kn Kr) (t : T) (h : H) (H0 : F176_8 (t 9) (t 11) h Kn Kr) : Wp Tryz.prog 57 (seqR (rest 6 (bodyOf Tryz.f176.body))) (mkQ (q2 Kn 6 7) (q2 Kr 6 7) ke0) t h :=
  wpEqF H0 (by kernel_rfl)
def F176_1 (x0 x8 x9 x10 x11 x12 : Value) (h : H) (Kn : VP2) (Kr : VP2) : Prop :=
  F176_2 x0 x8 x9 x10 x11 x12 h (fun y9 y11 h => F176_8 y9 y11 h Kn Kr) Kr
theorem F176_1_ok (Kn Kr) (t : T) (h : H) (H0 : F176_1 (t 0) (t 8) (t 9) (t 10) (t 11) (t 12) h Kn Kr) : Wp Tryz.prog 57 (rest 6 (bodyOf Tryz.f176.body)) (mkQ (q2 Kn 6 7) (q2 Kr 6 7) ke0) t h :=
  seq_ok (by kernel_rfl) (fun t h H1 => F176_8_ok Kn Kr t h H1) (F176_2_ok (fun y9 y11 h => F176_8 y9 y11 h Kn Kr) Kr t h H0)
def F176_0 (x0 x1 x2 : Value) (h : H) (Kn : VP2) (Kr : VP2) : Prop :=
  o_bin Tryz.prog .sub 3 x2 x1 fun v15 => o_new [.int .i64 0] 3 .exact h fun b9 h => o_bin Tryz.prog .quo 3 v15 (.int .i64 4) fun v18 => o_bin Tryz.prog .mul 3 v18 (.int .i64 1) fun v19 => o_bin Tryz.prog .add 3 x1 v19 fun v20 => o_bin Tryz.prog .quo 3 v15 (.int .i64 4) fun v23 => o_bin Tryz.prog .mul 3 v23 (.int .i64 2) fun v24 => o_bin Tryz.prog .add 3 x1 v24 fun v25 => o_bin Tryz.prog .quo 3 v15 (.int .i64 4) fun v28 => o_bin Tryz.prog .mul 3 v28 (.int .i64 3) fun v29 => o_bin Tryz.prog .add 3 x1 v29 fun v30 => F176_1 x0 v15 (.pointer (some ⟨b9, 0, none⟩)) v20 v25 v30 h Kn Kr
theorem F176_0_ok (Kn Kr) (t : T) (h : H) (H0 : F176_0 (t 0) (t 1) (t 2) h Kn Kr) : Wp Tryz.prog 57 (bodyOf Tryz.f176.body) (mkQ (q2 Kn 6 7) (q2 Kr 6 7) ke0) t h :=
  awpTo_okF 6 H0 (by kernel_rfl) (fun t h (H1 : F176_1 (t 0) (t 8) (t 9) (t 10) (t 11) (t 12) h Kn Kr) => F176_1_ok Kn Kr t h H1) (by kernel_rfl)
def F176 (x0 x1 x2 : Value) (h : H) (Q : VP1) : Prop := F176_0 x0 x1 x2 h (fun y6 y7 h => bif [y6, y7].all boxV then Q (.tuple #[y6, y7]) h else False) (fun y6 y7 h => bif [y6, y7].all boxV then Q (.tuple #[y6, y7]) h else False)
theorem F176_spec (x0 x1 x2 : Value) (h : H) (Q : VP1) (H0 : F176 x0 x1 x2 h Q) : AM.Spec Tryz.prog 176 [x0, x1, x2] h Q :=
  spec_wp mixed (fn := Tryz.f176) Tryz.func176 (c := bodyOf Tryz.f176.body) (rs := [6, 7]) (N := 57) (by kernel_rfl) (by kernel_rfl) (by kernel_rfl) (by kernel_rfl) (by kernel_rfl) (Nat.le_of_ble_eq_true rfl) (F176_0_ok (fun y6 y7 h => bif [y6, y7].all boxV then Q (.tuple #[y6, y7]) h else False) (fun y6 y7 h => bif [y6, y7].all boxV then Q (.tuple #[y6, y7]) h else False) (tinit [x0, x1, x2]) h H0) (by kernel_rfl)
def F177_6 (x0 x6 x7 : Value) (h : H) (Kn : VP3) (Kr : H → Prop) (Ke1 : VP3) (Ke0 : H → Prop) : Prop :=
  o_indexAddr none 1 x0 x7 fun v20 => o_load false 1 v20 h fun v21 => o_indexAddr none 1 x0 x6 fun v24 => o_load false 1 v24 h fun v25 => o_indexAddr none 1 x0 x6 fun v26 => o_store 1 v26 v21 h fun h => o_indexAddr none 1 x0 x7 fun v27 => o_store 1 v27 v25 h fun h => Kn x0 x6 x7 h
theorem F177_6_ok (Kn Kr Ke1 Ke0) (t : T) (h : H) (H0 : F177_6 (t 0) (t 6) (t 7) h Kn Kr Ke1 Ke0) : Wp Tryz.prog 32 (seqL (blkC (rest 1 (lopC (blkC (rest 2 (bodyOf Tryz.f177.body))))))) (mkQ (q3 Kn 0 6 7) (q0 Kr) (keAdd 1 (q3 Ke1 0 6 7) (keAdd 0 (q0 Ke0) ke0))) t h :=
  draw_okF (by kernel_rfl) (by kernel_rfl) H0 (by kernel_rfl)
def F177_7 (x0 x6 x7 : Value) (h : H) (Kn : VP3) (Kr : H → Prop) (Ke1 : VP3) (Ke0 : H → Prop) : Prop :=
  o_bin Tryz.prog .add 3 x6 (.int .i64 1) fun v29 => o_bin Tryz.prog .sub 3 x7 (.int .i64 1) fun v31 => Kn x0 v29 v31 h
theorem F177_7_ok (Kn Kr Ke1 Ke0) (t : T) (h : H) (H0 : F177_7 (t 0) (t 6) (t 7) h Kn Kr Ke1 Ke0) : Wp Tryz.prog 32 (seqR (blkC (rest 1 (lopC (blkC (rest 2 (bodyOf Tryz.f177.body))))))) (mkQ (q3 Kn 0 6 7) (q0 Kr) (keAdd 1 (q3 Ke1 0 6 7) (keAdd 0 (q0 Ke0) ke0))) t h :=
  wpEqF H0 (by kernel_rfl)
def F177_5 (x0 x6 x7 : Value) (h : H) (Kn : VP3) (Kr : H → Prop) (Ke1 : VP3) (Ke0 : H → Prop) : Prop :=
  F177_6 x0 x6 x7 h (fun y0 y6 y7 h => F177_7 y0 y6 y7 h Kn Kr Ke1 Ke0) Kr Ke1 Ke0
theorem F177_5_ok (Kn Kr Ke1 Ke0) (t : T) (h : H) (H0 : F177_5 (t 0) (t 6) (t 7) h Kn Kr Ke1 Ke0) : Wp Tryz.prog 32 (blkC (rest 1 (lopC (blkC (rest 2 (bodyOf Tryz.f177.body)))))) (mkQ (q3 Kn 0 6 7) (q0 Kr) (keAdd 1 (q3 Ke1 0 6 7) (keAdd 0 (q0 Ke0) ke0))) t h :=
  seq_ok (by kernel_rfl) (fun t h H1 => F177_7_ok Kn Kr Ke1 Ke0 t h H1) (F177_6_ok (fun y0 y6 y7 h => F177_7 y0 y6 y7 h Kn Kr Ke1 Ke0) Kr Ke1 Ke0 t h H0)
def F177_4 (x0 x6 x7 : Value) (h : H) (Kn : VP3) (Kr : H → Prop) (Ke0 : H → Prop) : Prop :=
  F177_5 x0 x6 x7 h Kn Kr Kn Ke0
theorem F177_4_ok (Kn Kr Ke0) (t : T) (h : H) (H0 : F177_4 (t 0) (t 6) (t 7) h Kn Kr Ke0) : Wp Tryz.prog 32 (rest 1 (lopC (blkC (rest 2 (bodyOf Tryz.f177.body))))) (mkQ (q3 Kn 0 6 7) (q0 Kr) (keAdd 0 (q0 Ke0) ke0)) t h :=
  block_ok 1 (by kernel_rfl) (by kernel_rfl) (F177_5_ok Kn Kr Kn Ke0 t h H0)
def F177_3 (x0 x6 x7 : Value) (h : H) (Kn : VP3) (Kr : H → Prop) (Ke0 : H → Prop) : Prop :=
  o_bin Tryz.prog .lss 3 x6 x7 fun v13 => o_if v13 (F177_4 x0 x6 x7 h Kn Kr Ke0) (Ke0 h)
theorem F177_3_ok (Kn Kr Ke0) (t : T) (h : H) (H0 : F177_3 (t 0) (t 6) (t 7) h Kn Kr Ke0) : Wp Tryz.prog 32 (lopC (blkC (rest 2 (bodyOf Tryz.f177.body)))) (mkQ (q3 Kn 0 6 7) (q0 Kr) (keAdd 0 (q0 Ke0) ke0)) t h :=
  awpTo_okF 1 H0 (by kernel_rfl) (fun t h (H1 : F177_4 (t 0) (t 6) (t 7) h Kn Kr Ke0) => F177_4_ok Kn Kr Ke0 t h H1) (by kernel_rfl)
def F177_2 (x0 x6 x7 : Value) (h : H) (Kn : H → Prop) (Kr : H → Prop) (Ke0 : H → Prop) : Prop :=
  sloop (S := Value × Value × Value) (fun s h K => F177_3 s.1 s.2.1 s.2.2 h (fun y0 y6 y7 h => K (y0, y6, y7) h) Kr Ke0) (x0, x6, x7) h
theorem F177_2_ok (Kn Kr Ke0) (t : T) (h : H) (H0 : F177_2 (t 0) (t 6) (t 7) h Kn Kr Ke0) : Wp Tryz.prog 32 (blkC (rest 2 (bodyOf Tryz.f177.body))) (mkQ (q0 Kn) (q0 Kr) (keAdd 0 (q0 Ke0) ke0)) t h :=
  loop_ok (fun t => (t 0, t 6, t 7)) (by kernel_rfl) (fun t h K H1 => F177_3_ok (fun y0 y6 y7 h => K (y0, y6, y7) h) Kr Ke0 t h H1) H0
def F177_1 (x0 x6 x7 : Value) (h : H) (Kn : H → Prop) (Kr : H → Prop) : Prop :=
  F177_2 x0 x6 x7 h Kn Kr Kn
theorem F177_1_ok (Kn Kr) (t : T) (h : H) (H0 : F177_1 (t 0) (t 6) (t 7) h Kn Kr) : Wp Tryz.prog 32 (rest 2 (bodyOf Tryz.f177.body)) (mkQ (q0 Kn) (q0 Kr) ke0) t h :=
  block_ok 0 (by kernel_rfl) (by kernel_rfl) (F177_2_ok Kn Kr Kn t h H0)
def F177_0 (x0 x1 x2 : Value) (h : H) (Kn : H → Prop) (Kr : H → Prop) : Prop :=
  o_bin Tryz.prog .sub 3 x2 (.int .i64 1) fun v10 => F177_1 x0 x1 v10 h Kn Kr
theorem F177_0_ok (Kn Kr) (t : T) (h : H) (H0 : F177_0 (t 0) (t 1) (t 2) h Kn Kr) : Wp Tryz.prog 32 (bodyOf Tryz.f177.body) (mkQ (q0 Kn) (q0 Kr) ke0) t h :=
  awpTo_okF 2 H0 (by kernel_rfl) (fun t h (H1 : F177_1 (t 0) (t 6) (t 7) h Kn Kr) => F177_1_ok Kn Kr t h H1) (by kernel_rfl)
def F177 (x0 x1 x2 : Value) (h : H) (Q : VP1) : Prop := F177_0 x0 x1 x2 h (fun h => bif [].all boxV then Q (.tuple #[]) h else False) (fun h => bif [].all boxV then Q (.tuple #[]) h else False)
theorem F177_spec (x0 x1 x2 : Value) (h : H) (Q : VP1) (H0 : F177 x0 x1 x2 h Q) : AM.Spec Tryz.prog 177 [x0, x1, x2] h Q :=
  spec_wp mixed (fn := Tryz.f177) Tryz.func177 (c := bodyOf Tryz.f177.body) (rs := []) (N := 32) (by kernel_rfl) (by kernel_rfl) (by kernel_rfl) (by kernel_rfl) (by kernel_rfl) (Nat.le_of_ble_eq_true rfl) (F177_0_ok (fun h => bif [].all boxV then Q (.tuple #[]) h else False) (fun h => bif [].all boxV then Q (.tuple #[]) h else False) (tinit [x0, x1, x2]) h H0) (by kernel_rfl)
def F186_0 (x0 : Value) (h : H) (Kn : VP1) (Kr : VP1) : Prop :=
  o_conv .u64 x0 fun v4 => o_call Tryz.prog 165 [v4] h fun v5 h => o_bin Tryz.prog .shl 194 (.int .u64 1) v5 fun v6 => Kr v6 h
theorem F186_0_ok (Kn Kr) (t : T) (h : H) (H0 : F186_0 (t 0) h Kn Kr) : Wp Tryz.prog 7 (bodyOf Tryz.f186.body) (mkQ (q1 Kn 2) (q1 Kr 2) ke0) t h :=
  wpEqF H0 (by kernel_rfl)
def F186 (x0 : Value) (h : H) (Q : VP1) : Prop := F186_0 x0 h (fun v h => Q v h) (fun v h => Q v h)
theorem F186_spec (x0 : Value) (h : H) (Q : VP1) (H0 : F186 x0 h Q) : AM.Spec Tryz.prog 186 [x0] h Q :=
  spec_wp mixed (fn := Tryz.f186) Tryz.func186 (c := bodyOf Tryz.f186.body) (rs := [2]) (N := 7) (by kernel_rfl) (by kernel_rfl) (by kernel_rfl) (by kernel_rfl) (by kernel_rfl) (Nat.le_of_ble_eq_true rfl) (F186_0_ok (fun v h => Q v h) (fun v h => Q v h) (tinit [x0]) h H0) (by kernel_rfl)
def F187_2 (x0 : Value) (h : H) (Kn : VP1) (Kr : VP1) : Prop :=
  o_nilCheck x0 fun v4 => o_load false 1 v4 h fun v5 => o_nilCheck x0 fun v7 => o_load false 1 v7 h fun v8 => o_bin Tryz.prog .shl 316 v8 (.int .u64 13) fun v9 => o_bin Tryz.prog .xor 316 v5 v9 fun v10 => o_nilCheck x0 fun v11 => o_store 1 v11 v10 h fun h => Kn x0 h
theorem F187_2_ok (Kn Kr) (t : T) (h : H) (H0 : F187_2 (t 0) h Kn Kr) : Wp Tryz.prog 33 (seqL (rest 1 (bodyOf Tryz.f187.body))) (mkQ (q1 Kn 0) (q1 Kr 2) ke0) t h :=
  draw_okF (by kernel_rfl) (by kernel_rfl) H0 (by kernel_rfl)
def F187_4 (x0 : Value) (h : H) (Kn : VP1) (Kr : VP1) : Prop :=
  o_nilCheck x0 fun v13 => o_load false 1 v13 h fun v14 => o_nilCheck x0 fun v16 => o_load false 1 v16 h fun v17 => o_bin Tryz.prog .shr 316 v17 (.int .u64 7) fun v18 => o_bin Tryz.prog .xor 316 v14 v18 fun v19 => o_nilCheck x0 fun v20 => o_store 1 v20 v19 h fun h => Kn x0 h
theorem F187_4_ok (Kn Kr) (t : T) (h : H) (H0 : F187_4 (t 0) h Kn Kr) : Wp Tryz.prog 33 (seqL (seqR (rest 1 (bodyOf Tryz.f187.body)))) (mkQ (q1 Kn 0) (q1 Kr 2) ke0) t h :=
  draw_okF (by kernel_rfl) (by kernel_rfl) H0 (by kernel_rfl)
def F187_6 (x0 : Value) (h : H) (Kn : VP1) (Kr : VP1) : Prop :=
  o_nilCheck x0 fun v22 => o_load false 1 v22 h fun v23 => o_nilCheck x0 fun v25 => o_load false 1 v25 h fun v26 => o_bin Tryz.prog .shl 316 v26 (.int .u64 17) fun v27 => o_bin Tryz.prog .xor 316 v23 v27 fun v28 => o_nilCheck x0 fun v29 => o_store 1 v29 v28 h fun h => Kn x0 h
theorem F187_6_ok (Kn Kr) (t : T) (h : H) (H0 : F187_6 (t 0) h Kn Kr) : Wp Tryz.prog 33 (seqL (seqR (seqR (rest 1 (bodyOf Tryz.f187.body))))) (mkQ (q1 Kn 0) (q1 Kr 2) ke0) t h :=
  draw_okF (by kernel_rfl) (by kernel_rfl) H0 (by kernel_rfl)
def F187_7 (x0 : Value) (h : H) (Kn : VP1) (Kr : VP1) : Prop :=
  o_nilCheck x0 fun v31 => o_load false 1 v31 h fun v32 => Kr v32 h
theorem F187_7_ok (Kn Kr) (t : T) (h : H) (H0 : F187_7 (t 0) h Kn Kr) : Wp Tryz.prog 33 (seqR (seqR (seqR (rest 1 (bodyOf Tryz.f187.body))))) (mkQ (q1 Kn 2) (q1 Kr 2) ke0) t h :=
  wpEqF H0 (by kernel_rfl)
def F187_5 (x0 : Value) (h : H) (Kn : VP1) (Kr : VP1) : Prop :=
  F187_6 x0 h (fun y0 h => F187_7 y0 h Kn Kr) Kr
theorem F187_5_ok (Kn Kr) (t : T) (h : H) (H0 : F187_5 (t 0) h Kn Kr) : Wp Tryz.prog 33 (seqR (seqR (rest 1 (bodyOf Tryz.f187.body)))) (mkQ (q1 Kn 2) (q1 Kr 2) ke0) t h :=
  seq_ok (by kernel_rfl) (fun t h H1 => F187_7_ok Kn Kr t h H1) (F187_6_ok (fun y0 h => F187_7 y0 h Kn Kr) Kr t h H0)
def F187_3 (x0 : Value) (h : H) (Kn : VP1) (Kr : VP1) : Prop :=
  F187_4 x0 h (fun y0 h => F187_5 y0 h Kn Kr) Kr
theorem F187_3_ok (Kn Kr) (t : T) (h : H) (H0 : F187_3 (t 0) h Kn Kr) : Wp Tryz.prog 33 (seqR (rest 1 (bodyOf Tryz.f187.body))) (mkQ (q1 Kn 2) (q1 Kr 2) ke0) t h :=
  seq_ok (by kernel_rfl) (fun t h H1 => F187_5_ok Kn Kr t h H1) (F187_4_ok (fun y0 h => F187_5 y0 h Kn Kr) Kr t h H0)
def F187_1 (x0 : Value) (h : H) (Kn : VP1) (Kr : VP1) : Prop :=
  F187_2 x0 h (fun y0 h => F187_3 y0 h Kn Kr) Kr
theorem F187_1_ok (Kn Kr) (t : T) (h : H) (H0 : F187_1 (t 0) h Kn Kr) : Wp Tryz.prog 33 (rest 1 (bodyOf Tryz.f187.body)) (mkQ (q1 Kn 2) (q1 Kr 2) ke0) t h :=
  seq_ok (by kernel_rfl) (fun t h H1 => F187_3_ok Kn Kr t h H1) (F187_2_ok (fun y0 h => F187_3 y0 h Kn Kr) Kr t h H0)
def F187_0 (x0 : Value) (h : H) (Kn : VP1) (Kr : VP1) : Prop :=
  F187_1 x0 h Kn Kr
theorem F187_0_ok (Kn Kr) (t : T) (h : H) (H0 : F187_0 (t 0) h Kn Kr) : Wp Tryz.prog 33 (bodyOf Tryz.f187.body) (mkQ (q1 Kn 2) (q1 Kr 2) ke0) t h :=
  awpTo_okF 1 H0 (by kernel_rfl) (fun t h (H1 : F187_1 (t 0) h Kn Kr) => F187_1_ok Kn Kr t h H1) (by kernel_rfl)
def F187 (x0 : Value) (h : H) (Q : VP1) : Prop := F187_0 x0 h (fun v h => Q v h) (fun v h => Q v h)
theorem F187_spec (x0 : Value) (h : H) (Q : VP1) (H0 : F187 x0 h Q) : AM.Spec Tryz.prog 187 [x0] h Q :=
  spec_wp mixed (fn := Tryz.f187) Tryz.func187 (c := bodyOf Tryz.f187.body) (rs := [2]) (N := 33) (by kernel_rfl) (by kernel_rfl) (by kernel_rfl) (by kernel_rfl) (by kernel_rfl) (Nat.le_of_ble_eq_true rfl) (F187_0_ok (fun v h => Q v h) (fun v h => Q v h) (tinit [x0]) h H0) (by kernel_rfl)
def F175_10 (x0 x1 x6 x7 x8 x9 x10 : Value) (h : H) (Kn : VP7) (Kr : H → Prop) (Ke1 : VP6) (Ke0 : H → Prop) : Prop :=
  o_bin Tryz.prog .geq 3 x10 x6 fun v43 => o_if v43 (o_bin Tryz.prog .sub 3 x10 x6 fun v46 => Kn x0 x1 x6 x7 x8 x9 v46 h) (Kn x0 x1 x6 x7 x8 x9 x10 h)
theorem F175_10_ok (Kn Kr Ke1 Ke0) (t : T) (h : H) (H0 : F175_10 (t 0) (t 1) (t 6) (t 7) (t 8) (t 9) (t 10) h Kn Kr Ke1 Ke0) : Wp Tryz.prog 65 (seqL (rest 1 (blkC (seqL (rest 1 (lopC (blkC (rest 3 (cndX (rest 2 (bodyOf Tryz.f175.body))))))))))) (mkQ (q7 Kn 0 1 6 7 8 9 10) (q0 Kr) (keAdd 1 (q6 Ke1 0 1 6 7 8 9) (keAdd 0 (q0 Ke0) ke0))) t h :=
  wpEqF H0 (by kernel_rfl)
def F175_11 (x0 x1 x6 x7 x8 x9 x10 : Value) (h : H) (Kn : VP6) (Kr : H → Prop) (Ke1 : VP6) (Ke0 : H → Prop) : Prop :=
  o_bin Tryz.prog .add 3 x1 x10 fun v52 => o_bin Tryz.prog .add 3 x1 x10 fun v56 => o_indexAddr none 1 x0 v56 fun v57 => o_load false 1 v57 h fun v58 => o_indexAddr none 1 x0 x9 fun v61 => o_load false 1 v61 h fun v62 => o_indexAddr none 1 x0 x9 fun v63 => o_store 1 v63 v58 h fun h => o_indexAddr none 1 x0 v52 fun v64 => o_store 1 v64 v62 h fun h => Kn x0 x1 x6 x7 x8 x9 h
theorem F175_11_ok (Kn Kr Ke1 Ke0) (t : T) (h : H) (H0 : F175_11 (t 0) (t 1) (t 6) (t 7) (t 8) (t 9) (t 10) h Kn Kr Ke1 Ke0) : Wp Tryz.prog 65 (seqR (rest 1 (blkC (seqL (rest 1 (lopC (blkC (rest 3 (cndX (rest 2 (bodyOf Tryz.f175.body))))))))))) (mkQ (q6 Kn 0 1 6 7 8 9) (q0 Kr) (keAdd 1 (q6 Ke1 0 1 6 7 8 9) (keAdd 0 (q0 Ke0) ke0))) t h :=
  draw_okF (by kernel_rfl) (by kernel_rfl) H0 (by kernel_rfl)
def F175_9 (x0 x1 x6 x7 x8 x9 x10 : Value) (h : H) (Kn : VP6) (Kr : H → Prop) (Ke1 : VP6) (Ke0 : H → Prop) : Prop :=
  F175_10 x0 x1 x6 x7 x8 x9 x10 h (fun y0 y1 y6 y7 y8 y9 y10 h => F175_11 y0 y1 y6 y7 y8 y9 y10 h Kn Kr Ke1 Ke0) Kr Ke1 Ke0
theorem F175_9_ok (Kn Kr Ke1 Ke0) (t : T) (h : H) (H0 : F175_9 (t 0) (t 1) (t 6) (t 7) (t 8) (t 9) (t 10) h Kn Kr Ke1 Ke0) : Wp Tryz.prog 65 (rest 1 (blkC (seqL (rest 1 (lopC (blkC (rest 3 (cndX (rest 2 (bodyOf Tryz.f175.body)))))))))) (mkQ (q6 Kn 0 1 6 7 8 9) (q0 Kr) (keAdd 1 (q6 Ke1 0 1 6 7 8 9) (keAdd 0 (q0 Ke0) ke0))) t h :=
  seq_ok (by kernel_rfl) (fun t h H1 => F175_11_ok Kn Kr Ke1 Ke0 t h H1) (F175_10_ok (fun y0 y1 y6 y7 y8 y9 y10 h => F175_11 y0 y1 y6 y7 y8 y9 y10 h Kn Kr Ke1 Ke0) Kr Ke1 Ke0 t h H0)
def F175_8 (x0 x1 x6 x7 x8 x9 : Value) (h : H) (Kn : VP6) (Kr : H → Prop) (Ke1 : VP6) (Ke0 : H → Prop) : Prop :=
  o_call Tryz.prog 187 [x7] h fun v36 h => o_bin Tryz.prog .sub 194 x8 (.int .u64 1) fun v38 => o_bin Tryz.prog .and 194 v36 v38 fun v39 => o_conv .i64 v39 fun v40 => F175_9 x0 x1 x6 x7 x8 x9 v40 h Kn Kr Ke1 Ke0
theorem F175_8_ok (Kn Kr Ke1 Ke0) (t : T) (h : H) (H0 : F175_8 (t 0) (t 1) (t 6) (t 7) (t 8) (t 9) h Kn Kr Ke1 Ke0) : Wp Tryz.prog 65 (blkC (seqL (rest 1 (lopC (blkC (rest 3 (cndX (rest 2 (bodyOf Tryz.f175.body))))))))) (mkQ (q6 Kn 0 1 6 7 8 9) (q0 Kr) (keAdd 1 (q6 Ke1 0 1 6 7 8 9) (keAdd 0 (q0 Ke0) ke0))) t h :=
  awpTo_okF 1 H0 (by kernel_rfl) (fun t h (H1 : F175_9 (t 0) (t 1) (t 6) (t 7) (t 8) (t 9) (t 10) h Kn Kr Ke1 Ke0) => F175_9_ok Kn Kr Ke1 Ke0 t h H1) (by kernel_rfl)
def F175_7 (x0 x1 x6 x7 x8 x9 : Value) (h : H) (Kn : VP6) (Kr : H → Prop) (Ke0 : H → Prop) : Prop :=
  F175_8 x0 x1 x6 x7 x8 x9 h Kn Kr Kn Ke0
theorem F175_7_ok (Kn Kr Ke0) (t : T) (h : H) (H0 : F175_7 (t 0) (t 1) (t 6) (t 7) (t 8) (t 9) h Kn Kr Ke0) : Wp Tryz.prog 65 (seqL (rest 1 (lopC (blkC (rest 3 (cndX (rest 2 (bodyOf Tryz.f175.body)))))))) (mkQ (q6 Kn 0 1 6 7 8 9) (q0 Kr) (keAdd 0 (q0 Ke0) ke0)) t h :=
  block_ok 1 (by kernel_rfl) (by kernel_rfl) (F175_8_ok Kn Kr Kn Ke0 t h H0)
def F175_12 (x0 x1 x6 x7 x8 x9 : Value) (h : H) (Kn : VP6) (Kr : H → Prop) (Ke0 : H → Prop) : Prop :=
  o_bin Tryz.prog .add 3 x9 (.int .i64 1) fun v35 => Kn x0 x1 x6 x7 x8 v35 h
theorem F175_12_ok (Kn Kr Ke0) (t : T) (h : H) (H0 : F175_12 (t 0) (t 1) (t 6) (t 7) (t 8) (t 9) h Kn Kr Ke0) : Wp Tryz.prog 65 (seqR (rest 1 (lopC (blkC (rest 3 (cndX (rest 2 (bodyOf Tryz.f175.body)))))))) (mkQ (q6 Kn 0 1 6 7 8 9) (q0 Kr) (keAdd 0 (q0 Ke0) ke0)) t h :=
  wpEqF H0 (by kernel_rfl)
def F175_6 (x0 x1 x6 x7 x8 x9 : Value) (h : H) (Kn : VP6) (Kr : H → Prop) (Ke0 : H → Prop) : Prop :=
  F175_7 x0 x1 x6 x7 x8 x9 h (fun y0 y1 y6 y7 y8 y9 h => F175_12 y0 y1 y6 y7 y8 y9 h Kn Kr Ke0) Kr Ke0
theorem F175_6_ok (Kn Kr Ke0) (t : T) (h : H) (H0 : F175_6 (t 0) (t 1) (t 6) (t 7) (t 8) (t 9) h Kn Kr Ke0) : Wp Tryz.prog 65 (rest 1 (lopC (blkC (rest 3 (cndX (rest 2 (bodyOf Tryz.f175.body))))))) (mkQ (q6 Kn 0 1 6 7 8 9) (q0 Kr) (keAdd 0 (q0 Ke0) ke0)) t h :=
  seq_ok (by kernel_rfl) (fun t h H1 => F175_12_ok Kn Kr Ke0 t h H1) (F175_7_ok (fun y0 y1 y6 y7 y8 y9 h => F175_12 y0 y1 y6 y7 y8 y9 h Kn Kr Ke0) Kr Ke0 t h H0)
def F175_5 (x0 x1 x6 x7 x8 x9 : Value) (h : H) (Kn : VP6) (Kr : H → Prop) (Ke0 : H → Prop) : Prop :=
  o_bin Tryz.prog .quo 3 x6 (.int .i64 4) fun v29 => o_bin Tryz.prog .mul 3 v29 (.int .i64 2) fun v30 => o_bin Tryz.prog .add 3 x1 v30 fun v31 => o_bin Tryz.prog .add 3 v31 (.int .i64 1) fun v32 => o_bin Tryz.prog .leq 3 x9 v32 fun v33 => o_if v33 (F175_6 x0 x1 x6 x7 x8 x9 h Kn Kr Ke0) (Ke0 h)
theorem F175_5_ok (Kn Kr Ke0) (t : T) (h : H) (H0 : F175_5 (t 0) (t 1) (t 6) (t 7) (t 8) (t 9) h Kn Kr Ke0) : Wp Tryz.prog 65 (lopC (blkC (rest 3 (cndX (rest 2 (bodyOf Tryz.f175.body)))))) (mkQ (q6 Kn 0 1 6 7 8 9) (q0 Kr) (keAdd 0 (q0 Ke0) ke0)) t h :=
  awpTo_okF 1 H0 (by kernel_rfl) (fun t h (H1 : F175_6 (t 0) (t 1) (t 6) (t 7) (t 8) (t 9) h Kn Kr Ke0) => F175_6_ok Kn Kr Ke0 t h H1) (by kernel_rfl)
def F175_4 (x0 x1 x6 x7 x8 x9 : Value) (h : H) (Kn : H → Prop) (Kr : H → Prop) (Ke0 : H → Prop) : Prop :=
  sloop (S := Value × Value × Value × Value × Value × Value) (fun s h K => F175_5 s.1 s.2.1 s.2.2.1 s.2.2.2.1 s.2.2.2.2.1 s.2.2.2.2.2 h (fun y0 y1 y6 y7 y8 y9 h => K (y0, y1, y6, y7, y8, y9) h) Kr Ke0) (x0, x1, x6, x7, x8, x9) h
theorem F175_4_ok (Kn Kr Ke0) (t : T) (h : H) (H0 : F175_4 (t 0) (t 1) (t 6) (t 7) (t 8) (t 9) h Kn Kr Ke0) : Wp Tryz.prog 65 (blkC (rest 3 (cndX (rest 2 (bodyOf Tryz.f175.body))))) (mkQ (q0 Kn) (q0 Kr) (keAdd 0 (q0 Ke0) ke0)) t h :=
  loop_ok (fun t => (t 0, t 1, t 6, t 7, t 8, t 9)) (by kernel_rfl) (fun t h K H1 => F175_5_ok (fun y0 y1 y6 y7 y8 y9 h => K (y0, y1, y6, y7, y8, y9) h) Kr Ke0 t h H1) H0
def F175_3 (x0 x1 x6 x7 x8 x9 : Value) (h : H) (Kn : H → Prop) (Kr : H → Prop) : Prop :=
  F175_4 x0 x1 x6 x7 x8 x9 h Kn Kr Kn
theorem F175_3_ok (Kn Kr) (t : T) (h : H) (H0 : F175_3 (t 0) (t 1) (t 6) (t 7) (t 8) (t 9) h Kn Kr) : Wp Tryz.prog 65 (rest 3 (cndX (rest 2 (bodyOf Tryz.f175.body)))) (mkQ (q0 Kn) (q0 Kr) ke0) t h :=
  block_ok 0 (by kernel_rfl) (by kernel_rfl) (F175_4_ok Kn Kr Kn t h H0)
def F175_2 (x0 x1 x6 : Value) (h : H) (Kn : H → Prop) (Kr : H → Prop) : Prop :=
  o_conv .u64 x6 fun v17 => o_new [.int .u64 0] 316 .exact h fun b7 h => o_store 1 (.pointer (some ⟨b7, 0, none⟩)) v17 h fun h => o_call Tryz.prog 186 [x6] h fun v19 h => o_bin Tryz.prog .quo 3 x6 (.int .i64 4) fun v22 => o_bin Tryz.prog .mul 3 v22 (.int .i64 2) fun v23 => o_bin Tryz.prog .add 3 x1 v23 fun v24 => o_bin Tryz.prog .sub 3 v24 (.int .i64 1) fun v25 => F175_3 x0 x1 x6 (.pointer (some ⟨b7, 0, none⟩)) v19 v25 h Kn Kr
theorem F175_2_ok (Kn Kr) (t : T) (h : H) (H0 : F175_2 (t 0) (t 1) (t 6) h Kn Kr) : Wp Tryz.prog 65 (cndX (rest 2 (bodyOf Tryz.f175.body))) (mkQ (q0 Kn) (q0 Kr) ke0) t h :=
  awpTo_okF 3 H0 (by kernel_rfl) (fun t h (H1 : F175_3 (t 0) (t 1) (t 6) (t 7) (t 8) (t 9) h Kn Kr) => F175_3_ok Kn Kr t h H1) (by kernel_rfl)
def F175_13 (h : H) (Kn : H → Prop) (Kr : H → Prop) : Prop :=
  Kn h
theorem F175_13_ok (Kn Kr) (t : T) (h : H) (H0 : F175_13  h Kn Kr) : Wp Tryz.prog 65 (cndY (rest 2 (bodyOf Tryz.f175.body))) (mkQ (q0 Kn) (q0 Kr) ke0) t h :=
  wpEqF H0 (by kernel_rfl)
def F175_1 (x0 x1 x6 x15 : Value) (h : H) (Kn : H → Prop) (Kr : H → Prop) : Prop :=
  o_if x15 (F175_2 x0 x1 x6 h Kn Kr) (F175_13  h Kn Kr)
theorem F175_1_ok (Kn Kr) (t : T) (h : H) (H0 : F175_1 (t 0) (t 1) (t 6) (t 15) h Kn Kr) : Wp Tryz.prog 65 (rest 2 (bodyOf Tryz.f175.body)) (mkQ (q0 Kn) (q0 Kr) ke0) t h :=
  cond_ok H0 (by kernel_rfl) (F175_2_ok Kn Kr t h) (F175_13_ok Kn Kr t h) (by kernel_rfl)
def F175_0 (x0 x1 x2 : Value) (h : H) (Kn : H → Prop) (Kr : H → Prop) : Prop :=
  o_bin Tryz.prog .sub 3 x2 x1 fun v13 => o_bin Tryz.prog .geq 3 v13 (.int .i64 8) fun v15 => F175_1 x0 x1 v13 v15 h Kn Kr
theorem F175_0_ok (Kn Kr) (t : T) (h : H) (H0 : F175_0 (t 0) (t 1) (t 2) h Kn Kr) : Wp Tryz.prog 65 (bodyOf Tryz.f175.body) (mkQ (q0 Kn) (q0 Kr) ke0) t h :=
  awpTo_okF 2 H0 (by kernel_rfl) (fun t h (H1 : F175_1 (t 0) (t 1) (t 6) (t 15) h Kn Kr) => F175_1_ok Kn Kr t h H1) (by kernel_rfl)
def F175 (x0 x1 x2 : Value) (h : H) (Q : VP1) : Prop := F175_0 x0 x1 x2 h (fun h => bif [].all boxV then Q (.tuple #[]) h else False) (fun h => bif [].all boxV then Q (.tuple #[]) h else False)
theorem F175_spec (x0 x1 x2 : Value) (h : H) (Q : VP1) (H0 : F175 x0 x1 x2 h Q) : AM.Spec Tryz.prog 175 [x0, x1, x2] h Q :=
  spec_wp mixed (fn := Tryz.f175) Tryz.func175 (c := bodyOf Tryz.f175.body) (rs := []) (N := 65) (by kernel_rfl) (by kernel_rfl) (by kernel_rfl) (by kernel_rfl) (by kernel_rfl) (Nat.le_of_ble_eq_true rfl) (F175_0_ok (fun h => bif [].all boxV then Q (.tuple #[]) h else False) (fun h => bif [].all boxV then Q (.tuple #[]) h else False) (tinit [x0, x1, x2]) h H0) (by kernel_rfl)
def F178_13 (x0 x1 x2 x7 x8 : Value) (h : H) (Kn : VP6) (Kr : VP1) (Ke2 : VP5) (Ke1 : VP5) (Ke0 : H → Prop) : Prop :=
  o_bin Tryz.prog .lss 3 x7 x2 fun v19 => o_guard v19 true (fun k4 => k4 x0 h) (fun v21 h => o_guard v19 true (fun k5 => k5 x7 h) (fun v22 h => o_guard v19 true (fun k6 => o_indexAddr none 1 v21 v22 fun v23 => k6 v23 h) (fun v23 h => o_guard v19 true (fun k7 => o_load false 1 v23 h fun v24 => k7 v24 h) (fun v24 h => o_guard v19 true (fun k8 => k8 x0 h) (fun v25 h => o_guard v19 true (fun k9 => k9 x7 h) (fun v26 h => o_guard v19 true (fun k10 => o_bin Tryz.prog .sub 3 v26 (.int .i64 1) fun v27 => k10 v27 h) (fun v27 h => o_guard v19 true (fun k11 => o_indexAddr none 1 v25 v27 fun v28 => k11 v28 h) (fun v28 h => o_guard v19 true (fun k12 => o_load false 1 v28 h fun v29 => k12 v29 h) (fun v29 h => o_guard v19 true (fun k13 => o_dcall DS 179 [v24, v29] h fun v30 h => k13 v30 h) (fun v30 h => o_guard v19 true (fun k14 => o_un Tryz.prog .not v30 fun v31 => k14 v31 h) (fun v31 h => o_pick v19 v31 (.bool false) fun v32 => Kn x0 x1 x2 x7 x8 v32 h) h) h) h) h) h) h) h) h) h) h) h
theorem F178_13_ok (Kn Kr Ke2 Ke1 Ke0) (t : T) (h : H) (H0 : F178_13 (t 0) (t 1) (t 2) (t 7) (t 8) h Kn Kr Ke2 Ke1 Ke0) : Wp Tryz.prog 133 (seqL (seqL (lopC (blkC (seqL (blkC (seqL (rest 1 (lopC (blkC (rest 1 (seqL (rest 2 (bodyOf Tryz.f178.body)))))))))))))) (mkQ (q6 Kn 0 1 2 7 8 32) (q1 Kr 6) (keAdd 2 (q5 Ke2 0 1 2 7 8) (keAdd 1 (q5 Ke1 0 1 2 7 8) (keAdd 0 (q0 Ke0) ke0)))) t h :=
  drawD_ok dsOk (by kernel_rfl) (by kernel_rfl) H0 (by kernel_rfl)
def F178_14 (x0 x1 x2 x7 x8 x32 : Value) (h : H) (Kn : VP5) (Kr : VP1) (Ke2 : VP5) (Ke1 : VP5) (Ke0 : H → Prop) : Prop :=
  o_if x32 (Kn x0 x1 x2 x7 x8 h) (Ke2 x0 x1 x2 x7 x8 h)
theorem F178_14_ok (Kn Kr Ke2 Ke1 Ke0) (t : T) (h : H) (H0 : F178_14 (t 0) (t 1) (t 2) (t 7) (t 8) (t 32) h Kn Kr Ke2 Ke1 Ke0) : Wp Tryz.prog 133 (seqR (seqL (lopC (blkC (seqL (blkC (seqL (rest 1 (lopC (blkC (rest 1 (seqL (rest 2 (bodyOf Tryz.f178.body)))))))))))))) (mkQ (q5 Kn 0 1 2 7 8) (q1 Kr 6) (keAdd 2 (q5 Ke2 0 1 2 7 8) (keAdd 1 (q5 Ke1 0 1 2 7 8) (keAdd 0 (q0 Ke0) ke0)))) t h :=
  wpEqF H0 (by kernel_rfl)
def F178_12 (x0 x1 x2 x7 x8 : Value) (h : H) (Kn : VP5) (Kr : VP1) (Ke2 : VP5) (Ke1 : VP5) (Ke0 : H → Prop) : Prop :=
  F178_13 x0 x1 x2 x7 x8 h (fun y0 y1 y2 y7 y8 y32 h => F178_14 y0 y1 y2 y7 y8 y32 h Kn Kr Ke2 Ke1 Ke0) Kr Ke2 Ke1 Ke0
theorem F178_12_ok (Kn Kr Ke2 Ke1 Ke0) (t : T) (h : H) (H0 : F178_12 (t 0) (t 1) (t 2) (t 7) (t 8) h Kn Kr Ke2 Ke1 Ke0) : Wp Tryz.prog 133 (seqL (lopC (blkC (seqL (blkC (seqL (rest 1 (lopC (blkC (rest 1 (seqL (rest 2 (bodyOf Tryz.f178.body))))))))))))) (mkQ (q5 Kn 0 1 2 7 8) (q1 Kr 6) (keAdd 2 (q5 Ke2 0 1 2 7 8) (keAdd 1 (q5 Ke1 0 1 2 7 8) (keAdd 0 (q0 Ke0) ke0)))) t h :=
  seq_ok (by kernel_rfl) (fun t h H1 => F178_14_ok Kn Kr Ke2 Ke1 Ke0 t h H1) (F178_13_ok (fun y0 y1 y2 y7 y8 y32 h => F178_14 y0 y1 y2 y7 y8 y32 h Kn Kr Ke2 Ke1 Ke0) Kr Ke2 Ke1 Ke0 t h H0)
def F178_15 (x0 x1 x2 x7 x8 : Value) (h : H) (Kn : VP5) (Kr : VP1) (Ke2 : VP5) (Ke1 : VP5) (Ke0 : H → Prop) : Prop :=
  o_bin Tryz.prog .add 3 x7 (.int .i64 1) fun v34 => Kn x0 x1 x2 v34 x8 h
theorem F178_15_ok (Kn Kr Ke2 Ke1 Ke0) (t : T) (h : H) (H0 : F178_15 (t 0) (t 1) (t 2) (t 7) (t 8) h Kn Kr Ke2 Ke1 Ke0) : Wp Tryz.prog 133 (seqR (lopC (blkC (seqL (blkC (seqL (rest 1 (lopC (blkC (rest 1 (seqL (rest 2 (bodyOf Tryz.f178.body))))))))))))) (mkQ (q5 Kn 0 1 2 7 8) (q1 Kr 6) (keAdd 2 (q5 Ke2 0 1 2 7 8) (keAdd 1 (q5 Ke1 0 1 2 7 8) (keAdd 0 (q0 Ke0) ke0)))) t h :=
  wpEqF H0 (by kernel_rfl)
def F178_11 (x0 x1 x2 x7 x8 : Value) (h : H) (Kn : VP5) (Kr : VP1) (Ke2 : VP5) (Ke1 : VP5) (Ke0 : H → Prop) : Prop :=
  F178_12 x0 x1 x2 x7 x8 h (fun y0 y1 y2 y7 y8 h => F178_15 y0 y1 y2 y7 y8 h Kn Kr Ke2 Ke1 Ke0) Kr Ke2 Ke1 Ke0
theorem F178_11_ok (Kn Kr Ke2 Ke1 Ke0) (t : T) (h : H) (H0 : F178_11 (t 0) (t 1) (t 2) (t 7) (t 8) h Kn Kr Ke2 Ke1 Ke0) : Wp Tryz.prog 133 (lopC (blkC (seqL (blkC (seqL (rest 1 (lopC (blkC (rest 1 (seqL (rest 2 (bodyOf Tryz.f178.body)))))))))))) (mkQ (q5 Kn 0 1 2 7 8) (q1 Kr 6) (keAdd 2 (q5 Ke2 0 1 2 7 8) (keAdd 1 (q5 Ke1 0 1 2 7 8) (keAdd 0 (q0 Ke0) ke0)))) t h :=
  seq_ok (by kernel_rfl) (fun t h H1 => F178_15_ok Kn Kr Ke2 Ke1 Ke0 t h H1) (F178_12_ok (fun y0 y1 y2 y7 y8 h => F178_15 y0 y1 y2 y7 y8 h Kn Kr Ke2 Ke1 Ke0) Kr Ke2 Ke1 Ke0 t h H0)
def F178_10 (x0 x1 x2 x7 x8 : Value) (h : H) (Kn : VP5) (Kr : VP1) (Ke2 : VP5) (Ke1 : VP5) (Ke0 : H → Prop) : Prop :=
  sloop (S := Value × Value × Value × Value × Value) (fun s h K => F178_11 s.1 s.2.1 s.2.2.1 s.2.2.2.1 s.2.2.2.2 h (fun y0 y1 y2 y7 y8 h => K (y0, y1, y2, y7, y8) h) Kr Ke2 Ke1 Ke0) (x0, x1, x2, x7, x8) h
theorem F178_10_ok (Kn Kr Ke2 Ke1 Ke0) (t : T) (h : H) (H0 : F178_10 (t 0) (t 1) (t 2) (t 7) (t 8) h Kn Kr Ke2 Ke1 Ke0) : Wp Tryz.prog 133 (blkC (seqL (blkC (seqL (rest 1 (lopC (blkC (rest 1 (seqL (rest 2 (bodyOf Tryz.f178.body))))))))))) (mkQ (q5 Kn 0 1 2 7 8) (q1 Kr 6) (keAdd 2 (q5 Ke2 0 1 2 7 8) (keAdd 1 (q5 Ke1 0 1 2 7 8) (keAdd 0 (q0 Ke0) ke0)))) t h :=
  loop_ok (fun t => (t 0, t 1, t 2, t 7, t 8)) (by kernel_rfl) (fun t h K H1 => F178_11_ok (fun y0 y1 y2 y7 y8 h => K (y0, y1, y2, y7, y8) h) Kr Ke2 Ke1 Ke0 t h H1) H0
def F178_9 (x0 x1 x2 x7 x8 : Value) (h : H) (Kn : VP5) (Kr : VP1) (Ke1 : VP5) (Ke0 : H → Prop) : Prop :=
  F178_10 x0 x1 x2 x7 x8 h Kn Kr Kn Ke1 Ke0
theorem F178_9_ok (Kn Kr Ke1 Ke0) (t : T) (h : H) (H0 : F178_9 (t 0) (t 1) (t 2) (t 7) (t 8) h Kn Kr Ke1 Ke0) : Wp Tryz.prog 133 (seqL (blkC (seqL (rest 1 (lopC (blkC (rest 1 (seqL (rest 2 (bodyOf Tryz.f178.body)))))))))) (mkQ (q5 Kn 0 1 2 7 8) (q1 Kr 6) (keAdd 1 (q5 Ke1 0 1 2 7 8) (keAdd 0 (q0 Ke0) ke0))) t h :=
  block_ok 2 (by kernel_rfl) (by kernel_rfl) (F178_10_ok Kn Kr Kn Ke1 Ke0 t h H0)
def F178_18 (x0 x1 x2 x7 x8 : Value) (h : H) (Kn : VP5) (Kr : VP1) (Ke1 : VP5) (Ke0 : H → Prop) : Prop :=
  o_bin Tryz.prog .sub 3 x7 (.int .i64 1) fun v46 => o_bin Tryz.prog .sub 3 x7 (.int .i64 1) fun v49 => o_indexAddr none 1 x0 v49 fun v50 => o_load false 1 v50 h fun v51 => o_indexAddr none 1 x0 x7 fun v54 => o_load false 1 v54 h fun v55 => o_indexAddr none 1 x0 x7 fun v56 => o_store 1 v56 v51 h fun h => o_indexAddr none 1 x0 v46 fun v57 => o_store 1 v57 v55 h fun h => Kn x0 x1 x2 x7 x8 h
theorem F178_18_ok (Kn Kr Ke1 Ke0) (t : T) (h : H) (H0 : F178_18 (t 0) (t 1) (t 2) (t 7) (t 8) h Kn Kr Ke1 Ke0) : Wp Tryz.prog 133 (seqL (rest 2 (seqR (blkC (seqL (rest 1 (lopC (blkC (rest 1 (seqL (rest 2 (bodyOf Tryz.f178.body)))))))))))) (mkQ (q5 Kn 0 1 2 7 8) (q1 Kr 6) (keAdd 1 (q5 Ke1 0 1 2 7 8) (keAdd 0 (q0 Ke0) ke0))) t h :=
  draw_okF (by kernel_rfl) (by kernel_rfl) H0 (by kernel_rfl)
def F178_30 (x0 x1 x2 x7 x8 x9 : Value) (h : H) (Kn : VP7) (Kr : VP1) (Ke5 : VP6) (Ke4 : VP5) (Ke1 : VP5) (Ke0 : H → Prop) : Prop :=
  o_indexAddr none 1 x0 x9 fun v70 => o_load false 1 v70 h fun v71 => o_bin Tryz.prog .sub 3 x9 (.int .i64 1) fun v74 => o_indexAddr none 1 x0 v74 fun v75 => o_load false 1 v75 h fun v76 => o_dcall DS 179 [v71, v76] h fun v77 h => o_un Tryz.prog .not v77 fun v78 => Kn x0 x1 x2 x7 x8 x9 v78 h
theorem F178_30_ok (Kn Kr Ke5 Ke4 Ke1 Ke0) (t : T) (h : H) (H0 : F178_30 (t 0) (t 1) (t 2) (t 7) (t 8) (t 9) h Kn Kr Ke5 Ke4 Ke1 Ke0) : Wp Tryz.prog 133 (seqL (seqL (blkC (seqL (rest 1 (lopC (blkC (rest 1 (cndX (rest 1 (seqL (seqR (rest 2 (seqR (blkC (seqL (rest 1 (lopC (blkC (rest 1 (seqL (rest 2 (bodyOf Tryz.f178.body))))))))))))))))))))))) (mkQ (q7 Kn 0 1 2 7 8 9 78) (q1 Kr 6) (keAdd 5 (q6 Ke5 0 1 2 7 8 9) (keAdd 4 (q5 Ke4 0 1 2 7 8) (keAdd 1 (q5 Ke1 0 1 2 7 8) (keAdd 0 (q0 Ke0) ke0))))) t h :=
  drawD_ok dsOk (by kernel_rfl) (by kernel_rfl) H0 (by kernel_rfl)
def F178_31 (x0 x1 x2 x7 x8 x9 x78 : Value) (h : H) (Kn : VP6) (Kr : VP1) (Ke5 : VP6) (Ke4 : VP5) (Ke1 : VP5) (Ke0 : H → Prop) : Prop :=
  o_if x78 (Ke4 x0 x1 x2 x7 x8 h) (Kn x0 x1 x2 x7 x8 x9 h)
theorem F178_31_ok (Kn Kr Ke5 Ke4 Ke1 Ke0) (t : T) (h : H) (H0 : F178_31 (t 0) (t 1) (t 2) (t 7) (t 8) (t 9) (t 78) h Kn Kr Ke5 Ke4 Ke1 Ke0) : Wp Tryz.prog 133 (seqR (seqL (blkC (seqL (rest 1 (lopC (blkC (rest 1 (cndX (rest 1 (seqL (seqR (rest 2 (seqR (blkC (seqL (rest 1 (lopC (blkC (rest 1 (seqL (rest 2 (bodyOf Tryz.f178.body))))))))))))))))))))))) (mkQ (q6 Kn 0 1 2 7 8 9) (q1 Kr 6) (keAdd 5 (q6 Ke5 0 1 2 7 8 9) (keAdd 4 (q5 Ke4 0 1 2 7 8) (keAdd 1 (q5 Ke1 0 1 2 7 8) (keAdd 0 (q0 Ke0) ke0))))) t h :=
  wpEqF H0 (by kernel_rfl)
def F178_29 (x0 x1 x2 x7 x8 x9 : Value) (h : H) (Kn : VP6) (Kr : VP1) (Ke5 : VP6) (Ke4 : VP5) (Ke1 : VP5) (Ke0 : H → Prop) : Prop :=
  F178_30 x0 x1 x2 x7 x8 x9 h (fun y0 y1 y2 y7 y8 y9 y78 h => F178_31 y0 y1 y2 y7 y8 y9 y78 h Kn Kr Ke5 Ke4 Ke1 Ke0) Kr Ke5 Ke4 Ke1 Ke0
theorem F178_29_ok (Kn Kr Ke5 Ke4 Ke1 Ke0) (t : T) (h : H) (H0 : F178_29 (t 0) (t 1) (t 2) (t 7) (t 8) (t 9) h Kn Kr Ke5 Ke4 Ke1 Ke0) : Wp Tryz.prog 133 (seqL (blkC (seqL (rest 1 (lopC (blkC (rest 1 (cndX (rest 1 (seqL (seqR (rest 2 (seqR (blkC (seqL (rest 1 (lopC (blkC (rest 1 (seqL (rest 2 (bodyOf Tryz.f178.body)))))))))))))))))))))) (mkQ (q6 Kn 0 1 2 7 8 9) (q1 Kr 6) (keAdd 5 (q6 Ke5 0 1 2 7 8 9) (keAdd 4 (q5 Ke4 0 1 2 7 8) (keAdd 1 (q5 Ke1 0 1 2 7 8) (keAdd 0 (q0 Ke0) ke0))))) t h :=
  seq_ok (by kernel_rfl) (fun t h H1 => F178_31_ok Kn Kr Ke5 Ke4 Ke1 Ke0 t h H1) (F178_30_ok (fun y0 y1 y2 y7 y8 y9 y78 h => F178_31 y0 y1 y2 y7 y8 y9 y78 h Kn Kr Ke5 Ke4 Ke1 Ke0) Kr Ke5 Ke4 Ke1 Ke0 t h H0)
def F178_32 (x0 x1 x2 x7 x8 x9 : Value) (h : H) (Kn : VP6) (Kr : VP1) (Ke5 : VP6) (Ke4 : VP5) (Ke1 : VP5) (Ke0 : H → Prop) : Prop :=
  o_bin Tryz.prog .sub 3 x9 (.int .i64 1) fun v83 => o_bin Tryz.prog .sub 3 x9 (.int .i64 1) fun v86 => o_indexAddr none 1 x0 v86 fun v87 => o_load false 1 v87 h fun v88 => o_indexAddr none 1 x0 x9 fun v91 => o_load false 1 v91 h fun v92 => o_indexAddr none 1 x0 x9 fun v93 => o_store 1 v93 v88 h fun h => o_indexAddr none 1 x0 v83 fun v94 => o_store 1 v94 v92 h fun h => Kn x0 x1 x2 x7 x8 x9 h
theorem F178_32_ok (Kn Kr Ke5 Ke4 Ke1 Ke0) (t : T) (h : H) (H0 : F178_32 (t 0) (t 1) (t 2) (t 7) (t 8) (t 9) h Kn Kr Ke5 Ke4 Ke1 Ke0) : Wp Tryz.prog 133 (seqR (blkC (seqL (rest 1 (lopC (blkC (rest 1 (cndX (rest 1 (seqL (seqR (rest 2 (seqR (blkC (seqL (rest 1 (lopC (blkC (rest 1 (seqL (rest 2 (bodyOf Tryz.f178.body)))))))))))))))))))))) (mkQ (q6 Kn 0 1 2 7 8 9) (q1 Kr 6) (keAdd 5 (q6 Ke5 0 1 2 7 8 9) (keAdd 4 (q5 Ke4 0 1 2 7 8) (keAdd 1 (q5 Ke1 0 1 2 7 8) (keAdd 0 (q0 Ke0) ke0))))) t h :=
  draw_okF (by kernel_rfl) (by kernel_rfl) H0 (by kernel_rfl)
def F178_28 (x0 x1 x2 x7 x8 x9 : Value) (h : H) (Kn : VP6) (Kr : VP1) (Ke5 : VP6) (Ke4 : VP5) (Ke1 : VP5) (Ke0 : H → Prop) : Prop :=
  F178_29 x0 x1 x2 x7 x8 x9 h (fun y0 y1 y2 y7 y8 y9 h => F178_32 y0 y1 y2 y7 y8 y9 h Kn Kr Ke5 Ke4 Ke1 Ke0) Kr Ke5 Ke4 Ke1 Ke0
theorem F178_28_ok (Kn Kr Ke5 Ke4 Ke1 Ke0) (t : T) (h : H) (H0 : F178_28 (t 0) (t 1) (t 2) (t 7) (t 8) (t 9) h Kn Kr Ke5 Ke4 Ke1 Ke0) : Wp Tryz.prog 133 (blkC (seqL (rest 1 (lopC (blkC (rest 1 (cndX (rest 1 (seqL (seqR (rest 2 (seqR (blkC (seqL (rest 1 (lopC (blkC (rest 1 (seqL (rest 2 (bodyOf Tryz.f178.body))))))))))))))))))))) (mkQ (q6 Kn 0 1 2 7 8 9) (q1 Kr 6) (keAdd 5 (q6 Ke5 0 1 2 7 8 9) (keAdd 4 (q5 Ke4 0 1 2 7 8) (keAdd 1 (q5 Ke1 0 1 2 7 8) (keAdd 0 (q0 Ke0) ke0))))) t h :=
  seq_ok (by kernel_rfl) (fun t h H1 => F178_32_ok Kn Kr Ke5 Ke4 Ke1 Ke0 t h H1) (F178_29_ok (fun y0 y1 y2 y7 y8 y9 h => F178_32 y0 y1 y2 y7 y8 y9 h Kn Kr Ke5 Ke4 Ke1 Ke0) Kr Ke5 Ke4 Ke1 Ke0 t h H0)
def F178_27 (x0 x1 x2 x7 x8 x9 : Value) (h : H) (Kn : VP6) (Kr : VP1) (Ke4 : VP5) (Ke1 : VP5) (Ke0 : H → Prop) : Prop :=
  F178_28 x0 x1 x2 x7 x8 x9 h Kn Kr Kn Ke4 Ke1 Ke0
theorem F178_27_ok (Kn Kr Ke4 Ke1 Ke0) (t : T) (h : H) (H0 : F178_27 (t 0) (t 1) (t 2) (t 7) (t 8) (t 9) h Kn Kr Ke4 Ke1 Ke0) : Wp Tryz.prog 133 (seqL (rest 1 (lopC (blkC (rest 1 (cndX (rest 1 (seqL (seqR (rest 2 (seqR (blkC (seqL (rest 1 (lopC (blkC (rest 1 (seqL (rest 2 (bodyOf Tryz.f178.body)))))))))))))))))))) (mkQ (q6 Kn 0 1 2 7 8 9) (q1 Kr 6) (keAdd 4 (q5 Ke4 0 1 2 7 8) (keAdd 1 (q5 Ke1 0 1 2 7 8) (keAdd 0 (q0 Ke0) ke0)))) t h :=
  block_ok 5 (by kernel_rfl) (by kernel_rfl) (F178_28_ok Kn Kr Kn Ke4 Ke1 Ke0 t h H0)
def F178_33 (x0 x1 x2 x7 x8 x9 : Value) (h : H) (Kn : VP6) (Kr : VP1) (Ke4 : VP5) (Ke1 : VP5) (Ke0 : H → Prop) : Prop :=
  o_bin Tryz.prog .sub 3 x9 (.int .i64 1) fun v67 => Kn x0 x1 x2 x7 x8 v67 h
theorem F178_33_ok (Kn Kr Ke4 Ke1 Ke0) (t : T) (h : H) (H0 : F178_33 (t 0) (t 1) (t 2) (t 7) (t 8) (t 9) h Kn Kr Ke4 Ke1 Ke0) : Wp Tryz.prog 133 (seqR (rest 1 (lopC (blkC (rest 1 (cndX (rest 1 (seqL (seqR (rest 2 (seqR (blkC (seqL (rest 1 (lopC (blkC (rest 1 (seqL (rest 2 (bodyOf Tryz.f178.body)))))))))))))))))))) (mkQ (q6 Kn 0 1 2 7 8 9) (q1 Kr 6) (keAdd 4 (q5 Ke4 0 1 2 7 8) (keAdd 1 (q5 Ke1 0 1 2 7 8) (keAdd 0 (q0 Ke0) ke0)))) t h :=
  wpEqF H0 (by kernel_rfl)
def F178_26 (x0 x1 x2 x7 x8 x9 : Value) (h : H) (Kn : VP6) (Kr : VP1) (Ke4 : VP5) (Ke1 : VP5) (Ke0 : H → Prop) : Prop :=
  F178_27 x0 x1 x2 x7 x8 x9 h (fun y0 y1 y2 y7 y8 y9 h => F178_33 y0 y1 y2 y7 y8 y9 h Kn Kr Ke4 Ke1 Ke0) Kr Ke4 Ke1 Ke0
theorem F178_26_ok (Kn Kr Ke4 Ke1 Ke0) (t : T) (h : H) (H0 : F178_26 (t 0) (t 1) (t 2) (t 7) (t 8) (t 9) h Kn Kr Ke4 Ke1 Ke0) : Wp Tryz.prog 133 (rest 1 (lopC (blkC (rest 1 (cndX (rest 1 (seqL (seqR (rest 2 (seqR (blkC (seqL (rest 1 (lopC (blkC (rest 1 (seqL (rest 2 (bodyOf Tryz.f178.body))))))))))))))))))) (mkQ (q6 Kn 0 1 2 7 8 9) (q1 Kr 6) (keAdd 4 (q5 Ke4 0 1 2 7 8) (keAdd 1 (q5 Ke1 0 1 2 7 8) (keAdd 0 (q0 Ke0) ke0)))) t h :=
  seq_ok (by kernel_rfl) (fun t h H1 => F178_33_ok Kn Kr Ke4 Ke1 Ke0 t h H1) (F178_27_ok (fun y0 y1 y2 y7 y8 y9 h => F178_33 y0 y1 y2 y7 y8 y9 h Kn Kr Ke4 Ke1 Ke0) Kr Ke4 Ke1 Ke0 t h H0)
def F178_25 (x0 x1 x2 x7 x8 x9 : Value) (h : H) (Kn : VP6) (Kr : VP1) (Ke4 : VP5) (Ke1 : VP5) (Ke0 : H → Prop) : Prop :=
  o_bin Tryz.prog .geq 3 x9 (.int .i64 1) fun v65 => o_if v65 (F178_26 x0 x1 x2 x7 x8 x9 h Kn Kr Ke4 Ke1 Ke0) (Ke4 x0 x1 x2 x7 x8 h)
theorem F178_25_ok (Kn Kr Ke4 Ke1 Ke0) (t : T) (h : H) (H0 : F178_25 (t 0) (t 1) (t 2) (t 7) (t 8) (t 9) h Kn Kr Ke4 Ke1 Ke0) : Wp Tryz.prog 133 (lopC (blkC (rest 1 (cndX (rest 1 (seqL (seqR (rest 2 (seqR (blkC (seqL (rest 1 (lopC (blkC (rest 1 (seqL (rest 2 (bodyOf Tryz.f178.body)))))))))))))))))) (mkQ (q6 Kn 0 1 2 7 8 9) (q1 Kr 6) (keAdd 4 (q5 Ke4 0 1 2 7 8) (keAdd 1 (q5 Ke1 0 1 2 7 8) (keAdd 0 (q0 Ke0) ke0)))) t h :=
  awpTo_okF 1 H0 (by kernel_rfl) (fun t h (H1 : F178_26 (t 0) (t 1) (t 2) (t 7) (t 8) (t 9) h Kn Kr Ke4 Ke1 Ke0) => F178_26_ok Kn Kr Ke4 Ke1 Ke0 t h H1) (by kernel_rfl)
def F178_24 (x0 x1 x2 x7 x8 x9 : Value) (h : H) (Kn : VP5) (Kr : VP1) (Ke4 : VP5) (Ke1 : VP5) (Ke0 : H → Prop) : Prop :=
  sloop (S := Value × Value × Value × Value × Value × Value) (fun s h K => F178_25 s.1 s.2.1 s.2.2.1 s.2.2.2.1 s.2.2.2.2.1 s.2.2.2.2.2 h (fun y0 y1 y2 y7 y8 y9 h => K (y0, y1, y2, y7, y8, y9) h) Kr Ke4 Ke1 Ke0) (x0, x1, x2, x7, x8, x9) h
theorem F178_24_ok (Kn Kr Ke4 Ke1 Ke0) (t : T) (h : H) (H0 : F178_24 (t 0) (t 1) (t 2) (t 7) (t 8) (t 9) h Kn Kr Ke4 Ke1 Ke0) : Wp Tryz.prog 133 (blkC (rest 1 (cndX (rest 1 (seqL (seqR (rest 2 (seqR (blkC (seqL (rest 1 (lopC (blkC (rest 1 (seqL (rest 2 (bodyOf Tryz.f178.body))))))))))))))))) (mkQ (q5 Kn 0 1 2 7 8) (q1 Kr 6) (keAdd 4 (q5 Ke4 0 1 2 7 8) (keAdd 1 (q5 Ke1 0 1 2 7 8) (keAdd 0 (q0 Ke0) ke0)))) t h :=
  loop_ok (fun t => (t 0, t 1, t 2, t 7, t 8, t 9)) (by kernel_rfl) (fun t h K H1 => F178_25_ok (fun y0 y1 y2 y7 y8 y9 h => K (y0, y1, y2, y7, y8, y9) h) Kr Ke4 Ke1 Ke0 t h H1) H0
def F178_23 (x0 x1 x2 x7 x8 x9 : Value) (h : H) (Kn : VP5) (Kr : VP1) (Ke1 : VP5) (Ke0 : H → Prop) : Prop :=
  F178_24 x0 x1 x2 x7 x8 x9 h Kn Kr Kn Ke1 Ke0
theorem F178_23_ok (Kn Kr Ke1 Ke0) (t : T) (h : H) (H0 : F178_23 (t 0) (t 1) (t 2) (t 7) (t 8) (t 9) h Kn Kr Ke1 Ke0) : Wp Tryz.prog 133 (rest 1 (cndX (rest 1 (seqL (seqR (rest 2 (seqR (blkC (seqL (rest 1 (lopC (blkC (rest 1 (seqL (rest 2 (bodyOf Tryz.f178.body)))))))))))))))) (mkQ (q5 Kn 0 1 2 7 8) (q1 Kr 6) (keAdd 1 (q5 Ke1 0 1 2 7 8) (keAdd 0 (q0 Ke0) ke0))) t h :=
  block_ok 4 (by kernel_rfl) (by kernel_rfl) (F178_24_ok Kn Kr Kn Ke1 Ke0 t h H0)
def F178_22 (x0 x1 x2 x7 x8 : Value) (h : H) (Kn : VP5) (Kr : VP1) (Ke1 : VP5) (Ke0 : H → Prop) : Prop :=
  o_bin Tryz.prog .sub 3 x7 (.int .i64 1) fun v63 => F178_23 x0 x1 x2 x7 x8 v63 h Kn Kr Ke1 Ke0
theorem F178_22_ok (Kn Kr Ke1 Ke0) (t : T) (h : H) (H0 : F178_22 (t 0) (t 1) (t 2) (t 7) (t 8) h Kn Kr Ke1 Ke0) : Wp Tryz.prog 133 (cndX (rest 1 (seqL (seqR (rest 2 (seqR (blkC (seqL (rest 1 (lopC (blkC (rest 1 (seqL (rest 2 (bodyOf Tryz.f178.body))))))))))))))) (mkQ (q5 Kn 0 1 2 7 8) (q1 Kr 6) (keAdd 1 (q5 Ke1 0 1 2 7 8) (keAdd 0 (q0 Ke0) ke0))) t h :=
  awpTo_okF 1 H0 (by kernel_rfl) (fun t h (H1 : F178_23 (t 0) (t 1) (t 2) (t 7) (t 8) (t 9) h Kn Kr Ke1 Ke0) => F178_23_ok Kn Kr Ke1 Ke0 t h H1) (by kernel_rfl)
def F178_34 (x0 x1 x2 x7 x8 : Value) (h : H) (Kn : VP5) (Kr : VP1) (Ke1 : VP5) (Ke0 : H → Prop) : Prop :=
  Kn x0 x1 x2 x7 x8 h
theorem F178_34_ok (Kn Kr Ke1 Ke0) (t : T) (h : H) (H0 : F178_34 (t 0) (t 1) (t 2) (t 7) (t 8) h Kn Kr Ke1 Ke0) : Wp Tryz.prog 133 (cndY (rest 1 (seqL (seqR (rest 2 (seqR (blkC (seqL (rest 1 (lopC (blkC (rest 1 (seqL (rest 2 (bodyOf Tryz.f178.body))))))))))))))) (mkQ (q5 Kn 0 1 2 7 8) (q1 Kr 6) (keAdd 1 (q5 Ke1 0 1 2 7 8) (keAdd 0 (q0 Ke0) ke0))) t h :=
  wpEqF H0 (by kernel_rfl)
def F178_21 (x0 x1 x2 x7 x8 x61 : Value) (h : H) (Kn : VP5) (Kr : VP1) (Ke1 : VP5) (Ke0 : H → Prop) : Prop :=
  o_if x61 (F178_22 x0 x1 x2 x7 x8 h Kn Kr Ke1 Ke0) (F178_34 x0 x1 x2 x7 x8 h Kn Kr Ke1 Ke0)
theorem F178_21_ok (Kn Kr Ke1 Ke0) (t : T) (h : H) (H0 : F178_21 (t 0) (t 1) (t 2) (t 7) (t 8) (t 61) h Kn Kr Ke1 Ke0) : Wp Tryz.prog 133 (rest 1 (seqL (seqR (rest 2 (seqR (blkC (seqL (rest 1 (lopC (blkC (rest 1 (seqL (rest 2 (bodyOf Tryz.f178.body)))))))))))))) (mkQ (q5 Kn 0 1 2 7 8) (q1 Kr 6) (keAdd 1 (q5 Ke1 0 1 2 7 8) (keAdd 0 (q0 Ke0) ke0))) t h :=
  cond_ok H0 (by kernel_rfl) (F178_22_ok Kn Kr Ke1 Ke0 t h) (F178_34_ok Kn Kr Ke1 Ke0 t h) (by kernel_rfl)
def F178_20 (x0 x1 x2 x7 x8 : Value) (h : H) (Kn : VP5) (Kr : VP1) (Ke1 : VP5) (Ke0 : H → Prop) : Prop :=
  o_bin Tryz.prog .sub 3 x7 x1 fun v60 => o_bin Tryz.prog .geq 3 v60 (.int .i64 2) fun v61 => F178_21 x0 x1 x2 x7 x8 v61 h Kn Kr Ke1 Ke0
theorem F178_20_ok (Kn Kr Ke1 Ke0) (t : T) (h : H) (H0 : F178_20 (t 0) (t 1) (t 2) (t 7) (t 8) h Kn Kr Ke1 Ke0) : Wp Tryz.prog 133 (seqL (seqR (rest 2 (seqR (blkC (seqL (rest 1 (lopC (blkC (rest 1 (seqL (rest 2 (bodyOf Tryz.f178.body))))))))))))) (mkQ (q5 Kn 0 1 2 7 8) (q1 Kr 6) (keAdd 1 (q5 Ke1 0 1 2 7 8) (keAdd 0 (q0 Ke0) ke0))) t h :=
  awpTo_okF 1 H0 (by kernel_rfl) (fun t h (H1 : F178_21 (t 0) (t 1) (t 2) (t 7) (t 8) (t 61) h Kn Kr Ke1 Ke0) => F178_21_ok Kn Kr Ke1 Ke0 t h H1) (by kernel_rfl)
def F178_45 (x0 x1 x2 x7 x8 x10 : Value) (h : H) (Kn : VP7) (Kr : VP1) (Ke7 : VP6) (Ke6 : VP5) (Ke1 : VP5) (Ke0 : H → Prop) : Prop :=
  o_indexAddr none 1 x0 x10 fun v108 => o_load false 1 v108 h fun v109 => o_bin Tryz.prog .sub 3 x10 (.int .i64 1) fun v112 => o_indexAddr none 1 x0 v112 fun v113 => o_load false 1 v113 h fun v114 => o_dcall DS 179 [v109, v114] h fun v115 h => o_un Tryz.prog .not v115 fun v116 => Kn x0 x1 x2 x7 x8 x10 v116 h
theorem F178_45_ok (Kn Kr Ke7 Ke6 Ke1 Ke0) (t : T) (h : H) (H0 : F178_45 (t 0) (t 1) (t 2) (t 7) (t 8) (t 10) h Kn Kr Ke7 Ke6 Ke1 Ke0) : Wp Tryz.prog 133 (seqL (seqL (blkC (seqL (rest 1 (lopC (blkC (rest 1 (cndX (rest 1 (seqR (seqR (rest 2 (seqR (blkC (seqL (rest 1 (lopC (blkC (rest 1 (seqL (rest 2 (bodyOf Tryz.f178.body))))))))))))))))))))))) (mkQ (q7 Kn 0 1 2 7 8 10 116) (q1 Kr 6) (keAdd 7 (q6 Ke7 0 1 2 7 8 10) (keAdd 6 (q5 Ke6 0 1 2 7 8) (keAdd 1 (q5 Ke1 0 1 2 7 8) (keAdd 0 (q0 Ke0) ke0))))) t h :=
  drawD_ok dsOk (by kernel_rfl) (by kernel_rfl) H0 (by kernel_rfl)
def F178_46 (x0 x1 x2 x7 x8 x10 x116 : Value) (h : H) (Kn : VP6) (Kr : VP1) (Ke7 : VP6) (Ke6 : VP5) (Ke1 : VP5) (Ke0 : H → Prop) : Prop :=
  o_if x116 (Ke6 x0 x1 x2 x7 x8 h) (Kn x0 x1 x2 x7 x8 x10 h)
theorem F178_46_ok (Kn Kr Ke7 Ke6 Ke1 Ke0) (t : T) (h : H) (H0 : F178_46 (t 0) (t 1) (t 2) (t 7) (t 8) (t 10) (t 116) h Kn Kr Ke7 Ke6 Ke1 Ke0) : Wp Tryz.prog 133 (seqR (seqL (blkC (seqL (rest 1 (lopC (blkC (rest 1 (cndX (rest 1 (seqR (seqR (rest 2 (seqR (blkC (seqL (rest 1 (lopC (blkC (rest 1 (seqL (rest 2 (bodyOf Tryz.f178.body))))))))))))))))))))))) (mkQ (q6 Kn 0 1 2 7 8 10) (q1 Kr 6) (keAdd 7 (q6 Ke7 0 1 2 7 8 10) (keAdd 6 (q5 Ke6 0 1 2 7 8) (keAdd 1 (q5 Ke1 0 1 2 7 8) (keAdd 0 (q0 Ke0) ke0))))) t h :=
  wpEqF H0 (by kernel_rfl)
def F178_44 (x0 x1 x2 x7 x8 x10 : Value) (h : H) (Kn : VP6) (Kr : VP1) (Ke7 : VP6) (Ke6 : VP5) (Ke1 : VP5) (Ke0 : H → Prop) : Prop :=
  F178_45 x0 x1 x2 x7 x8 x10 h (fun y0 y1 y2 y7 y8 y10 y116 h => F178_46 y0 y1 y2 y7 y8 y10 y116 h Kn Kr Ke7 Ke6 Ke1 Ke0) Kr Ke7 Ke6 Ke1 Ke0
theorem F178_44_ok (Kn Kr Ke7 Ke6 Ke1 Ke0) (t : T) (h : H) (H0 : F178_44 (t 0) (t 1) (t 2) (t 7) (t 8) (t 10) h Kn Kr Ke7 Ke6 Ke1 Ke0) : Wp Tryz.prog 133 (seqL (blkC (seqL (rest 1 (lopC (blkC (rest 1 (cndX (rest 1 (seqR (seqR (rest 2 (seqR (blkC (seqL (rest 1 (lopC (blkC (rest 1 (seqL (rest 2 (bodyOf Tryz.f178.body)))))))))))))))))))))) (mkQ (q6 Kn 0 1 2 7 8 10) (q1 Kr 6) (keAdd 7 (q6 Ke7 0 1 2 7 8 10) (keAdd 6 (q5 Ke6 0 1 2 7 8) (keAdd 1 (q5 Ke1 0 1 2 7 8) (keAdd 0 (q0 Ke0) ke0))))) t h :=
  seq_ok (by kernel_rfl) (fun t h H1 => F178_46_ok Kn Kr Ke7 Ke6 Ke1 Ke0 t h H1) (F178_45_ok (fun y0 y1 y2 y7 y8 y10 y116 h => F178_46 y0 y1 y2 y7 y8 y10 y116 h Kn Kr Ke7 Ke6 Ke1 Ke0) Kr Ke7 Ke6 Ke1 Ke0 t h H0)
def F178_47 (x0 x1 x2 x7 x8 x10 : Value) (h : H) (Kn : VP6) (Kr : VP1) (Ke7 : VP6) (Ke6 : VP5) (Ke1 : VP5) (Ke0 : H → Prop) : Prop :=
  o_bin Tryz.prog .sub 3 x10 (.int .i64 1) fun v121 => o_bin Tryz.prog .sub 3 x10 (.int .i64 1) fun v124 => o_indexAddr none 1 x0 v124 fun v125 => o_load false 1 v125 h fun v126 => o_indexAddr none 1 x0 x10 fun v129 => o_load false 1 v129 h fun v130 => o_indexAddr none 1 x0 x10 fun v131 => o_store 1 v131 v126 h fun h => o_indexAddr none 1 x0 v121 fun v132 => o_store 1 v132 v130 h fun h => Kn x0 x1 x2 x7 x8 x10 h
theorem F178_47_ok (Kn Kr Ke7 Ke6 Ke1 Ke0) (t : T) (h : H) (H0 : F178_47 (t 0) (t 1) (t 2) (t 7) (t 8) (t 10) h Kn Kr Ke7 Ke6 Ke1 Ke0) : Wp Tryz.prog 133 (seqR (blkC (seqL (rest 1 (lopC (blkC (rest 1 (cndX (rest 1 (seqR (seqR (rest 2 (seqR (blkC (seqL (rest 1 (lopC (blkC (rest 1 (seqL (rest 2 (bodyOf Tryz.f178.body)))))))))))))))))))))) (mkQ (q6 Kn 0 1 2 7 8 10) (q1 Kr 6) (keAdd 7 (q6 Ke7 0 1 2 7 8 10) (keAdd 6 (q5 Ke6 0 1 2 7 8) (keAdd 1 (q5 Ke1 0 1 2 7 8) (keAdd 0 (q0 Ke0) ke0))))) t h :=
  draw_okF (by kernel_rfl) (by kernel_rfl) H0 (by kernel_rfl)
def F178_43 (x0 x1 x2 x7 x8 x10 : Value) (h : H) (Kn : VP6) (Kr : VP1) (Ke7 : VP6) (Ke6 : VP5) (Ke1 : VP5) (Ke0 : H → Prop) : Prop :=
  F178_44 x0 x1 x2 x7 x8 x10 h (fun y0 y1 y2 y7 y8 y10 h => F178_47 y0 y1 y2 y7 y8 y10 h Kn Kr Ke7 Ke6 Ke1 Ke0) Kr Ke7 Ke6 Ke1 Ke0
theorem F178_43_ok (Kn Kr Ke7 Ke6 Ke1 Ke0) (t : T) (h : H) (H0 : F178_43 (t 0) (t 1) (t 2) (t 7) (t 8) (t 10) h Kn Kr Ke7 Ke6 Ke1 Ke0) : Wp Tryz.prog 133 (blkC (seqL (rest 1 (lopC (blkC (rest 1 (cndX (rest 1 (seqR (seqR (rest 2 (seqR (blkC (seqL (rest 1 (lopC (blkC (rest 1 (seqL (rest 2 (bodyOf Tryz.f178.body))))))))))))))))))))) (mkQ (q6 Kn 0 1 2 7 8 10) (q1 Kr 6) (keAdd 7 (q6 Ke7 0 1 2 7 8 10) (keAdd 6 (q5 Ke6 0 1 2 7 8) (keAdd 1 (q5 Ke1 0 1 2 7 8) (keAdd 0 (q0 Ke0) ke0))))) t h :=
  seq_ok (by kernel_rfl) (fun t h H1 => F178_47_ok Kn Kr Ke7 Ke6 Ke1 Ke0 t h H1) (F178_44_ok (fun y0 y1 y2 y7 y8 y10 h => F178_47 y0 y1 y2 y7 y8 y10 h Kn Kr Ke7 Ke6 Ke1 Ke0) Kr Ke7 Ke6 Ke1 Ke0 t h H0)
def F178_42 (x0 x1 x2 x7 x8 x10 : Value) (h : H) (Kn : VP6) (Kr : VP1) (Ke6 : VP5) (Ke1 : VP5) (Ke0 : H → Prop) : Prop :=
  F178_43 x0 x1 x2 x7 x8 x10 h Kn Kr Kn Ke6 Ke1 Ke0
theorem F178_42_ok (Kn Kr Ke6 Ke1 Ke0) (t : T) (h : H) (H0 : F178_42 (t 0) (t 1) (t 2) (t 7) (t 8) (t 10) h Kn Kr Ke6 Ke1 Ke0) : Wp Tryz.prog 133 (seqL (rest 1 (lopC (blkC (rest 1 (cndX (rest 1 (seqR (seqR (rest 2 (seqR (blkC (seqL (rest 1 (lopC (blkC (rest 1 (seqL (rest 2 (bodyOf Tryz.f178.body)))))))))))))))))))) (mkQ (q6 Kn 0 1 2 7 8 10) (q1 Kr 6) (keAdd 6 (q5 Ke6 0 1 2 7 8) (keAdd 1 (q5 Ke1 0 1 2 7 8) (keAdd 0 (q0 Ke0) ke0)))) t h :=
  block_ok 7 (by kernel_rfl) (by kernel_rfl) (F178_43_ok Kn Kr Kn Ke6 Ke1 Ke0 t h H0)
def F178_48 (x0 x1 x2 x7 x8 x10 : Value) (h : H) (Kn : VP6) (Kr : VP1) (Ke6 : VP5) (Ke1 : VP5) (Ke0 : H → Prop) : Prop :=
  o_bin Tryz.prog .add 3 x10 (.int .i64 1) fun v105 => Kn x0 x1 x2 x7 x8 v105 h
theorem F178_48_ok (Kn Kr Ke6 Ke1 Ke0) (t : T) (h : H) (H0 : F178_48 (t 0) (t 1) (t 2) (t 7) (t 8) (t 10) h Kn Kr Ke6 Ke1 Ke0) : Wp Tryz.prog 133 (seqR (rest 1 (lopC (blkC (rest 1 (cndX (rest 1 (seqR (seqR (rest 2 (seqR (blkC (seqL (rest 1 (lopC (blkC (rest 1 (seqL (rest 2 (bodyOf Tryz.f178.body)))))))))))))))))))) (mkQ (q6 Kn 0 1 2 7 8 10) (q1 Kr 6) (keAdd 6 (q5 Ke6 0 1 2 7 8) (keAdd 1 (q5 Ke1 0 1 2 7 8) (keAdd 0 (q0 Ke0) ke0)))) t h :=
  wpEqF H0 (by kernel_rfl)
def F178_41 (x0 x1 x2 x7 x8 x10 : Value) (h : H) (Kn : VP6) (Kr : VP1) (Ke6 : VP5) (Ke1 : VP5) (Ke0 : H → Prop) : Prop :=
  F178_42 x0 x1 x2 x7 x8 x10 h (fun y0 y1 y2 y7 y8 y10 h => F178_48 y0 y1 y2 y7 y8 y10 h Kn Kr Ke6 Ke1 Ke0) Kr Ke6 Ke1 Ke0
theorem F178_41_ok (Kn Kr Ke6 Ke1 Ke0) (t : T) (h : H) (H0 : F178_41 (t 0) (t 1) (t 2) (t 7) (t 8) (t 10) h Kn Kr Ke6 Ke1 Ke0) : Wp Tryz.prog 133 (rest 1 (lopC (blkC (rest 1 (cndX (rest 1 (seqR (seqR (rest 2 (seqR (blkC (seqL (rest 1 (lopC (blkC (rest 1 (seqL (rest 2 (bodyOf Tryz.f178.body))))))))))))))))))) (mkQ (q6 Kn 0 1 2 7 8 10) (q1 Kr 6) (keAdd 6 (q5 Ke6 0 1 2 7 8) (keAdd 1 (q5 Ke1 0 1 2 7 8) (keAdd 0 (q0 Ke0) ke0)))) t h :=
  seq_ok (by kernel_rfl) (fun t h H1 => F178_48_ok Kn Kr Ke6 Ke1 Ke0 t h H1) (F178_42_ok (fun y0 y1 y2 y7 y8 y10 h => F178_48 y0 y1 y2 y7 y8 y10 h Kn Kr Ke6 Ke1 Ke0) Kr Ke6 Ke1 Ke0 t h H0)
def F178_40 (x0 x1 x2 x7 x8 x10 : Value) (h : H) (Kn : VP6) (Kr : VP1) (Ke6 : VP5) (Ke1 : VP5) (Ke0 : H → Prop) : Prop :=
  o_bin Tryz.prog .lss 3 x10 x2 fun v103 => o_if v103 (F178_41 x0 x1 x2 x7 x8 x10 h Kn Kr Ke6 Ke1 Ke0) (Ke6 x0 x1 x2 x7 x8 h)
theorem F178_40_ok (Kn Kr Ke6 Ke1 Ke0) (t : T) (h : H) (H0 : F178_40 (t 0) (t 1) (t 2) (t 7) (t 8) (t 10) h Kn Kr Ke6 Ke1 Ke0) : Wp Tryz.prog 133 (lopC (blkC (rest 1 (cndX (rest 1 (seqR (seqR (rest 2 (seqR (blkC (seqL (rest 1 (lopC (blkC (rest 1 (seqL (rest 2 (bodyOf Tryz.f178.body)))))))))))))))))) (mkQ (q6 Kn 0 1 2 7 8 10) (q1 Kr 6) (keAdd 6 (q5 Ke6 0 1 2 7 8) (keAdd 1 (q5 Ke1 0 1 2 7 8) (keAdd 0 (q0 Ke0) ke0)))) t h :=
  awpTo_okF 1 H0 (by kernel_rfl) (fun t h (H1 : F178_41 (t 0) (t 1) (t 2) (t 7) (t 8) (t 10) h Kn Kr Ke6 Ke1 Ke0) => F178_41_ok Kn Kr Ke6 Ke1 Ke0 t h H1) (by kernel_rfl)
def F178_39 (x0 x1 x2 x7 x8 x10 : Value) (h : H) (Kn : VP5) (Kr : VP1) (Ke6 : VP5) (Ke1 : VP5) (Ke0 : H → Prop) : Prop :=
  sloop (S := Value × Value × Value × Value × Value × Value) (fun s h K => F178_40 s.1 s.2.1 s.2.2.1 s.2.2.2.1 s.2.2.2.2.1 s.2.2.2.2.2 h (fun y0 y1 y2 y7 y8 y10 h => K (y0, y1, y2, y7, y8, y10) h) Kr Ke6 Ke1 Ke0) (x0, x1, x2, x7, x8, x10) h
theorem F178_39_ok (Kn Kr Ke6 Ke1 Ke0) (t : T) (h : H) (H0 : F178_39 (t 0) (t 1) (t 2) (t 7) (t 8) (t 10) h Kn Kr Ke6 Ke1 Ke0) : Wp Tryz.prog 133 (blkC (rest 1 (cndX (rest 1 (seqR (seqR (rest 2 (seqR (blkC (seqL (rest 1 (lopC (blkC (rest 1 (seqL (rest 2 (bodyOf Tryz.f178.body))))))))))))))))) (mkQ (q5 Kn 0 1 2 7 8) (q1 Kr 6) (keAdd 6 (q5 Ke6 0 1 2 7 8) (keAdd 1 (q5 Ke1 0 1 2 7 8) (keAdd 0 (q0 Ke0) ke0)))) t h :=
  loop_ok (fun t => (t 0, t 1, t 2, t 7, t 8, t 10)) (by kernel_rfl) (fun t h K H1 => F178_40_ok (fun y0 y1 y2 y7 y8 y10 h => K (y0, y1, y2, y7, y8, y10) h) Kr Ke6 Ke1 Ke0 t h H1) H0
def F178_38 (x0 x1 x2 x7 x8 x10 : Value) (h : H) (Kn : VP5) (Kr : VP1) (Ke1 : VP5) (Ke0 : H → Prop) : Prop :=
  F178_39 x0 x1 x2 x7 x8 x10 h Kn Kr Kn Ke1 Ke0
theorem F178_38_ok (Kn Kr Ke1 Ke0) (t : T) (h : H) (H0 : F178_38 (t 0) (t 1) (t 2) (t 7) (t 8) (t 10) h Kn Kr Ke1 Ke0) : Wp Tryz.prog 133 (rest 1 (cndX (rest 1 (seqR (seqR (rest 2 (seqR (blkC (seqL (rest 1 (lopC (blkC (rest 1 (seqL (rest 2 (bodyOf Tryz.f178.body)))))))))))))))) (mkQ (q5 Kn 0 1 2 7 8) (q1 Kr 6) (keAdd 1 (q5 Ke1 0 1 2 7 8) (keAdd 0 (q0 Ke0) ke0))) t h :=
  block_ok 6 (by kernel_rfl) (by kernel_rfl) (F178_39_ok Kn Kr Kn Ke1 Ke0 t h H0)
def F178_37 (x0 x1 x2 x7 x8 : Value) (h : H) (Kn : VP5) (Kr : VP1) (Ke1 : VP5) (Ke0 : H → Prop) : Prop :=
  o_bin Tryz.prog .add 3 x7 (.int .i64 1) fun v100 => F178_38 x0 x1 x2 x7 x8 v100 h Kn Kr Ke1 Ke0
theorem F178_37_ok (Kn Kr Ke1 Ke0) (t : T) (h : H) (H0 : F178_37 (t 0) (t 1) (t 2) (t 7) (t 8) h Kn Kr Ke1 Ke0) : Wp Tryz.prog 133 (cndX (rest 1 (seqR (seqR (rest 2 (seqR (blkC (seqL (rest 1 (lopC (blkC (rest 1 (seqL (rest 2 (bodyOf Tryz.f178.body))))))))))))))) (mkQ (q5 Kn 0 1 2 7 8) (q1 Kr 6) (keAdd 1 (q5 Ke1 0 1 2 7 8) (keAdd 0 (q0 Ke0) ke0))) t h :=
  awpTo_okF 1 H0 (by kernel_rfl) (fun t h (H1 : F178_38 (t 0) (t 1) (t 2) (t 7) (t 8) (t 10) h Kn Kr Ke1 Ke0) => F178_38_ok Kn Kr Ke1 Ke0 t h H1) (by kernel_rfl)
def F178_49 (x0 x1 x2 x7 x8 : Value) (h : H) (Kn : VP5) (Kr : VP1) (Ke1 : VP5) (Ke0 : H → Prop) : Prop :=
  Kn x0 x1 x2 x7 x8 h
theorem F178_49_ok (Kn Kr Ke1 Ke0) (t : T) (h : H) (H0 : F178_49 (t 0) (t 1) (t 2) (t 7) (t 8) h Kn Kr Ke1 Ke0) : Wp Tryz.prog 133 (cndY (rest 1 (seqR (seqR (rest 2 (seqR (blkC (seqL (rest 1 (lopC (blkC (rest 1 (seqL (rest 2 (bodyOf Tryz.f178.body))))))))))))))) (mkQ (q5 Kn 0 1 2 7 8) (q1 Kr 6) (keAdd 1 (q5 Ke1 0 1 2 7 8) (keAdd 0 (q0 Ke0) ke0))) t h :=
  wpEqF H0 (by kernel_rfl)
def F178_36 (x0 x1 x2 x7 x8 x98 : Value) (h : H) (Kn : VP5) (Kr : VP1) (Ke1 : VP5) (Ke0 : H → Prop) : Prop :=
  o_if x98 (F178_37 x0 x1 x2 x7 x8 h Kn Kr Ke1 Ke0) (F178_49 x0 x1 x2 x7 x8 h Kn Kr Ke1 Ke0)
theorem F178_36_ok (Kn Kr Ke1 Ke0) (t : T) (h : H) (H0 : F178_36 (t 0) (t 1) (t 2) (t 7) (t 8) (t 98) h Kn Kr Ke1 Ke0) : Wp Tryz.prog 133 (rest 1 (seqR (seqR (rest 2 (seqR (blkC (seqL (rest 1 (lopC (blkC (rest 1 (seqL (rest 2 (bodyOf Tryz.f178.body)))))))))))))) (mkQ (q5 Kn 0 1 2 7 8) (q1 Kr 6) (keAdd 1 (q5 Ke1 0 1 2 7 8) (keAdd 0 (q0 Ke0) ke0))) t h :=
  cond_ok H0 (by kernel_rfl) (F178_37_ok Kn Kr Ke1 Ke0 t h) (F178_49_ok Kn Kr Ke1 Ke0 t h) (by kernel_rfl)
def F178_35 (x0 x1 x2 x7 x8 : Value) (h : H) (Kn : VP5) (Kr : VP1) (Ke1 : VP5) (Ke0 : H → Prop) : Prop :=
  o_bin Tryz.prog .sub 3 x2 x7 fun v97 => o_bin Tryz.prog .geq 3 v97 (.int .i64 2) fun v98 => F178_36 x0 x1 x2 x7 x8 v98 h Kn Kr Ke1 Ke0
theorem F178_35_ok (Kn Kr Ke1 Ke0) (t : T) (h : H) (H0 : F178_35 (t 0) (t 1) (t 2) (t 7) (t 8) h Kn Kr Ke1 Ke0) : Wp Tryz.prog 133 (seqR (seqR (rest 2 (seqR (blkC (seqL (rest 1 (lopC (blkC (rest 1 (seqL (rest 2 (bodyOf Tryz.f178.body))))))))))))) (mkQ (q5 Kn 0 1 2 7 8) (q1 Kr 6) (keAdd 1 (q5 Ke1 0 1 2 7 8) (keAdd 0 (q0 Ke0) ke0))) t h :=
  awpTo_okF 1 H0 (by kernel_rfl) (fun t h (H1 : F178_36 (t 0) (t 1) (t 2) (t 7) (t 8) (t 98) h Kn Kr Ke1 Ke0) => F178_36_ok Kn Kr Ke1 Ke0 t h H1) (by kernel_rfl)
def F178_19 (x0 x1 x2 x7 x8 : Value) (h : H) (Kn : VP5) (Kr : VP1) (Ke1 : VP5) (Ke0 : H → Prop) : Prop :=
  F178_20 x0 x1 x2 x7 x8 h (fun y0 y1 y2 y7 y8 h => F178_35 y0 y1 y2 y7 y8 h Kn Kr Ke1 Ke0) Kr Ke1 Ke0
theorem F178_19_ok (Kn Kr Ke1 Ke0) (t : T) (h : H) (H0 : F178_19 (t 0) (t 1) (t 2) (t 7) (t 8) h Kn Kr Ke1 Ke0) : Wp Tryz.prog 133 (seqR (rest 2 (seqR (blkC (seqL (rest 1 (lopC (blkC (rest 1 (seqL (rest 2 (bodyOf Tryz.f178.body)))))))))))) (mkQ (q5 Kn 0 1 2 7 8) (q1 Kr 6) (keAdd 1 (q5 Ke1 0 1 2 7 8) (keAdd 0 (q0 Ke0) ke0))) t h :=
  seq_ok (by kernel_rfl) (fun t h H1 => F178_35_ok Kn Kr Ke1 Ke0 t h H1) (F178_20_ok (fun y0 y1 y2 y7 y8 h => F178_35 y0 y1 y2 y7 y8 h Kn Kr Ke1 Ke0) Kr Ke1 Ke0 t h H0)
def F178_17 (x0 x1 x2 x7 x8 : Value) (h : H) (Kn : VP5) (Kr : VP1) (Ke1 : VP5) (Ke0 : H → Prop) : Prop :=
  F178_18 x0 x1 x2 x7 x8 h (fun y0 y1 y2 y7 y8 h => F178_19 y0 y1 y2 y7 y8 h Kn Kr Ke1 Ke0) Kr Ke1 Ke0
theorem F178_17_ok (Kn Kr Ke1 Ke0) (t : T) (h : H) (H0 : F178_17 (t 0) (t 1) (t 2) (t 7) (t 8) h Kn Kr Ke1 Ke0) : Wp Tryz.prog 133 (rest 2 (seqR (blkC (seqL (rest 1 (lopC (blkC (rest 1 (seqL (rest 2 (bodyOf Tryz.f178.body))))))))))) (mkQ (q5 Kn 0 1 2 7 8) (q1 Kr 6) (keAdd 1 (q5 Ke1 0 1 2 7 8) (keAdd 0 (q0 Ke0) ke0))) t h :=
  seq_ok (by kernel_rfl) (fun t h H1 => F178_19_ok Kn Kr Ke1 Ke0 t h H1) (F178_18_ok (fun y0 y1 y2 y7 y8 h => F178_19 y0 y1 y2 y7 y8 h Kn Kr Ke1 Ke0) Kr Ke1 Ke0 t h H0)
def F178_16 (x0 x1 x2 x7 x8 : Value) (h : H) (Kn : VP5) (Kr : VP1) (Ke1 : VP5) (Ke0 : H → Prop) : Prop :=
  o_bin Tryz.prog .eql 3 x7 x2 fun v37 => o_if v37 (Kr (.bool true) h) (o_bin Tryz.prog .sub 3 x2 x1 fun v40 => o_bin Tryz.prog .lss 3 v40 (.int .i64 50) fun v41 => o_if v41 (Kr (.bool false) h) (F178_17 x0 x1 x2 x7 x8 h Kn Kr Ke1 Ke0))
theorem F178_16_ok (Kn Kr Ke1 Ke0) (t : T) (h : H) (H0 : F178_16 (t 0) (t 1) (t 2) (t 7) (t 8) h Kn Kr Ke1 Ke0) : Wp Tryz.prog 133 (seqR (blkC (seqL (rest 1 (lopC (blkC (rest 1 (seqL (rest 2 (bodyOf Tryz.f178.body)))))))))) (mkQ (q5 Kn 0 1 2 7 8) (q1 Kr 6) (keAdd 1 (q5 Ke1 0 1 2 7 8) (keAdd 0 (q0 Ke0) ke0))) t h :=
  awpTo_okF 2 H0 (by kernel_rfl) (fun t h (H1 : F178_17 (t 0) (t 1) (t 2) (t 7) (t 8) h Kn Kr Ke1 Ke0) => F178_17_ok Kn Kr Ke1 Ke0 t h H1) (by kernel_rfl)
def F178_8 (x0 x1 x2 x7 x8 : Value) (h : H) (Kn : VP5) (Kr : VP1) (Ke1 : VP5) (Ke0 : H → Prop) : Prop :=
  F178_9 x0 x1 x2 x7 x8 h (fun y0 y1 y2 y7 y8 h => F178_16 y0 y1 y2 y7 y8 h Kn Kr Ke1 Ke0) Kr Ke1 Ke0
theorem F178_8_ok (Kn Kr Ke1 Ke0) (t : T) (h : H) (H0 : F178_8 (t 0) (t 1) (t 2) (t 7) (t 8) h Kn Kr Ke1 Ke0) : Wp Tryz.prog 133 (blkC (seqL (rest 1 (lopC (blkC (rest 1 (seqL (rest 2 (bodyOf Tryz.f178.body))))))))) (mkQ (q5 Kn 0 1 2 7 8) (q1 Kr 6) (keAdd 1 (q5 Ke1 0 1 2 7 8) (keAdd 0 (q0 Ke0) ke0))) t h :=
  seq_ok (by kernel_rfl) (fun t h H1 => F178_16_ok Kn Kr Ke1 Ke0 t h H1) (F178_9_ok (fun y0 y1 y2 y7 y8 h => F178_16 y0 y1 y2 y7 y8 h Kn Kr Ke1 Ke0) Kr Ke1 Ke0 t h H0)
def F178_7 (x0 x1 x2 x7 x8 : Value) (h : H) (Kn : VP5) (Kr : VP1) (Ke0 : H → Prop) : Prop :=
  F178_8 x0 x1 x2 x7 x8 h Kn Kr Kn Ke0
theorem F178_7_ok (Kn Kr Ke0) (t : T) (h : H) (H0 : F178_7 (t 0) (t 1) (t 2) (t 7) (t 8) h Kn Kr Ke0) : Wp Tryz.prog 133 (seqL (rest 1 (lopC (blkC (rest 1 (seqL (rest 2 (bodyOf Tryz.f178.body)))))))) (mkQ (q5 Kn 0 1 2 7 8) (q1 Kr 6) (keAdd 0 (q0 Ke0) ke0)) t h :=
  block_ok 1 (by kernel_rfl) (by kernel_rfl) (F178_8_ok Kn Kr Kn Ke0 t h H0)
def F178_50 (x0 x1 x2 x7 x8 : Value) (h : H) (Kn : VP5) (Kr : VP1) (Ke0 : H → Prop) : Prop :=
  o_bin Tryz.prog .add 3 x8 (.int .i64 1) fun v16 => Kn x0 x1 x2 x7 v16 h
theorem F178_50_ok (Kn Kr Ke0) (t : T) (h : H) (H0 : F178_50 (t 0) (t 1) (t 2) (t 7) (t 8) h Kn Kr Ke0) : Wp Tryz.prog 133 (seqR (rest 1 (lopC (blkC (rest 1 (seqL (rest 2 (bodyOf Tryz.f178.body)))))))) (mkQ (q5 Kn 0 1 2 7 8) (q1 Kr 6) (keAdd 0 (q0 Ke0) ke0)) t h :=
  wpEqF H0 (by kernel_rfl)
def F178_6 (x0 x1 x2 x7 x8 : Value) (h : H) (Kn : VP5) (Kr : VP1) (Ke0 : H → Prop) : Prop :=
  F178_7 x0 x1 x2 x7 x8 h (fun y0 y1 y2 y7 y8 h => F178_50 y0 y1 y2 y7 y8 h Kn Kr Ke0) Kr Ke0
theorem F178_6_ok (Kn Kr Ke0) (t : T) (h : H) (H0 : F178_6 (t 0) (t 1) (t 2) (t 7) (t 8) h Kn Kr Ke0) : Wp Tryz.prog 133 (rest 1 (lopC (blkC (rest 1 (seqL (rest 2 (bodyOf Tryz.f178.body))))))) (mkQ (q5 Kn 0 1 2 7 8) (q1 Kr 6) (keAdd 0 (q0 Ke0) ke0)) t h :=
  seq_ok (by kernel_rfl) (fun t h H1 => F178_50_ok Kn Kr Ke0 t h H1) (F178_7_ok (fun y0 y1 y2 y7 y8 h => F178_50 y0 y1 y2 y7 y8 h Kn Kr Ke0) Kr Ke0 t h H0)
def F178_5 (x0 x1 x2 x7 x8 : Value) (h : H) (Kn : VP5) (Kr : VP1) (Ke0 : H → Prop) : Prop :=
  o_bin Tryz.prog .lss 3 x8 (.int .i64 5) fun v14 => o_if v14 (F178_6 x0 x1 x2 x7 x8 h Kn Kr Ke0) (Ke0 h)
theorem F178_5_ok (Kn Kr Ke0) (t : T) (h : H) (H0 : F178_5 (t 0) (t 1) (t 2) (t 7) (t 8) h Kn Kr Ke0) : Wp Tryz.prog 133 (lopC (blkC (rest 1 (seqL (rest 2 (bodyOf Tryz.f178.body)))))) (mkQ (q5 Kn 0 1 2 7 8) (q1 Kr 6) (keAdd 0 (q0 Ke0) ke0)) t h :=
  awpTo_okF 1 H0 (by kernel_rfl) (fun t h (H1 : F178_6 (t 0) (t 1) (t 2) (t 7) (t 8) h Kn Kr Ke0) => F178_6_ok Kn Kr Ke0 t h H1) (by kernel_rfl)
def F178_4 (x0 x1 x2 x7 x8 : Value) (h : H) (Kn : H → Prop) (Kr : VP1) (Ke0 : H → Prop) : Prop :=
  sloop (S := Value × Value × Value × Value × Value) (fun s h K => F178_5 s.1 s.2.1 s.2.2.1 s.2.2.2.1 s.2.2.2.2 h (fun y0 y1 y2 y7 y8 h => K (y0, y1, y2, y7, y8) h) Kr Ke0) (x0, x1, x2, x7, x8) h
theorem F178_4_ok (Kn Kr Ke0) (t : T) (h : H) (H0 : F178_4 (t 0) (t 1) (t 2) (t 7) (t 8) h Kn Kr Ke0) : Wp Tryz.prog 133 (blkC (rest 1 (seqL (rest 2 (bodyOf Tryz.f178.body))))) (mkQ (q0 Kn) (q1 Kr 6) (keAdd 0 (q0 Ke0) ke0)) t h :=
  loop_ok (fun t => (t 0, t 1, t 2, t 7, t 8)) (by kernel_rfl) (fun t h K H1 => F178_5_ok (fun y0 y1 y2 y7 y8 h => K (y0, y1, y2, y7, y8) h) Kr Ke0 t h H1) H0
def F178_3 (x0 x1 x2 x7 x8 : Value) (h : H) (Kn : H → Prop) (Kr : VP1) : Prop :=
  F178_4 x0 x1 x2 x7 x8 h Kn Kr Kn
theorem F178_3_ok (Kn Kr) (t : T) (h : H) (H0 : F178_3 (t 0) (t 1) (t 2) (t 7) (t 8) h Kn Kr) : Wp Tryz.prog 133 (rest 1 (seqL (rest 2 (bodyOf Tryz.f178.body)))) (mkQ (q0 Kn) (q1 Kr 6) ke0) t h :=
  block_ok 0 (by kernel_rfl) (by kernel_rfl) (F178_4_ok Kn Kr Kn t h H0)
def F178_2 (x0 x1 x2 x7 : Value) (h : H) (Kn : H → Prop) (Kr : VP1) : Prop :=
  F178_3 x0 x1 x2 x7 (.int .i64 0) h Kn Kr
theorem F178_2_ok (Kn Kr) (t : T) (h : H) (H0 : F178_2 (t 0) (t 1) (t 2) (t 7) h Kn Kr) : Wp Tryz.prog 133 (seqL (rest 2 (bodyOf Tryz.f178.body))) (mkQ (q0 Kn) (q1 Kr 6) ke0) t h :=
  awpTo_okF 1 H0 (by kernel_rfl) (fun t h (H1 : F178_3 (t 0) (t 1) (t 2) (t 7) (t 8) h Kn Kr) => F178_3_ok Kn Kr t h H1) (by kernel_rfl)
def F178_51 (h : H) (Kn : VP1) (Kr : VP1) : Prop :=
  Kr (.bool false) h
theorem F178_51_ok (Kn Kr) (t : T) (h : H) (H0 : F178_51  h Kn Kr) : Wp Tryz.prog 133 (seqR (rest 2 (bodyOf Tryz.f178.body))) (mkQ (q1 Kn 6) (q1 Kr 6) ke0) t h :=
  wpEqF H0 (by kernel_rfl)
def F178_1 (x0 x1 x2 x7 : Value) (h : H) (Kn : VP1) (Kr : VP1) : Prop :=
  F178_2 x0 x1 x2 x7 h (fun  h => F178_51  h Kn Kr) Kr
theorem F178_1_ok (Kn Kr) (t : T) (h : H) (H0 : F178_1 (t 0) (t 1) (t 2) (t 7) h Kn Kr) : Wp Tryz.prog 133 (rest 2 (bodyOf Tryz.f178.body)) (mkQ (q1 Kn 6) (q1 Kr 6) ke0) t h :=
  seq_ok (by kernel_rfl) (fun t h H1 => F178_51_ok Kn Kr t h H1) (F178_2_ok (fun  h => F178_51  h Kn Kr) Kr t h H0)
def F178_0 (x0 x1 x2 : Value) (h : H) (Kn : VP1) (Kr : VP1) : Prop :=
  o_bin Tryz.prog .add 3 x1 (.int .i64 1) fun v12 => F178_1 x0 x1 x2 v12 h Kn Kr
theorem F178_0_ok (Kn Kr) (t : T) (h : H) (H0 : F178_0 (t 0) (t 1) (t 2) h Kn Kr) : Wp Tryz.prog 133 (bodyOf Tryz.f178.body) (mkQ (q1 Kn 6) (q1 Kr 6) ke0) t h :=
  awpTo_okF 2 H0 (by kernel_rfl) (fun t h (H1 : F178_1 (t 0) (t 1) (t 2) (t 7) h Kn Kr) => F178_1_ok Kn Kr t h H1) (by kernel_rfl)
def F178 (x0 x1 x2 : Value) (h : H) (Q : VP1) : Prop := F178_0 x0 x1 x2 h (fun v h => Q v h) (fun v h => Q v h)
theorem F178_spec (x0 x1 x2 : Value) (h : H) (Q : VP1) (H0 : F178 x0 x1 x2 h Q) : AM.Spec Tryz.prog 178 [x0, x1, x2] h Q :=
  spec_wp mixed (fn := Tryz.f178) Tryz.func178 (c := bodyOf Tryz.f178.body) (rs := [6]) (N := 133) (by kernel_rfl) (by kernel_rfl) (by kernel_rfl) (by kernel_rfl) (by kernel_rfl) (Nat.le_of_ble_eq_true rfl) (F178_0_ok (fun v h => Q v h) (fun v h => Q v h) (tinit [x0, x1, x2]) h H0) (by kernel_rfl)
def F181_2 (x0 x1 x2 x3 : Value) (h : H) (Kn : VP3) (Kr : VP2) : Prop :=
  o_indexAddr none 1 x0 x3 fun v18 => o_load false 1 v18 h fun v19 => o_indexAddr none 1 x0 x1 fun v22 => o_load false 1 v22 h fun v23 => o_indexAddr none 1 x0 x1 fun v24 => o_store 1 v24 v19 h fun h => o_indexAddr none 1 x0 x3 fun v25 => o_store 1 v25 v23 h fun h => Kn x0 x1 x2 h
theorem F181_2_ok (Kn Kr) (t : T) (h : H) (H0 : F181_2 (t 0) (t 1) (t 2) (t 3) h Kn Kr) : Wp Tryz.prog 168 (seqL (rest 1 (bodyOf Tryz.f181.body))) (mkQ (q3 Kn 0 1 2) (q2 Kr 8 9) ke0) t h :=
  draw_okF (by kernel_rfl) (by kernel_rfl) H0 (by kernel_rfl)
def F181_9 (x0 x1 x10 x11 : Value) (h : H) (Kn : VP5) (Kr : VP2) (Ke0 : VP4) : Prop :=
  o_bin Tryz.prog .leq 3 x10 x11 fun v32 => o_guard v32 true (fun k4 => k4 x0 h) (fun v34 h => o_guard v32 true (fun k5 => k5 x10 h) (fun v35 h => o_guard v32 true (fun k6 => o_indexAddr none 1 v34 v35 fun v36 => k6 v36 h) (fun v36 h => o_guard v32 true (fun k7 => o_load false 1 v36 h fun v37 => k7 v37 h) (fun v37 h => o_guard v32 true (fun k8 => k8 x0 h) (fun v38 h => o_guard v32 true (fun k9 => k9 x1 h) (fun v39 h => o_guard v32 true (fun k10 => o_indexAddr none 1 v38 v39 fun v40 => k10 v40 h) (fun v40 h => o_guard v32 true (fun k11 => o_load false 1 v40 h fun v41 => k11 v41 h) (fun v41 h => o_guard v32 true (fun k12 => o_dcall DS 179 [v37, v41] h fun v42 h => k12 v42 h) (fun v42 h => o_pick v32 v42 (.bool false) fun v43 => Kn x0 x1 x10 x11 v43 h) h) h) h) h) h) h) h) h) h
theorem F181_9_ok (Kn Kr Ke0) (t : T) (h : H) (H0 : F181_9 (t 0) (t 1) (t 10) (t 11) h Kn Kr Ke0) : Wp Tryz.prog 168 (seqL (seqL (lopC (blkC (seqL (rest 1 (seqR (rest 1 (bodyOf Tryz.f181.body))))))))) (mkQ (q5 Kn 0 1 10 11 43) (q2 Kr 8 9) (keAdd 0 (q4 Ke0 0 1 10 11) ke0)) t h :=
  drawD_ok dsOk (by kernel_rfl) (by kernel_rfl) H0 (by kernel_rfl)
def F181_10 (x0 x1 x10 x11 x43 : Value) (h : H) (Kn : VP4) (Kr : VP2) (Ke0 : VP4) : Prop :=
  o_if x43 (Kn x0 x1 x10 x11 h) (Ke0 x0 x1 x10 x11 h)
theorem F181_10_ok (Kn Kr Ke0) (t : T) (h : H) (H0 : F181_10 (t 0) (t 1) (t 10) (t 11) (t 43) h Kn Kr Ke0) : Wp Tryz.prog 168 (seqR (seqL (lopC (blkC (seqL (rest 1 (seqR (rest 1 (bodyOf Tryz.f181.body))))))))) (mkQ (q4 Kn 0 1 10 11) (q2 Kr 8 9) (keAdd 0 (q4 Ke0 0 1 10 11) ke0)) t h :=
  wpEqF H0 (by kernel_rfl)
def F181_8 (x0 x1 x10 x11 : Value) (h : H) (Kn : VP4) (Kr : VP2) (Ke0 : VP4) : Prop :=
  F181_9 x0 x1 x10 x11 h (fun y0 y1 y10 y11 y43 h => F181_10 y0 y1 y10 y11 y43 h Kn Kr Ke0) Kr Ke0
theorem F181_8_ok (Kn Kr Ke0) (t : T) (h : H) (H0 : F181_8 (t 0) (t 1) (t 10) (t 11) h Kn Kr Ke0) : Wp Tryz.prog 168 (seqL (lopC (blkC (seqL (rest 1 (seqR (rest 1 (bodyOf Tryz.f181.body)))))))) (mkQ (q4 Kn 0 1 10 11) (q2 Kr 8 9) (keAdd 0 (q4 Ke0 0 1 10 11) ke0)) t h :=
  seq_ok (by kernel_rfl) (fun t h H1 => F181_10_ok Kn Kr Ke0 t h H1) (F181_9_ok (fun y0 y1 y10 y11 y43 h => F181_10 y0 y1 y10 y11 y43 h Kn Kr Ke0) Kr Ke0 t h H0)
def F181_11 (x0 x1 x10 x11 : Value) (h : H) (Kn : VP4) (Kr : VP2) (Ke0 : VP4) : Prop :=
  o_bin Tryz.prog .add 3 x10 (.int .i64 1) fun v45 => Kn x0 x1 v45 x11 h
theorem F181_11_ok (Kn Kr Ke0) (t : T) (h : H) (H0 : F181_11 (t 0) (t 1) (t 10) (t 11) h Kn Kr Ke0) : Wp Tryz.prog 168 (seqR (lopC (blkC (seqL (rest 1 (seqR (rest 1 (bodyOf Tryz.f181.body)))))))) (mkQ (q4 Kn 0 1 10 11) (q2 Kr 8 9) (keAdd 0 (q4 Ke0 0 1 10 11) ke0)) t h :=
  wpEqF H0 (by kernel_rfl)
def F181_7 (x0 x1 x10 x11 : Value) (h : H) (Kn : VP4) (Kr : VP2) (Ke0 : VP4) : Prop :=
  F181_8 x0 x1 x10 x11 h (fun y0 y1 y10 y11 h => F181_11 y0 y1 y10 y11 h Kn Kr Ke0) Kr Ke0
theorem F181_7_ok (Kn Kr Ke0) (t : T) (h : H) (H0 : F181_7 (t 0) (t 1) (t 10) (t 11) h Kn Kr Ke0) : Wp Tryz.prog 168 (lopC (blkC (seqL (rest 1 (seqR (rest 1 (bodyOf Tryz.f181.body))))))) (mkQ (q4 Kn 0 1 10 11) (q2 Kr 8 9) (keAdd 0 (q4 Ke0 0 1 10 11) ke0)) t h :=
  seq_ok (by kernel_rfl) (fun t h H1 => F181_11_ok Kn Kr Ke0 t h H1) (F181_8_ok (fun y0 y1 y10 y11 h => F181_11 y0 y1 y10 y11 h Kn Kr Ke0) Kr Ke0 t h H0)
def F181_6 (x0 x1 x10 x11 : Value) (h : H) (Kn : VP4) (Kr : VP2) (Ke0 : VP4) : Prop :=
  sloop (S := Value × Value × Value × Value) (fun s h K => F181_7 s.1 s.2.1 s.2.2.1 s.2.2.2 h (fun y0 y1 y10 y11 h => K (y0, y1, y10, y11) h) Kr Ke0) (x0, x1, x10, x11) h
theorem F181_6_ok (Kn Kr Ke0) (t : T) (h : H) (H0 : F181_6 (t 0) (t 1) (t 10) (t 11) h Kn Kr Ke0) : Wp Tryz.prog 168 (blkC (seqL (rest 1 (seqR (rest 1 (bodyOf Tryz.f181.body)))))) (mkQ (q4 Kn 0 1 10 11) (q2 Kr 8 9) (keAdd 0 (q4 Ke0 0 1 10 11) ke0)) t h :=
  loop_ok (fun t => (t 0, t 1, t 10, t 11)) (by kernel_rfl) (fun t h K H1 => F181_7_ok (fun y0 y1 y10 y11 h => K (y0, y1, y10, y11) h) Kr Ke0 t h H1) H0
def F181_5 (x0 x1 x10 x11 : Value) (h : H) (Kn : VP4) (Kr : VP2) : Prop :=
  F181_6 x0 x1 x10 x11 h Kn Kr Kn
theorem F181_5_ok (Kn Kr) (t : T) (h : H) (H0 : F181_5 (t 0) (t 1) (t 10) (t 11) h Kn Kr) : Wp Tryz.prog 168 (seqL (rest 1 (seqR (rest 1 (bodyOf Tryz.f181.body))))) (mkQ (q4 Kn 0 1 10 11) (q2 Kr 8 9) ke0) t h :=
  block_ok 0 (by kernel_rfl) (by kernel_rfl) (F181_6_ok Kn Kr Kn t h H0)
def F181_17 (x0 x1 x10 x11 : Value) (h : H) (Kn : VP5) (Kr : VP2) (Ke2 : VP4) : Prop :=
  o_bin Tryz.prog .leq 3 x10 x11 fun v48 => o_guard v48 true (fun k4 => k4 x0 h) (fun v50 h => o_guard v48 true (fun k5 => k5 x11 h) (fun v51 h => o_guard v48 true (fun k6 => o_indexAddr none 1 v50 v51 fun v52 => k6 v52 h) (fun v52 h => o_guard v48 true (fun k7 => o_load false 1 v52 h fun v53 => k7 v53 h) (fun v53 h => o_guard v48 true (fun k8 => k8 x0 h) (fun v54 h => o_guard v48 true (fun k9 => k9 x1 h) (fun v55 h => o_guard v48 true (fun k10 => o_indexAddr none 1 v54 v55 fun v56 => k10 v56 h) (fun v56 h => o_guard v48 true (fun k11 => o_load false 1 v56 h fun v57 => k11 v57 h) (fun v57 h => o_guard v48 true (fun k12 => o_dcall DS 179 [v53, v57] h fun v58 h => k12 v58 h) (fun v58 h => o_guard v48 true (fun k13 => o_un Tryz.prog .not v58 fun v59 => k13 v59 h) (fun v59 h => o_pick v48 v59 (.bool false) fun v60 => Kn x0 x1 x10 x11 v60 h) h) h) h) h) h) h) h) h) h) h
theorem F181_17_ok (Kn Kr Ke2) (t : T) (h : H) (H0 : F181_17 (t 0) (t 1) (t 10) (t 11) h Kn Kr Ke2) : Wp Tryz.prog 168 (seqL (seqL (lopC (blkC (seqL (seqR (rest 1 (seqR (rest 1 (bodyOf Tryz.f181.body)))))))))) (mkQ (q5 Kn 0 1 10 11 60) (q2 Kr 8 9) (keAdd 2 (q4 Ke2 0 1 10 11) ke0)) t h :=
  drawD_ok dsOk (by kernel_rfl) (by kernel_rfl) H0 (by kernel_rfl)
def F181_18 (x0 x1 x10 x11 x60 : Value) (h : H) (Kn : VP4) (Kr : VP2) (Ke2 : VP4) : Prop :=
  o_if x60 (Kn x0 x1 x10 x11 h) (Ke2 x0 x1 x10 x11 h)
theorem F181_18_ok (Kn Kr Ke2) (t : T) (h : H) (H0 : F181_18 (t 0) (t 1) (t 10) (t 11) (t 60) h Kn Kr Ke2) : Wp Tryz.prog 168 (seqR (seqL (lopC (blkC (seqL (seqR (rest 1 (seqR (rest 1 (bodyOf Tryz.f181.body)))))))))) (mkQ (q4 Kn 0 1 10 11) (q2 Kr 8 9) (keAdd 2 (q4 Ke2 0 1 10 11) ke0)) t h :=
  wpEqF H0 (by kernel_rfl)
def F181_16 (x0 x1 x10 x11 : Value) (h : H) (Kn : VP4) (Kr : VP2) (Ke2 : VP4) : Prop :=
  F181_17 x0 x1 x10 x11 h (fun y0 y1 y10 y11 y60 h => F181_18 y0 y1 y10 y11 y60 h Kn Kr Ke2) Kr Ke2
theorem F181_16_ok (Kn Kr Ke2) (t : T) (h : H) (H0 : F181_16 (t 0) (t 1) (t 10) (t 11) h Kn Kr Ke2) : Wp Tryz.prog 168 (seqL (lopC (blkC (seqL (seqR (rest 1 (seqR (rest 1 (bodyOf Tryz.f181.body))))))))) (mkQ (q4 Kn 0 1 10 11) (q2 Kr 8 9) (keAdd 2 (q4 Ke2 0 1 10 11) ke0)) t h :=
  seq_ok (by kernel_rfl) (fun t h H1 => F181_18_ok Kn Kr Ke2 t h H1) (F181_17_ok (fun y0 y1 y10 y11 y60 h => F181_18 y0 y1 y10 y11 y60 h Kn Kr Ke2) Kr Ke2 t h H0)
def F181_19 (x0 x1 x10 x11 : Value) (h : H) (Kn : VP4) (Kr : VP2) (Ke2 : VP4) : Prop :=
  o_bin Tryz.prog .sub 3 x11 (.int .i64 1) fun v62 => Kn x0 x1 x10 v62 h
theorem F181_19_ok (Kn Kr Ke2) (t : T) (h : H) (H0 : F181_19 (t 0) (t 1) (t 10) (t 11) h Kn Kr Ke2) : Wp Tryz.prog 168 (seqR (lopC (blkC (seqL (seqR (rest 1 (seqR (rest 1 (bodyOf Tryz.f181.body))))))))) (mkQ (q4 Kn 0 1 10 11) (q2 Kr 8 9) (keAdd 2 (q4 Ke2 0 1 10 11) ke0)) t h :=
  wpEqF H0 (by kernel_rfl)
def F181_15 (x0 x1 x10 x11 : Value) (h : H) (Kn : VP4) (Kr : VP2) (Ke2 : VP4) : Prop :=
  F181_16 x0 x1 x10 x11 h (fun y0 y1 y10 y11 h => F181_19 y0 y1 y10 y11 h Kn Kr Ke2) Kr Ke2
theorem F181_15_ok (Kn Kr Ke2) (t : T) (h : H) (H0 : F181_15 (t 0) (t 1) (t 10) (t 11) h Kn Kr Ke2) : Wp Tryz.prog 168 (lopC (blkC (seqL (seqR (rest 1 (seqR (rest 1 (bodyOf Tryz.f181.body)))))))) (mkQ (q4 Kn 0 1 10 11) (q2 Kr 8 9) (keAdd 2 (q4 Ke2 0 1 10 11) ke0)) t h :=
  seq_ok (by kernel_rfl) (fun t h H1 => F181_19_ok Kn Kr Ke2 t h H1) (F181_16_ok (fun y0 y1 y10 y11 h => F181_19 y0 y1 y10 y11 h Kn Kr Ke2) Kr Ke2 t h H0)
def F181_14 (x0 x1 x10 x11 : Value) (h : H) (Kn : VP4) (Kr : VP2) (Ke2 : VP4) : Prop :=
  sloop (S := Value × Value × Value × Value) (fun s h K => F181_15 s.1 s.2.1 s.2.2.1 s.2.2.2 h (fun y0 y1 y10 y11 h => K (y0, y1, y10, y11) h) Kr Ke2) (x0, x1, x10, x11) h
theorem F181_14_ok (Kn Kr Ke2) (t : T) (h : H) (H0 : F181_14 (t 0) (t 1) (t 10) (t 11) h Kn Kr Ke2) : Wp Tryz.prog 168 (blkC (seqL (seqR (rest 1 (seqR (rest 1 (bodyOf Tryz.f181.body))))))) (mkQ (q4 Kn 0 1 10 11) (q2 Kr 8 9) (keAdd 2 (q4 Ke2 0 1 10 11) ke0)) t h :=
  loop_ok (fun t => (t 0, t 1, t 10, t 11)) (by kernel_rfl) (fun t h K H1 => F181_15_ok (fun y0 y1 y10 y11 h => K (y0, y1, y10, y11) h) Kr Ke2 t h H1) H0
def F181_13 (x0 x1 x10 x11 : Value) (h : H) (Kn : VP4) (Kr : VP2) : Prop :=
  F181_14 x0 x1 x10 x11 h Kn Kr Kn
theorem F181_13_ok (Kn Kr) (t : T) (h : H) (H0 : F181_13 (t 0) (t 1) (t 10) (t 11) h Kn Kr) : Wp Tryz.prog 168 (seqL (seqR (rest 1 (seqR (rest 1 (bodyOf Tryz.f181.body)))))) (mkQ (q4 Kn 0 1 10 11) (q2 Kr 8 9) ke0) t h :=
  block_ok 2 (by kernel_rfl) (by kernel_rfl) (F181_14_ok Kn Kr Kn t h H0)
def F181_24 (x0 x1 x11 : Value) (h : H) (Kn : VP1) (Kr : VP2) : Prop :=
  o_indexAddr none 1 x0 x1 fun v72 => o_load false 1 v72 h fun v73 => o_indexAddr none 1 x0 x11 fun v76 => o_load false 1 v76 h fun v77 => o_indexAddr none 1 x0 x11 fun v78 => o_store 1 v78 v73 h fun h => o_indexAddr none 1 x0 x1 fun v79 => o_store 1 v79 v77 h fun h => Kn x11 h
theorem F181_24_ok (Kn Kr) (t : T) (h : H) (H0 : F181_24 (t 0) (t 1) (t 11) h Kn Kr) : Wp Tryz.prog 168 (seqL (cndX (rest 1 (seqL (seqR (seqR (rest 1 (seqR (rest 1 (bodyOf Tryz.f181.body)))))))))) (mkQ (q1 Kn 11) (q2 Kr 8 9) ke0) t h :=
  draw_okF (by kernel_rfl) (by kernel_rfl) H0 (by kernel_rfl)
def F181_25 (x11 : Value) (h : H) (Kn : VP4) (Kr : VP2) : Prop :=
  Kr x11 (.bool true) h
theorem F181_25_ok (Kn Kr) (t : T) (h : H) (H0 : F181_25 (t 11) h Kn Kr) : Wp Tryz.prog 168 (seqR (cndX (rest 1 (seqL (seqR (seqR (rest 1 (seqR (rest 1 (bodyOf Tryz.f181.body)))))))))) (mkQ (q4 Kn 0 1 10 11) (q2 Kr 8 9) ke0) t h :=
  wpEqF H0 (by kernel_rfl)
def F181_23 (x0 x1 x11 : Value) (h : H) (Kn : VP4) (Kr : VP2) : Prop :=
  F181_24 x0 x1 x11 h (fun y11 h => F181_25 y11 h Kn Kr) Kr
theorem F181_23_ok (Kn Kr) (t : T) (h : H) (H0 : F181_23 (t 0) (t 1) (t 11) h Kn Kr) : Wp Tryz.prog 168 (cndX (rest 1 (seqL (seqR (seqR (rest 1 (seqR (rest 1 (bodyOf Tryz.f181.body))))))))) (mkQ (q4 Kn 0 1 10 11) (q2 Kr 8 9) ke0) t h :=
  seq_ok (by kernel_rfl) (fun t h H1 => F181_25_ok Kn Kr t h H1) (F181_24_ok (fun y11 h => F181_25 y11 h Kn Kr) Kr t h H0)
def F181_26 (x0 x1 x10 x11 : Value) (h : H) (Kn : VP4) (Kr : VP2) : Prop :=
  Kn x0 x1 x10 x11 h
theorem F181_26_ok (Kn Kr) (t : T) (h : H) (H0 : F181_26 (t 0) (t 1) (t 10) (t 11) h Kn Kr) : Wp Tryz.prog 168 (cndY (rest 1 (seqL (seqR (seqR (rest 1 (seqR (rest 1 (bodyOf Tryz.f181.body))))))))) (mkQ (q4 Kn 0 1 10 11) (q2 Kr 8 9) ke0) t h :=
  wpEqF H0 (by kernel_rfl)
def F181_22 (x0 x1 x10 x11 x65 : Value) (h : H) (Kn : VP4) (Kr : VP2) : Prop :=
  o_if x65 (F181_23 x0 x1 x11 h Kn Kr) (F181_26 x0 x1 x10 x11 h Kn Kr)
theorem F181_22_ok (Kn Kr) (t : T) (h : H) (H0 : F181_22 (t 0) (t 1) (t 10) (t 11) (t 65) h Kn Kr) : Wp Tryz.prog 168 (rest 1 (seqL (seqR (seqR (rest 1 (seqR (rest 1 (bodyOf Tryz.f181.body)))))))) (mkQ (q4 Kn 0 1 10 11) (q2 Kr 8 9) ke0) t h :=
  cond_ok H0 (by kernel_rfl) (F181_23_ok Kn Kr t h) (F181_26_ok Kn Kr t h) (by kernel_rfl)
def F181_21 (x0 x1 x10 x11 : Value) (h : H) (Kn : VP4) (Kr : VP2) : Prop :=
  o_bin Tryz.prog .gtr 3 x10 x11 fun v65 => F181_22 x0 x1 x10 x11 v65 h Kn Kr
theorem F181_21_ok (Kn Kr) (t : T) (h : H) (H0 : F181_21 (t 0) (t 1) (t 10) (t 11) h Kn Kr) : Wp Tryz.prog 168 (seqL (seqR (seqR (rest 1 (seqR (rest 1 (bodyOf Tryz.f181.body))))))) (mkQ (q4 Kn 0 1 10 11) (q2 Kr 8 9) ke0) t h :=
  awpTo_okF 1 H0 (by kernel_rfl) (fun t h (H1 : F181_22 (t 0) (t 1) (t 10) (t 11) (t 65) h Kn Kr) => F181_22_ok Kn Kr t h H1) (by kernel_rfl)
def F181_28 (x0 x1 x10 x11 : Value) (h : H) (Kn : VP4) (Kr : VP2) : Prop :=
  o_indexAddr none 1 x0 x11 fun v87 => o_load false 1 v87 h fun v88 => o_indexAddr none 1 x0 x10 fun v91 => o_load false 1 v91 h fun v92 => o_indexAddr none 1 x0 x10 fun v93 => o_store 1 v93 v88 h fun h => o_indexAddr none 1 x0 x11 fun v94 => o_store 1 v94 v92 h fun h => Kn x0 x1 x10 x11 h
theorem F181_28_ok (Kn Kr) (t : T) (h : H) (H0 : F181_28 (t 0) (t 1) (t 10) (t 11) h Kn Kr) : Wp Tryz.prog 168 (seqL (seqR (seqR (seqR (rest 1 (seqR (rest 1 (bodyOf Tryz.f181.body)))))))) (mkQ (q4 Kn 0 1 10 11) (q2 Kr 8 9) ke0) t h :=
  draw_okF (by kernel_rfl) (by kernel_rfl) H0 (by kernel_rfl)
def F181_39 (x0 x1 x10 x11 : Value) (h : H) (Kn : VP5) (Kr : VP2) (Ke6 : VP4) (Ke5 : VP4) (Ke4 : VP3) : Prop :=
  o_bin Tryz.prog .leq 3 x10 x11 fun v101 => o_guard v101 true (fun k4 => k4 x0 h) (fun v103 h => o_guard v101 true (fun k5 => k5 x10 h) (fun v104 h => o_guard v101 true (fun k6 => o_indexAddr none 1 v103 v104 fun v105 => k6 v105 h) (fun v105 h => o_guard v101 true (fun k7 => o_load false 1 v105 h fun v106 => k7 v106 h) (fun v106 h => o_guard v101 true (fun k8 => k8 x0 h) (fun v107 h => o_guard v101 true (fun k9 => k9 x1 h) (fun v108 h => o_guard v101 true (fun k10 => o_indexAddr none 1 v107 v108 fun v109 => k10 v109 h) (fun v109 h => o_guard v101 true (fun k11 => o_load false 1 v109 h fun v110 => k11 v110 h) (fun v110 h => o_guard v101 true (fun k12 => o_dcall DS 179 [v106, v110] h fun v111 h => k12 v111 h) (fun v111 h => o_pick v101 v111 (.bool false) fun v112 => Kn x0 x1 x10 x11 v112 h) h) h) h) h) h) h) h) h) h
theorem F181_39_ok (Kn Kr Ke6 Ke5 Ke4) (t : T) (h : H) (H0 : F181_39 (t 0) (t 1) (t 10) (t 11) h Kn Kr Ke6 Ke5 Ke4) : Wp Tryz.prog 168 (seqL (seqL (lopC (blkC (seqL (blkC (lopC (blkC (seqL (rest 2 (seqR (seqR (seqR (seqR (rest 1 (seqR (rest 1 (bodyOf Tryz.f181.body)))))))))))))))))) (mkQ (q5 Kn 0 1 10 11 112) (q2 Kr 8 9) (keAdd 6 (q4 Ke6 0 1 10 11) (keAdd 5 (q4 Ke5 0 1 10 11) (keAdd 4 (q3 Ke4 0 1 11) ke0)))) t h :=
  drawD_ok dsOk (by kernel_rfl) (by kernel_rfl) H0 (by kernel_rfl)
def F181_40 (x0 x1 x10 x11 x112 : Value) (h : H) (Kn : VP4) (Kr : VP2) (Ke6 : VP4) (Ke5 : VP4) (Ke4 : VP3) : Prop :=
  o_if x112 (Kn x0 x1 x10 x11 h) (Ke6 x0 x1 x10 x11 h)
theorem F181_40_ok (Kn Kr Ke6 Ke5 Ke4) (t : T) (h : H) (H0 : F181_40 (t 0) (t 1) (t 10) (t 11) (t 112) h Kn Kr Ke6 Ke5 Ke4) : Wp Tryz.prog 168 (seqR (seqL (lopC (blkC (seqL (blkC (lopC (blkC (seqL (rest 2 (seqR (seqR (seqR (seqR (rest 1 (seqR (rest 1 (bodyOf Tryz.f181.body)))))))))))))))))) (mkQ (q4 Kn 0 1 10 11) (q2 Kr 8 9) (keAdd 6 (q4 Ke6 0 1 10 11) (keAdd 5 (q4 Ke5 0 1 10 11) (keAdd 4 (q3 Ke4 0 1 11) ke0)))) t h :=
  wpEqF H0 (by kernel_rfl)
def F181_38 (x0 x1 x10 x11 : Value) (h : H) (Kn : VP4) (Kr : VP2) (Ke6 : VP4) (Ke5 : VP4) (Ke4 : VP3) : Prop :=
  F181_39 x0 x1 x10 x11 h (fun y0 y1 y10 y11 y112 h => F181_40 y0 y1 y10 y11 y112 h Kn Kr Ke6 Ke5 Ke4) Kr Ke6 Ke5 Ke4
theorem F181_38_ok (Kn Kr Ke6 Ke5 Ke4) (t : T) (h : H) (H0 : F181_38 (t 0) (t 1) (t 10) (t 11) h Kn Kr Ke6 Ke5 Ke4) : Wp Tryz.prog 168 (seqL (lopC (blkC (seqL (blkC (lopC (blkC (seqL (rest 2 (seqR (seqR (seqR (seqR (rest 1 (seqR (rest 1 (bodyOf Tryz.f181.body))))))))))))))))) (mkQ (q4 Kn 0 1 10 11) (q2 Kr 8 9) (keAdd 6 (q4 Ke6 0 1 10 11) (keAdd 5 (q4 Ke5 0 1 10 11) (keAdd 4 (q3 Ke4 0 1 11) ke0)))) t h :=
  seq_ok (by kernel_rfl) (fun t h H1 => F181_40_ok Kn Kr Ke6 Ke5 Ke4 t h H1) (F181_39_ok (fun y0 y1 y10 y11 y112 h => F181_40 y0 y1 y10 y11 y112 h Kn Kr Ke6 Ke5 Ke4) Kr Ke6 Ke5 Ke4 t h H0)
def F181_41 (x0 x1 x10 x11 : Value) (h : H) (Kn : VP4) (Kr : VP2) (Ke6 : VP4) (Ke5 : VP4) (Ke4 : VP3) : Prop :=
  o_bin Tryz.prog .add 3 x10 (.int .i64 1) fun v114 => Kn x0 x1 v114 x11 h
theorem F181_41_ok (Kn Kr Ke6 Ke5 Ke4) (t : T) (h : H) (H0 : F181_41 (t 0) (t 1) (t 10) (t 11) h Kn Kr Ke6 Ke5 Ke4) : Wp Tryz.prog 168 (seqR (lopC (blkC (seqL (blkC (lopC (blkC (seqL (rest 2 (seqR (seqR (seqR (seqR (rest 1 (seqR (rest 1 (bodyOf Tryz.f181.body))))))))))))))))) (mkQ (q4 Kn 0 1 10 11) (q2 Kr 8 9) (keAdd 6 (q4 Ke6 0 1 10 11) (keAdd 5 (q4 Ke5 0 1 10 11) (keAdd 4 (q3 Ke4 0 1 11) ke0)))) t h :=
  wpEqF H0 (by kernel_rfl)
def F181_37 (x0 x1 x10 x11 : Value) (h : H) (Kn : VP4) (Kr : VP2) (Ke6 : VP4) (Ke5 : VP4) (Ke4 : VP3) : Prop :=
  F181_38 x0 x1 x10 x11 h (fun y0 y1 y10 y11 h => F181_41 y0 y1 y10 y11 h Kn Kr Ke6 Ke5 Ke4) Kr Ke6 Ke5 Ke4
theorem F181_37_ok (Kn Kr Ke6 Ke5 Ke4) (t : T) (h : H) (H0 : F181_37 (t 0) (t 1) (t 10) (t 11) h Kn Kr Ke6 Ke5 Ke4) : Wp Tryz.prog 168 (lopC (blkC (seqL (blkC (lopC (blkC (seqL (rest 2 (seqR (seqR (seqR (seqR (rest 1 (seqR (rest 1 (bodyOf Tryz.f181.body)))))))))))))))) (mkQ (q4 Kn 0 1 10 11) (q2 Kr 8 9) (keAdd 6 (q4 Ke6 0 1 10 11) (keAdd 5 (q4 Ke5 0 1 10 11) (keAdd 4 (q3 Ke4 0 1 11) ke0)))) t h :=
  seq_ok (by kernel_rfl) (fun t h H1 => F181_41_ok Kn Kr Ke6 Ke5 Ke4 t h H1) (F181_38_ok (fun y0 y1 y10 y11 h => F181_41 y0 y1 y10 y11 h Kn Kr Ke6 Ke5 Ke4) Kr Ke6 Ke5 Ke4 t h H0)
def F181_36 (x0 x1 x10 x11 : Value) (h : H) (Kn : VP4) (Kr : VP2) (Ke6 : VP4) (Ke5 : VP4) (Ke4 : VP3) : Prop :=
  sloop (S := Value × Value × Value × Value) (fun s h K => F181_37 s.1 s.2.1 s.2.2.1 s.2.2.2 h (fun y0 y1 y10 y11 h => K (y0, y1, y10, y11) h) Kr Ke6 Ke5 Ke4) (x0, x1, x10, x11) h
theorem F181_36_ok (Kn Kr Ke6 Ke5 Ke4) (t : T) (h : H) (H0 : F181_36 (t 0) (t 1) (t 10) (t 11) h Kn Kr Ke6 Ke5 Ke4) : Wp Tryz.prog 168 (blkC (seqL (blkC (lopC (blkC (seqL (rest 2 (seqR (seqR (seqR (seqR (rest 1 (seqR (rest 1 (bodyOf Tryz.f181.body))))))))))))))) (mkQ (q4 Kn 0 1 10 11) (q2 Kr 8 9) (keAdd 6 (q4 Ke6 0 1 10 11) (keAdd 5 (q4 Ke5 0 1 10 11) (keAdd 4 (q3 Ke4 0 1 11) ke0)))) t h :=
  loop_ok (fun t => (t 0, t 1, t 10, t 11)) (by kernel_rfl) (fun t h K H1 => F181_37_ok (fun y0 y1 y10 y11 h => K (y0, y1, y10, y11) h) Kr Ke6 Ke5 Ke4 t h H1) H0
def F181_35 (x0 x1 x10 x11 : Value) (h : H) (Kn : VP4) (Kr : VP2) (Ke5 : VP4) (Ke4 : VP3) : Prop :=
  F181_36 x0 x1 x10 x11 h Kn Kr Kn Ke5 Ke4
theorem F181_35_ok (Kn Kr Ke5 Ke4) (t : T) (h : H) (H0 : F181_35 (t 0) (t 1) (t 10) (t 11) h Kn Kr Ke5 Ke4) : Wp Tryz.prog 168 (seqL (blkC (lopC (blkC (seqL (rest 2 (seqR (seqR (seqR (seqR (rest 1 (seqR (rest 1 (bodyOf Tryz.f181.body)))))))))))))) (mkQ (q4 Kn 0 1 10 11) (q2 Kr 8 9) (keAdd 5 (q4 Ke5 0 1 10 11) (keAdd 4 (q3 Ke4 0 1 11) ke0))) t h :=
  block_ok 6 (by kernel_rfl) (by kernel_rfl) (F181_36_ok Kn Kr Kn Ke5 Ke4 t h H0)
def F181_47 (x0 x1 x10 x11 : Value) (h : H) (Kn : VP5) (Kr : VP2) (Ke8 : VP4) (Ke5 : VP4) (Ke4 : VP3) : Prop :=
  o_bin Tryz.prog .leq 3 x10 x11 fun v117 => o_guard v117 true (fun k4 => k4 x0 h) (fun v119 h => o_guard v117 true (fun k5 => k5 x11 h) (fun v120 h => o_guard v117 true (fun k6 => o_indexAddr none 1 v119 v120 fun v121 => k6 v121 h) (fun v121 h => o_guard v117 true (fun k7 => o_load false 1 v121 h fun v122 => k7 v122 h) (fun v122 h => o_guard v117 true (fun k8 => k8 x0 h) (fun v123 h => o_guard v117 true (fun k9 => k9 x1 h) (fun v124 h => o_guard v117 true (fun k10 => o_indexAddr none 1 v123 v124 fun v125 => k10 v125 h) (fun v125 h => o_guard v117 true (fun k11 => o_load false 1 v125 h fun v126 => k11 v126 h) (fun v126 h => o_guard v117 true (fun k12 => o_dcall DS 179 [v122, v126] h fun v127 h => k12 v127 h) (fun v127 h => o_guard v117 true (fun k13 => o_un Tryz.prog .not v127 fun v128 => k13 v128 h) (fun v128 h => o_pick v117 v128 (.bool false) fun v129 => Kn x0 x1 x10 x11 v129 h) h) h) h) h) h) h) h) h) h) h
theorem F181_47_ok (Kn Kr Ke8 Ke5 Ke4) (t : T) (h : H) (H0 : F181_47 (t 0) (t 1) (t 10) (t 11) h Kn Kr Ke8 Ke5 Ke4) : Wp Tryz.prog 168 (seqL (seqL (lopC (blkC (seqL (seqR (blkC (lopC (blkC (seqL (rest 2 (seqR (seqR (seqR (seqR (rest 1 (seqR (rest 1 (bodyOf Tryz.f181.body))))))))))))))))))) (mkQ (q5 Kn 0 1 10 11 129) (q2 Kr 8 9) (keAdd 8 (q4 Ke8 0 1 10 11) (keAdd 5 (q4 Ke5 0 1 10 11) (keAdd 4 (q3 Ke4 0 1 11) ke0)))) t h :=
  drawD_ok dsOk (by kernel_rfl) (by kernel_rfl) H0 (by kernel_rfl)
def F181_48 (x0 x1 x10 x11 x129 : Value) (h : H) (Kn : VP4) (Kr : VP2) (Ke8 : VP4) (Ke5 : VP4) (Ke4 : VP3) : Prop :=
  o_if x129 (Kn x0 x1 x10 x11 h) (Ke8 x0 x1 x10 x11 h)
theorem F181_48_ok (Kn Kr Ke8 Ke5 Ke4) (t : T) (h : H) (H0 : F181_48 (t 0) (t 1) (t 10) (t 11) (t 129) h Kn Kr Ke8 Ke5 Ke4) : Wp Tryz.prog 168 (seqR (seqL (lopC (blkC (seqL (seqR (blkC (lopC (blkC (seqL (rest 2 (seqR (seqR (seqR (seqR (rest 1 (seqR (rest 1 (bodyOf Tryz.f181.body))))))))))))))))))) (mkQ (q4 Kn 0 1 10 11) (q2 Kr 8 9) (keAdd 8 (q4 Ke8 0 1 10 11) (keAdd 5 (q4 Ke5 0 1 10 11) (keAdd 4 (q3 Ke4 0 1 11) ke0)))) t h :=
  wpEqF H0 (by kernel_rfl)
def F181_46 (x0 x1 x10 x11 : Value) (h : H) (Kn : VP4) (Kr : VP2) (Ke8 : VP4) (Ke5 : VP4) (Ke4 : VP3) : Prop :=
  F181_47 x0 x1 x10 x11 h (fun y0 y1 y10 y11 y129 h => F181_48 y0 y1 y10 y11 y129 h Kn Kr Ke8 Ke5 Ke4) Kr Ke8 Ke5 Ke4
theorem F181_46_ok (Kn Kr Ke8 Ke5 Ke4) (t : T) (h : H) (H0 : F181_46 (t 0) (t 1) (t 10) (t 11) h Kn Kr Ke8 Ke5 Ke4) : Wp Tryz.prog 168 (seqL (lopC (blkC (seqL (seqR (blkC (lopC (blkC (seqL (rest 2 (seqR (seqR (seqR (seqR (rest 1 (seqR (rest 1 (bodyOf Tryz.f181.body)))))))))))))))))) (mkQ (q4 Kn 0 1 10 11) (q2 Kr 8 9) (keAdd 8 (q4 Ke8 0 1 10 11) (keAdd 5 (q4 Ke5 0 1 10 11) (keAdd 4 (q3 Ke4 0 1 11) ke0)))) t h :=
  seq_ok (by kernel_rfl) (fun t h H1 => F181_48_ok Kn Kr Ke8 Ke5 Ke4 t h H1) (F181_47_ok (fun y0 y1 y10 y11 y129 h => F181_48 y0 y1 y10 y11 y129 h Kn Kr Ke8 Ke5 Ke4) Kr Ke8 Ke5 Ke4 t h H0)
def F181_49 (x0 x1 x10 x11 : Value) (h : H) (Kn : VP4) (Kr : VP2) (Ke8 : VP4) (Ke5 : VP4) (Ke4 : VP3) : Prop :=
  o_bin Tryz.prog .sub 3 x11 (.int .i64 1) fun v131 => Kn x0 x1 x10 v131 h
theorem F181_49_ok (Kn Kr Ke8 Ke5 Ke4) (t : T) (h : H) (H0 : F181_49 (t 0) (t 1) (t 10) (t 11) h Kn Kr Ke8 Ke5 Ke4) : Wp Tryz.prog 168 (seqR (lopC (blkC (seqL (seqR (blkC (lopC (blkC (seqL (rest 2 (seqR (seqR (seqR (seqR (rest 1 (seqR (rest 1 (bodyOf Tryz.f181.body)))))))))))))))))) (mkQ (q4 Kn 0 1 10 11) (q2 Kr 8 9) (keAdd 8 (q4 Ke8 0 1 10 11) (keAdd 5 (q4 Ke5 0 1 10 11) (keAdd 4 (q3 Ke4 0 1 11) ke0)))) t h :=
  wpEqF H0 (by kernel_rfl)
def F181_45 (x0 x1 x10 x11 : Value) (h : H) (Kn : VP4) (Kr : VP2) (Ke8 : VP4) (Ke5 : VP4) (Ke4 : VP3) : Prop :=
  F181_46 x0 x1 x10 x11 h (fun y0 y1 y10 y11 h => F181_49 y0 y1 y10 y11 h Kn Kr Ke8 Ke5 Ke4) Kr Ke8 Ke5 Ke4
theorem F181_45_ok (Kn Kr Ke8 Ke5 Ke4) (t : T) (h : H) (H0 : F181_45 (t 0) (t 1) (t 10) (t 11) h Kn Kr Ke8 Ke5 Ke4) : Wp Tryz.prog 168 (lopC (blkC (seqL (seqR (blkC (lopC (blkC (seqL (rest 2 (seqR (seqR (seqR (seqR (rest 1 (seqR (rest 1 (bodyOf Tryz.f181.body))))))))))))))))) (mkQ (q4 Kn 0 1 10 11) (q2 Kr 8 9) (keAdd 8 (q4 Ke8 0 1 10 11) (keAdd 5 (q4 Ke5 0 1 10 11) (keAdd 4 (q3 Ke4 0 1 11) ke0)))) t h :=
  seq_ok (by kernel_rfl) (fun t h H1 => F181_49_ok Kn Kr Ke8 Ke5 Ke4 t h H1) (F181_46_ok (fun y0 y1 y10 y11 h => F181_49 y0 y1 y10 y11 h Kn Kr Ke8 Ke5 Ke4) Kr Ke8 Ke5 Ke4 t h H0)
def F181_44 (x0 x1 x10 x11 : Value) (h : H) (Kn : VP4) (Kr : VP2) (Ke8 : VP4) (Ke5 : VP4) (Ke4 : VP3) : Prop :=
  sloop (S := Value × Value × Value × Value) (fun s h K => F181_45 s.1 s.2.1 s.2.2.1 s.2.2.2 h (fun y0 y1 y10 y11 h => K (y0, y1, y10, y11) h) Kr Ke8 Ke5 Ke4) (x0, x1, x10, x11) h
theorem F181_44_ok (Kn Kr Ke8 Ke5 Ke4) (t : T) (h : H) (H0 : F181_44 (t 0) (t 1) (t 10) (t 11) h Kn Kr Ke8 Ke5 Ke4) : Wp Tryz.prog 168 (blkC (seqL (seqR (blkC (lopC (blkC (seqL (rest 2 (seqR (seqR (seqR (seqR (rest 1 (seqR (rest 1 (bodyOf Tryz.f181.body)))))))))))))))) (mkQ (q4 Kn 0 1 10 11) (q2 Kr 8 9) (keAdd 8 (q4 Ke8 0 1 10 11) (keAdd 5 (q4 Ke5 0 1 10 11) (keAdd 4 (q3 Ke4 0 1 11) ke0)))) t h :=
  loop_ok (fun t => (t 0, t 1, t 10, t 11)) (by kernel_rfl) (fun t h K H1 => F181_45_ok (fun y0 y1 y10 y11 h => K (y0, y1, y10, y11) h) Kr Ke8 Ke5 Ke4 t h H1) H0
def F181_43 (x0 x1 x10 x11 : Value) (h : H) (Kn : VP4) (Kr : VP2) (Ke5 : VP4) (Ke4 : VP3) : Prop :=
  F181_44 x0 x1 x10 x11 h Kn Kr Kn Ke5 Ke4
theorem F181_43_ok (Kn Kr Ke5 Ke4) (t : T) (h : H) (H0 : F181_43 (t 0) (t 1) (t 10) (t 11) h Kn Kr Ke5 Ke4) : Wp Tryz.prog 168 (seqL (seqR (blkC (lopC (blkC (seqL (rest 2 (seqR (seqR (seqR (seqR (rest 1 (seqR (rest 1 (bodyOf Tryz.f181.body))))))))))))))) (mkQ (q4 Kn 0 1 10 11) (q2 Kr 8 9) (keAdd 5 (q4 Ke5 0 1 10 11) (keAdd 4 (q3 Ke4 0 1 11) ke0))) t h :=
  block_ok 8 (by kernel_rfl) (by kernel_rfl) (F181_44_ok Kn Kr Kn Ke5 Ke4 t h H0)
def F181_52 (x0 x1 x10 x11 : Value) (h : H) (Kn : VP4) (Kr : VP2) (Ke5 : VP4) (Ke4 : VP3) : Prop :=
  o_indexAddr none 1 x0 x11 fun v141 => o_load false 1 v141 h fun v142 => o_indexAddr none 1 x0 x10 fun v145 => o_load false 1 v145 h fun v146 => o_indexAddr none 1 x0 x10 fun v147 => o_store 1 v147 v142 h fun h => o_indexAddr none 1 x0 x11 fun v148 => o_store 1 v148 v146 h fun h => Kn x0 x1 x10 x11 h
theorem F181_52_ok (Kn Kr Ke5 Ke4) (t : T) (h : H) (H0 : F181_52 (t 0) (t 1) (t 10) (t 11) h Kn Kr Ke5 Ke4) : Wp Tryz.prog 168 (seqL (rest 1 (seqR (seqR (blkC (lopC (blkC (seqL (rest 2 (seqR (seqR (seqR (seqR (rest 1 (seqR (rest 1 (bodyOf Tryz.f181.body))))))))))))))))) (mkQ (q4 Kn 0 1 10 11) (q2 Kr 8 9) (keAdd 5 (q4 Ke5 0 1 10 11) (keAdd 4 (q3 Ke4 0 1 11) ke0))) t h :=
  draw_okF (by kernel_rfl) (by kernel_rfl) H0 (by kernel_rfl)
def F181_53 (x0 x1 x10 x11 : Value) (h : H) (Kn : VP4) (Kr : VP2) (Ke5 : VP4) (Ke4 : VP3) : Prop :=
  o_bin Tryz.prog .add 3 x10 (.int .i64 1) fun v150 => o_bin Tryz.prog .sub 3 x11 (.int .i64 1) fun v152 => Kn x0 x1 v150 v152 h
theorem F181_53_ok (Kn Kr Ke5 Ke4) (t : T) (h : H) (H0 : F181_53 (t 0) (t 1) (t 10) (t 11) h Kn Kr Ke5 Ke4) : Wp Tryz.prog 168 (seqR (rest 1 (seqR (seqR (blkC (lopC (blkC (seqL (rest 2 (seqR (seqR (seqR (seqR (rest 1 (seqR (rest 1 (bodyOf Tryz.f181.body))))))))))))))))) (mkQ (q4 Kn 0 1 10 11) (q2 Kr 8 9) (keAdd 5 (q4 Ke5 0 1 10 11) (keAdd 4 (q3 Ke4 0 1 11) ke0))) t h :=
  wpEqF H0 (by kernel_rfl)
def F181_51 (x0 x1 x10 x11 : Value) (h : H) (Kn : VP4) (Kr : VP2) (Ke5 : VP4) (Ke4 : VP3) : Prop :=
  F181_52 x0 x1 x10 x11 h (fun y0 y1 y10 y11 h => F181_53 y0 y1 y10 y11 h Kn Kr Ke5 Ke4) Kr Ke5 Ke4
theorem F181_51_ok (Kn Kr Ke5 Ke4) (t : T) (h : H) (H0 : F181_51 (t 0) (t 1) (t 10) (t 11) h Kn Kr Ke5 Ke4) : Wp Tryz.prog 168 (rest 1 (seqR (seqR (blkC (lopC (blkC (seqL (rest 2 (seqR (seqR (seqR (seqR (rest 1 (seqR (rest 1 (bodyOf Tryz.f181.body)))))))))))))))) (mkQ (q4 Kn 0 1 10 11) (q2 Kr 8 9) (keAdd 5 (q4 Ke5 0 1 10 11) (keAdd 4 (q3 Ke4 0 1 11) ke0))) t h :=
  seq_ok (by kernel_rfl) (fun t h H1 => F181_53_ok Kn Kr Ke5 Ke4 t h H1) (F181_52_ok (fun y0 y1 y10 y11 h => F181_53 y0 y1 y10 y11 h Kn Kr Ke5 Ke4) Kr Ke5 Ke4 t h H0)
def F181_50 (x0 x1 x10 x11 : Value) (h : H) (Kn : VP4) (Kr : VP2) (Ke5 : VP4) (Ke4 : VP3) : Prop :=
  o_bin Tryz.prog .gtr 3 x10 x11 fun v134 => o_if v134 (Ke4 x0 x1 x11 h) (F181_51 x0 x1 x10 x11 h Kn Kr Ke5 Ke4)
theorem F181_50_ok (Kn Kr Ke5 Ke4) (t : T) (h : H) (H0 : F181_50 (t 0) (t 1) (t 10) (t 11) h Kn Kr Ke5 Ke4) : Wp Tryz.prog 168 (seqR (seqR (blkC (lopC (blkC (seqL (rest 2 (seqR (seqR (seqR (seqR (rest 1 (seqR (rest 1 (bodyOf Tryz.f181.body))))))))))))))) (mkQ (q4 Kn 0 1 10 11) (q2 Kr 8 9) (keAdd 5 (q4 Ke5 0 1 10 11) (keAdd 4 (q3 Ke4 0 1 11) ke0))) t h :=
  awpTo_okF 1 H0 (by kernel_rfl) (fun t h (H1 : F181_51 (t 0) (t 1) (t 10) (t 11) h Kn Kr Ke5 Ke4) => F181_51_ok Kn Kr Ke5 Ke4 t h H1) (by kernel_rfl)
def F181_42 (x0 x1 x10 x11 : Value) (h : H) (Kn : VP4) (Kr : VP2) (Ke5 : VP4) (Ke4 : VP3) : Prop :=
  F181_43 x0 x1 x10 x11 h (fun y0 y1 y10 y11 h => F181_50 y0 y1 y10 y11 h Kn Kr Ke5 Ke4) Kr Ke5 Ke4
theorem F181_42_ok (Kn Kr Ke5 Ke4) (t : T) (h : H) (H0 : F181_42 (t 0) (t 1) (t 10) (t 11) h Kn Kr Ke5 Ke4) : Wp Tryz.prog 168 (seqR (blkC (lopC (blkC (seqL (rest 2 (seqR (seqR (seqR (seqR (rest 1 (seqR (rest 1 (bodyOf Tryz.f181.body)))))))))))))) (mkQ (q4 Kn 0 1 10 11) (q2 Kr 8 9) (keAdd 5 (q4 Ke5 0 1 10 11) (keAdd 4 (q3 Ke4 0 1 11) ke0))) t h :=
  seq_ok (by kernel_rfl) (fun t h H1 => F181_50_ok Kn Kr Ke5 Ke4 t h H1) (F181_43_ok (fun y0 y1 y10 y11 h => F181_50 y0 y1 y10 y11 h Kn Kr Ke5 Ke4) Kr Ke5 Ke4 t h H0)
def F181_34 (x0 x1 x10 x11 : Value) (h : H) (Kn : VP4) (Kr : VP2) (Ke5 : VP4) (Ke4 : VP3) : Prop :=
  F181_35 x0 x1 x10 x11 h (fun y0 y1 y10 y11 h => F181_42 y0 y1 y10 y11 h Kn Kr Ke5 Ke4) Kr Ke5 Ke4
theorem F181_34_ok (Kn Kr Ke5 Ke4) (t : T) (h : H) (H0 : F181_34 (t 0) (t 1) (t 10) (t 11) h Kn Kr Ke5 Ke4) : Wp Tryz.prog 168 (blkC (lopC (blkC (seqL (rest 2 (seqR (seqR (seqR (seqR (rest 1 (seqR (rest 1 (bodyOf Tryz.f181.body))))))))))))) (mkQ (q4 Kn 0 1 10 11) (q2 Kr 8 9) (keAdd 5 (q4 Ke5 0 1 10 11) (keAdd 4 (q3 Ke4 0 1 11) ke0))) t h :=
  seq_ok (by kernel_rfl) (fun t h H1 => F181_42_ok Kn Kr Ke5 Ke4 t h H1) (F181_35_ok (fun y0 y1 y10 y11 h => F181_42 y0 y1 y10 y11 h Kn Kr Ke5 Ke4) Kr Ke5 Ke4 t h H0)
def F181_33 (x0 x1 x10 x11 : Value) (h : H) (Kn : VP4) (Kr : VP2) (Ke4 : VP3) : Prop :=
  F181_34 x0 x1 x10 x11 h Kn Kr Kn Ke4
theorem F181_33_ok (Kn Kr Ke4) (t : T) (h : H) (H0 : F181_33 (t 0) (t 1) (t 10) (t 11) h Kn Kr Ke4) : Wp Tryz.prog 168 (lopC (blkC (seqL (rest 2 (seqR (seqR (seqR (seqR (rest 1 (seqR (rest 1 (bodyOf Tryz.f181.body)))))))))))) (mkQ (q4 Kn 0 1 10 11) (q2 Kr 8 9) (keAdd 4 (q3 Ke4 0 1 11) ke0)) t h :=
  block_ok 5 (by kernel_rfl) (by kernel_rfl) (F181_34_ok Kn Kr Kn Ke4 t h H0)
def F181_32 (x0 x1 x10 x11 : Value) (h : H) (Kn : VP3) (Kr : VP2) (Ke4 : VP3) : Prop :=
  sloop (S := Value × Value × Value × Value) (fun s h K => F181_33 s.1 s.2.1 s.2.2.1 s.2.2.2 h (fun y0 y1 y10 y11 h => K (y0, y1, y10, y11) h) Kr Ke4) (x0, x1, x10, x11) h
theorem F181_32_ok (Kn Kr Ke4) (t : T) (h : H) (H0 : F181_32 (t 0) (t 1) (t 10) (t 11) h Kn Kr Ke4) : Wp Tryz.prog 168 (blkC (seqL (rest 2 (seqR (seqR (seqR (seqR (rest 1 (seqR (rest 1 (bodyOf Tryz.f181.body))))))))))) (mkQ (q3 Kn 0 1 11) (q2 Kr 8 9) (keAdd 4 (q3 Ke4 0 1 11) ke0)) t h :=
  loop_ok (fun t => (t 0, t 1, t 10, t 11)) (by kernel_rfl) (fun t h K H1 => F181_33_ok (fun y0 y1 y10 y11 h => K (y0, y1, y10, y11) h) Kr Ke4 t h H1) H0
def F181_31 (x0 x1 x10 x11 : Value) (h : H) (Kn : VP3) (Kr : VP2) : Prop :=
  F181_32 x0 x1 x10 x11 h Kn Kr Kn
theorem F181_31_ok (Kn Kr) (t : T) (h : H) (H0 : F181_31 (t 0) (t 1) (t 10) (t 11) h Kn Kr) : Wp Tryz.prog 168 (seqL (rest 2 (seqR (seqR (seqR (seqR (rest 1 (seqR (rest 1 (bodyOf Tryz.f181.body)))))))))) (mkQ (q3 Kn 0 1 11) (q2 Kr 8 9) ke0) t h :=
  block_ok 4 (by kernel_rfl) (by kernel_rfl) (F181_32_ok Kn Kr Kn t h H0)
def F181_55 (x0 x1 x11 : Value) (h : H) (Kn : VP1) (Kr : VP2) : Prop :=
  o_indexAddr none 1 x0 x1 fun v159 => o_load false 1 v159 h fun v160 => o_indexAddr none 1 x0 x11 fun v163 => o_load false 1 v163 h fun v164 => o_indexAddr none 1 x0 x11 fun v165 => o_store 1 v165 v160 h fun h => o_indexAddr none 1 x0 x1 fun v166 => o_store 1 v166 v164 h fun h => Kn x11 h
theorem F181_55_ok (Kn Kr) (t : T) (h : H) (H0 : F181_55 (t 0) (t 1) (t 11) h Kn Kr) : Wp Tryz.prog 168 (seqL (seqR (rest 2 (seqR (seqR (seqR (seqR (rest 1 (seqR (rest 1 (bodyOf Tryz.f181.body))))))))))) (mkQ (q1 Kn 11) (q2 Kr 8 9) ke0) t h :=
  draw_okF (by kernel_rfl) (by kernel_rfl) H0 (by kernel_rfl)
def F181_56 (x11 : Value) (h : H) (Kn : VP2) (Kr : VP2) : Prop :=
  Kr x11 (.bool false) h
theorem F181_56_ok (Kn Kr) (t : T) (h : H) (H0 : F181_56 (t 11) h Kn Kr) : Wp Tryz.prog 168 (seqR (seqR (rest 2 (seqR (seqR (seqR (seqR (rest 1 (seqR (rest 1 (bodyOf Tryz.f181.body))))))))))) (mkQ (q2 Kn 8 9) (q2 Kr 8 9) ke0) t h :=
  wpEqF H0 (by kernel_rfl)
def F181_54 (x0 x1 x11 : Value) (h : H) (Kn : VP2) (Kr : VP2) : Prop :=
  F181_55 x0 x1 x11 h (fun y11 h => F181_56 y11 h Kn Kr) Kr
theorem F181_54_ok (Kn Kr) (t : T) (h : H) (H0 : F181_54 (t 0) (t 1) (t 11) h Kn Kr) : Wp Tryz.prog 168 (seqR (rest 2 (seqR (seqR (seqR (seqR (rest 1 (seqR (rest 1 (bodyOf Tryz.f181.body)))))))))) (mkQ (q2 Kn 8 9) (q2 Kr 8 9) ke0) t h :=
  seq_ok (by kernel_rfl) (fun t h H1 => F181_56_ok Kn Kr t h H1) (F181_55_ok (fun y11 h => F181_56 y11 h Kn Kr) Kr t h H0)
def F181_30 (x0 x1 x10 x11 : Value) (h : H) (Kn : VP2) (Kr : VP2) : Prop :=
  F181_31 x0 x1 x10 x11 h (fun y0 y1 y11 h => F181_54 y0 y1 y11 h Kn Kr) Kr
theorem F181_30_ok (Kn Kr) (t : T) (h : H) (H0 : F181_30 (t 0) (t 1) (t 10) (t 11) h Kn Kr) : Wp Tryz.prog 168 (rest 2 (seqR (seqR (seqR (seqR (rest 1 (seqR (rest 1 (bodyOf Tryz.f181.body))))))))) (mkQ (q2 Kn 8 9) (q2 Kr 8 9) ke0) t h :=
  seq_ok (by kernel_rfl) (fun t h H1 => F181_54_ok Kn Kr t h H1) (F181_31_ok (fun y0 y1 y11 h => F181_54 y0 y1 y11 h Kn Kr) Kr t h H0)
def F181_29 (x0 x1 x10 x11 : Value) (h : H) (Kn : VP2) (Kr : VP2) : Prop :=
  o_bin Tryz.prog .add 3 x10 (.int .i64 1) fun v96 => o_bin Tryz.prog .sub 3 x11 (.int .i64 1) fun v98 => F181_30 x0 x1 v96 v98 h Kn Kr
theorem F181_29_ok (Kn Kr) (t : T) (h : H) (H0 : F181_29 (t 0) (t 1) (t 10) (t 11) h Kn Kr) : Wp Tryz.prog 168 (seqR (seqR (seqR (seqR (rest 1 (seqR (rest 1 (bodyOf Tryz.f181.body)))))))) (mkQ (q2 Kn 8 9) (q2 Kr 8 9) ke0) t h :=
  awpTo_okF 2 H0 (by kernel_rfl) (fun t h (H1 : F181_30 (t 0) (t 1) (t 10) (t 11) h Kn Kr) => F181_30_ok Kn Kr t h H1) (by kernel_rfl)
def F181_27 (x0 x1 x10 x11 : Value) (h : H) (Kn : VP2) (Kr : VP2) : Prop :=
  F181_28 x0 x1 x10 x11 h (fun y0 y1 y10 y11 h => F181_29 y0 y1 y10 y11 h Kn Kr) Kr
theorem F181_27_ok (Kn Kr) (t : T) (h : H) (H0 : F181_27 (t 0) (t 1) (t 10) (t 11) h Kn Kr) : Wp Tryz.prog 168 (seqR (seqR (seqR (rest 1 (seqR (rest 1 (bodyOf Tryz.f181.body))))))) (mkQ (q2 Kn 8 9) (q2 Kr 8 9) ke0) t h :=
  seq_ok (by kernel_rfl) (fun t h H1 => F181_29_ok Kn Kr t h H1) (F181_28_ok (fun y0 y1 y10 y11 h => F181_29 y0 y1 y10 y11 h Kn Kr) Kr t h H0)
def F181_20 (x0 x1 x10 x11 : Value) (h : H) (Kn : VP2) (Kr : VP2) : Prop :=
  F181_21 x0 x1 x10 x11 h (fun y0 y1 y10 y11 h => F181_27 y0 y1 y10 y11 h Kn Kr) Kr
theorem F181_20_ok (Kn Kr) (t : T) (h : H) (H0 : F181_20 (t 0) (t 1) (t 10) (t 11) h Kn Kr) : Wp Tryz.prog 168 (seqR (seqR (rest 1 (seqR (rest 1 (bodyOf Tryz.f181.body)))))) (mkQ (q2 Kn 8 9) (q2 Kr 8 9) ke0) t h :=
  seq_ok (by kernel_rfl) (fun t h H1 => F181_27_ok Kn Kr t h H1) (F181_21_ok (fun y0 y1 y10 y11 h => F181_27 y0 y1 y10 y11 h Kn Kr) Kr t h H0)
def F181_12 (x0 x1 x10 x11 : Value) (h : H) (Kn : VP2) (Kr : VP2) : Prop :=
  F181_13 x0 x1 x10 x11 h (fun y0 y1 y10 y11 h => F181_20 y0 y1 y10 y11 h Kn Kr) Kr
theorem F181_12_ok (Kn Kr) (t : T) (h : H) (H0 : F181_12 (t 0) (t 1) (t 10) (t 11) h Kn Kr) : Wp Tryz.prog 168 (seqR (rest 1 (seqR (rest 1 (bodyOf Tryz.f181.body))))) (mkQ (q2 Kn 8 9) (q2 Kr 8 9) ke0) t h :=
  seq_ok (by kernel_rfl) (fun t h H1 => F181_20_ok Kn Kr t h H1) (F181_13_ok (fun y0 y1 y10 y11 h => F181_20 y0 y1 y10 y11 h Kn Kr) Kr t h H0)
def F181_4 (x0 x1 x10 x11 : Value) (h : H) (Kn : VP2) (Kr : VP2) : Prop :=
  F181_5 x0 x1 x10 x11 h (fun y0 y1 y10 y11 h => F181_12 y0 y1 y10 y11 h Kn Kr) Kr
theorem F181_4_ok (Kn Kr) (t : T) (h : H) (H0 : F181_4 (t 0) (t 1) (t 10) (t 11) h Kn Kr) : Wp Tryz.prog 168 (rest 1 (seqR (rest 1 (bodyOf Tryz.f181.body)))) (mkQ (q2 Kn 8 9) (q2 Kr 8 9) ke0) t h :=
  seq_ok (by kernel_rfl) (fun t h H1 => F181_12_ok Kn Kr t h H1) (F181_5_ok (fun y0 y1 y10 y11 h => F181_12 y0 y1 y10 y11 h Kn Kr) Kr t h H0)
def F181_3 (x0 x1 x2 : Value) (h : H) (Kn : VP2) (Kr : VP2) : Prop :=
  o_bin Tryz.prog .add 3 x1 (.int .i64 1) fun v27 => o_bin Tryz.prog .sub 3 x2 (.int .i64 1) fun v29 => F181_4 x0 x1 v27 v29 h Kn Kr
theorem F181_3_ok (Kn Kr) (t : T) (h : H) (H0 : F181_3 (t 0) (t 1) (t 2) h Kn Kr) : Wp Tryz.prog 168 (seqR (rest 1 (bodyOf Tryz.f181.body))) (mkQ (q2 Kn 8 9) (q2 Kr 8 9) ke0) t h :=
  awpTo_okF 1 H0 (by kernel_rfl) (fun t h (H1 : F181_4 (t 0) (t 1) (t 10) (t 11) h Kn Kr) => F181_4_ok Kn Kr t h H1) (by kernel_rfl)
def F181_1 (x0 x1 x2 x3 : Value) (h : H) (Kn : VP2) (Kr : VP2) : Prop :=
  F181_2 x0 x1 x2 x3 h (fun y0 y1 y2 h => F181_3 y0 y1 y2 h Kn Kr) Kr
theorem F181_1_ok (Kn Kr) (t : T) (h : H) (H0 : F181_1 (t 0) (t 1) (t 2) (t 3) h Kn Kr) : Wp Tryz.prog 168 (rest 1 (bodyOf Tryz.f181.body)) (mkQ (q2 Kn 8 9) (q2 Kr 8 9) ke0) t h :=
  seq_ok (by kernel_rfl) (fun t h H1 => F181_3_ok Kn Kr t h H1) (F181_2_ok (fun y0 y1 y2 h => F181_3 y0 y1 y2 h Kn Kr) Kr t h H0)
def F181_0 (x0 x1 x2 x3 : Value) (h : H) (Kn : VP2) (Kr : VP2) : Prop :=
  F181_1 x0 x1 x2 x3 h Kn Kr
theorem F181_0_ok (Kn Kr) (t : T) (h : H) (H0 : F181_0 (t 0) (t 1) (t 2) (t 3) h Kn Kr) : Wp Tryz.prog 168 (bodyOf Tryz.f181.body) (mkQ (q2 Kn 8 9) (q2 Kr 8 9) ke0) t h :=
  awpTo_okF 1 H0 (by kernel_rfl) (fun t h (H1 : F181_1 (t 0) (t 1) (t 2) (t 3) h Kn Kr) => F181_1_ok Kn Kr t h H1) (by kernel_rfl)
def F181 (x0 x1 x2 x3 : Value) (h : H) (Q : VP1) : Prop := F181_0 x0 x1 x2 x3 h (fun y8 y9 h => bif [y8, y9].all boxV then Q (.tuple #[y8, y9]) h else False) (fun y8 y9 h => bif [y8, y9].all boxV then Q (.tuple #[y8, y9]) h else False)
theorem F181_spec (x0 x1 x2 x3 : Value) (h : H) (Q : VP1) (H0 : F181 x0 x1 x2 x3 h Q) : AM.Spec Tryz.prog 181 [x0, x1, x2, x3] h Q :=
  spec_wp mixed (fn := Tryz.f181) Tryz.func181 (c := bodyOf Tryz.f181.body) (rs := [8, 9]) (N := 168) (by kernel_rfl) (by kernel_rfl) (by kernel_rfl) (by kernel_rfl) (by kernel_rfl) (Nat.le_of_ble_eq_true rfl) (F181_0_ok (fun y8 y9 h => bif [y8, y9].all boxV then Q (.tuple #[y8, y9]) h else False) (fun y8 y9 h => bif [y8, y9].all boxV then Q (.tuple #[y8, y9]) h else False) (tinit [x0, x1, x2, x3]) h H0) (by kernel_rfl)
def F180_2 (x0 x1 x2 x3 : Value) (h : H) (Kn : VP3) (Kr : VP1) : Prop :=
  o_indexAddr none 1 x0 x3 fun v17 => o_load false 1 v17 h fun v18 => o_indexAddr none 1 x0 x1 fun v21 => o_load false 1 v21 h fun v22 => o_indexAddr none 1 x0 x1 fun v23 => o_store 1 v23 v18 h fun h => o_indexAddr none 1 x0 x3 fun v24 => o_store 1 v24 v22 h fun h => Kn x0 x1 x2 h
theorem F180_2_ok (Kn Kr) (t : T) (h : H) (H0 : F180_2 (t 0) (t 1) (t 2) (t 3) h Kn Kr) : Wp Tryz.prog 84 (seqL (rest 1 (bodyOf Tryz.f180.body))) (mkQ (q3 Kn 0 1 2) (q1 Kr 8) ke0) t h :=
  draw_okF (by kernel_rfl) (by kernel_rfl) H0 (by kernel_rfl)
def F180_13 (x0 x1 x9 x10 : Value) (h : H) (Kn : VP5) (Kr : VP1) (Ke2 : VP4) (Ke1 : VP4) (Ke0 : VP1) : Prop :=
  o_bin Tryz.prog .leq 3 x9 x10 fun v31 => o_guard v31 true (fun k4 => k4 x0 h) (fun v33 h => o_guard v31 true (fun k5 => k5 x1 h) (fun v34 h => o_guard v31 true (fun k6 => o_indexAddr none 1 v33 v34 fun v35 => k6 v35 h) (fun v35 h => o_guard v31 true (fun k7 => o_load false 1 v35 h fun v36 => k7 v36 h) (fun v36 h => o_guard v31 true (fun k8 => k8 x0 h) (fun v37 h => o_guard v31 true (fun k9 => k9 x9 h) (fun v38 h => o_guard v31 true (fun k10 => o_indexAddr none 1 v37 v38 fun v39 => k10 v39 h) (fun v39 h => o_guard v31 true (fun k11 => o_load false 1 v39 h fun v40 => k11 v40 h) (fun v40 h => o_guard v31 true (fun k12 => o_dcall DS 179 [v36, v40] h fun v41 h => k12 v41 h) (fun v41 h => o_guard v31 true (fun k13 => o_un Tryz.prog .not v41 fun v42 => k13 v42 h) (fun v42 h => o_pick v31 v42 (.bool false) fun v43 => Kn x0 x1 x9 x10 v43 h) h) h) h) h) h) h) h) h) h) h
theorem F180_13_ok (Kn Kr Ke2 Ke1 Ke0) (t : T) (h : H) (H0 : F180_13 (t 0) (t 1) (t 9) (t 10) h Kn Kr Ke2 Ke1 Ke0) : Wp Tryz.prog 84 (seqL (seqL (lopC (blkC (seqL (blkC (lopC (blkC (seqL (rest 1 (seqR (rest 1 (bodyOf Tryz.f180.body))))))))))))) (mkQ (q5 Kn 0 1 9 10 43) (q1 Kr 8) (keAdd 2 (q4 Ke2 0 1 9 10) (keAdd 1 (q4 Ke1 0 1 9 10) (keAdd 0 (q1 Ke0 9) ke0)))) t h :=
  drawD_ok dsOk (by kernel_rfl) (by kernel_rfl) H0 (by kernel_rfl)
def F180_14 (x0 x1 x9 x10 x43 : Value) (h : H) (Kn : VP4) (Kr : VP1) (Ke2 : VP4) (Ke1 : VP4) (Ke0 : VP1) : Prop :=
  o_if x43 (Kn x0 x1 x9 x10 h) (Ke2 x0 x1 x9 x10 h)
theorem F180_14_ok (Kn Kr Ke2 Ke1 Ke0) (t : T) (h : H) (H0 : F180_14 (t 0) (t 1) (t 9) (t 10) (t 43) h Kn Kr Ke2 Ke1 Ke0) : Wp Tryz.prog 84 (seqR (seqL (lopC (blkC (seqL (blkC (lopC (blkC (seqL (rest 1 (seqR (rest 1 (bodyOf Tryz.f180.body))))))))))))) (mkQ (q4 Kn 0 1 9 10) (q1 Kr 8) (keAdd 2 (q4 Ke2 0 1 9 10) (keAdd 1 (q4 Ke1 0 1 9 10) (keAdd 0 (q1 Ke0 9) ke0)))) t h :=
  wpEqF H0 (by kernel_rfl)
def F180_12 (x0 x1 x9 x10 : Value) (h : H) (Kn : VP4) (Kr : VP1) (Ke2 : VP4) (Ke1 : VP4) (Ke0 : VP1) : Prop :=
  F180_13 x0 x1 x9 x10 h (fun y0 y1 y9 y10 y43 h => F180_14 y0 y1 y9 y10 y43 h Kn Kr Ke2 Ke1 Ke0) Kr Ke2 Ke1 Ke0
theorem F180_12_ok (Kn Kr Ke2 Ke1 Ke0) (t : T) (h : H) (H0 : F180_12 (t 0) (t 1) (t 9) (t 10) h Kn Kr Ke2 Ke1 Ke0) : Wp Tryz.prog 84 (seqL (lopC (blkC (seqL (blkC (lopC (blkC (seqL (rest 1 (seqR (rest 1 (bodyOf Tryz.f180.body)))))))))))) (mkQ (q4 Kn 0 1 9 10) (q1 Kr 8) (keAdd 2 (q4 Ke2 0 1 9 10) (keAdd 1 (q4 Ke1 0 1 9 10) (keAdd 0 (q1 Ke0 9) ke0)))) t h :=
  seq_ok (by kernel_rfl) (fun t h H1 => F180_14_ok Kn Kr Ke2 Ke1 Ke0 t h H1) (F180_13_ok (fun y0 y1 y9 y10 y43 h => F180_14 y0 y1 y9 y10 y43 h Kn Kr Ke2 Ke1 Ke0) Kr Ke2 Ke1 Ke0 t h H0)
def F180_15 (x0 x1 x9 x10 : Value) (h : H) (Kn : VP4) (Kr : VP1) (Ke2 : VP4) (Ke1 : VP4) (Ke0 : VP1) : Prop :=
  o_bin Tryz.prog .add 3 x9 (.int .i64 1) fun v45 => Kn x0 x1 v45 x10 h
theorem F180_15_ok (Kn Kr Ke2 Ke1 Ke0) (t : T) (h : H) (H0 : F180_15 (t 0) (t 1) (t 9) (t 10) h Kn Kr Ke2 Ke1 Ke0) : Wp Tryz.prog 84 (seqR (lopC (blkC (seqL (blkC (lopC (blkC (seqL (rest 1 (seqR (rest 1 (bodyOf Tryz.f180.body)))))))))))) (mkQ (q4 Kn 0 1 9 10) (q1 Kr 8) (keAdd 2 (q4 Ke2 0 1 9 10) (keAdd 1 (q4 Ke1 0 1 9 10) (keAdd 0 (q1 Ke0 9) ke0)))) t h :=
  wpEqF H0 (by kernel_rfl)
def F180_11 (x0 x1 x9 x10 : Value) (h : H) (Kn : VP4) (Kr : VP1) (Ke2 : VP4) (Ke1 : VP4) (Ke0 : VP1) : Prop :=
  F180_12 x0 x1 x9 x10 h (fun y0 y1 y9 y10 h => F180_15 y0 y1 y9 y10 h Kn Kr Ke2 Ke1 Ke0) Kr Ke2 Ke1 Ke0
theorem F180_11_ok (Kn Kr Ke2 Ke1 Ke0) (t : T) (h : H) (H0 : F180_11 (t 0) (t 1) (t 9) (t 10) h Kn Kr Ke2 Ke1 Ke0) : Wp Tryz.prog 84 (lopC (blkC (seqL (blkC (lopC (blkC (seqL (rest 1 (seqR (rest 1 (bodyOf Tryz.f180.body))))))))))) (mkQ (q4 Kn 0 1 9 10) (q1 Kr 8) (keAdd 2 (q4 Ke2 0 1 9 10) (keAdd 1 (q4 Ke1 0 1 9 10) (keAdd 0 (q1 Ke0 9) ke0)))) t h :=
  seq_ok (by kernel_rfl) (fun t h H1 => F180_15_ok Kn Kr Ke2 Ke1 Ke0 t h H1) (F180_12_ok (fun y0 y1 y9 y10 h => F180_15 y0 y1 y9 y10 h Kn Kr Ke2 Ke1 Ke0) Kr Ke2 Ke1 Ke0 t h H0)
def F180_10 (x0 x1 x9 x10 : Value) (h : H) (Kn : VP4) (Kr : VP1) (Ke2 : VP4) (Ke1 : VP4) (Ke0 : VP1) : Prop :=
  sloop (S := Value × Value × Value × Value) (fun s h K => F180_11 s.1 s.2.1 s.2.2.1 s.2.2.2 h (fun y0 y1 y9 y10 h => K (y0, y1, y9, y10) h) Kr Ke2 Ke1 Ke0) (x0, x1, x9, x10) h
theorem F180_10_ok (Kn Kr Ke2 Ke1 Ke0) (t : T) (h : H) (H0 : F180_10 (t 0) (t 1) (t 9) (t 10) h Kn Kr Ke2 Ke1 Ke0) : Wp Tryz.prog 84 (blkC (seqL (blkC (lopC (blkC (seqL (rest 1 (seqR (rest 1 (bodyOf Tryz.f180.body)))))))))) (mkQ (q4 Kn 0 1 9 10) (q1 Kr 8) (keAdd 2 (q4 Ke2 0 1 9 10) (keAdd 1 (q4 Ke1 0 1 9 10) (keAdd 0 (q1 Ke0 9) ke0)))) t h :=
  loop_ok (fun t => (t 0, t 1, t 9, t 10)) (by kernel_rfl) (fun t h K H1 => F180_11_ok (fun y0 y1 y9 y10 h => K (y0, y1, y9, y10) h) Kr Ke2 Ke1 Ke0 t h H1) H0
def F180_9 (x0 x1 x9 x10 : Value) (h : H) (Kn : VP4) (Kr : VP1) (Ke1 : VP4) (Ke0 : VP1) : Prop :=
  F180_10 x0 x1 x9 x10 h Kn Kr Kn Ke1 Ke0
theorem F180_9_ok (Kn Kr Ke1 Ke0) (t : T) (h : H) (H0 : F180_9 (t 0) (t 1) (t 9) (t 10) h Kn Kr Ke1 Ke0) : Wp Tryz.prog 84 (seqL (blkC (lopC (blkC (seqL (rest 1 (seqR (rest 1 (bodyOf Tryz.f180.body))))))))) (mkQ (q4 Kn 0 1 9 10) (q1 Kr 8) (keAdd 1 (q4 Ke1 0 1 9 10) (keAdd 0 (q1 Ke0 9) ke0))) t h :=
  block_ok 2 (by kernel_rfl) (by kernel_rfl) (F180_10_ok Kn Kr Kn Ke1 Ke0 t h H0)
def F180_21 (x0 x1 x9 x10 : Value) (h : H) (Kn : VP5) (Kr : VP1) (Ke4 : VP4) (Ke1 : VP4) (Ke0 : VP1) : Prop :=
  o_bin Tryz.prog .leq 3 x9 x10 fun v48 => o_guard v48 true (fun k4 => k4 x0 h) (fun v50 h => o_guard v48 true (fun k5 => k5 x1 h) (fun v51 h => o_guard v48 true (fun k6 => o_indexAddr none 1 v50 v51 fun v52 => k6 v52 h) (fun v52 h => o_guard v48 true (fun k7 => o_load false 1 v52 h fun v53 => k7 v53 h) (fun v53 h => o_guard v48 true (fun k8 => k8 x0 h) (fun v54 h => o_guard v48 true (fun k9 => k9 x10 h) (fun v55 h => o_guard v48 true (fun k10 => o_indexAddr none 1 v54 v55 fun v56 => k10 v56 h) (fun v56 h => o_guard v48 true (fun k11 => o_load false 1 v56 h fun v57 => k11 v57 h) (fun v57 h => o_guard v48 true (fun k12 => o_dcall DS 179 [v53, v57] h fun v58 h => k12 v58 h) (fun v58 h => o_pick v48 v58 (.bool false) fun v59 => Kn x0 x1 x9 x10 v59 h) h) h) h) h) h) h) h) h) h
theorem F180_21_ok (Kn Kr Ke4 Ke1 Ke0) (t : T) (h : H) (H0 : F180_21 (t 0) (t 1) (t 9) (t 10) h Kn Kr Ke4 Ke1 Ke0) : Wp Tryz.prog 84 (seqL (seqL (lopC (blkC (seqL (seqR (blkC (lopC (blkC (seqL (rest 1 (seqR (rest 1 (bodyOf Tryz.f180.body)))))))))))))) (mkQ (q5 Kn 0 1 9 10 59) (q1 Kr 8) (keAdd 4 (q4 Ke4 0 1 9 10) (keAdd 1 (q4 Ke1 0 1 9 10) (keAdd 0 (q1 Ke0 9) ke0)))) t h :=
  drawD_ok dsOk (by kernel_rfl) (by kernel_rfl) H0 (by kernel_rfl)
def F180_22 (x0 x1 x9 x10 x59 : Value) (h : H) (Kn : VP4) (Kr : VP1) (Ke4 : VP4) (Ke1 : VP4) (Ke0 : VP1) : Prop :=
  o_if x59 (Kn x0 x1 x9 x10 h) (Ke4 x0 x1 x9 x10 h)
theorem F180_22_ok (Kn Kr Ke4 Ke1 Ke0) (t : T) (h : H) (H0 : F180_22 (t 0) (t 1) (t 9) (t 10) (t 59) h Kn Kr Ke4 Ke1 Ke0) : Wp Tryz.prog 84 (seqR (seqL (lopC (blkC (seqL (seqR (blkC (lopC (blkC (seqL (rest 1 (seqR (rest 1 (bodyOf Tryz.f180.body)))))))))))))) (mkQ (q4 Kn 0 1 9 10) (q1 Kr 8) (keAdd 4 (q4 Ke4 0 1 9 10) (keAdd 1 (q4 Ke1 0 1 9 10) (keAdd 0 (q1 Ke0 9) ke0)))) t h :=
  wpEqF H0 (by kernel_rfl)
def F180_20 (x0 x1 x9 x10 : Value) (h : H) (Kn : VP4) (Kr : VP1) (Ke4 : VP4) (Ke1 : VP4) (Ke0 : VP1) : Prop :=
  F180_21 x0 x1 x9 x10 h (fun y0 y1 y9 y10 y59 h => F180_22 y0 y1 y9 y10 y59 h Kn Kr Ke4 Ke1 Ke0) Kr Ke4 Ke1 Ke0
theorem F180_20_ok (Kn Kr Ke4 Ke1 Ke0) (t : T) (h : H) (H0 : F180_20 (t 0) (t 1) (t 9) (t 10) h Kn Kr Ke4 Ke1 Ke0) : Wp Tryz.prog 84 (seqL (lopC (blkC (seqL (seqR (blkC (lopC (blkC (seqL (rest 1 (seqR (rest 1 (bodyOf Tryz.f180.body))))))))))))) (mkQ (q4 Kn 0 1 9 10) (q1 Kr 8) (keAdd 4 (q4 Ke4 0 1 9 10) (keAdd 1 (q4 Ke1 0 1 9 10) (keAdd 0 (q1 Ke0 9) ke0)))) t h :=
  seq_ok (by kernel_rfl) (fun t h H1 => F180_22_ok Kn Kr Ke4 Ke1 Ke0 t h H1) (F180_21_ok (fun y0 y1 y9 y10 y59 h => F180_22 y0 y1 y9 y10 y59 h Kn Kr Ke4 Ke1 Ke0) Kr Ke4 Ke1 Ke0 t h H0)
def F180_23 (x0 x1 x9 x10 : Value) (h : H) (Kn : VP4) (Kr : VP1) (Ke4 : VP4) (Ke1 : VP4) (Ke0 : VP1) : Prop :=
  o_bin Tryz.prog .sub 3 x10 (.int .i64 1) fun v61 => Kn x0 x1 x9 v61 h
theorem F180_23_ok (Kn Kr Ke4 Ke1 Ke0) (t : T) (h : H) (H0 : F180_23 (t 0) (t 1) (t 9) (t 10) h Kn Kr Ke4 Ke1 Ke0) : Wp Tryz.prog 84 (seqR (lopC (blkC (seqL (seqR (blkC (lopC (blkC (seqL (rest 1 (seqR (rest 1 (bodyOf Tryz.f180.body))))))))))))) (mkQ (q4 Kn 0 1 9 10) (q1 Kr 8) (keAdd 4 (q4 Ke4 0 1 9 10) (keAdd 1 (q4 Ke1 0 1 9 10) (keAdd 0 (q1 Ke0 9) ke0)))) t h :=
  wpEqF H0 (by kernel_rfl)
def F180_19 (x0 x1 x9 x10 : Value) (h : H) (Kn : VP4) (Kr : VP1) (Ke4 : VP4) (Ke1 : VP4) (Ke0 : VP1) : Prop :=
  F180_20 x0 x1 x9 x10 h (fun y0 y1 y9 y10 h => F180_23 y0 y1 y9 y10 h Kn Kr Ke4 Ke1 Ke0) Kr Ke4 Ke1 Ke0
theorem F180_19_ok (Kn Kr Ke4 Ke1 Ke0) (t : T) (h : H) (H0 : F180_19 (t 0) (t 1) (t 9) (t 10) h Kn Kr Ke4 Ke1 Ke0) : Wp Tryz.prog 84 (lopC (blkC (seqL (seqR (blkC (lopC (blkC (seqL (rest 1 (seqR (rest 1 (bodyOf Tryz.f180.body)))))))))))) (mkQ (q4 Kn 0 1 9 10) (q1 Kr 8) (keAdd 4 (q4 Ke4 0 1 9 10) (keAdd 1 (q4 Ke1 0 1 9 10) (keAdd 0 (q1 Ke0 9) ke0)))) t h :=
  seq_ok (by kernel_rfl) (fun t h H1 => F180_23_ok Kn Kr Ke4 Ke1 Ke0 t h H1) (F180_20_ok (fun y0 y1 y9 y10 h => F180_23 y0 y1 y9 y10 h Kn Kr Ke4 Ke1 Ke0) Kr Ke4 Ke1 Ke0 t h H0)
def F180_18 (x0 x1 x9 x10 : Value) (h : H) (Kn : VP4) (Kr : VP1) (Ke4 : VP4) (Ke1 : VP4) (Ke0 : VP1) : Prop :=
  sloop (S := Value × Value × Value × Value) (fun s h K => F180_19 s.1 s.2.1 s.2.2.1 s.2.2.2 h (fun y0 y1 y9 y10 h => K (y0, y1, y9, y10) h) Kr Ke4 Ke1 Ke0) (x0, x1, x9, x10) h
theorem F180_18_ok (Kn Kr Ke4 Ke1 Ke0) (t : T) (h : H) (H0 : F180_18 (t 0) (t 1) (t 9) (t 10) h Kn Kr Ke4 Ke1 Ke0) : Wp Tryz.prog 84 (blkC (seqL (seqR (blkC (lopC (blkC (seqL (rest 1 (seqR (rest 1 (bodyOf Tryz.f180.body))))))))))) (mkQ (q4 Kn 0 1 9 10) (q1 Kr 8) (keAdd 4 (q4 Ke4 0 1 9 10) (keAdd 1 (q4 Ke1 0 1 9 10) (keAdd 0 (q1 Ke0 9) ke0)))) t h :=
  loop_ok (fun t => (t 0, t 1, t 9, t 10)) (by kernel_rfl) (fun t h K H1 => F180_19_ok (fun y0 y1 y9 y10 h => K (y0, y1, y9, y10) h) Kr Ke4 Ke1 Ke0 t h H1) H0
def F180_17 (x0 x1 x9 x10 : Value) (h : H) (Kn : VP4) (Kr : VP1) (Ke1 : VP4) (Ke0 : VP1) : Prop :=
  F180_18 x0 x1 x9 x10 h Kn Kr Kn Ke1 Ke0
theorem F180_17_ok (Kn Kr Ke1 Ke0) (t : T) (h : H) (H0 : F180_17 (t 0) (t 1) (t 9) (t 10) h Kn Kr Ke1 Ke0) : Wp Tryz.prog 84 (seqL (seqR (blkC (lopC (blkC (seqL (rest 1 (seqR (rest 1 (bodyOf Tryz.f180.body)))))))))) (mkQ (q4 Kn 0 1 9 10) (q1 Kr 8) (keAdd 1 (q4 Ke1 0 1 9 10) (keAdd 0 (q1 Ke0 9) ke0))) t h :=
  block_ok 4 (by kernel_rfl) (by kernel_rfl) (F180_18_ok Kn Kr Kn Ke1 Ke0 t h H0)
def F180_26 (x0 x1 x9 x10 : Value) (h : H) (Kn : VP4) (Kr : VP1) (Ke1 : VP4) (Ke0 : VP1) : Prop :=
  o_indexAddr none 1 x0 x10 fun v71 => o_load false 1 v71 h fun v72 => o_indexAddr none 1 x0 x9 fun v75 => o_load false 1 v75 h fun v76 => o_indexAddr none 1 x0 x9 fun v77 => o_store 1 v77 v72 h fun h => o_indexAddr none 1 x0 x10 fun v78 => o_store 1 v78 v76 h fun h => Kn x0 x1 x9 x10 h
theorem F180_26_ok (Kn Kr Ke1 Ke0) (t : T) (h : H) (H0 : F180_26 (t 0) (t 1) (t 9) (t 10) h Kn Kr Ke1 Ke0) : Wp Tryz.prog 84 (seqL (rest 1 (seqR (seqR (blkC (lopC (blkC (seqL (rest 1 (seqR (rest 1 (bodyOf Tryz.f180.body)))))))))))) (mkQ (q4 Kn 0 1 9 10) (q1 Kr 8) (keAdd 1 (q4 Ke1 0 1 9 10) (keAdd 0 (q1 Ke0 9) ke0))) t h :=
  draw_okF (by kernel_rfl) (by kernel_rfl) H0 (by kernel_rfl)
def F180_27 (x0 x1 x9 x10 : Value) (h : H) (Kn : VP4) (Kr : VP1) (Ke1 : VP4) (Ke0 : VP1) : Prop :=
  o_bin Tryz.prog .add 3 x9 (.int .i64 1) fun v80 => o_bin Tryz.prog .sub 3 x10 (.int .i64 1) fun v82 => Kn x0 x1 v80 v82 h
theorem F180_27_ok (Kn Kr Ke1 Ke0) (t : T) (h : H) (H0 : F180_27 (t 0) (t 1) (t 9) (t 10) h Kn Kr Ke1 Ke0) : Wp Tryz.prog 84 (seqR (rest 1 (seqR (seqR (blkC (lopC (blkC (seqL (rest 1 (seqR (rest 1 (bodyOf Tryz.f180.body)))))))))))) (mkQ (q4 Kn 0 1 9 10) (q1 Kr 8) (keAdd 1 (q4 Ke1 0 1 9 10) (keAdd 0 (q1 Ke0 9) ke0))) t h :=
  wpEqF H0 (by kernel_rfl)
def F180_25 (x0 x1 x9 x10 : Value) (h : H) (Kn : VP4) (Kr : VP1) (Ke1 : VP4) (Ke0 : VP1) : Prop :=
  F180_26 x0 x1 x9 x10 h (fun y0 y1 y9 y10 h => F180_27 y0 y1 y9 y10 h Kn Kr Ke1 Ke0) Kr Ke1 Ke0
theorem F180_25_ok (Kn Kr Ke1 Ke0) (t : T) (h : H) (H0 : F180_25 (t 0) (t 1) (t 9) (t 10) h Kn Kr Ke1 Ke0) : Wp Tryz.prog 84 (rest 1 (seqR (seqR (blkC (lopC (blkC (seqL (rest 1 (seqR (rest 1 (bodyOf Tryz.f180.body))))))))))) (mkQ (q4 Kn 0 1 9 10) (q1 Kr 8) (keAdd 1 (q4 Ke1 0 1 9 10) (keAdd 0 (q1 Ke0 9) ke0))) t h :=
  seq_ok (by kernel_rfl) (fun t h H1 => F180_27_ok Kn Kr Ke1 Ke0 t h H1) (F180_26_ok (fun y0 y1 y9 y10 h => F180_27 y0 y1 y9 y10 h Kn Kr Ke1 Ke0) Kr Ke1 Ke0 t h H0)
def F180_24 (x0 x1 x9 x10 : Value) (h : H) (Kn : VP4) (Kr : VP1) (Ke1 : VP4) (Ke0 : VP1) : Prop :=
  o_bin Tryz.prog .gtr 3 x9 x10 fun v64 => o_if v64 (Ke0 x9 h) (F180_25 x0 x1 x9 x10 h Kn Kr Ke1 Ke0)
theorem F180_24_ok (Kn Kr Ke1 Ke0) (t : T) (h : H) (H0 : F180_24 (t 0) (t 1) (t 9) (t 10) h Kn Kr Ke1 Ke0) : Wp Tryz.prog 84 (seqR (seqR (blkC (lopC (blkC (seqL (rest 1 (seqR (rest 1 (bodyOf Tryz.f180.body)))))))))) (mkQ (q4 Kn 0 1 9 10) (q1 Kr 8) (keAdd 1 (q4 Ke1 0 1 9 10) (keAdd 0 (q1 Ke0 9) ke0))) t h :=
  awpTo_okF 1 H0 (by kernel_rfl) (fun t h (H1 : F180_25 (t 0) (t 1) (t 9) (t 10) h Kn Kr Ke1 Ke0) => F180_25_ok Kn Kr Ke1 Ke0 t h H1) (by kernel_rfl)
def F180_16 (x0 x1 x9 x10 : Value) (h : H) (Kn : VP4) (Kr : VP1) (Ke1 : VP4) (Ke0 : VP1) : Prop :=
  F180_17 x0 x1 x9 x10 h (fun y0 y1 y9 y10 h => F180_24 y0 y1 y9 y10 h Kn Kr Ke1 Ke0) Kr Ke1 Ke0
theorem F180_16_ok (Kn Kr Ke1 Ke0) (t : T) (h : H) (H0 : F180_16 (t 0) (t 1) (t 9) (t 10) h Kn Kr Ke1 Ke0) : Wp Tryz.prog 84 (seqR (blkC (lopC (blkC (seqL (rest 1 (seqR (rest 1 (bodyOf Tryz.f180.body))))))))) (mkQ (q4 Kn 0 1 9 10) (q1 Kr 8) (keAdd 1 (q4 Ke1 0 1 9 10) (keAdd 0 (q1 Ke0 9) ke0))) t h :=
  seq_ok (by kernel_rfl) (fun t h H1 => F180_24_ok Kn Kr Ke1 Ke0 t h H1) (F180_17_ok (fun y0 y1 y9 y10 h => F180_24 y0 y1 y9 y10 h Kn Kr Ke1 Ke0) Kr Ke1 Ke0 t h H0)
def F180_8 (x0 x1 x9 x10 : Value) (h : H) (Kn : VP4) (Kr : VP1) (Ke1 : VP4) (Ke0 : VP1) : Prop :=
  F180_9 x0 x1 x9 x10 h (fun y0 y1 y9 y10 h => F180_16 y0 y1 y9 y10 h Kn Kr Ke1 Ke0) Kr Ke1 Ke0
theorem F180_8_ok (Kn Kr Ke1 Ke0) (t : T) (h : H) (H0 : F180_8 (t 0) (t 1) (t 9) (t 10) h Kn Kr Ke1 Ke0) : Wp Tryz.prog 84 (blkC (lopC (blkC (seqL (rest 1 (seqR (rest 1 (bodyOf Tryz.f180.body)))))))) (mkQ (q4 Kn 0 1 9 10) (q1 Kr 8) (keAdd 1 (q4 Ke1 0 1 9 10) (keAdd 0 (q1 Ke0 9) ke0))) t h :=
  seq_ok (by kernel_rfl) (fun t h H1 => F180_16_ok Kn Kr Ke1 Ke0 t h H1) (F180_9_ok (fun y0 y1 y9 y10 h => F180_16 y0 y1 y9 y10 h Kn Kr Ke1 Ke0) Kr Ke1 Ke0 t h H0)
def F180_7 (x0 x1 x9 x10 : Value) (h : H) (Kn : VP4) (Kr : VP1) (Ke0 : VP1) : Prop :=
  F180_8 x0 x1 x9 x10 h Kn Kr Kn Ke0
theorem F180_7_ok (Kn Kr Ke0) (t : T) (h : H) (H0 : F180_7 (t 0) (t 1) (t 9) (t 10) h Kn Kr Ke0) : Wp Tryz.prog 84 (lopC (blkC (seqL (rest 1 (seqR (rest 1 (bodyOf Tryz.f180.body))))))) (mkQ (q4 Kn 0 1 9 10) (q1 Kr 8) (keAdd 0 (q1 Ke0 9) ke0)) t h :=
  block_ok 1 (by kernel_rfl) (by kernel_rfl) (F180_8_ok Kn Kr Kn Ke0 t h H0)
def F180_6 (x0 x1 x9 x10 : Value) (h : H) (Kn : VP1) (Kr : VP1) (Ke0 : VP1) : Prop :=
  sloop (S := Value × Value × Value × Value) (fun s h K => F180_7 s.1 s.2.1 s.2.2.1 s.2.2.2 h (fun y0 y1 y9 y10 h => K (y0, y1, y9, y10) h) Kr Ke0) (x0, x1, x9, x10) h
theorem F180_6_ok (Kn Kr Ke0) (t : T) (h : H) (H0 : F180_6 (t 0) (t 1) (t 9) (t 10) h Kn Kr Ke0) : Wp Tryz.prog 84 (blkC (seqL (rest 1 (seqR (rest 1 (bodyOf Tryz.f180.body)))))) (mkQ (q1 Kn 9) (q1 Kr 8) (keAdd 0 (q1 Ke0 9) ke0)) t h :=
  loop_ok (fun t => (t 0, t 1, t 9, t 10)) (by kernel_rfl) (fun t h K H1 => F180_7_ok (fun y0 y1 y9 y10 h => K (y0, y1, y9, y10) h) Kr Ke0 t h H1) H0
def F180_5 (x0 x1 x9 x10 : Value) (h : H) (Kn : VP1) (Kr : VP1) : Prop :=
  F180_6 x0 x1 x9 x10 h Kn Kr Kn
theorem F180_5_ok (Kn Kr) (t : T) (h : H) (H0 : F180_5 (t 0) (t 1) (t 9) (t 10) h Kn Kr) : Wp Tryz.prog 84 (seqL (rest 1 (seqR (rest 1 (bodyOf Tryz.f180.body))))) (mkQ (q1 Kn 9) (q1 Kr 8) ke0) t h :=
  block_ok 0 (by kernel_rfl) (by kernel_rfl) (F180_6_ok Kn Kr Kn t h H0)
def F180_28 (x9 : Value) (h : H) (Kn : VP1) (Kr : VP1) : Prop :=
  Kr x9 h
theorem F180_28_ok (Kn Kr) (t : T) (h : H) (H0 : F180_28 (t 9) h Kn Kr) : Wp Tryz.prog 84 (seqR (rest 1 (seqR (rest 1 (bodyOf Tryz.f180.body))))) (mkQ (q1 Kn 8) (q1 Kr 8) ke0) t h :=
  wpEqF H0 (by kernel_rfl)
def F180_4 (x0 x1 x9 x10 : Value) (h : H) (Kn : VP1) (Kr : VP1) : Prop :=
  F180_5 x0 x1 x9 x10 h (fun y9 h => F180_28 y9 h Kn Kr) Kr
theorem F180_4_ok (Kn Kr) (t : T) (h : H) (H0 : F180_4 (t 0) (t 1) (t 9) (t 10) h Kn Kr) : Wp Tryz.prog 84 (rest 1 (seqR (rest 1 (bodyOf Tryz.f180.body)))) (mkQ (q1 Kn 8) (q1 Kr 8) ke0) t h :=
  seq_ok (by kernel_rfl) (fun t h H1 => F180_28_ok Kn Kr t h H1) (F180_5_ok (fun y9 h => F180_28 y9 h Kn Kr) Kr t h H0)
def F180_3 (x0 x1 x2 : Value) (h : H) (Kn : VP1) (Kr : VP1) : Prop :=
  o_bin Tryz.prog .add 3 x1 (.int .i64 1) fun v26 => o_bin Tryz.prog .sub 3 x2 (.int .i64 1) fun v28 => F180_4 x0 x1 v26 v28 h Kn Kr
theorem F180_3_ok (Kn Kr) (t : T) (h : H) (H0 : F180_3 (t 0) (t 1) (t 2) h Kn Kr) : Wp Tryz.prog 84 (seqR (rest 1 (bodyOf Tryz.f180.body))) (mkQ (q1 Kn 8) (q1 Kr 8) ke0) t h :=
  awpTo_okF 1 H0 (by kernel_rfl) (fun t h (H1 : F180_4 (t 0) (t 1) (t 9) (t 10) h Kn Kr) => F180_4_ok Kn Kr t h H1) (by kernel_rfl)
def F180_1 (x0 x1 x2 x3 : Value) (h : H) (Kn : VP1) (Kr : VP1) : Prop :=
  F180_2 x0 x1 x2 x3 h (fun y0 y1 y2 h => F180_3 y0 y1 y2 h Kn Kr) Kr
theorem F180_1_ok (Kn Kr) (t : T) (h : H) (H0 : F180_1 (t 0) (t 1) (t 2) (t 3) h Kn Kr) : Wp Tryz.prog 84 (rest 1 (bodyOf Tryz.f180.body)) (mkQ (q1 Kn 8) (q1 Kr 8) ke0) t h :=
  seq_ok (by kernel_rfl) (fun t h H1 => F180_3_ok Kn Kr t h H1) (F180_2_ok (fun y0 y1 y2 h => F180_3 y0 y1 y2 h Kn Kr) Kr t h H0)
def F180_0 (x0 x1 x2 x3 : Value) (h : H) (Kn : VP1) (Kr : VP1) : Prop :=
  F180_1 x0 x1 x2 x3 h Kn Kr
theorem F180_0_ok (Kn Kr) (t : T) (h : H) (H0 : F180_0 (t 0) (t 1) (t 2) (t 3) h Kn Kr) : Wp Tryz.prog 84 (bodyOf Tryz.f180.body) (mkQ (q1 Kn 8) (q1 Kr 8) ke0) t h :=
  awpTo_okF 1 H0 (by kernel_rfl) (fun t h (H1 : F180_1 (t 0) (t 1) (t 2) (t 3) h Kn Kr) => F180_1_ok Kn Kr t h H1) (by kernel_rfl)
def F180 (x0 x1 x2 x3 : Value) (h : H) (Q : VP1) : Prop := F180_0 x0 x1 x2 x3 h (fun v h => Q v h) (fun v h => Q v h)
theorem F180_spec (x0 x1 x2 x3 : Value) (h : H) (Q : VP1) (H0 : F180 x0 x1 x2 x3 h Q) : AM.Spec Tryz.prog 180 [x0, x1, x2, x3] h Q :=
  spec_wp mixed (fn := Tryz.f180) Tryz.func180 (c := bodyOf Tryz.f180.body) (rs := [8]) (N := 84) (by kernel_rfl) (by kernel_rfl) (by kernel_rfl) (by kernel_rfl) (by kernel_rfl) (Nat.le_of_ble_eq_true rfl) (F180_0_ok (fun v h => Q v h) (fun v h => Q v h) (tinit [x0, x1, x2, x3]) h H0) (by kernel_rfl)
def F164_6 (x0 x1 x2 x3 x8 x9 x10 : Value) (h : H) (Kn : VP7) (Kr : H → Prop) (Ke1 : VP6) (Ke0 : H → Prop) : Prop :=
  o_un Tryz.prog .not x8 fun v35 => o_if v35 (o_call Tryz.prog 175 [x0, x1, x2] h fun v39 h => o_bin Tryz.prog .sub 3 x3 (.int .i64 1) fun v41 => Kn x0 x1 x2 v41 x8 x9 x10 h) (Kn x0 x1 x2 x3 x8 x9 x10 h)
theorem F164_6_ok (Kn Kr Ke1 Ke0) (t : T) (h : H) (H0 : F164_6 (t 0) (t 1) (t 2) (t 3) (t 8) (t 9) (t 10) h Kn Kr Ke1 Ke0) : Wp Tryz.prog 134 (seqL (rest 3 (blkC (lopC (blkC (rest 2 (bodyOf Tryz.f164.body))))))) (mkQ (q7 Kn 0 1 2 3 8 9 10) (q0 Kr) (keAdd 1 (q6 Ke1 0 1 2 3 8 9) (keAdd 0 (q0 Ke0) ke0))) t h :=
  wpEqF H0 (by kernel_rfl)
def F164_9 (x0 x1 x2 x3 x8 x9 x10 x11 x12 : Value) (h : H) (Kn : VP9) (Kr : H → Prop) (Ke1 : VP6) (Ke0 : H → Prop) : Prop :=
  o_bin Tryz.prog .eql 308 x12 (.int .i64 2) fun v50 => o_if v50 (o_call Tryz.prog 177 [x0, x1, x2] h fun v54 h => o_bin Tryz.prog .sub 3 x2 (.int .i64 1) fun v56 => o_bin Tryz.prog .sub 3 x11 x1 fun v59 => o_bin Tryz.prog .sub 3 v56 v59 fun v60 => Kn x0 x1 x2 x3 x8 x9 x10 v60 (.int .i64 1) h) (Kn x0 x1 x2 x3 x8 x9 x10 x11 x12 h)
theorem F164_9_ok (Kn Kr Ke1 Ke0) (t : T) (h : H) (H0 : F164_9 (t 0) (t 1) (t 2) (t 3) (t 8) (t 9) (t 10) (t 11) (t 12) h Kn Kr Ke1 Ke0) : Wp Tryz.prog 134 (seqL (rest 1 (seqR (rest 3 (blkC (lopC (blkC (rest 2 (bodyOf Tryz.f164.body))))))))) (mkQ (q9 Kn 0 1 2 3 8 9 10 11 12) (q0 Kr) (keAdd 1 (q6 Ke1 0 1 2 3 8 9) (keAdd 0 (q0 Ke0) ke0))) t h :=
  wpEqF H0 (by kernel_rfl)
def F164_11 (x0 x1 x2 x3 x8 x9 x10 x11 x12 : Value) (h : H) (Kn : VP8) (Kr : H → Prop) (Ke1 : VP6) (Ke0 : H → Prop) : Prop :=
  o_guard x8 true (fun k2 => k2 x9 h) (fun v63 h => o_pick x8 v63 (.bool false) fun v64 => o_guard v64 true (fun k6 => o_bin Tryz.prog .eql 308 x12 (.int .i64 1) fun v67 => k6 v67 h) (fun v67 h => o_pick v64 v67 (.bool false) fun v68 => o_if v68 (o_call Tryz.prog 178 [x0, x1, x2] h fun v72 h => o_if v72 (Kr h) (Kn x0 x1 x2 x3 x8 x9 x10 x11 h)) (Kn x0 x1 x2 x3 x8 x9 x10 x11 h)) h) h
theorem F164_11_ok (Kn Kr Ke1 Ke0) (t : T) (h : H) (H0 : F164_11 (t 0) (t 1) (t 2) (t 3) (t 8) (t 9) (t 10) (t 11) (t 12) h Kn Kr Ke1 Ke0) : Wp Tryz.prog 134 (seqL (seqR (rest 1 (seqR (rest 3 (blkC (lopC (blkC (rest 2 (bodyOf Tryz.f164.body)))))))))) (mkQ (q8 Kn 0 1 2 3 8 9 10 11) (q0 Kr) (keAdd 1 (q6 Ke1 0 1 2 3 8 9) (keAdd 0 (q0 Ke0) ke0))) t h :=
  wpEqF H0 (by kernel_rfl)
def F164_14 (x0 x1 x2 x3 x8 x9 x10 x11 : Value) (h : H) (Kn : VP9) (Kr : H → Prop) (Ke1 : VP6) (Ke0 : H → Prop) : Prop :=
  o_bin Tryz.prog .gtr 3 x1 (.int .i64 0) fun v74 => o_guard v74 true (fun k3 => k3 x0 h) (fun v76 h => o_guard v74 true (fun k4 => k4 x1 h) (fun v77 h => o_guard v74 true (fun k5 => o_bin Tryz.prog .sub 3 v77 (.int .i64 1) fun v78 => k5 v78 h) (fun v78 h => o_guard v74 true (fun k6 => o_indexAddr none 1 v76 v78 fun v79 => k6 v79 h) (fun v79 h => o_guard v74 true (fun k7 => o_load false 1 v79 h fun v80 => k7 v80 h) (fun v80 h => o_guard v74 true (fun k8 => k8 x0 h) (fun v81 h => o_guard v74 true (fun k9 => k9 x11 h) (fun v82 h => o_guard v74 true (fun k10 => o_indexAddr none 1 v81 v82 fun v83 => k10 v83 h) (fun v83 h => o_guard v74 true (fun k11 => o_load false 1 v83 h fun v84 => k11 v84 h) (fun v84 h => o_guard v74 true (fun k12 => o_dcall DS 179 [v80, v84] h fun v85 h => k12 v85 h) (fun v85 h => o_guard v74 true (fun k13 => o_un Tryz.prog .not v85 fun v86 => k13 v86 h) (fun v86 h => o_pick v74 v86 (.bool false) fun v87 => Kn x0 x1 x2 x3 x8 x9 x10 x11 v87 h) h) h) h) h) h) h) h) h) h) h) h
theorem F164_14_ok (Kn Kr Ke1 Ke0) (t : T) (h : H) (H0 : F164_14 (t 0) (t 1) (t 2) (t 3) (t 8) (t 9) (t 10) (t 11) h Kn Kr Ke1 Ke0) : Wp Tryz.prog 134 (seqL (seqL (seqR (seqR (rest 1 (seqR (rest 3 (blkC (lopC (blkC (rest 2 (bodyOf Tryz.f164.body)))))))))))) (mkQ (q9 Kn 0 1 2 3 8 9 10 11 87) (q0 Kr) (keAdd 1 (q6 Ke1 0 1 2 3 8 9) (keAdd 0 (q0 Ke0) ke0))) t h :=
  drawD_ok dsOk (by kernel_rfl) (by kernel_rfl) H0 (by kernel_rfl)
def F164_15 (x0 x1 x2 x3 x8 x9 x10 x11 x87 : Value) (h : H) (Kn : VP6) (Kr : H → Prop) (Ke1 : VP6) (Ke0 : H → Prop) : Prop :=
  o_if x87 (o_call Tryz.prog 180 [x0, x1, x2, x11] h fun v92 h => Ke1 x0 v92 x2 x3 x8 x9 h) (Kn x0 x1 x2 x3 x10 x11 h)
theorem F164_15_ok (Kn Kr Ke1 Ke0) (t : T) (h : H) (H0 : F164_15 (t 0) (t 1) (t 2) (t 3) (t 8) (t 9) (t 10) (t 11) (t 87) h Kn Kr Ke1 Ke0) : Wp Tryz.prog 134 (seqR (seqL (seqR (seqR (rest 1 (seqR (rest 3 (blkC (lopC (blkC (rest 2 (bodyOf Tryz.f164.body)))))))))))) (mkQ (q6 Kn 0 1 2 3 10 11) (q0 Kr) (keAdd 1 (q6 Ke1 0 1 2 3 8 9) (keAdd 0 (q0 Ke0) ke0))) t h :=
  wpEqF H0 (by kernel_rfl)
def F164_13 (x0 x1 x2 x3 x8 x9 x10 x11 : Value) (h : H) (Kn : VP6) (Kr : H → Prop) (Ke1 : VP6) (Ke0 : H → Prop) : Prop :=
  F164_14 x0 x1 x2 x3 x8 x9 x10 x11 h (fun y0 y1 y2 y3 y8 y9 y10 y11 y87 h => F164_15 y0 y1 y2 y3 y8 y9 y10 y11 y87 h Kn Kr Ke1 Ke0) Kr Ke1 Ke0
theorem F164_13_ok (Kn Kr Ke1 Ke0) (t : T) (h : H) (H0 : F164_13 (t 0) (t 1) (t 2) (t 3) (t 8) (t 9) (t 10) (t 11) h Kn Kr Ke1 Ke0) : Wp Tryz.prog 134 (seqL (seqR (seqR (rest 1 (seqR (rest 3 (blkC (lopC (blkC (rest 2 (bodyOf Tryz.f164.body))))))))))) (mkQ (q6 Kn 0 1 2 3 10 11) (q0 Kr) (keAdd 1 (q6 Ke1 0 1 2 3 8 9) (keAdd 0 (q0 Ke0) ke0))) t h :=
  seq_ok (by kernel_rfl) (fun t h H1 => F164_15_ok Kn Kr Ke1 Ke0 t h H1) (F164_14_ok (fun y0 y1 y2 y3 y8 y9 y10 y11 y87 h => F164_15 y0 y1 y2 y3 y8 y9 y10 y11 y87 h Kn Kr Ke1 Ke0) Kr Ke1 Ke0 t h H0)
def F164_16 (x0 x1 x2 x3 x10 x11 : Value) (h : H) (Kn : VP6) (Kr : H → Prop) (Ke1 : VP6) (Ke0 : H → Prop) : Prop :=
  o_call Tryz.prog 181 [x0, x1, x2, x11] h fun v99 h => o_extract v99 0 fun v100 => o_extract v99 1 fun v101 => o_bin Tryz.prog .sub 3 v100 x1 fun v105 => o_bin Tryz.prog .sub 3 x2 v100 fun v108 => o_bin Tryz.prog .quo 3 x10 (.int .i64 8) fun v110 => o_bin Tryz.prog .lss 3 v105 v108 fun v113 => o_if v113 (o_bin Tryz.prog .geq 3 v105 v110 fun v116 => o_call Tryz.prog 164 [x0, x1, v100, x3] h fun v121 h => o_bin Tryz.prog .add 3 v100 (.int .i64 1) fun v123 => Kn x0 v123 x2 x3 v116 v101 h) (o_bin Tryz.prog .geq 3 v108 v110 fun v126 => o_bin Tryz.prog .add 3 v100 (.int .i64 1) fun v129 => o_call Tryz.prog 164 [x0, v129, x2, x3] h fun v132 h => Kn x0 x1 v100 x3 v126 v101 h)
theorem F164_16_ok (Kn Kr Ke1 Ke0) (t : T) (h : H) (H0 : F164_16 (t 0) (t 1) (t 2) (t 3) (t 10) (t 11) h Kn Kr Ke1 Ke0) : Wp Tryz.prog 134 (seqR (seqR (seqR (rest 1 (seqR (rest 3 (blkC (lopC (blkC (rest 2 (bodyOf Tryz.f164.body))))))))))) (mkQ (q6 Kn 0 1 2 3 8 9) (q0 Kr) (keAdd 1 (q6 Ke1 0 1 2 3 8 9) (keAdd 0 (q0 Ke0) ke0))) t h :=
  wpEqF H0 (by kernel_rfl)
def F164_12 (x0 x1 x2 x3 x8 x9 x10 x11 : Value) (h : H) (Kn : VP6) (Kr : H → Prop) (Ke1 : VP6) (Ke0 : H → Prop) : Prop :=
  F164_13 x0 x1 x2 x3 x8 x9 x10 x11 h (fun y0 y1 y2 y3 y10 y11 h => F164_16 y0 y1 y2 y3 y10 y11 h Kn Kr Ke1 Ke0) Kr Ke1 Ke0
theorem F164_12_ok (Kn Kr Ke1 Ke0) (t : T) (h : H) (H0 : F164_12 (t 0) (t 1) (t 2) (t 3) (t 8) (t 9) (t 10) (t 11) h Kn Kr Ke1 Ke0) : Wp Tryz.prog 134 (seqR (seqR (rest 1 (seqR (rest 3 (blkC (lopC (blkC (rest 2 (bodyOf Tryz.f164.body)))))))))) (mkQ (q6 Kn 0 1 2 3 8 9) (q0 Kr) (keAdd 1 (q6 Ke1 0 1 2 3 8 9) (keAdd 0 (q0 Ke0) ke0))) t h :=
  seq_ok (by kernel_rfl) (fun t h H1 => F164_16_ok Kn Kr Ke1 Ke0 t h H1) (F164_13_ok (fun y0 y1 y2 y3 y10 y11 h => F164_16 y0 y1 y2 y3 y10 y11 h Kn Kr Ke1 Ke0) Kr Ke1 Ke0 t h H0)
def F164_10 (x0 x1 x2 x3 x8 x9 x10 x11 x12 : Value) (h : H) (Kn : VP6) (Kr : H → Prop) (Ke1 : VP6) (Ke0 : H → Prop) : Prop :=
  F164_11 x0 x1 x2 x3 x8 x9 x10 x11 x12 h (fun y0 y1 y2 y3 y8 y9 y10 y11 h => F164_12 y0 y1 y2 y3 y8 y9 y10 y11 h Kn Kr Ke1 Ke0) Kr Ke1 Ke0
theorem F164_10_ok (Kn Kr Ke1 Ke0) (t : T) (h : H) (H0 : F164_10 (t 0) (t 1) (t 2) (t 3) (t 8) (t 9) (t 10) (t 11) (t 12) h Kn Kr Ke1 Ke0) : Wp Tryz.prog 134 (seqR (rest 1 (seqR (rest 3 (blkC (lopC (blkC (rest 2 (bodyOf Tryz.f164.body))))))))) (mkQ (q6 Kn 0 1 2 3 8 9) (q0 Kr) (keAdd 1 (q6 Ke1 0 1 2 3 8 9) (keAdd 0 (q0 Ke0) ke0))) t h :=
  seq_ok (by kernel_rfl) (fun t h H1 => F164_12_ok Kn Kr Ke1 Ke0 t h H1) (F164_11_ok (fun y0 y1 y2 y3 y8 y9 y10 y11 h => F164_12 y0 y1 y2 y3 y8 y9 y10 y11 h Kn Kr Ke1 Ke0) Kr Ke1 Ke0 t h H0)
def F164_8 (x0 x1 x2 x3 x8 x9 x10 x11 x12 : Value) (h : H) (Kn : VP6) (Kr : H → Prop) (Ke1 : VP6) (Ke0 : H → Prop) : Prop :=
  F164_9 x0 x1 x2 x3 x8 x9 x10 x11 x12 h (fun y0 y1 y2 y3 y8 y9 y10 y11 y12 h => F164_10 y0 y1 y2 y3 y8 y9 y10 y11 y12 h Kn Kr Ke1 Ke0) Kr Ke1 Ke0
theorem F164_8_ok (Kn Kr Ke1 Ke0) (t : T) (h : H) (H0 : F164_8 (t 0) (t 1) (t 2) (t 3) (t 8) (t 9) (t 10) (t 11) (t 12) h Kn Kr Ke1 Ke0) : Wp Tryz.prog 134 (rest 1 (seqR (rest 3 (blkC (lopC (blkC (rest 2 (bodyOf Tryz.f164.body)))))))) (mkQ (q6 Kn 0 1 2 3 8 9) (q0 Kr) (keAdd 1 (q6 Ke1 0 1 2 3 8 9) (keAdd 0 (q0 Ke0) ke0))) t h :=
  seq_ok (by kernel_rfl) (fun t h H1 => F164_10_ok Kn Kr Ke1 Ke0 t h H1) (F164_9_ok (fun y0 y1 y2 y3 y8 y9 y10 y11 y12 h => F164_10 y0 y1 y2 y3 y8 y9 y10 y11 y12 h Kn Kr Ke1 Ke0) Kr Ke1 Ke0 t h H0)
def F164_7 (x0 x1 x2 x3 x8 x9 x10 : Value) (h : H) (Kn : VP6) (Kr : H → Prop) (Ke1 : VP6) (Ke0 : H → Prop) : Prop :=
  o_call Tryz.prog 176 [x0, x1, x2] h fun v46 h => o_extract v46 0 fun v47 => o_extract v46 1 fun v48 => F164_8 x0 x1 x2 x3 x8 x9 x10 v47 v48 h Kn Kr Ke1 Ke0
theorem F164_7_ok (Kn Kr Ke1 Ke0) (t : T) (h : H) (H0 : F164_7 (t 0) (t 1) (t 2) (t 3) (t 8) (t 9) (t 10) h Kn Kr Ke1 Ke0) : Wp Tryz.prog 134 (seqR (rest 3 (blkC (lopC (blkC (rest 2 (bodyOf Tryz.f164.body))))))) (mkQ (q6 Kn 0 1 2 3 8 9) (q0 Kr) (keAdd 1 (q6 Ke1 0 1 2 3 8 9) (keAdd 0 (q0 Ke0) ke0))) t h :=
  awpTo_okF 1 H0 (by kernel_rfl) (fun t h (H1 : F164_8 (t 0) (t 1) (t 2) (t 3) (t 8) (t 9) (t 10) (t 11) (t 12) h Kn Kr Ke1 Ke0) => F164_8_ok Kn Kr Ke1 Ke0 t h H1) (by kernel_rfl)
def F164_5 (x0 x1 x2 x3 x8 x9 x10 : Value) (h : H) (Kn : VP6) (Kr : H → Prop) (Ke1 : VP6) (Ke0 : H → Prop) : Prop :=
  F164_6 x0 x1 x2 x3 x8 x9 x10 h (fun y0 y1 y2 y3 y8 y9 y10 h => F164_7 y0 y1 y2 y3 y8 y9 y10 h Kn Kr Ke1 Ke0) Kr Ke1 Ke0
theorem F164_5_ok (Kn Kr Ke1 Ke0) (t : T) (h : H) (H0 : F164_5 (t 0) (t 1) (t 2) (t 3) (t 8) (t 9) (t 10) h Kn Kr Ke1 Ke0) : Wp Tryz.prog 134 (rest 3 (blkC (lopC (blkC (rest 2 (bodyOf Tryz.f164.body)))))) (mkQ (q6 Kn 0 1 2 3 8 9) (q0 Kr) (keAdd 1 (q6 Ke1 0 1 2 3 8 9) (keAdd 0 (q0 Ke0) ke0))) t h :=
  seq_ok (by kernel_rfl) (fun t h H1 => F164_7_ok Kn Kr Ke1 Ke0 t h H1) (F164_6_ok (fun y0 y1 y2 y3 y8 y9 y10 h => F164_7 y0 y1 y2 y3 y8 y9 y10 h Kn Kr Ke1 Ke0) Kr Ke1 Ke0 t h H0)
def F164_4 (x0 x1 x2 x3 x8 x9 : Value) (h : H) (Kn : VP6) (Kr : H → Prop) (Ke1 : VP6) (Ke0 : H → Prop) : Prop :=
  o_bin Tryz.prog .sub 3 x2 x1 fun v21 => o_bin Tryz.prog .leq 3 v21 (.int .i64 12) fun v23 => o_if v23 (o_call Tryz.prog 173 [x0, x1, x2] h fun v27 h => Kr h) (o_bin Tryz.prog .eql 3 x3 (.int .i64 0) fun v29 => o_if v29 (o_call Tryz.prog 174 [x0, x1, x2] h fun v33 h => Kr h) (F164_5 x0 x1 x2 x3 x8 x9 v21 h Kn Kr Ke1 Ke0))
theorem F164_4_ok (Kn Kr Ke1 Ke0) (t : T) (h : H) (H0 : F164_4 (t 0) (t 1) (t 2) (t 3) (t 8) (t 9) h Kn Kr Ke1 Ke0) : Wp Tryz.prog 134 (blkC (lopC (blkC (rest 2 (bodyOf Tryz.f164.body))))) (mkQ (q6 Kn 0 1 2 3 8 9) (q0 Kr) (keAdd 1 (q6 Ke1 0 1 2 3 8 9) (keAdd 0 (q0 Ke0) ke0))) t h :=
  awpTo_okF 3 H0 (by kernel_rfl) (fun t h (H1 : F164_5 (t 0) (t 1) (t 2) (t 3) (t 8) (t 9) (t 10) h Kn Kr Ke1 Ke0) => F164_5_ok Kn Kr Ke1 Ke0 t h H1) (by kernel_rfl)
def F164_3 (x0 x1 x2 x3 x8 x9 : Value) (h : H) (Kn : VP6) (Kr : H → Prop) (Ke0 : H → Prop) : Prop :=
  F164_4 x0 x1 x2 x3 x8 x9 h Kn Kr Kn Ke0
theorem F164_3_ok (Kn Kr Ke0) (t : T) (h : H) (H0 : F164_3 (t 0) (t 1) (t 2) (t 3) (t 8) (t 9) h Kn Kr Ke0) : Wp Tryz.prog 134 (lopC (blkC (rest 2 (bodyOf Tryz.f164.body)))) (mkQ (q6 Kn 0 1 2 3 8 9) (q0 Kr) (keAdd 0 (q0 Ke0) ke0)) t h :=
  block_ok 1 (by kernel_rfl) (by kernel_rfl) (F164_4_ok Kn Kr Kn Ke0 t h H0)
def F164_2 (x0 x1 x2 x3 x8 x9 : Value) (h : H) (Kn : H → Prop) (Kr : H → Prop) (Ke0 : H → Prop) : Prop :=
  sloop (S := Value × Value × Value × Value × Value × Value) (fun s h K => F164_3 s.1 s.2.1 s.2.2.1 s.2.2.2.1 s.2.2.2.2.1 s.2.2.2.2.2 h (fun y0 y1 y2 y3 y8 y9 h => K (y0, y1, y2, y3, y8, y9) h) Kr Ke0) (x0, x1, x2, x3, x8, x9) h
theorem F164_2_ok (Kn Kr Ke0) (t : T) (h : H) (H0 : F164_2 (t 0) (t 1) (t 2) (t 3) (t 8) (t 9) h Kn Kr Ke0) : Wp Tryz.prog 134 (blkC (rest 2 (bodyOf Tryz.f164.body))) (mkQ (q0 Kn) (q0 Kr) (keAdd 0 (q0 Ke0) ke0)) t h :=
  loop_ok (fun t => (t 0, t 1, t 2, t 3, t 8, t 9)) (by kernel_rfl) (fun t h K H1 => F164_3_ok (fun y0 y1 y2 y3 y8 y9 h => K (y0, y1, y2, y3, y8, y9) h) Kr Ke0 t h H1) H0
def F164_1 (x0 x1 x2 x3 x8 x9 : Value) (h : H) (Kn : H → Prop) (Kr : H → Prop) : Prop :=
  F164_2 x0 x1 x2 x3 x8 x9 h Kn Kr Kn
theorem F164_1_ok (Kn Kr) (t : T) (h : H) (H0 : F164_1 (t 0) (t 1) (t 2) (t 3) (t 8) (t 9) h Kn Kr) : Wp Tryz.prog 134 (rest 2 (bodyOf Tryz.f164.body)) (mkQ (q0 Kn) (q0 Kr) ke0) t h :=
  block_ok 0 (by kernel_rfl) (by kernel_rfl) (F164_2_ok Kn Kr Kn t h H0)
def F164_0 (x0 x1 x2 x3 : Value) (h : H) (Kn : H → Prop) (Kr : H → Prop) : Prop :=
  F164_1 x0 x1 x2 x3 (.bool true) (.bool true) h Kn Kr
theorem F164_0_ok (Kn Kr) (t : T) (h : H) (H0 : F164_0 (t 0) (t 1) (t 2) (t 3) h Kn Kr) : Wp Tryz.prog 134 (bodyOf Tryz.f164.body) (mkQ (q0 Kn) (q0 Kr) ke0) t h :=
  awpTo_okF 2 H0 (by kernel_rfl) (fun t h (H1 : F164_1 (t 0) (t 1) (t 2) (t 3) (t 8) (t 9) h Kn Kr) => F164_1_ok Kn Kr t h H1) (by kernel_rfl)
def F164 (x0 x1 x2 x3 : Value) (h : H) (Q : VP1) : Prop := F164_0 x0 x1 x2 x3 h (fun h => bif [].all boxV then Q (.tuple #[]) h else False) (fun h => bif [].all boxV then Q (.tuple #[]) h else False)
theorem F164_spec (x0 x1 x2 x3 : Value) (h : H) (Q : VP1) (H0 : F164 x0 x1 x2 x3 h Q) : AM.Spec Tryz.prog 164 [x0, x1, x2, x3] h Q :=
  spec_wp mixed (fn := Tryz.f164) Tryz.func164 (c := bodyOf Tryz.f164.body) (rs := []) (N := 134) (by kernel_rfl) (by kernel_rfl) (by kernel_rfl) (by kernel_rfl) (by kernel_rfl) (Nat.le_of_ble_eq_true rfl) (F164_0_ok (fun h => bif [].all boxV then Q (.tuple #[]) h else False) (fun h => bif [].all boxV then Q (.tuple #[]) h else False) (tinit [x0, x1, x2, x3]) h H0) (by kernel_rfl)
def F141_0 (x0 : Value) (h : H) (Kn : H → Prop) (Kr : H → Prop) : Prop :=
  o_lenSl x0 fun v4 => o_conv .u64 v4 fun v8 => o_call Tryz.prog 165 [v8] h fun v9 h => o_call Tryz.prog 164 [x0, (.int .i64 0), v4, v9] h fun v10 h => Kn h
theorem F141_0_ok (Kn Kr) (t : T) (h : H) (H0 : F141_0 (t 0) h Kn Kr) : Wp Tryz.prog 11 (bodyOf Tryz.f141.body) (mkQ (q0 Kn) (q0 Kr) ke0) t h :=
  wpEqF H0 (by kernel_rfl)
def F141 (x0 : Value) (h : H) (Q : VP1) : Prop := F141_0 x0 h (fun h => bif [].all boxV then Q (.tuple #[]) h else False) (fun h => bif [].all boxV then Q (.tuple #[]) h else False)
theorem F141_spec (x0 : Value) (h : H) (Q : VP1) (H0 : F141 x0 h Q) : AM.Spec Tryz.prog 141 [x0] h Q :=
  spec_wp mixed (fn := Tryz.f141) Tryz.func141 (c := bodyOf Tryz.f141.body) (rs := []) (N := 11) (by kernel_rfl) (by kernel_rfl) (by kernel_rfl) (by kernel_rfl) (by kernel_rfl) (Nat.le_of_ble_eq_true rfl) (F141_0_ok (fun h => bif [].all boxV then Q (.tuple #[]) h else False) (fun h => bif [].all boxV then Q (.tuple #[]) h else False) (tinit [x0]) h H0) (by kernel_rfl)
end Go.Proofs.YtcohcmlidmaaoaaGreat
