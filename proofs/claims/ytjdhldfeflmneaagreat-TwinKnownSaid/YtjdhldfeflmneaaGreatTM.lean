/-
  The inner loop of twin.memory, taken apart (printed by a program, gen.py), and where both pages are the same.
-/
import Derived.Test.YtjdhldfeflmneaaGreatX12
import Derived.Test.YtjdhldfeflmneaaGreatE4
import Derived.KernelRfl
set_option linter.unusedVariables false
set_option linter.unusedSimpArgs false
set_option maxRecDepth 100000
namespace Go.Proofs.YtjdhldfeflmneaaGreat
open Go.Proofs.YtjdhldfeflmneaaGreat.AM
def F85_19 (x2 x3 x5 x7 x10 x11 x12 x13 x19 x20 x21 x46 x47 x89 : Value) (h : H) (Kn : Value → Value → Value → Value → Value → Value → Value → Value → Value → Value → Value → Value → Value → H → Prop) (Kr : Value → Value → H → Prop) (Ke3 : Value → Value → Value → Value → Value → Value → Value → Value → Value → Value → Value → Value → H → Prop) (Ke2 : Value → Value → Value → Value → Value → Value → Value → H → Prop) (Ke1 : Value → Value → Value → Value → Value → Value → Value → H → Prop) (Ke0 : Value → Value → H → Prop) : Prop :=
  o_indexAddr none 1 x10 x12 fun v56 => o_load false 1 v56 h fun v57 => o_indexAddr none 1 x11 x12 fun v60 => o_load false 1 v60 h fun v61 => o_bin Tryz.prog .neq 5 v57 v61 fun v62 => o_guard v62 true (fun k10 => o_fieldAddr 0 x2 fun v64 => k10 v64 h) (fun v64 h => o_guard v62 true (fun k11 => o_load false 1 v64 h fun v65 => k11 v65 h) (fun v65 h => o_guard v62 true (fun k12 => o_nilCheck v65 fun v66 => k12 v66 h) (fun v66 h => o_guard v62 true (fun k13 => o_fieldAddr 1 v66 fun v67 => k13 v67 h) (fun v67 h => o_guard v62 true (fun k14 => o_load false 1 v67 h fun v68 => k14 v68 h) (fun v68 h => o_guard v62 true (fun k15 => k15 x13 h) (fun v69 h => o_guard v62 true (fun k16 => o_dcall D0 149 [v68, v69] h fun v70 h => k16 v70 h) (fun v70 h => o_guard v62 true (fun k17 => o_fieldAddr 0 x3 fun v71 => k17 v71 h) (fun v71 h => o_guard v62 true (fun k18 => o_load false 1 v71 h fun v72 => k18 v72 h) (fun v72 h => o_guard v62 true (fun k19 => o_nilCheck v72 fun v73 => k19 v73 h) (fun v73 h => o_guard v62 true (fun k20 => o_fieldAddr 1 v73 fun v74 => k20 v74 h) (fun v74 h => o_guard v62 true (fun k21 => o_load false 1 v74 h fun v75 => k21 v75 h) (fun v75 h => o_guard v62 true (fun k22 => k22 x13 h) (fun v76 h => o_guard v62 true (fun k23 => o_dcall D0 149 [v75, v76] h fun v77 h => k23 v77 h) (fun v77 h => o_guard v62 true (fun k24 => o_bin Tryz.prog .or 5 v70 v77 fun v78 => k24 v78 h) (fun v78 h => o_guard v62 true (fun k25 => o_fieldAddr 1 x2 fun v79 => k25 v79 h) (fun v79 h => o_guard v62 true (fun k26 => o_load false 1 v79 h fun v80 => k26 v80 h) (fun v80 h => o_guard v62 true (fun k27 => o_bin Tryz.prog .and 5 v78 v80 fun v81 => k27 v81 h) (fun v81 h => o_guard v62 true (fun k28 => o_bin Tryz.prog .eql 5 v81 (.int .u8 0) fun v82 => k28 v82 h) (fun v82 h => o_pick v62 v82 (.bool false) fun v83 => Kn x2 x3 x5 x7 x10 x11 x19 x20 x21 x46 x47 v83 x89 h) h) h) h) h) h) h) h) h) h) h) h) h) h) h) h) h) h) h) h
theorem F85_19_ok (Kn Kr Ke3 Ke2 Ke1 Ke0) (t : T) (h : H) (H0 : F85_19 (t 2) (t 3) (t 5) (t 7) (t 10) (t 11) (t 12) (t 13) (t 19) (t 20) (t 21) (t 46) (t 47) (t 89) h Kn Kr Ke3 Ke2 Ke1 Ke0) : Wp Tryz.prog 89 (seqL (rest 2 (blkC (seqL (rest 2 (lopC (blkC (rest 1 (seqR (rest 2 (blkC (seqL (rest 2 (lopC (blkC (rest 1 (seqL (rest 2 (bodyOf Tryz.f85.body))))))))))))))))))) (mkQ (fun t h => Kn (t 2) (t 3) (t 5) (t 7) (t 10) (t 11) (t 19) (t 20) (t 21) (t 46) (t 47) (t 83) (t 89) h) (fun t h => Kr (t 4) (t 89) h) (keAdd 3 (fun t h => Ke3 (t 2) (t 3) (t 5) (t 7) (t 10) (t 11) (t 19) (t 20) (t 21) (t 46) (t 47) (t 89) h) (keAdd 2 (fun t h => Ke2 (t 2) (t 3) (t 5) (t 19) (t 20) (t 21) (t 89) h) (keAdd 1 (fun t h => Ke1 (t 2) (t 3) (t 5) (t 19) (t 20) (t 21) (t 89) h) (keAdd 0 (fun t h => Ke0 (t 5) (t 89) h) ke0))))) t h :=
  drawD_ok dOk (by kernel_rfl) (by kernel_rfl) H0 (by kernel_rfl)
def F85_20 (x2 x3 x5 x7 x10 x11 x19 x20 x21 x46 x47 x83 x89 : Value) (h : H) (Kn : Value → Value → Value → Value → Value → Value → Value → Value → Value → Value → Value → Value → H → Prop) (Kr : Value → Value → H → Prop) (Ke3 : Value → Value → Value → Value → Value → Value → Value → Value → Value → Value → Value → Value → H → Prop) (Ke2 : Value → Value → Value → Value → Value → Value → Value → H → Prop) (Ke1 : Value → Value → Value → Value → Value → Value → Value → H → Prop) (Ke0 : Value → Value → H → Prop) : Prop :=
  o_if x83 (o_bin Tryz.prog .add 3 x5 (.int .i64 1) fun v85 => Kn x2 x3 v85 x7 x10 x11 x19 x20 x21 x46 x47 x89 h) (Kn x2 x3 x5 x7 x10 x11 x19 x20 x21 x46 x47 x89 h)
theorem F85_20_ok (Kn Kr Ke3 Ke2 Ke1 Ke0) (t : T) (h : H) (H0 : F85_20 (t 2) (t 3) (t 5) (t 7) (t 10) (t 11) (t 19) (t 20) (t 21) (t 46) (t 47) (t 83) (t 89) h Kn Kr Ke3 Ke2 Ke1 Ke0) : Wp Tryz.prog 89 (seqR (rest 2 (blkC (seqL (rest 2 (lopC (blkC (rest 1 (seqR (rest 2 (blkC (seqL (rest 2 (lopC (blkC (rest 1 (seqL (rest 2 (bodyOf Tryz.f85.body))))))))))))))))))) (mkQ (fun t h => Kn (t 2) (t 3) (t 5) (t 7) (t 10) (t 11) (t 19) (t 20) (t 21) (t 46) (t 47) (t 89) h) (fun t h => Kr (t 4) (t 89) h) (keAdd 3 (fun t h => Ke3 (t 2) (t 3) (t 5) (t 7) (t 10) (t 11) (t 19) (t 20) (t 21) (t 46) (t 47) (t 89) h) (keAdd 2 (fun t h => Ke2 (t 2) (t 3) (t 5) (t 19) (t 20) (t 21) (t 89) h) (keAdd 1 (fun t h => Ke1 (t 2) (t 3) (t 5) (t 19) (t 20) (t 21) (t 89) h) (keAdd 0 (fun t h => Ke0 (t 5) (t 89) h) ke0))))) t h :=
  wpEqF H0 (by kernel_rfl)
def F85_18 (x2 x3 x5 x7 x10 x11 x12 x13 x19 x20 x21 x46 x47 x89 : Value) (h : H) (Kn : Value → Value → Value → Value → Value → Value → Value → Value → Value → Value → Value → Value → H → Prop) (Kr : Value → Value → H → Prop) (Ke3 : Value → Value → Value → Value → Value → Value → Value → Value → Value → Value → Value → Value → H → Prop) (Ke2 : Value → Value → Value → Value → Value → Value → Value → H → Prop) (Ke1 : Value → Value → Value → Value → Value → Value → Value → H → Prop) (Ke0 : Value → Value → H → Prop) : Prop :=
  F85_19 x2 x3 x5 x7 x10 x11 x12 x13 x19 x20 x21 x46 x47 x89 h (fun y2 y3 y5 y7 y10 y11 y19 y20 y21 y46 y47 y83 y89 h => F85_20 y2 y3 y5 y7 y10 y11 y19 y20 y21 y46 y47 y83 y89 h Kn Kr Ke3 Ke2 Ke1 Ke0) Kr Ke3 Ke2 Ke1 Ke0
theorem F85_18_ok (Kn Kr Ke3 Ke2 Ke1 Ke0) (t : T) (h : H) (H0 : F85_18 (t 2) (t 3) (t 5) (t 7) (t 10) (t 11) (t 12) (t 13) (t 19) (t 20) (t 21) (t 46) (t 47) (t 89) h Kn Kr Ke3 Ke2 Ke1 Ke0) : Wp Tryz.prog 89 (rest 2 (blkC (seqL (rest 2 (lopC (blkC (rest 1 (seqR (rest 2 (blkC (seqL (rest 2 (lopC (blkC (rest 1 (seqL (rest 2 (bodyOf Tryz.f85.body)))))))))))))))))) (mkQ (fun t h => Kn (t 2) (t 3) (t 5) (t 7) (t 10) (t 11) (t 19) (t 20) (t 21) (t 46) (t 47) (t 89) h) (fun t h => Kr (t 4) (t 89) h) (keAdd 3 (fun t h => Ke3 (t 2) (t 3) (t 5) (t 7) (t 10) (t 11) (t 19) (t 20) (t 21) (t 46) (t 47) (t 89) h) (keAdd 2 (fun t h => Ke2 (t 2) (t 3) (t 5) (t 19) (t 20) (t 21) (t 89) h) (keAdd 1 (fun t h => Ke1 (t 2) (t 3) (t 5) (t 19) (t 20) (t 21) (t 89) h) (keAdd 0 (fun t h => Ke0 (t 5) (t 89) h) ke0))))) t h :=
  seq_ok (by kernel_rfl) (fun t h H1 => F85_20_ok Kn Kr Ke3 Ke2 Ke1 Ke0 t h H1) (F85_19_ok (fun y2 y3 y5 y7 y10 y11 y19 y20 y21 y46 y47 y83 y89 h => F85_20 y2 y3 y5 y7 y10 y11 y19 y20 y21 y46 y47 y83 y89 h Kn Kr Ke3 Ke2 Ke1 Ke0) Kr Ke3 Ke2 Ke1 Ke0 t h H0)
def F85_17 (x2 x3 x5 x7 x10 x11 x19 x20 x21 x46 x47 x89 : Value) (h : H) (Kn : Value → Value → Value → Value → Value → Value → Value → Value → Value → Value → Value → Value → H → Prop) (Kr : Value → Value → H → Prop) (Ke3 : Value → Value → Value → Value → Value → Value → Value → Value → Value → Value → Value → Value → H → Prop) (Ke2 : Value → Value → Value → Value → Value → Value → Value → H → Prop) (Ke1 : Value → Value → Value → Value → Value → Value → Value → H → Prop) (Ke0 : Value → Value → H → Prop) : Prop :=
  o_conv .u32 x47 fun v52 => o_bin Tryz.prog .add 27 x7 v52 fun v53 => F85_18 x2 x3 x5 x7 x10 x11 x47 v53 x19 x20 x21 x46 x47 x89 h Kn Kr Ke3 Ke2 Ke1 Ke0
theorem F85_17_ok (Kn Kr Ke3 Ke2 Ke1 Ke0) (t : T) (h : H) (H0 : F85_17 (t 2) (t 3) (t 5) (t 7) (t 10) (t 11) (t 19) (t 20) (t 21) (t 46) (t 47) (t 89) h Kn Kr Ke3 Ke2 Ke1 Ke0) : Wp Tryz.prog 89 (blkC (seqL (rest 2 (lopC (blkC (rest 1 (seqR (rest 2 (blkC (seqL (rest 2 (lopC (blkC (rest 1 (seqL (rest 2 (bodyOf Tryz.f85.body))))))))))))))))) (mkQ (fun t h => Kn (t 2) (t 3) (t 5) (t 7) (t 10) (t 11) (t 19) (t 20) (t 21) (t 46) (t 47) (t 89) h) (fun t h => Kr (t 4) (t 89) h) (keAdd 3 (fun t h => Ke3 (t 2) (t 3) (t 5) (t 7) (t 10) (t 11) (t 19) (t 20) (t 21) (t 46) (t 47) (t 89) h) (keAdd 2 (fun t h => Ke2 (t 2) (t 3) (t 5) (t 19) (t 20) (t 21) (t 89) h) (keAdd 1 (fun t h => Ke1 (t 2) (t 3) (t 5) (t 19) (t 20) (t 21) (t 89) h) (keAdd 0 (fun t h => Ke0 (t 5) (t 89) h) ke0))))) t h :=
  awpTo_okF 2 H0 (by kernel_rfl) (fun t h (H1 : F85_18 (t 2) (t 3) (t 5) (t 7) (t 10) (t 11) (t 12) (t 13) (t 19) (t 20) (t 21) (t 46) (t 47) (t 89) h Kn Kr Ke3 Ke2 Ke1 Ke0) => F85_18_ok Kn Kr Ke3 Ke2 Ke1 Ke0 t h H1) (by kernel_rfl)
def F85_16 (x2 x3 x5 x7 x10 x11 x19 x20 x21 x46 x47 x89 : Value) (h : H) (Kn : Value → Value → Value → Value → Value → Value → Value → Value → Value → Value → Value → Value → H → Prop) (Kr : Value → Value → H → Prop) (Ke2 : Value → Value → Value → Value → Value → Value → Value → H → Prop) (Ke1 : Value → Value → Value → Value → Value → Value → Value → H → Prop) (Ke0 : Value → Value → H → Prop) : Prop :=
  F85_17 x2 x3 x5 x7 x10 x11 x19 x20 x21 x46 x47 x89 h Kn Kr Kn Ke2 Ke1 Ke0
theorem F85_16_ok (Kn Kr Ke2 Ke1 Ke0) (t : T) (h : H) (H0 : F85_16 (t 2) (t 3) (t 5) (t 7) (t 10) (t 11) (t 19) (t 20) (t 21) (t 46) (t 47) (t 89) h Kn Kr Ke2 Ke1 Ke0) : Wp Tryz.prog 89 (seqL (rest 2 (lopC (blkC (rest 1 (seqR (rest 2 (blkC (seqL (rest 2 (lopC (blkC (rest 1 (seqL (rest 2 (bodyOf Tryz.f85.body)))))))))))))))) (mkQ (fun t h => Kn (t 2) (t 3) (t 5) (t 7) (t 10) (t 11) (t 19) (t 20) (t 21) (t 46) (t 47) (t 89) h) (fun t h => Kr (t 4) (t 89) h) (keAdd 2 (fun t h => Ke2 (t 2) (t 3) (t 5) (t 19) (t 20) (t 21) (t 89) h) (keAdd 1 (fun t h => Ke1 (t 2) (t 3) (t 5) (t 19) (t 20) (t 21) (t 89) h) (keAdd 0 (fun t h => Ke0 (t 5) (t 89) h) ke0)))) t h :=
  block_ok 3 (by kernel_rfl) (by kernel_rfl) (F85_17_ok Kn Kr Kn Ke2 Ke1 Ke0 t h H0)
def F85_21 (x2 x3 x5 x7 x10 x11 x19 x20 x21 x46 x47 x89 : Value) (h : H) (Kn : Value → Value → Value → Value → Value → Value → Value → Value → Value → Value → Value → Value → H → Prop) (Kr : Value → Value → H → Prop) (Ke2 : Value → Value → Value → Value → Value → Value → Value → H → Prop) (Ke1 : Value → Value → Value → Value → Value → Value → Value → H → Prop) (Ke0 : Value → Value → H → Prop) : Prop :=
  o_bin Tryz.prog .add 3 x47 (.int .i64 1) fun v86 => Kn x2 x3 x5 x7 x10 x11 x19 x20 x21 x46 v86 x89 h
theorem F85_21_ok (Kn Kr Ke2 Ke1 Ke0) (t : T) (h : H) (H0 : F85_21 (t 2) (t 3) (t 5) (t 7) (t 10) (t 11) (t 19) (t 20) (t 21) (t 46) (t 47) (t 89) h Kn Kr Ke2 Ke1 Ke0) : Wp Tryz.prog 89 (seqR (rest 2 (lopC (blkC (rest 1 (seqR (rest 2 (blkC (seqL (rest 2 (lopC (blkC (rest 1 (seqL (rest 2 (bodyOf Tryz.f85.body)))))))))))))))) (mkQ (fun t h => Kn (t 2) (t 3) (t 5) (t 7) (t 10) (t 11) (t 19) (t 20) (t 21) (t 46) (t 47) (t 89) h) (fun t h => Kr (t 4) (t 89) h) (keAdd 2 (fun t h => Ke2 (t 2) (t 3) (t 5) (t 19) (t 20) (t 21) (t 89) h) (keAdd 1 (fun t h => Ke1 (t 2) (t 3) (t 5) (t 19) (t 20) (t 21) (t 89) h) (keAdd 0 (fun t h => Ke0 (t 5) (t 89) h) ke0)))) t h :=
  wpEqF H0 (by kernel_rfl)
def F85_15 (x2 x3 x5 x7 x10 x11 x19 x20 x21 x46 x47 x89 : Value) (h : H) (Kn : Value → Value → Value → Value → Value → Value → Value → Value → Value → Value → Value → Value → H → Prop) (Kr : Value → Value → H → Prop) (Ke2 : Value → Value → Value → Value → Value → Value → Value → H → Prop) (Ke1 : Value → Value → Value → Value → Value → Value → Value → H → Prop) (Ke0 : Value → Value → H → Prop) : Prop :=
  F85_16 x2 x3 x5 x7 x10 x11 x19 x20 x21 x46 x47 x89 h (fun y2 y3 y5 y7 y10 y11 y19 y20 y21 y46 y47 y89 h => F85_21 y2 y3 y5 y7 y10 y11 y19 y20 y21 y46 y47 y89 h Kn Kr Ke2 Ke1 Ke0) Kr Ke2 Ke1 Ke0
theorem F85_15_ok (Kn Kr Ke2 Ke1 Ke0) (t : T) (h : H) (H0 : F85_15 (t 2) (t 3) (t 5) (t 7) (t 10) (t 11) (t 19) (t 20) (t 21) (t 46) (t 47) (t 89) h Kn Kr Ke2 Ke1 Ke0) : Wp Tryz.prog 89 (rest 2 (lopC (blkC (rest 1 (seqR (rest 2 (blkC (seqL (rest 2 (lopC (blkC (rest 1 (seqL (rest 2 (bodyOf Tryz.f85.body))))))))))))))) (mkQ (fun t h => Kn (t 2) (t 3) (t 5) (t 7) (t 10) (t 11) (t 19) (t 20) (t 21) (t 46) (t 47) (t 89) h) (fun t h => Kr (t 4) (t 89) h) (keAdd 2 (fun t h => Ke2 (t 2) (t 3) (t 5) (t 19) (t 20) (t 21) (t 89) h) (keAdd 1 (fun t h => Ke1 (t 2) (t 3) (t 5) (t 19) (t 20) (t 21) (t 89) h) (keAdd 0 (fun t h => Ke0 (t 5) (t 89) h) ke0)))) t h :=
  seq_ok (by kernel_rfl) (fun t h H1 => F85_21_ok Kn Kr Ke2 Ke1 Ke0 t h H1) (F85_16_ok (fun y2 y3 y5 y7 y10 y11 y19 y20 y21 y46 y47 y89 h => F85_21 y2 y3 y5 y7 y10 y11 y19 y20 y21 y46 y47 y89 h Kn Kr Ke2 Ke1 Ke0) Kr Ke2 Ke1 Ke0 t h H0)
def F85_14 (x2 x3 x5 x7 x10 x11 x19 x20 x21 x46 x47 x89 : Value) (h : H) (Kn : Value → Value → Value → Value → Value → Value → Value → Value → Value → Value → Value → Value → H → Prop) (Kr : Value → Value → H → Prop) (Ke2 : Value → Value → Value → Value → Value → Value → Value → H → Prop) (Ke1 : Value → Value → Value → Value → Value → Value → Value → H → Prop) (Ke0 : Value → Value → H → Prop) : Prop :=
  o_bin Tryz.prog .lss 3 x47 x46 fun v48 => o_if v48 (F85_15 x2 x3 x5 x7 x10 x11 x19 x20 x21 x46 x47 x89 h Kn Kr Ke2 Ke1 Ke0) (Ke2 x2 x3 x5 x19 x20 x21 x89 h)
theorem F85_14_ok (Kn Kr Ke2 Ke1 Ke0) (t : T) (h : H) (H0 : F85_14 (t 2) (t 3) (t 5) (t 7) (t 10) (t 11) (t 19) (t 20) (t 21) (t 46) (t 47) (t 89) h Kn Kr Ke2 Ke1 Ke0) : Wp Tryz.prog 89 (lopC (blkC (rest 1 (seqR (rest 2 (blkC (seqL (rest 2 (lopC (blkC (rest 1 (seqL (rest 2 (bodyOf Tryz.f85.body)))))))))))))) (mkQ (fun t h => Kn (t 2) (t 3) (t 5) (t 7) (t 10) (t 11) (t 19) (t 20) (t 21) (t 46) (t 47) (t 89) h) (fun t h => Kr (t 4) (t 89) h) (keAdd 2 (fun t h => Ke2 (t 2) (t 3) (t 5) (t 19) (t 20) (t 21) (t 89) h) (keAdd 1 (fun t h => Ke1 (t 2) (t 3) (t 5) (t 19) (t 20) (t 21) (t 89) h) (keAdd 0 (fun t h => Ke0 (t 5) (t 89) h) ke0)))) t h :=
  awpTo_okF 2 H0 (by kernel_rfl) (fun t h (H1 : F85_15 (t 2) (t 3) (t 5) (t 7) (t 10) (t 11) (t 19) (t 20) (t 21) (t 46) (t 47) (t 89) h Kn Kr Ke2 Ke1 Ke0) => F85_15_ok Kn Kr Ke2 Ke1 Ke0 t h H1) (by kernel_rfl)
def F85_13 (x2 x3 x5 x7 x10 x11 x19 x20 x21 x46 x47 x89 : Value) (h : H) (Kn : Value → Value → Value → Value → Value → Value → Value → H → Prop) (Kr : Value → Value → H → Prop) (Ke2 : Value → Value → Value → Value → Value → Value → Value → H → Prop) (Ke1 : Value → Value → Value → Value → Value → Value → Value → H → Prop) (Ke0 : Value → Value → H → Prop) : Prop :=
  sloop (S := Value × Value × Value × Value × Value × Value × Value × Value × Value × Value × Value × Value) (fun s h K => F85_14 s.1 s.2.1 s.2.2.1 s.2.2.2.1 s.2.2.2.2.1 s.2.2.2.2.2.1 s.2.2.2.2.2.2.1 s.2.2.2.2.2.2.2.1 s.2.2.2.2.2.2.2.2.1 s.2.2.2.2.2.2.2.2.2.1 s.2.2.2.2.2.2.2.2.2.2.1 s.2.2.2.2.2.2.2.2.2.2.2 h (fun y2 y3 y5 y7 y10 y11 y19 y20 y21 y46 y47 y89 h => K (y2, y3, y5, y7, y10, y11, y19, y20, y21, y46, y47, y89) h) Kr Ke2 Ke1 Ke0) (x2, x3, x5, x7, x10, x11, x19, x20, x21, x46, x47, x89) h
theorem F85_13_ok (Kn Kr Ke2 Ke1 Ke0) (t : T) (h : H) (H0 : F85_13 (t 2) (t 3) (t 5) (t 7) (t 10) (t 11) (t 19) (t 20) (t 21) (t 46) (t 47) (t 89) h Kn Kr Ke2 Ke1 Ke0) : Wp Tryz.prog 89 (blkC (rest 1 (seqR (rest 2 (blkC (seqL (rest 2 (lopC (blkC (rest 1 (seqL (rest 2 (bodyOf Tryz.f85.body))))))))))))) (mkQ (fun t h => Kn (t 2) (t 3) (t 5) (t 19) (t 20) (t 21) (t 89) h) (fun t h => Kr (t 4) (t 89) h) (keAdd 2 (fun t h => Ke2 (t 2) (t 3) (t 5) (t 19) (t 20) (t 21) (t 89) h) (keAdd 1 (fun t h => Ke1 (t 2) (t 3) (t 5) (t 19) (t 20) (t 21) (t 89) h) (keAdd 0 (fun t h => Ke0 (t 5) (t 89) h) ke0)))) t h :=
  loop_ok (fun t => (t 2, t 3, t 5, t 7, t 10, t 11, t 19, t 20, t 21, t 46, t 47, t 89)) (by kernel_rfl) (fun t h K H1 => F85_14_ok (fun y2 y3 y5 y7 y10 y11 y19 y20 y21 y46 y47 y89 h => K (y2, y3, y5, y7, y10, y11, y19, y20, y21, y46, y47, y89) h) Kr Ke2 Ke1 Ke0 t h H1) H0
section
def path85 : List Stp := [.R, .R, .L, .R, .B, .P, .R, .R, .L, .B, .R, .R, .R, .R, .B]
@[reducible] noncomputable def lp85 : Code := blkC (rest 1 (seqR (rest 2 (blkC (seqL (rest 2 (lopC (blkC (rest 1 (seqL (rest 2 (bodyOf Tryz.f85.body))))))))))))
theorem at85 : codeAt path85 (bodyOf Tryz.f85.body) = lp85 := by kernel_rfl
noncomputable def keepT (t : XT) : List Nat → XT → XT
  | [], r => r
  | d :: l, r => (match t.get d with
    | some v => (keepT t l r).set d v
    | none => keepT t l r)
noncomputable def fast85 (s : XS) : Option (XE × XS) :=
  match s.t.get 10, s.t.get 11, s.t.get 46, s.t.get 47, s.t.get 7 with
  | some (.a (.c (.slice (some ⟨a, ao, none⟩) la ca))), some (.a (.c (.slice (some ⟨b, bo, none⟩) lb cb))), some (.a (.c (.int .i64 (.ofNat n)))), some (.a (.c (.int .i64 (.ofNat 0)))), some (.a (.c (.int .u32 p))) =>
    (match s.h.get a, s.h.get b with
    | some (.cells ra _ _), some (.cells rb _ _) =>
      bc (Nat.beq la n) (bc (Nat.beq lb n) (bc (Nat.blt n 4096) (bc (Nat.beq ((ra.drop ao).take n).size n) (bc (allU8 ((ra.drop ao).take n)) (bc (eqLv ((ra.drop ao).take n).toL ((rb.drop bo).take n).toL)
        (some (.exit 2, ⟨keepT s.t [2, 3, 5, 19, 20, 21] (XT.new 0), s.h, s.n, s.ms⟩)) none) none) none) none) none) none
    | _, _ => none)
  | _, _, _, _, _ => none
theorem keepT_get {t : XT} {i : Nat} {v : XV} : ∀ {l : List Nat}, (keepT t l (XT.new 0)).get i = some v → i ∈ l ∧ t.get i = some v
  | [], h => by simp only [keepT, XT.get_new] at h; cases h
  | d :: l, h => by
    simp only [keepT] at h
    split at h
    · rename_i w hw
      rw [XT.get_set] at h
      by_cases e : i = d
      · rw [if_pos e] at h; cases h
        exact ⟨by rw [e]; exact .head _, by rw [e]; exact hw⟩
      · rw [if_neg e] at h
        obtain ⟨h1, h2⟩ := keepT_get h
        exact ⟨.tail _ h1, h2⟩
    · obtain ⟨h1, h2⟩ := keepT_get h
      exact ⟨.tail _ h1, h2⟩
theorem loop85 {h : H} {x2 x3 x5 x7 x10 x11 x19 x20 x21 x89 : Value} {a ao ca b bo cb n : Nat} {p : Int} {Kn Kr Ke2 Ke1 Ke0} (h10 : x10 = .slice (some ⟨a, ao, none⟩) n ca) (h11 : x11 = .slice (some ⟨b, bo, none⟩) n cb) (h7 : x7 = .int .u32 p) (hn : n < 4096)
    (hc : ∀ i, i < n → ∃ x : Int, AM.cellAt h a (ao + i) = some (.int .u8 x) ∧ AM.cellAt h b (bo + i) = some (.int .u8 x)) (hk : Ke2 x2 x3 x5 x19 x20 x21 x89 h) :
    F85_13 x2 x3 x5 x7 x10 x11 x19 x20 x21 (.int .i64 (n : Nat)) (.int .i64 (0 : Nat)) x89 h Kn Kr Ke2 Ke1 Ke0 := by
  subst h10 h11 h7
  unfold F85_13
  refine ⟨fun m s h' => h' = h ∧ ∃ i : Nat, i ≤ n ∧ m = n - i ∧ s = (x2, x3, x5, .int .u32 p, .slice (some ⟨a, ao, none⟩) n ca, .slice (some ⟨b, bo, none⟩) n cb, x19, x20, x21, .int .i64 (n : Nat), .int .i64 (i : Nat), x89), ⟨n, rfl, 0, Nat.zero_le _, rfl, rfl⟩, ?_⟩
  rintro m s h' ⟨rfl, i, hi, rfl, rfl⟩
  simp only [F85_14, bin_lss]
  by_cases hlt : i < n
  · have d1 : decide ((i : Int) < (n : Int)) = true := by simp; omega
    rw [d1, if_true']
    unfold F85_15 F85_16 F85_17
    rw [conv_int, bin_add]
    unfold F85_18 F85_19
    obtain ⟨x, hx, hy⟩ := hc i hlt
    rw [index_sl (by omega) (by omega)]
    have e1 : ∀ o : Nat, o + (i : Int).toNat * 1 = o + i := fun o => by simp
    rw [e1, load_cell hx, index_sl (by omega) (by omega), e1, load_cell hy, bin_neq]
    simp only [decide_true, Bool.not_true, guard_ft, pick_false]
    unfold F85_20
    rw [if_false']
    simp only [F85_21, bin_add]
    have e2 : IntKind.i64.wrap ((i : Int) + 1) = ((i + 1 : Nat) : Int) := by rw [wrap64 (by omega) (by omega)]; omega
    rw [e2]
    exact ⟨n - (i + 1), by omega, trivial, i + 1, by omega, rfl, rfl⟩
  · have d1 : decide ((i : Int) < (n : Int)) = false := by simp; omega
    rw [d1, if_false']
    exact hk
theorem fast85_ok : RunAt Tryz.prog fast85 89 lp85 := by
  intro s e s' he F ρ h T Q hs hk
  unfold fast85 at he
  split at he
  rotate_left
  · cases he
  rename_i a ao la ca b bo lb cb n p g10 g11 g46 g47 g7
  split at he
  rotate_left
  · cases he
  rename_i ra E1 w1 rb E2 w2 ga gb
  cases k1 : Nat.beq la n
  · rw [k1] at he; cases he
  cases k2 : Nat.beq lb n
  · rw [k1, k2] at he; cases he
  cases k3 : Nat.blt n 4096
  · rw [k1, k2, k3] at he; cases he
  cases k4 : Nat.beq ((ra.drop ao).take n).size n
  · rw [k1, k2, k3, k4] at he; cases he
  cases k5 : allU8 ((ra.drop ao).take n)
  · rw [k1, k2, k3, k4, k5] at he; cases he
  cases k6 : eqLv ((ra.drop ao).take n).toL ((rb.drop bo).take n).toL
  · rw [k1, k2, k3, k4, k5, k6] at he; cases he
  rw [k1, k2, k3, k4, k5, k6] at he
  simp only [bc_true] at he
  cases he
  obtain rfl := Nat.eq_of_beq_eq_true k1
  obtain rfl := Nat.eq_of_beq_eq_true k2
  obtain ⟨hx, ht, hmr⟩ := hs
  obtain ⟨a', ta, ha, e10⟩ : ∃ b' t, ρ a = some (b', t) ∧ T 10 = .slice (some ⟨b', ao, none⟩) lb ca := by
    cases ht _ _ g10 with | a hv => exact hv.toC.sl
  obtain ⟨b', tb, hb, e11⟩ : ∃ b' t, ρ b = some (b', t) ∧ T 11 = .slice (some ⟨b', bo, none⟩) lb cb := by
    cases ht _ _ g11 with | a hv => exact hv.toC.sl
  have e46 : T 46 = .int .i64 (lb : Nat) := by cases ht _ _ g46 with | a hv => exact hv.toC.self_eq rfl
  have e47 : T 47 = .int .i64 (0 : Nat) := by cases ht _ _ g47 with | a hv => exact hv.toC.self_eq rfl
  have e7 : T 7 = .int .u32 p := by cases ht _ _ g7 with | a hv => exact hv.toC.self_eq rfl
  obtain ⟨csa, ha1, ha2⟩ := hx.cells ga ha
  obtain ⟨csb, hb1, hb2⟩ := hx.cells gb hb
  have k3' := Nat.le_of_ble_eq_true k3
  have k4' := Nat.eq_of_beq_eq_true k4
  have k6' := eqLv_eq k6
  have hu := allU8_ok k5
  rw [R.size_eq, R.take_toL, R.drop_toL] at k4'
  rw [R.take_toL, R.drop_toL] at hu
  rw [R.take_toL, R.drop_toL, R.take_toL, R.drop_toL] at k6'
  have key : F85_13 (T 2) (T 3) (T 5) (T 7) (T 10) (T 11) (T 19) (T 20) (T 21) (T 46) (T 47) (T 89) h (fun _ _ _ _ _ _ _ _ => False) (fun _ _ _ => False)
      (fun v2 v3 v5 v19 v20 v21 v89 h' => h' = h ∧ v2 = T 2 ∧ v3 = T 3 ∧ v5 = T 5 ∧ v19 = T 19 ∧ v20 = T 20 ∧ v21 = T 21 ∧ v89 = T 89) (fun _ _ _ _ _ _ _ _ => False) (fun _ _ _ => False) := by
    rw [e46, e47]
    refine loop85 e10 e11 e7 (by omega) (fun i hi => ?_) ⟨rfl, rfl, rfl, rfl, rfl, rfl, rfl, rfl⟩
    have hg : ((ra.toL.drop ao).take lb)[i]? = some (((ra.toL.drop ao).take lb)[i]'(by omega)) := List.getElem?_eq_getElem (by omega)
    obtain ⟨x, _, _, hxe⟩ := hu _ (List.mem_of_getElem? hg)
    rw [hxe] at hg
    have hg2 := hg
    rw [k6'] at hg2
    rw [List.getElem?_take_of_lt hi, List.getElem?_drop] at hg hg2
    obtain ⟨v1, q1, q2⟩ := ha2.get hg
    obtain ⟨v2, q3, q4⟩ := hb2.get hg2
    rw [q2.self_eq rfl] at q1
    rw [q4.self_eq rfl] at q3
    exact ⟨x, by rw [cellAt_of ha1]; exact q1, by rw [cellAt_of hb1]; exact q3⟩
  refine awp_mono _ (fun ex t h' hh => ?_) (F85_13_ok _ _ _ _ _ T h key).ok
  cases ex with
  | exit j =>
    simp only [mkQ, keAdd, ke0] at hh
    cases hj : Nat.beq j 2
    · rw [hj, cond_false] at hh
      cases hj1 : Nat.beq j 1 <;> cases hj0 : Nat.beq j 0 <;> (simp only [hj1, hj0, cond_false, cond_true] at hh; try exact hh.elim)
    · rw [hj, cond_true] at hh
      obtain ⟨rfl, r2, r3, r5, r19, r20, r21, r89⟩ := hh
      obtain rfl := Nat.eq_of_beq_eq_true hj
      refine hk ρ t h' (Ren.le_refl ρ) ⟨hx, fun i v hi => ?_, by rw [r89]; exact hmr⟩
      obtain ⟨m1, m2⟩ := keepT_get hi
      have := ht _ _ m2
      simp only [List.mem_cons, List.not_mem_nil, or_false] at m1
      rcases m1 with rfl | rfl | rfl | rfl | rfl | rfl
      · rw [r2]; exact this
      · rw [r3]; exact this
      · rw [r5]; exact this
      · rw [r19]; exact this
      · rw [r20]; exact this
      · rw [r21]; exact this
  | normal => exact hh.elim
  | ret => exact hh.elim
  | _ => exact hh.elim
noncomputable def run85 : RunF := kev Tryz.prog SE4 (nthN masks) 100000
theorem run85_ok : RunOk Tryz.prog run85 := by
  unfold run85
  rw [kev_eq]
  exact ev_ok mixed SE4_ok 100000
theorem ok85 : okCode 89 true (bodyOf Tryz.f85.body) = true := by kernel_rfl
noncomputable def s_mem85 : CallF := fun g args eh n => bc (Nat.beq g 85) (xbodyP Tryz.prog (runP run85 fast85 89 1000 path85 (bodyOf Tryz.f85.body)) (nthN masks 85) Tryz.f85 (bodyOf Tryz.f85.body) args eh n) none
theorem s_mem85_ok : CallOk Tryz.prog s_mem85 :=
  xbodyP_ok mixed Tryz.func85 (by kernel_rfl) (runP_ok run85_ok path85 ok85 (by rw [at85]; exact fast85_ok))
end
end Go.Proofs.YtjdhldfeflmneaaGreat
