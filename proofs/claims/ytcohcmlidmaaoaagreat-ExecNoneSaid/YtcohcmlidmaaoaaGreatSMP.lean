/-
  Functions of the program, taken apart over the abstract memory: each piece of the loaded code as a proposition; printed by a program (gen.py).
-/
import Derived.Test.YtcohcmlidmaaoaaGreatK1
import Derived.Test.YtcohcmlidmaaoaaGreatM4
import Derived.KernelRfl
set_option linter.unusedVariables false
set_option linter.unusedSimpArgs false
set_option maxRecDepth 100000
namespace Go.Proofs.YtcohcmlidmaaoaaGreat
open Go.Proofs.YtcohcmlidmaaoaaGreat.AM
/-! #### 25: tincture/tincturelaw20.sameMem -/
def F25_3 (x0 x1 : Value) (h : H) (Kn : KP3) (Kr : Value → H → Prop) : Prop :=
  o_nilCheck x0 fun v7 => o_fieldAddr 1 v7 fun v8 => o_load false 1 v8 h fun v9 => o_lenSl v9 fun v10 => o_nilCheck x1 fun v12 => o_fieldAddr 1 v12 fun v13 => o_load false 1 v13 h fun v14 => o_lenSl v14 fun v15 => o_bin Tryz.prog .neq 3 v10 v15 fun v16 => Kn x0 x1 v16 h
theorem F25_3_ok (Kn Kr) (t : T) (h : H) (H0 : F25_3 (t 0) (t 1) h Kn Kr) : Wp Tryz.prog 41 (seqL (seqL (rest 1 (bodyOf Tryz.f25.body)))) (mkQ (kq3 Kn 0 1 16) (kq1 Kr 4) ke0) t h :=
  draw_okF (by kernel_rfl) (by kernel_rfl) H0 (by kernel_rfl)
def F25_4 (x0 x1 x16 : Value) (h : H) (Kn : KP2) (Kr : Value → H → Prop) : Prop :=
  o_if x16 (Kr (.bool false) h) (Kn x0 x1 h)
theorem F25_4_ok (Kn Kr) (t : T) (h : H) (H0 : F25_4 (t 0) (t 1) (t 16) h Kn Kr) : Wp Tryz.prog 41 (seqR (seqL (rest 1 (bodyOf Tryz.f25.body)))) (mkQ (kq2 Kn 0 1) (kq1 Kr 4) ke0) t h :=
  wpEqF H0 (by kernel_rfl)
def F25_2 (x0 x1 : Value) (h : H) (Kn : KP2) (Kr : Value → H → Prop) : Prop :=
  F25_3 x0 x1 h (fun y0 y1 y16 h => F25_4 y0 y1 y16 h Kn Kr) Kr
theorem F25_2_ok (Kn Kr) (t : T) (h : H) (H0 : F25_2 (t 0) (t 1) h Kn Kr) : Wp Tryz.prog 41 (seqL (rest 1 (bodyOf Tryz.f25.body))) (mkQ (kq2 Kn 0 1) (kq1 Kr 4) ke0) t h :=
  seq_ok (by kernel_rfl) (fun t h H1 => F25_4_ok Kn Kr t h H1) (F25_3_ok (fun y0 y1 y16 h => F25_4 y0 y1 y16 h Kn Kr) Kr t h H0)
def F25_13 (x0 x1 x5 : Value) (h : H) (Kn : KP4) (Kr : Value → H → Prop) (Ke1 : KP3) (Ke0 : H → Prop) : Prop :=
  o_nilCheck x0 fun v27 => o_fieldAddr 1 v27 fun v28 => o_load false 1 v28 h fun v29 => o_indexAddr none 258 v29 x5 fun v31 => o_load true 258 v31 h fun v32 => o_nilCheck x1 fun v34 => o_fieldAddr 1 v34 fun v35 => o_load false 1 v35 h fun v36 => o_indexAddr none 258 v36 x5 fun v38 => o_load true 258 v38 h fun v39 => o_bin Tryz.prog .neq 183 v32 v39 fun v40 => Kn x0 x1 x5 v40 h
theorem F25_13_ok (Kn Kr Ke1 Ke0) (t : T) (h : H) (H0 : F25_13 (t 0) (t 1) (t 5) h Kn Kr Ke1 Ke0) : Wp Tryz.prog 41 (seqL (blkC (seqL (rest 1 (lopC (blkC (rest 1 (seqL (seqR (rest 1 (bodyOf Tryz.f25.body))))))))))) (mkQ (kq4 Kn 0 1 5 40) (kq1 Kr 4) (keAdd 1 (kq3 Ke1 0 1 5) (keAdd 0 (kq0 Ke0) ke0))) t h :=
  draw_okF (by kernel_rfl) (by kernel_rfl) H0 (by kernel_rfl)
def F25_14 (x0 x1 x5 x40 : Value) (h : H) (Kn : KP3) (Kr : Value → H → Prop) (Ke1 : KP3) (Ke0 : H → Prop) : Prop :=
  o_if x40 (Kr (.bool false) h) (Kn x0 x1 x5 h)
theorem F25_14_ok (Kn Kr Ke1 Ke0) (t : T) (h : H) (H0 : F25_14 (t 0) (t 1) (t 5) (t 40) h Kn Kr Ke1 Ke0) : Wp Tryz.prog 41 (seqR (blkC (seqL (rest 1 (lopC (blkC (rest 1 (seqL (seqR (rest 1 (bodyOf Tryz.f25.body))))))))))) (mkQ (kq3 Kn 0 1 5) (kq1 Kr 4) (keAdd 1 (kq3 Ke1 0 1 5) (keAdd 0 (kq0 Ke0) ke0))) t h :=
  wpEqF H0 (by kernel_rfl)
def F25_12 (x0 x1 x5 : Value) (h : H) (Kn : KP3) (Kr : Value → H → Prop) (Ke1 : KP3) (Ke0 : H → Prop) : Prop :=
  F25_13 x0 x1 x5 h (fun y0 y1 y5 y40 h => F25_14 y0 y1 y5 y40 h Kn Kr Ke1 Ke0) Kr Ke1 Ke0
theorem F25_12_ok (Kn Kr Ke1 Ke0) (t : T) (h : H) (H0 : F25_12 (t 0) (t 1) (t 5) h Kn Kr Ke1 Ke0) : Wp Tryz.prog 41 (blkC (seqL (rest 1 (lopC (blkC (rest 1 (seqL (seqR (rest 1 (bodyOf Tryz.f25.body)))))))))) (mkQ (kq3 Kn 0 1 5) (kq1 Kr 4) (keAdd 1 (kq3 Ke1 0 1 5) (keAdd 0 (kq0 Ke0) ke0))) t h :=
  seq_ok (by kernel_rfl) (fun t h H1 => F25_14_ok Kn Kr Ke1 Ke0 t h H1) (F25_13_ok (fun y0 y1 y5 y40 h => F25_14 y0 y1 y5 y40 h Kn Kr Ke1 Ke0) Kr Ke1 Ke0 t h H0)
def F25_11 (x0 x1 x5 : Value) (h : H) (Kn : KP3) (Kr : Value → H → Prop) (Ke0 : H → Prop) : Prop :=
  F25_12 x0 x1 x5 h Kn Kr Kn Ke0
theorem F25_11_ok (Kn Kr Ke0) (t : T) (h : H) (H0 : F25_11 (t 0) (t 1) (t 5) h Kn Kr Ke0) : Wp Tryz.prog 41 (seqL (rest 1 (lopC (blkC (rest 1 (seqL (seqR (rest 1 (bodyOf Tryz.f25.body))))))))) (mkQ (kq3 Kn 0 1 5) (kq1 Kr 4) (keAdd 0 (kq0 Ke0) ke0)) t h :=
  block_ok 1 (by kernel_rfl) (by kernel_rfl) (F25_12_ok Kn Kr Kn Ke0 t h H0)
def F25_15 (x0 x1 x5 : Value) (h : H) (Kn : KP3) (Kr : Value → H → Prop) (Ke0 : H → Prop) : Prop :=
  o_bin Tryz.prog .add 3 x5 (.int .i64 1) fun v25 => Kn x0 x1 v25 h
theorem F25_15_ok (Kn Kr Ke0) (t : T) (h : H) (H0 : F25_15 (t 0) (t 1) (t 5) h Kn Kr Ke0) : Wp Tryz.prog 41 (seqR (rest 1 (lopC (blkC (rest 1 (seqL (seqR (rest 1 (bodyOf Tryz.f25.body))))))))) (mkQ (kq3 Kn 0 1 5) (kq1 Kr 4) (keAdd 0 (kq0 Ke0) ke0)) t h :=
  wpEqF H0 (by kernel_rfl)
def F25_10 (x0 x1 x5 : Value) (h : H) (Kn : KP3) (Kr : Value → H → Prop) (Ke0 : H → Prop) : Prop :=
  F25_11 x0 x1 x5 h (fun y0 y1 y5 h => F25_15 y0 y1 y5 h Kn Kr Ke0) Kr Ke0
theorem F25_10_ok (Kn Kr Ke0) (t : T) (h : H) (H0 : F25_10 (t 0) (t 1) (t 5) h Kn Kr Ke0) : Wp Tryz.prog 41 (rest 1 (lopC (blkC (rest 1 (seqL (seqR (rest 1 (bodyOf Tryz.f25.body)))))))) (mkQ (kq3 Kn 0 1 5) (kq1 Kr 4) (keAdd 0 (kq0 Ke0) ke0)) t h :=
  seq_ok (by kernel_rfl) (fun t h H1 => F25_15_ok Kn Kr Ke0 t h H1) (F25_11_ok (fun y0 y1 y5 h => F25_15 y0 y1 y5 h Kn Kr Ke0) Kr Ke0 t h H0)
def F25_9 (x0 x1 x5 : Value) (h : H) (Kn : KP3) (Kr : Value → H → Prop) (Ke0 : H → Prop) : Prop :=
  o_nilCheck x0 fun v19 => o_fieldAddr 1 v19 fun v20 => o_load false 1 v20 h fun v21 => o_lenSl v21 fun v22 => o_bin Tryz.prog .lss 3 x5 v22 fun v23 => o_if v23 (F25_10 x0 x1 x5 h Kn Kr Ke0) (Ke0 h)
theorem F25_9_ok (Kn Kr Ke0) (t : T) (h : H) (H0 : F25_9 (t 0) (t 1) (t 5) h Kn Kr Ke0) : Wp Tryz.prog 41 (lopC (blkC (rest 1 (seqL (seqR (rest 1 (bodyOf Tryz.f25.body))))))) (mkQ (kq3 Kn 0 1 5) (kq1 Kr 4) (keAdd 0 (kq0 Ke0) ke0)) t h :=
  awpTo_okF 1 H0 (by kernel_rfl) (fun t h (H1 : F25_10 (t 0) (t 1) (t 5) h Kn Kr Ke0) => F25_10_ok Kn Kr Ke0 t h H1) (by kernel_rfl)
def F25_8 (x0 x1 x5 : Value) (h : H) (Kn : H → Prop) (Kr : Value → H → Prop) (Ke0 : H → Prop) : Prop :=
  sloop (S := Value × Value × Value) (fun s h K => F25_9 s.1 s.2.1 s.2.2 h (fun y0 y1 y5 h => K (y0, y1, y5) h) Kr Ke0) (x0, x1, x5) h
theorem F25_8_ok (Kn Kr Ke0) (t : T) (h : H) (H0 : F25_8 (t 0) (t 1) (t 5) h Kn Kr Ke0) : Wp Tryz.prog 41 (blkC (rest 1 (seqL (seqR (rest 1 (bodyOf Tryz.f25.body)))))) (mkQ (kq0 Kn) (kq1 Kr 4) (keAdd 0 (kq0 Ke0) ke0)) t h :=
  loop_ok (fun t => (t 0, t 1, t 5)) (by kernel_rfl) (fun t h K H1 => F25_9_ok (fun y0 y1 y5 h => K (y0, y1, y5) h) Kr Ke0 t h H1) H0
def F25_7 (x0 x1 x5 : Value) (h : H) (Kn : H → Prop) (Kr : Value → H → Prop) : Prop :=
  F25_8 x0 x1 x5 h Kn Kr Kn
theorem F25_7_ok (Kn Kr) (t : T) (h : H) (H0 : F25_7 (t 0) (t 1) (t 5) h Kn Kr) : Wp Tryz.prog 41 (rest 1 (seqL (seqR (rest 1 (bodyOf Tryz.f25.body))))) (mkQ (kq0 Kn) (kq1 Kr 4) ke0) t h :=
  block_ok 0 (by kernel_rfl) (by kernel_rfl) (F25_8_ok Kn Kr Kn t h H0)
def F25_6 (x0 x1 : Value) (h : H) (Kn : H → Prop) (Kr : Value → H → Prop) : Prop :=
  F25_7 x0 x1 (.int .i64 0) h Kn Kr
theorem F25_6_ok (Kn Kr) (t : T) (h : H) (H0 : F25_6 (t 0) (t 1) h Kn Kr) : Wp Tryz.prog 41 (seqL (seqR (rest 1 (bodyOf Tryz.f25.body)))) (mkQ (kq0 Kn) (kq1 Kr 4) ke0) t h :=
  awpTo_okF 1 H0 (by kernel_rfl) (fun t h (H1 : F25_7 (t 0) (t 1) (t 5) h Kn Kr) => F25_7_ok Kn Kr t h H1) (by kernel_rfl)
def F25_16 (h : H) (Kn : Value → H → Prop) (Kr : Value → H → Prop) : Prop :=
  Kr (.bool true) h
theorem F25_16_ok (Kn Kr) (t : T) (h : H) (H0 : F25_16  h Kn Kr) : Wp Tryz.prog 41 (seqR (seqR (rest 1 (bodyOf Tryz.f25.body)))) (mkQ (kq1 Kn 4) (kq1 Kr 4) ke0) t h :=
  wpEqF H0 (by kernel_rfl)
def F25_5 (x0 x1 : Value) (h : H) (Kn : Value → H → Prop) (Kr : Value → H → Prop) : Prop :=
  F25_6 x0 x1 h (fun  h => F25_16  h Kn Kr) Kr
theorem F25_5_ok (Kn Kr) (t : T) (h : H) (H0 : F25_5 (t 0) (t 1) h Kn Kr) : Wp Tryz.prog 41 (seqR (rest 1 (bodyOf Tryz.f25.body))) (mkQ (kq1 Kn 4) (kq1 Kr 4) ke0) t h :=
  seq_ok (by kernel_rfl) (fun t h H1 => F25_16_ok Kn Kr t h H1) (F25_6_ok (fun  h => F25_16  h Kn Kr) Kr t h H0)
def F25_1 (x0 x1 : Value) (h : H) (Kn : Value → H → Prop) (Kr : Value → H → Prop) : Prop :=
  F25_2 x0 x1 h (fun y0 y1 h => F25_5 y0 y1 h Kn Kr) Kr
theorem F25_1_ok (Kn Kr) (t : T) (h : H) (H0 : F25_1 (t 0) (t 1) h Kn Kr) : Wp Tryz.prog 41 (rest 1 (bodyOf Tryz.f25.body)) (mkQ (kq1 Kn 4) (kq1 Kr 4) ke0) t h :=
  seq_ok (by kernel_rfl) (fun t h H1 => F25_5_ok Kn Kr t h H1) (F25_2_ok (fun y0 y1 h => F25_5 y0 y1 h Kn Kr) Kr t h H0)
def F25_0 (x0 x1 : Value) (h : H) (Kn : Value → H → Prop) (Kr : Value → H → Prop) : Prop :=
  F25_1 x0 x1 h Kn Kr
theorem F25_0_ok (Kn Kr) (t : T) (h : H) (H0 : F25_0 (t 0) (t 1) h Kn Kr) : Wp Tryz.prog 41 (bodyOf Tryz.f25.body) (mkQ (kq1 Kn 4) (kq1 Kr 4) ke0) t h :=
  awpTo_okF 1 H0 (by kernel_rfl) (fun t h (H1 : F25_1 (t 0) (t 1) h Kn Kr) => F25_1_ok Kn Kr t h H1) (by kernel_rfl)
def F25 (x0 x1 : Value) (h : H) (Q : Value → H → Prop) : Prop := F25_0 x0 x1 h (fun v h => Q v h) (fun v h => Q v h)
theorem F25_spec (x0 x1 : Value) (h : H) (Q : Value → H → Prop) (H0 : F25 x0 x1 h Q) : AM.Spec Tryz.prog 25 [x0, x1] h Q :=
  spec_wp mixed (fn := Tryz.f25) Tryz.func25 (c := bodyOf Tryz.f25.body) (rs := [4]) (N := 41) (by kernel_rfl) (by kernel_rfl) (by kernel_rfl) (by kernel_rfl) (by kernel_rfl) (Nat.le_of_ble_eq_true rfl) (F25_0_ok (fun v h => Q v h) (fun v h => Q v h) (tinit [x0, x1]) h H0) (by kernel_rfl)
end Go.Proofs.YtcohcmlidmaaoaaGreat
