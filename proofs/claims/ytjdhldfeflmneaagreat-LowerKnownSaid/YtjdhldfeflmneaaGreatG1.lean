/-
  Functions of the program, taken apart over the abstract memory: each piece of the loaded code as a proposition; printed by a program (gen.py).
-/
import Derived.Test.YtjdhldfeflmneaaGreatD0
import Derived.Test.YtjdhldfeflmneaaGreatAMFunc
import Derived.KernelRfl
set_option linter.unusedVariables false
set_option maxRecDepth 100000
namespace Go.Proofs.YtjdhldfeflmneaaGreat
open Go.Proofs.YtjdhldfeflmneaaGreat.AM
/-! #### 175: (*tincture/tinctureref3.Mem).at -/
def F175_4 (x0 x6 x7 : Value) (h : H) (Kn : Value → Value → Value → H → Prop) (Kr : Value → Value → H → Prop) (Ke0 : Value → Value → Value → H → Prop) : Prop :=
  o_nilCheck x0 fun v14 => o_fieldAddr 1 v14 fun v15 => o_load false 1 v15 h fun v16 => o_lenSl v16 fun v17 => o_bin Tryz.prog .lss 3 x7 v17 fun v18 => o_guard v18 true (fun k17 => o_nilCheck x0 fun v21 => o_fieldAddr 1 v21 fun v22 => o_load false 1 v22 h fun v23 => o_indexAddr none 258 v23 x7 fun v25 => o_fieldAddr 0 v25 fun v26 => o_load false 1 v26 h fun v27 => o_bin Tryz.prog .lss 27 v27 x6 fun v29 => k17 v29 h) (fun v29 h => o_pick v18 v29 (.bool false) fun v30 => o_if v30 (o_bin Tryz.prog .add 3 x7 (.int .i64 1) fun v32 => Kn x0 x6 v32 h) (Ke0 x0 x6 x7 h)) h
theorem F175_4_ok (Kn Kr Ke0) (t : T) (h : H) (H0 : F175_4 (t 0) (t 6) (t 7) h Kn Kr Ke0) : Wp Tryz.prog 53 (lopC (blkC (seqL (rest 3 (bodyOf Tryz.f175.body))))) (mkQ (fun t h => Kn (t 0) (t 6) (t 7) h) (fun t h => Kr (t 4) (t 5) h) (keAdd 0 (fun t h => Ke0 (t 0) (t 6) (t 7) h) ke0)) t h :=
  wpEqF H0 (by kernel_rfl)
def F175_3 (x0 x6 x7 : Value) (h : H) (Kn : Value → Value → Value → H → Prop) (Kr : Value → Value → H → Prop) (Ke0 : Value → Value → Value → H → Prop) : Prop :=
  sloop (S := Value × Value × Value) (fun s h K => F175_4 s.1 s.2.1 s.2.2 h (fun y0 y6 y7 h => K (y0, y6, y7) h) Kr Ke0) (x0, x6, x7) h
theorem F175_3_ok (Kn Kr Ke0) (t : T) (h : H) (H0 : F175_3 (t 0) (t 6) (t 7) h Kn Kr Ke0) : Wp Tryz.prog 53 (blkC (seqL (rest 3 (bodyOf Tryz.f175.body)))) (mkQ (fun t h => Kn (t 0) (t 6) (t 7) h) (fun t h => Kr (t 4) (t 5) h) (keAdd 0 (fun t h => Ke0 (t 0) (t 6) (t 7) h) ke0)) t h :=
  loop_ok (fun t => (t 0, t 6, t 7)) (by kernel_rfl) (fun t h K H1 => F175_4_ok (fun y0 y6 y7 h => K (y0, y6, y7) h) Kr Ke0 t h H1) H0
def F175_2 (x0 x6 x7 : Value) (h : H) (Kn : Value → Value → Value → H → Prop) (Kr : Value → Value → H → Prop) : Prop :=
  F175_3 x0 x6 x7 h Kn Kr Kn
theorem F175_2_ok (Kn Kr) (t : T) (h : H) (H0 : F175_2 (t 0) (t 6) (t 7) h Kn Kr) : Wp Tryz.prog 53 (seqL (rest 3 (bodyOf Tryz.f175.body))) (mkQ (fun t h => Kn (t 0) (t 6) (t 7) h) (fun t h => Kr (t 4) (t 5) h) ke0) t h :=
  block_ok 0 (by kernel_rfl) (by kernel_rfl) (F175_3_ok Kn Kr Kn t h H0)
def F175_6 (x0 x6 x7 : Value) (h : H) (Kn : Value → Value → H → Prop) (Kr : Value → Value → H → Prop) : Prop :=
  o_nilCheck x0 fun v36 => o_fieldAddr 1 v36 fun v37 => o_load false 1 v37 h fun v38 => o_lenSl v38 fun v39 => o_bin Tryz.prog .lss 3 x7 v39 fun v40 => o_guard v40 true (fun k18 => o_nilCheck x0 fun v43 => o_fieldAddr 1 v43 fun v44 => o_load false 1 v44 h fun v45 => o_indexAddr none 258 v45 x7 fun v47 => o_fieldAddr 0 v47 fun v48 => o_load false 1 v48 h fun v49 => o_bin Tryz.prog .eql 27 v49 x6 fun v51 => k18 v51 h) (fun v51 h => o_pick v40 v51 (.bool false) fun v52 => Kn x7 v52 h) h
theorem F175_6_ok (Kn Kr) (t : T) (h : H) (H0 : F175_6 (t 0) (t 6) (t 7) h Kn Kr) : Wp Tryz.prog 53 (seqL (seqR (rest 3 (bodyOf Tryz.f175.body)))) (mkQ (fun t h => Kn (t 4) (t 5) h) (fun t h => Kr (t 4) (t 5) h) ke0) t h :=
  draw_okF (by kernel_rfl) (by kernel_rfl) H0 (by kernel_rfl)
def F175_7 (x4 x5 : Value) (h : H) (Kn : Value → Value → H → Prop) (Kr : Value → Value → H → Prop) : Prop :=
  Kr x4 x5 h
theorem F175_7_ok (Kn Kr) (t : T) (h : H) (H0 : F175_7 (t 4) (t 5) h Kn Kr) : Wp Tryz.prog 53 (seqR (seqR (rest 3 (bodyOf Tryz.f175.body)))) (mkQ (fun t h => Kn (t 4) (t 5) h) (fun t h => Kr (t 4) (t 5) h) ke0) t h :=
  wpEqF H0 (by kernel_rfl)
def F175_5 (x0 x6 x7 : Value) (h : H) (Kn : Value → Value → H → Prop) (Kr : Value → Value → H → Prop) : Prop :=
  F175_6 x0 x6 x7 h (fun y4 y5 h => F175_7 y4 y5 h Kn Kr) Kr
theorem F175_5_ok (Kn Kr) (t : T) (h : H) (H0 : F175_5 (t 0) (t 6) (t 7) h Kn Kr) : Wp Tryz.prog 53 (seqR (rest 3 (bodyOf Tryz.f175.body))) (mkQ (fun t h => Kn (t 4) (t 5) h) (fun t h => Kr (t 4) (t 5) h) ke0) t h :=
  seq_ok (by kernel_rfl) (fun t h H1 => F175_7_ok Kn Kr t h H1) (F175_6_ok (fun y4 y5 h => F175_7 y4 y5 h Kn Kr) Kr t h H0)
def F175_1 (x0 x6 x7 : Value) (h : H) (Kn : Value → Value → H → Prop) (Kr : Value → Value → H → Prop) : Prop :=
  F175_2 x0 x6 x7 h (fun y0 y6 y7 h => F175_5 y0 y6 y7 h Kn Kr) Kr
theorem F175_1_ok (Kn Kr) (t : T) (h : H) (H0 : F175_1 (t 0) (t 6) (t 7) h Kn Kr) : Wp Tryz.prog 53 (rest 3 (bodyOf Tryz.f175.body)) (mkQ (fun t h => Kn (t 4) (t 5) h) (fun t h => Kr (t 4) (t 5) h) ke0) t h :=
  seq_ok (by kernel_rfl) (fun t h H1 => F175_5_ok Kn Kr t h H1) (F175_2_ok (fun y0 y6 y7 h => F175_5 y0 y6 y7 h Kn Kr) Kr t h H0)
def F175_0 (x0 x1 : Value) (h : H) (Kn : Value → Value → H → Prop) (Kr : Value → Value → H → Prop) : Prop :=
  o_bin Tryz.prog .rem 27 x1 (.int .u32 256) fun v10 => o_bin Tryz.prog .sub 27 x1 v10 fun v11 => F175_1 x0 v11 (.int .i64 0) h Kn Kr
theorem F175_0_ok (Kn Kr) (t : T) (h : H) (H0 : F175_0 (t 0) (t 1) h Kn Kr) : Wp Tryz.prog 53 (bodyOf Tryz.f175.body) (mkQ (fun t h => Kn (t 4) (t 5) h) (fun t h => Kr (t 4) (t 5) h) ke0) t h :=
  awpTo_okF 3 H0 (by kernel_rfl) (fun t h (H1 : F175_1 (t 0) (t 6) (t 7) h Kn Kr) => F175_1_ok Kn Kr t h H1) (by kernel_rfl)
def F175 (x0 x1 : Value) (h : H) (Q : Value → H → Prop) : Prop := F175_0 x0 x1 h (fun y4 y5 h => bif [y4, y5].all boxV then Q (.tuple #[y4, y5]) h else False) (fun y4 y5 h => bif [y4, y5].all boxV then Q (.tuple #[y4, y5]) h else False)
theorem F175_spec (x0 x1 : Value) (h : H) (Q : Value → H → Prop) (H0 : F175 x0 x1 h Q) : AM.Spec Tryz.prog 175 [x0, x1] h Q :=
  spec_wp mixed (fn := Tryz.f175) Tryz.func175 (c := bodyOf Tryz.f175.body) (rs := [4, 5]) (N := 53) (by kernel_rfl) (by kernel_rfl) (by kernel_rfl) (by kernel_rfl) (by kernel_rfl) (Nat.le_of_ble_eq_true rfl) (F175_0_ok (fun y4 y5 h => bif [y4, y5].all boxV then Q (.tuple #[y4, y5]) h else False) (fun y4 y5 h => bif [y4, y5].all boxV then Q (.tuple #[y4, y5]) h else False) (tinit [x0, x1]) h H0) (by kernel_rfl)
/-! #### 176: (*tincture/tinctureref3.Mem).bump -/
def F176_5 (x0 x4 x5 : Value) (h : H) (Kn : Value → Value → Value → H → Prop) (Kr : H → Prop) (Ke0 : Value → Value → H → Prop) : Prop :=
  o_nilCheck x0 fun v12 => o_fieldAddr 2 v12 fun v13 => o_load false 1 v13 h fun v14 => o_lenSl v14 fun v15 => o_bin Tryz.prog .lss 3 x5 v15 fun v16 => o_if v16 (o_nilCheck x0 fun v20 => o_fieldAddr 2 v20 fun v21 => o_load false 1 v21 h fun v22 => o_indexAddr none 2 v22 x5 fun v24 => o_fieldAddr 0 v24 fun v25 => o_load false 1 v25 h fun v26 => o_bin Tryz.prog .eql 27 v26 x4 fun v28 => o_if v28 (o_nilCheck x0 fun v30 => o_fieldAddr 2 v30 fun v31 => o_load false 1 v31 h fun v32 => o_indexAddr none 2 v32 x5 fun v34 => o_fieldAddr 1 v34 fun v35 => o_load false 1 v35 h fun v36 => o_bin Tryz.prog .add 27 v36 (.int .u32 1) fun v37 => o_indexAddr none 2 v32 x5 fun v38 => o_fieldAddr 1 v38 fun v39 => o_store 1 v39 v37 h fun h => Kr h) (o_bin Tryz.prog .add 3 x5 (.int .i64 1) fun v18 => Kn x0 x4 v18 h)) (Ke0 x0 x4 h)
theorem F176_5_ok (Kn Kr Ke0) (t : T) (h : H) (H0 : F176_5 (t 0) (t 4) (t 5) h Kn Kr Ke0) : Wp Tryz.prog 53 (lopC (blkC (rest 1 (seqL (rest 1 (bodyOf Tryz.f176.body)))))) (mkQ (fun t h => Kn (t 0) (t 4) (t 5) h) (fun t h => Kr  h) (keAdd 0 (fun t h => Ke0 (t 0) (t 4) h) ke0)) t h :=
  wpEqF H0 (by kernel_rfl)
def F176_4 (x0 x4 x5 : Value) (h : H) (Kn : Value → Value → H → Prop) (Kr : H → Prop) (Ke0 : Value → Value → H → Prop) : Prop :=
  sloop (S := Value × Value × Value) (fun s h K => F176_5 s.1 s.2.1 s.2.2 h (fun y0 y4 y5 h => K (y0, y4, y5) h) Kr Ke0) (x0, x4, x5) h
theorem F176_4_ok (Kn Kr Ke0) (t : T) (h : H) (H0 : F176_4 (t 0) (t 4) (t 5) h Kn Kr Ke0) : Wp Tryz.prog 53 (blkC (rest 1 (seqL (rest 1 (bodyOf Tryz.f176.body))))) (mkQ (fun t h => Kn (t 0) (t 4) h) (fun t h => Kr  h) (keAdd 0 (fun t h => Ke0 (t 0) (t 4) h) ke0)) t h :=
  loop_ok (fun t => (t 0, t 4, t 5)) (by kernel_rfl) (fun t h K H1 => F176_5_ok (fun y0 y4 y5 h => K (y0, y4, y5) h) Kr Ke0 t h H1) H0
def F176_3 (x0 x4 x5 : Value) (h : H) (Kn : Value → Value → H → Prop) (Kr : H → Prop) : Prop :=
  F176_4 x0 x4 x5 h Kn Kr Kn
theorem F176_3_ok (Kn Kr) (t : T) (h : H) (H0 : F176_3 (t 0) (t 4) (t 5) h Kn Kr) : Wp Tryz.prog 53 (rest 1 (seqL (rest 1 (bodyOf Tryz.f176.body)))) (mkQ (fun t h => Kn (t 0) (t 4) h) (fun t h => Kr  h) ke0) t h :=
  block_ok 0 (by kernel_rfl) (by kernel_rfl) (F176_4_ok Kn Kr Kn t h H0)
def F176_2 (x0 x4 : Value) (h : H) (Kn : Value → Value → H → Prop) (Kr : H → Prop) : Prop :=
  F176_3 x0 x4 (.int .i64 0) h Kn Kr
theorem F176_2_ok (Kn Kr) (t : T) (h : H) (H0 : F176_2 (t 0) (t 4) h Kn Kr) : Wp Tryz.prog 53 (seqL (rest 1 (bodyOf Tryz.f176.body))) (mkQ (fun t h => Kn (t 0) (t 4) h) (fun t h => Kr  h) ke0) t h :=
  awpTo_okF 1 H0 (by kernel_rfl) (fun t h (H1 : F176_3 (t 0) (t 4) (t 5) h Kn Kr) => F176_3_ok Kn Kr t h H1) (by kernel_rfl)
def F176_6 (x0 x4 : Value) (h : H) (Kn : H → Prop) (Kr : H → Prop) : Prop :=
  o_buildSlice Tryz.prog 180 0 [] h fun v41 h => o_nilCheck x0 fun v43 => o_fieldAddr 2 v43 fun v44 => o_load false 1 v44 h fun v45 => o_append 340 2 8 v41 v45 h fun v46 h => o_build Tryz.prog 340 [(0, x4), (1, (.int .u32 1))] fun v48 => o_buildSlice Tryz.prog 180 1 [(0, v48)] h fun v49 h => o_append 340 2 8 v46 v49 h fun v50 h => o_nilCheck x0 fun v51 => o_fieldAddr 2 v51 fun v52 => o_store 1 v52 v50 h fun h => Kn h
theorem F176_6_ok (Kn Kr) (t : T) (h : H) (H0 : F176_6 (t 0) (t 4) h Kn Kr) : Wp Tryz.prog 53 (seqR (rest 1 (bodyOf Tryz.f176.body))) (mkQ (fun t h => Kn  h) (fun t h => Kr  h) ke0) t h :=
  wpEqF H0 (by kernel_rfl)
def F176_1 (x0 x4 : Value) (h : H) (Kn : H → Prop) (Kr : H → Prop) : Prop :=
  F176_2 x0 x4 h (fun y0 y4 h => F176_6 y0 y4 h Kn Kr) Kr
theorem F176_1_ok (Kn Kr) (t : T) (h : H) (H0 : F176_1 (t 0) (t 4) h Kn Kr) : Wp Tryz.prog 53 (rest 1 (bodyOf Tryz.f176.body)) (mkQ (fun t h => Kn  h) (fun t h => Kr  h) ke0) t h :=
  seq_ok (by kernel_rfl) (fun t h H1 => F176_6_ok Kn Kr t h H1) (F176_2_ok (fun y0 y4 h => F176_6 y0 y4 h Kn Kr) Kr t h H0)
def F176_0 (x0 x1 : Value) (h : H) (Kn : H → Prop) (Kr : H → Prop) : Prop :=
  o_bin Tryz.prog .rem 27 x1 (.int .u32 256) fun v8 => o_bin Tryz.prog .sub 27 x1 v8 fun v9 => F176_1 x0 v9 h Kn Kr
theorem F176_0_ok (Kn Kr) (t : T) (h : H) (H0 : F176_0 (t 0) (t 1) h Kn Kr) : Wp Tryz.prog 53 (bodyOf Tryz.f176.body) (mkQ (fun t h => Kn  h) (fun t h => Kr  h) ke0) t h :=
  awpTo_okF 1 H0 (by kernel_rfl) (fun t h (H1 : F176_1 (t 0) (t 4) h Kn Kr) => F176_1_ok Kn Kr t h H1) (by kernel_rfl)
def F176 (x0 x1 : Value) (h : H) (Q : Value → H → Prop) : Prop := F176_0 x0 x1 h (fun h => bif [].all boxV then Q (.tuple #[]) h else False) (fun h => bif [].all boxV then Q (.tuple #[]) h else False)
theorem F176_spec (x0 x1 : Value) (h : H) (Q : Value → H → Prop) (H0 : F176 x0 x1 h Q) : AM.Spec Tryz.prog 176 [x0, x1] h Q :=
  spec_wp mixed (fn := Tryz.f176) Tryz.func176 (c := bodyOf Tryz.f176.body) (rs := []) (N := 53) (by kernel_rfl) (by kernel_rfl) (by kernel_rfl) (by kernel_rfl) (by kernel_rfl) (Nat.le_of_ble_eq_true rfl) (F176_0_ok (fun h => bif [].all boxV then Q (.tuple #[]) h else False) (fun h => bif [].all boxV then Q (.tuple #[]) h else False) (tinit [x0, x1]) h H0) (by kernel_rfl)
/-! #### 178: (*tincture/tinctureref3.Mem).put -/
def F178_8 (x0 x1 x2 x6 x7 x8 : Value) (h : H) (Kn : Value → Value → Value → Value → Value → H → Prop) (Kr : H → Prop) (Ke1 : Value → Value → Value → Value → H → Prop) (Ke0 : H → Prop) : Prop :=
  o_nilCheck x0 fun v27 => o_fieldAddr 1 v27 fun v28 => o_load false 1 v28 h fun v29 => o_bin Tryz.prog .rem 27 x7 (.int .u32 256) fun v32 => o_indexAddr none 1 x2 x6 fun v35 => o_load false 1 v35 h fun v36 => o_indexAddr none 258 v29 x8 fun v37 => o_fieldAddr 2 v37 fun v38 => o_indexAddr (some 256) 1 v38 v32 fun v39 => o_store 1 v39 v36 h fun h => Kn x0 x1 x2 x6 x7 h
theorem F178_8_ok (Kn Kr Ke1 Ke0) (t : T) (h : H) (H0 : F178_8 (t 0) (t 1) (t 2) (t 6) (t 7) (t 8) h Kn Kr Ke1 Ke0) : Wp Tryz.prog 50 (seqL (rest 2 (blkC (seqL (rest 1 (lopC (blkC (rest 1 (bodyOf Tryz.f178.body))))))))) (mkQ (fun t h => Kn (t 0) (t 1) (t 2) (t 6) (t 7) h) (fun t h => Kr  h) (keAdd 1 (fun t h => Ke1 (t 0) (t 1) (t 2) (t 6) h) (keAdd 0 (fun t h => Ke0  h) ke0))) t h :=
  draw_okF (by kernel_rfl) (by kernel_rfl) H0 (by kernel_rfl)
def F178_9 (x0 x1 x2 x6 x7 : Value) (h : H) (Kn : Value → Value → Value → Value → H → Prop) (Kr : H → Prop) (Ke1 : Value → Value → Value → Value → H → Prop) (Ke0 : H → Prop) : Prop :=
  o_bin Tryz.prog .eql 3 x6 (.int .i64 0) fun v41 => o_guard v41 false (fun k5 => o_bin Tryz.prog .rem 27 x7 (.int .u32 256) fun v44 => o_bin Tryz.prog .eql 27 v44 (.int .u32 0) fun v45 => k5 v45 h) (fun v45 h => o_pick v41 (.bool true) v45 fun v46 => o_if v46 (o_call Tryz.prog 176 [x0, x7] h fun v49 h => Kn x0 x1 x2 x6 h) (Kn x0 x1 x2 x6 h)) h
theorem F178_9_ok (Kn Kr Ke1 Ke0) (t : T) (h : H) (H0 : F178_9 (t 0) (t 1) (t 2) (t 6) (t 7) h Kn Kr Ke1 Ke0) : Wp Tryz.prog 50 (seqR (rest 2 (blkC (seqL (rest 1 (lopC (blkC (rest 1 (bodyOf Tryz.f178.body))))))))) (mkQ (fun t h => Kn (t 0) (t 1) (t 2) (t 6) h) (fun t h => Kr  h) (keAdd 1 (fun t h => Ke1 (t 0) (t 1) (t 2) (t 6) h) (keAdd 0 (fun t h => Ke0  h) ke0))) t h :=
  wpEqF H0 (by kernel_rfl)
def F178_7 (x0 x1 x2 x6 x7 x8 : Value) (h : H) (Kn : Value → Value → Value → Value → H → Prop) (Kr : H → Prop) (Ke1 : Value → Value → Value → Value → H → Prop) (Ke0 : H → Prop) : Prop :=
  F178_8 x0 x1 x2 x6 x7 x8 h (fun y0 y1 y2 y6 y7 h => F178_9 y0 y1 y2 y6 y7 h Kn Kr Ke1 Ke0) Kr Ke1 Ke0
theorem F178_7_ok (Kn Kr Ke1 Ke0) (t : T) (h : H) (H0 : F178_7 (t 0) (t 1) (t 2) (t 6) (t 7) (t 8) h Kn Kr Ke1 Ke0) : Wp Tryz.prog 50 (rest 2 (blkC (seqL (rest 1 (lopC (blkC (rest 1 (bodyOf Tryz.f178.body)))))))) (mkQ (fun t h => Kn (t 0) (t 1) (t 2) (t 6) h) (fun t h => Kr  h) (keAdd 1 (fun t h => Ke1 (t 0) (t 1) (t 2) (t 6) h) (keAdd 0 (fun t h => Ke0  h) ke0))) t h :=
  seq_ok (by kernel_rfl) (fun t h H1 => F178_9_ok Kn Kr Ke1 Ke0 t h H1) (F178_8_ok (fun y0 y1 y2 y6 y7 h => F178_9 y0 y1 y2 y6 y7 h Kn Kr Ke1 Ke0) Kr Ke1 Ke0 t h H0)
def F178_6 (x0 x1 x2 x6 : Value) (h : H) (Kn : Value → Value → Value → Value → H → Prop) (Kr : H → Prop) (Ke1 : Value → Value → Value → Value → H → Prop) (Ke0 : H → Prop) : Prop :=
  o_conv .u32 x6 fun v18 => o_bin Tryz.prog .add 27 x1 v18 fun v19 => o_call Tryz.prog 175 [x0, v19] h fun v23 h => o_extract v23 0 fun v24 => o_extract v23 1 fun v25 => F178_7 x0 x1 x2 x6 v19 v24 h Kn Kr Ke1 Ke0
theorem F178_6_ok (Kn Kr Ke1 Ke0) (t : T) (h : H) (H0 : F178_6 (t 0) (t 1) (t 2) (t 6) h Kn Kr Ke1 Ke0) : Wp Tryz.prog 50 (blkC (seqL (rest 1 (lopC (blkC (rest 1 (bodyOf Tryz.f178.body))))))) (mkQ (fun t h => Kn (t 0) (t 1) (t 2) (t 6) h) (fun t h => Kr  h) (keAdd 1 (fun t h => Ke1 (t 0) (t 1) (t 2) (t 6) h) (keAdd 0 (fun t h => Ke0  h) ke0))) t h :=
  awpTo_okF 2 H0 (by kernel_rfl) (fun t h (H1 : F178_7 (t 0) (t 1) (t 2) (t 6) (t 7) (t 8) h Kn Kr Ke1 Ke0) => F178_7_ok Kn Kr Ke1 Ke0 t h H1) (by kernel_rfl)
def F178_5 (x0 x1 x2 x6 : Value) (h : H) (Kn : Value → Value → Value → Value → H → Prop) (Kr : H → Prop) (Ke0 : H → Prop) : Prop :=
  F178_6 x0 x1 x2 x6 h Kn Kr Kn Ke0
theorem F178_5_ok (Kn Kr Ke0) (t : T) (h : H) (H0 : F178_5 (t 0) (t 1) (t 2) (t 6) h Kn Kr Ke0) : Wp Tryz.prog 50 (seqL (rest 1 (lopC (blkC (rest 1 (bodyOf Tryz.f178.body)))))) (mkQ (fun t h => Kn (t 0) (t 1) (t 2) (t 6) h) (fun t h => Kr  h) (keAdd 0 (fun t h => Ke0  h) ke0)) t h :=
  block_ok 1 (by kernel_rfl) (by kernel_rfl) (F178_6_ok Kn Kr Kn Ke0 t h H0)
def F178_10 (x0 x1 x2 x6 : Value) (h : H) (Kn : Value → Value → Value → Value → H → Prop) (Kr : H → Prop) (Ke0 : H → Prop) : Prop :=
  o_bin Tryz.prog .add 3 x6 (.int .i64 1) fun v15 => Kn x0 x1 x2 v15 h
theorem F178_10_ok (Kn Kr Ke0) (t : T) (h : H) (H0 : F178_10 (t 0) (t 1) (t 2) (t 6) h Kn Kr Ke0) : Wp Tryz.prog 50 (seqR (rest 1 (lopC (blkC (rest 1 (bodyOf Tryz.f178.body)))))) (mkQ (fun t h => Kn (t 0) (t 1) (t 2) (t 6) h) (fun t h => Kr  h) (keAdd 0 (fun t h => Ke0  h) ke0)) t h :=
  wpEqF H0 (by kernel_rfl)
def F178_4 (x0 x1 x2 x6 : Value) (h : H) (Kn : Value → Value → Value → Value → H → Prop) (Kr : H → Prop) (Ke0 : H → Prop) : Prop :=
  F178_5 x0 x1 x2 x6 h (fun y0 y1 y2 y6 h => F178_10 y0 y1 y2 y6 h Kn Kr Ke0) Kr Ke0
theorem F178_4_ok (Kn Kr Ke0) (t : T) (h : H) (H0 : F178_4 (t 0) (t 1) (t 2) (t 6) h Kn Kr Ke0) : Wp Tryz.prog 50 (rest 1 (lopC (blkC (rest 1 (bodyOf Tryz.f178.body))))) (mkQ (fun t h => Kn (t 0) (t 1) (t 2) (t 6) h) (fun t h => Kr  h) (keAdd 0 (fun t h => Ke0  h) ke0)) t h :=
  seq_ok (by kernel_rfl) (fun t h H1 => F178_10_ok Kn Kr Ke0 t h H1) (F178_5_ok (fun y0 y1 y2 y6 h => F178_10 y0 y1 y2 y6 h Kn Kr Ke0) Kr Ke0 t h H0)
def F178_3 (x0 x1 x2 x6 : Value) (h : H) (Kn : Value → Value → Value → Value → H → Prop) (Kr : H → Prop) (Ke0 : H → Prop) : Prop :=
  o_lenSl x2 fun v12 => o_bin Tryz.prog .lss 3 x6 v12 fun v13 => o_if v13 (F178_4 x0 x1 x2 x6 h Kn Kr Ke0) (Ke0 h)
theorem F178_3_ok (Kn Kr Ke0) (t : T) (h : H) (H0 : F178_3 (t 0) (t 1) (t 2) (t 6) h Kn Kr Ke0) : Wp Tryz.prog 50 (lopC (blkC (rest 1 (bodyOf Tryz.f178.body)))) (mkQ (fun t h => Kn (t 0) (t 1) (t 2) (t 6) h) (fun t h => Kr  h) (keAdd 0 (fun t h => Ke0  h) ke0)) t h :=
  awpTo_okF 1 H0 (by kernel_rfl) (fun t h (H1 : F178_4 (t 0) (t 1) (t 2) (t 6) h Kn Kr Ke0) => F178_4_ok Kn Kr Ke0 t h H1) (by kernel_rfl)
def F178_2 (x0 x1 x2 x6 : Value) (h : H) (Kn : H → Prop) (Kr : H → Prop) (Ke0 : H → Prop) : Prop :=
  sloop (S := Value × Value × Value × Value) (fun s h K => F178_3 s.1 s.2.1 s.2.2.1 s.2.2.2 h (fun y0 y1 y2 y6 h => K (y0, y1, y2, y6) h) Kr Ke0) (x0, x1, x2, x6) h
theorem F178_2_ok (Kn Kr Ke0) (t : T) (h : H) (H0 : F178_2 (t 0) (t 1) (t 2) (t 6) h Kn Kr Ke0) : Wp Tryz.prog 50 (blkC (rest 1 (bodyOf Tryz.f178.body))) (mkQ (fun t h => Kn  h) (fun t h => Kr  h) (keAdd 0 (fun t h => Ke0  h) ke0)) t h :=
  loop_ok (fun t => (t 0, t 1, t 2, t 6)) (by kernel_rfl) (fun t h K H1 => F178_3_ok (fun y0 y1 y2 y6 h => K (y0, y1, y2, y6) h) Kr Ke0 t h H1) H0
def F178_1 (x0 x1 x2 x6 : Value) (h : H) (Kn : H → Prop) (Kr : H → Prop) : Prop :=
  F178_2 x0 x1 x2 x6 h Kn Kr Kn
theorem F178_1_ok (Kn Kr) (t : T) (h : H) (H0 : F178_1 (t 0) (t 1) (t 2) (t 6) h Kn Kr) : Wp Tryz.prog 50 (rest 1 (bodyOf Tryz.f178.body)) (mkQ (fun t h => Kn  h) (fun t h => Kr  h) ke0) t h :=
  block_ok 0 (by kernel_rfl) (by kernel_rfl) (F178_2_ok Kn Kr Kn t h H0)
def F178_0 (x0 x1 x2 : Value) (h : H) (Kn : H → Prop) (Kr : H → Prop) : Prop :=
  F178_1 x0 x1 x2 (.int .i64 0) h Kn Kr
theorem F178_0_ok (Kn Kr) (t : T) (h : H) (H0 : F178_0 (t 0) (t 1) (t 2) h Kn Kr) : Wp Tryz.prog 50 (bodyOf Tryz.f178.body) (mkQ (fun t h => Kn  h) (fun t h => Kr  h) ke0) t h :=
  awpTo_okF 1 H0 (by kernel_rfl) (fun t h (H1 : F178_1 (t 0) (t 1) (t 2) (t 6) h Kn Kr) => F178_1_ok Kn Kr t h H1) (by kernel_rfl)
def F178 (x0 x1 x2 : Value) (h : H) (Q : Value → H → Prop) : Prop := F178_0 x0 x1 x2 h (fun h => bif [].all boxV then Q (.tuple #[]) h else False) (fun h => bif [].all boxV then Q (.tuple #[]) h else False)
theorem F178_spec (x0 x1 x2 : Value) (h : H) (Q : Value → H → Prop) (H0 : F178 x0 x1 x2 h Q) : AM.Spec Tryz.prog 178 [x0, x1, x2] h Q :=
  spec_wp mixed (fn := Tryz.f178) Tryz.func178 (c := bodyOf Tryz.f178.body) (rs := []) (N := 50) (by kernel_rfl) (by kernel_rfl) (by kernel_rfl) (by kernel_rfl) (by kernel_rfl) (Nat.le_of_ble_eq_true rfl) (F178_0_ok (fun h => bif [].all boxV then Q (.tuple #[]) h else False) (fun h => bif [].all boxV then Q (.tuple #[]) h else False) (tinit [x0, x1, x2]) h H0) (by kernel_rfl)
/-! #### 242: (*tincture/mem.Mem).within -/
def F242_5 (x1 x2 x7 x13 : Value) (h : H) (Kn : Value → Value → Value → Value → H → Prop) (Kr : Value → H → Prop) (Ke0 : Value → H → Prop) : Prop :=
  o_next x13 h fun v14 h => o_extract v14 0 fun v15 => o_if v15 (o_entry x13 h fun v16 => o_extract v16 0 fun v17 => o_bin Tryz.prog .geq 27 v17 x1 fun v20 => o_guard v20 true (fun k11 => o_conv .u64 v17 fun v23 => o_conv .u64 x1 fun v25 => o_bin Tryz.prog .mul 319 x2 (.int .u64 256) fun v27 => o_bin Tryz.prog .add 319 v25 v27 fun v28 => o_bin Tryz.prog .lss 319 v23 v28 fun v29 => k11 v29 h) (fun v29 h => o_pick v20 v29 (.bool false) fun v30 => o_if v30 (o_buildSlice Tryz.prog 28 1 [(0, v17)] h fun v33 h => o_append 27 1 4 x7 v33 h fun v34 h => Kn x1 x2 v34 x13 h) (Kn x1 x2 x7 x13 h)) h) (Ke0 x7 h)
theorem F242_5_ok (Kn Kr Ke0) (t : T) (h : H) (H0 : F242_5 (t 1) (t 2) (t 7) (t 13) h Kn Kr Ke0) : Wp Tryz.prog 36 (lopC (blkC (rest 1 (seqL (rest 2 (bodyOf Tryz.f242.body)))))) (mkQ (fun t h => Kn (t 1) (t 2) (t 7) (t 13) h) (fun t h => Kr (t 6) h) (keAdd 0 (fun t h => Ke0 (t 7) h) ke0)) t h :=
  wpEqF H0 (by kernel_rfl)
def F242_4 (x1 x2 x7 x13 : Value) (h : H) (Kn : Value → H → Prop) (Kr : Value → H → Prop) (Ke0 : Value → H → Prop) : Prop :=
  sloop (S := Value × Value × Value × Value) (fun s h K => F242_5 s.1 s.2.1 s.2.2.1 s.2.2.2 h (fun y1 y2 y7 y13 h => K (y1, y2, y7, y13) h) Kr Ke0) (x1, x2, x7, x13) h
theorem F242_4_ok (Kn Kr Ke0) (t : T) (h : H) (H0 : F242_4 (t 1) (t 2) (t 7) (t 13) h Kn Kr Ke0) : Wp Tryz.prog 36 (blkC (rest 1 (seqL (rest 2 (bodyOf Tryz.f242.body))))) (mkQ (fun t h => Kn (t 7) h) (fun t h => Kr (t 6) h) (keAdd 0 (fun t h => Ke0 (t 7) h) ke0)) t h :=
  loop_ok (fun t => (t 1, t 2, t 7, t 13)) (by kernel_rfl) (fun t h K H1 => F242_5_ok (fun y1 y2 y7 y13 h => K (y1, y2, y7, y13) h) Kr Ke0 t h H1) H0
def F242_3 (x1 x2 x7 x13 : Value) (h : H) (Kn : Value → H → Prop) (Kr : Value → H → Prop) : Prop :=
  F242_4 x1 x2 x7 x13 h Kn Kr Kn
theorem F242_3_ok (Kn Kr) (t : T) (h : H) (H0 : F242_3 (t 1) (t 2) (t 7) (t 13) h Kn Kr) : Wp Tryz.prog 36 (rest 1 (seqL (rest 2 (bodyOf Tryz.f242.body)))) (mkQ (fun t h => Kn (t 7) h) (fun t h => Kr (t 6) h) ke0) t h :=
  block_ok 0 (by kernel_rfl) (by kernel_rfl) (F242_4_ok Kn Kr Kn t h H0)
def F242_2 (x0 x1 x2 x7 : Value) (h : H) (Kn : Value → H → Prop) (Kr : Value → H → Prop) : Prop :=
  o_nilCheck x0 fun v10 => o_fieldAddr 1 v10 fun v11 => o_load false 1 v11 h fun v12 => o_range v12 h fun v13 h => F242_3 x1 x2 x7 v13 h Kn Kr
theorem F242_2_ok (Kn Kr) (t : T) (h : H) (H0 : F242_2 (t 0) (t 1) (t 2) (t 7) h Kn Kr) : Wp Tryz.prog 36 (seqL (rest 2 (bodyOf Tryz.f242.body))) (mkQ (fun t h => Kn (t 7) h) (fun t h => Kr (t 6) h) ke0) t h :=
  awpTo_okF 1 H0 (by kernel_rfl) (fun t h (H1 : F242_3 (t 1) (t 2) (t 7) (t 13) h Kn Kr) => F242_3_ok Kn Kr t h H1) (by kernel_rfl)
def F242_6 (x7 : Value) (h : H) (Kn : Value → H → Prop) (Kr : Value → H → Prop) : Prop :=
  Kr x7 h
theorem F242_6_ok (Kn Kr) (t : T) (h : H) (H0 : F242_6 (t 7) h Kn Kr) : Wp Tryz.prog 36 (seqR (rest 2 (bodyOf Tryz.f242.body))) (mkQ (fun t h => Kn (t 6) h) (fun t h => Kr (t 6) h) ke0) t h :=
  wpEqF H0 (by kernel_rfl)
def F242_1 (x0 x1 x2 x7 : Value) (h : H) (Kn : Value → H → Prop) (Kr : Value → H → Prop) : Prop :=
  F242_2 x0 x1 x2 x7 h (fun y7 h => F242_6 y7 h Kn Kr) Kr
theorem F242_1_ok (Kn Kr) (t : T) (h : H) (H0 : F242_1 (t 0) (t 1) (t 2) (t 7) h Kn Kr) : Wp Tryz.prog 36 (rest 2 (bodyOf Tryz.f242.body)) (mkQ (fun t h => Kn (t 6) h) (fun t h => Kr (t 6) h) ke0) t h :=
  seq_ok (by kernel_rfl) (fun t h H1 => F242_6_ok Kn Kr t h H1) (F242_2_ok (fun y7 h => F242_6 y7 h Kn Kr) Kr t h H0)
def F242_0 (x0 x1 x2 : Value) (h : H) (Kn : Value → H → Prop) (Kr : Value → H → Prop) : Prop :=
  F242_1 x0 x1 x2 (.slice none 0 0) h Kn Kr
theorem F242_0_ok (Kn Kr) (t : T) (h : H) (H0 : F242_0 (t 0) (t 1) (t 2) h Kn Kr) : Wp Tryz.prog 36 (bodyOf Tryz.f242.body) (mkQ (fun t h => Kn (t 6) h) (fun t h => Kr (t 6) h) ke0) t h :=
  awpTo_okF 2 H0 (by kernel_rfl) (fun t h (H1 : F242_1 (t 0) (t 1) (t 2) (t 7) h Kn Kr) => F242_1_ok Kn Kr t h H1) (by kernel_rfl)
def F242 (x0 x1 x2 : Value) (h : H) (Q : Value → H → Prop) : Prop := F242_0 x0 x1 x2 h (fun v h => Q v h) (fun v h => Q v h)
theorem F242_spec (x0 x1 x2 : Value) (h : H) (Q : Value → H → Prop) (H0 : F242 x0 x1 x2 h Q) : AM.Spec Tryz.prog 242 [x0, x1, x2] h Q :=
  spec_wp mixed (fn := Tryz.f242) Tryz.func242 (c := bodyOf Tryz.f242.body) (rs := [6]) (N := 36) (by kernel_rfl) (by kernel_rfl) (by kernel_rfl) (by kernel_rfl) (by kernel_rfl) (Nat.le_of_ble_eq_true rfl) (F242_0_ok (fun v h => Q v h) (fun v h => Q v h) (tinit [x0, x1, x2]) h H0) (by kernel_rfl)
/-! #### 243: (*tincture/mem.Mem).write -/
def F243_10 (x0 x1 x11 x12 x13 x27 x28 x29 : Value) (h : H) (Kn : Value → Value → Value → Value → Value → Value → Value → H → Prop) (Kr : Value → H → Prop) (Ke2 : Value → Value → Value → Value → Value → H → Prop) (Ke1 : H → Prop) : Prop :=
  o_nilCheck x0 fun v39 => o_fieldAddr 1 v39 fun v40 => o_load false 1 v40 h fun v41 => o_dcall D0 109 [x13] h fun v43 h => o_lookup (.int .u32) (.pointer none) v41 v43 false h fun v44 => o_bin Tryz.prog .rem 27 x13 (.int .u32 256) fun v46 => o_nilCheck v44 fun v48 => o_fieldAddr 0 v48 fun v49 => o_indexAddr (some 256) 1 v49 v46 fun v50 => o_store 1 v50 x12 h fun h => Kn x0 x1 x11 x13 x27 x28 x29 h
theorem F243_10_ok (Kn Kr Ke2 Ke1) (t : T) (h : H) (H0 : F243_10 (t 0) (t 1) (t 11) (t 12) (t 13) (t 27) (t 28) (t 29) h Kn Kr Ke2 Ke1) : Wp Tryz.prog 67 (seqL (rest 2 (blkC (seqL (rest 2 (lopC (blkC (rest 1 (seqL (rest 2 (bodyOf Tryz.f243.body))))))))))) (mkQ (fun t h => Kn (t 0) (t 1) (t 11) (t 13) (t 27) (t 28) (t 29) h) (fun t h => Kr (t 10) h) (keAdd 2 (fun t h => Ke2 (t 0) (t 1) (t 27) (t 28) (t 29) h) (keAdd 1 (fun t h => Ke1  h) ke0))) t h :=
  drawD_ok dOk (by kernel_rfl) (by kernel_rfl) H0 (by kernel_rfl)
def F243_13 (x0 x1 x13 x27 x28 x29 : Value) (h : H) (Kn : Value → Value → Value → Value → Value → H → Prop) (Kr : Value → H → Prop) (Ke2 : Value → Value → Value → Value → Value → H → Prop) (Ke1 : H → Prop) : Prop :=
  o_nilCheck x0 fun v59 => o_fieldAddr 2 v59 fun v60 => o_load false 1 v60 h fun v61 => o_dcall D0 109 [x13] h fun v63 h => o_lookup (.int .u32) (.int .u32 0) v61 v63 false h fun v64 => o_bin Tryz.prog .add 27 v64 (.int .u32 1) fun v65 => o_mapUpdate (.int .u32) v61 v63 v65 h fun h => Kn x0 x1 x27 x28 x29 h
theorem F243_13_ok (Kn Kr Ke2 Ke1) (t : T) (h : H) (H0 : F243_13 (t 0) (t 1) (t 13) (t 27) (t 28) (t 29) h Kn Kr Ke2 Ke1) : Wp Tryz.prog 67 (cndX (rest 1 (seqR (rest 2 (blkC (seqL (rest 2 (lopC (blkC (rest 1 (seqL (rest 2 (bodyOf Tryz.f243.body))))))))))))) (mkQ (fun t h => Kn (t 0) (t 1) (t 27) (t 28) (t 29) h) (fun t h => Kr (t 10) h) (keAdd 2 (fun t h => Ke2 (t 0) (t 1) (t 27) (t 28) (t 29) h) (keAdd 1 (fun t h => Ke1  h) ke0))) t h :=
  drawD_ok dOk (by kernel_rfl) (by kernel_rfl) H0 (by kernel_rfl)
def F243_14 (x0 x1 x27 x28 x29 : Value) (h : H) (Kn : Value → Value → Value → Value → Value → H → Prop) (Kr : Value → H → Prop) (Ke2 : Value → Value → Value → Value → Value → H → Prop) (Ke1 : H → Prop) : Prop :=
  Kn x0 x1 x27 x28 x29 h
theorem F243_14_ok (Kn Kr Ke2 Ke1) (t : T) (h : H) (H0 : F243_14 (t 0) (t 1) (t 27) (t 28) (t 29) h Kn Kr Ke2 Ke1) : Wp Tryz.prog 67 (cndY (rest 1 (seqR (rest 2 (blkC (seqL (rest 2 (lopC (blkC (rest 1 (seqL (rest 2 (bodyOf Tryz.f243.body))))))))))))) (mkQ (fun t h => Kn (t 0) (t 1) (t 27) (t 28) (t 29) h) (fun t h => Kr (t 10) h) (keAdd 2 (fun t h => Ke2 (t 0) (t 1) (t 27) (t 28) (t 29) h) (keAdd 1 (fun t h => Ke1  h) ke0))) t h :=
  wpEqF H0 (by kernel_rfl)
def F243_12 (x0 x1 x13 x27 x28 x29 x57 : Value) (h : H) (Kn : Value → Value → Value → Value → Value → H → Prop) (Kr : Value → H → Prop) (Ke2 : Value → Value → Value → Value → Value → H → Prop) (Ke1 : H → Prop) : Prop :=
  o_if x57 (F243_13 x0 x1 x13 x27 x28 x29 h Kn Kr Ke2 Ke1) (F243_14 x0 x1 x27 x28 x29 h Kn Kr Ke2 Ke1)
theorem F243_12_ok (Kn Kr Ke2 Ke1) (t : T) (h : H) (H0 : F243_12 (t 0) (t 1) (t 13) (t 27) (t 28) (t 29) (t 57) h Kn Kr Ke2 Ke1) : Wp Tryz.prog 67 (rest 1 (seqR (rest 2 (blkC (seqL (rest 2 (lopC (blkC (rest 1 (seqL (rest 2 (bodyOf Tryz.f243.body)))))))))))) (mkQ (fun t h => Kn (t 0) (t 1) (t 27) (t 28) (t 29) h) (fun t h => Kr (t 10) h) (keAdd 2 (fun t h => Ke2 (t 0) (t 1) (t 27) (t 28) (t 29) h) (keAdd 1 (fun t h => Ke1  h) ke0))) t h :=
  cond_ok H0 (by kernel_rfl) (F243_13_ok Kn Kr Ke2 Ke1 t h) (F243_14_ok Kn Kr Ke2 Ke1 t h) (by kernel_rfl)
def F243_11 (x0 x1 x11 x13 x27 x28 x29 : Value) (h : H) (Kn : Value → Value → Value → Value → Value → H → Prop) (Kr : Value → H → Prop) (Ke2 : Value → Value → Value → Value → Value → H → Prop) (Ke1 : H → Prop) : Prop :=
  o_bin Tryz.prog .eql 3 x11 (.int .i64 0) fun v52 => o_guard v52 false (fun k5 => o_bin Tryz.prog .rem 27 x13 (.int .u32 256) fun v55 => o_bin Tryz.prog .eql 27 v55 (.int .u32 0) fun v56 => k5 v56 h) (fun v56 h => o_pick v52 (.bool true) v56 fun v57 => F243_12 x0 x1 x13 x27 x28 x29 v57 h Kn Kr Ke2 Ke1) h
theorem F243_11_ok (Kn Kr Ke2 Ke1) (t : T) (h : H) (H0 : F243_11 (t 0) (t 1) (t 11) (t 13) (t 27) (t 28) (t 29) h Kn Kr Ke2 Ke1) : Wp Tryz.prog 67 (seqR (rest 2 (blkC (seqL (rest 2 (lopC (blkC (rest 1 (seqL (rest 2 (bodyOf Tryz.f243.body))))))))))) (mkQ (fun t h => Kn (t 0) (t 1) (t 27) (t 28) (t 29) h) (fun t h => Kr (t 10) h) (keAdd 2 (fun t h => Ke2 (t 0) (t 1) (t 27) (t 28) (t 29) h) (keAdd 1 (fun t h => Ke1  h) ke0))) t h :=
  awpTo_okF 1 H0 (by kernel_rfl) (fun t h (H1 : F243_12 (t 0) (t 1) (t 13) (t 27) (t 28) (t 29) (t 57) h Kn Kr Ke2 Ke1) => F243_12_ok Kn Kr Ke2 Ke1 t h H1) (by kernel_rfl)
def F243_9 (x0 x1 x11 x12 x13 x27 x28 x29 : Value) (h : H) (Kn : Value → Value → Value → Value → Value → H → Prop) (Kr : Value → H → Prop) (Ke2 : Value → Value → Value → Value → Value → H → Prop) (Ke1 : H → Prop) : Prop :=
  F243_10 x0 x1 x11 x12 x13 x27 x28 x29 h (fun y0 y1 y11 y13 y27 y28 y29 h => F243_11 y0 y1 y11 y13 y27 y28 y29 h Kn Kr Ke2 Ke1) Kr Ke2 Ke1
theorem F243_9_ok (Kn Kr Ke2 Ke1) (t : T) (h : H) (H0 : F243_9 (t 0) (t 1) (t 11) (t 12) (t 13) (t 27) (t 28) (t 29) h Kn Kr Ke2 Ke1) : Wp Tryz.prog 67 (rest 2 (blkC (seqL (rest 2 (lopC (blkC (rest 1 (seqL (rest 2 (bodyOf Tryz.f243.body)))))))))) (mkQ (fun t h => Kn (t 0) (t 1) (t 27) (t 28) (t 29) h) (fun t h => Kr (t 10) h) (keAdd 2 (fun t h => Ke2 (t 0) (t 1) (t 27) (t 28) (t 29) h) (keAdd 1 (fun t h => Ke1  h) ke0))) t h :=
  seq_ok (by kernel_rfl) (fun t h H1 => F243_11_ok Kn Kr Ke2 Ke1 t h H1) (F243_10_ok (fun y0 y1 y11 y13 y27 y28 y29 h => F243_11 y0 y1 y11 y13 y27 y28 y29 h Kn Kr Ke2 Ke1) Kr Ke2 Ke1 t h H0)
def F243_8 (x0 x1 x27 x28 x29 : Value) (h : H) (Kn : Value → Value → Value → Value → Value → H → Prop) (Kr : Value → H → Prop) (Ke2 : Value → Value → Value → Value → Value → H → Prop) (Ke1 : H → Prop) : Prop :=
  o_indexAddr none 1 x27 x29 fun v32 => o_load false 1 v32 h fun v33 => o_conv .u32 x29 fun v36 => o_bin Tryz.prog .add 27 x1 v36 fun v37 => F243_9 x0 x1 x29 v33 v37 x27 x28 x29 h Kn Kr Ke2 Ke1
theorem F243_8_ok (Kn Kr Ke2 Ke1) (t : T) (h : H) (H0 : F243_8 (t 0) (t 1) (t 27) (t 28) (t 29) h Kn Kr Ke2 Ke1) : Wp Tryz.prog 67 (blkC (seqL (rest 2 (lopC (blkC (rest 1 (seqL (rest 2 (bodyOf Tryz.f243.body))))))))) (mkQ (fun t h => Kn (t 0) (t 1) (t 27) (t 28) (t 29) h) (fun t h => Kr (t 10) h) (keAdd 2 (fun t h => Ke2 (t 0) (t 1) (t 27) (t 28) (t 29) h) (keAdd 1 (fun t h => Ke1  h) ke0))) t h :=
  awpTo_okF 2 H0 (by kernel_rfl) (fun t h (H1 : F243_9 (t 0) (t 1) (t 11) (t 12) (t 13) (t 27) (t 28) (t 29) h Kn Kr Ke2 Ke1) => F243_9_ok Kn Kr Ke2 Ke1 t h H1) (by kernel_rfl)
def F243_7 (x0 x1 x27 x28 x29 : Value) (h : H) (Kn : Value → Value → Value → Value → Value → H → Prop) (Kr : Value → H → Prop) (Ke1 : H → Prop) : Prop :=
  F243_8 x0 x1 x27 x28 x29 h Kn Kr Kn Ke1
theorem F243_7_ok (Kn Kr Ke1) (t : T) (h : H) (H0 : F243_7 (t 0) (t 1) (t 27) (t 28) (t 29) h Kn Kr Ke1) : Wp Tryz.prog 67 (seqL (rest 2 (lopC (blkC (rest 1 (seqL (rest 2 (bodyOf Tryz.f243.body)))))))) (mkQ (fun t h => Kn (t 0) (t 1) (t 27) (t 28) (t 29) h) (fun t h => Kr (t 10) h) (keAdd 1 (fun t h => Ke1  h) ke0)) t h :=
  block_ok 2 (by kernel_rfl) (by kernel_rfl) (F243_8_ok Kn Kr Kn Ke1 t h H0)
def F243_15 (x0 x1 x27 x28 x29 : Value) (h : H) (Kn : Value → Value → Value → Value → Value → H → Prop) (Kr : Value → H → Prop) (Ke1 : H → Prop) : Prop :=
  o_bin Tryz.prog .add 3 x29 (.int .i64 1) fun v66 => Kn x0 x1 x27 x28 v66 h
theorem F243_15_ok (Kn Kr Ke1) (t : T) (h : H) (H0 : F243_15 (t 0) (t 1) (t 27) (t 28) (t 29) h Kn Kr Ke1) : Wp Tryz.prog 67 (seqR (rest 2 (lopC (blkC (rest 1 (seqL (rest 2 (bodyOf Tryz.f243.body)))))))) (mkQ (fun t h => Kn (t 0) (t 1) (t 27) (t 28) (t 29) h) (fun t h => Kr (t 10) h) (keAdd 1 (fun t h => Ke1  h) ke0)) t h :=
  wpEqF H0 (by kernel_rfl)
def F243_6 (x0 x1 x27 x28 x29 : Value) (h : H) (Kn : Value → Value → Value → Value → Value → H → Prop) (Kr : Value → H → Prop) (Ke1 : H → Prop) : Prop :=
  F243_7 x0 x1 x27 x28 x29 h (fun y0 y1 y27 y28 y29 h => F243_15 y0 y1 y27 y28 y29 h Kn Kr Ke1) Kr Ke1
theorem F243_6_ok (Kn Kr Ke1) (t : T) (h : H) (H0 : F243_6 (t 0) (t 1) (t 27) (t 28) (t 29) h Kn Kr Ke1) : Wp Tryz.prog 67 (rest 2 (lopC (blkC (rest 1 (seqL (rest 2 (bodyOf Tryz.f243.body))))))) (mkQ (fun t h => Kn (t 0) (t 1) (t 27) (t 28) (t 29) h) (fun t h => Kr (t 10) h) (keAdd 1 (fun t h => Ke1  h) ke0)) t h :=
  seq_ok (by kernel_rfl) (fun t h H1 => F243_15_ok Kn Kr Ke1 t h H1) (F243_7_ok (fun y0 y1 y27 y28 y29 h => F243_15 y0 y1 y27 y28 y29 h Kn Kr Ke1) Kr Ke1 t h H0)
def F243_5 (x0 x1 x27 x28 x29 : Value) (h : H) (Kn : Value → Value → Value → Value → Value → H → Prop) (Kr : Value → H → Prop) (Ke1 : H → Prop) : Prop :=
  o_bin Tryz.prog .lss 3 x29 x28 fun v30 => o_if v30 (F243_6 x0 x1 x27 x28 x29 h Kn Kr Ke1) (Ke1 h)
theorem F243_5_ok (Kn Kr Ke1) (t : T) (h : H) (H0 : F243_5 (t 0) (t 1) (t 27) (t 28) (t 29) h Kn Kr Ke1) : Wp Tryz.prog 67 (lopC (blkC (rest 1 (seqL (rest 2 (bodyOf Tryz.f243.body)))))) (mkQ (fun t h => Kn (t 0) (t 1) (t 27) (t 28) (t 29) h) (fun t h => Kr (t 10) h) (keAdd 1 (fun t h => Ke1  h) ke0)) t h :=
  awpTo_okF 2 H0 (by kernel_rfl) (fun t h (H1 : F243_6 (t 0) (t 1) (t 27) (t 28) (t 29) h Kn Kr Ke1) => F243_6_ok Kn Kr Ke1 t h H1) (by kernel_rfl)
def F243_4 (x0 x1 x27 x28 x29 : Value) (h : H) (Kn : H → Prop) (Kr : Value → H → Prop) (Ke1 : H → Prop) : Prop :=
  sloop (S := Value × Value × Value × Value × Value) (fun s h K => F243_5 s.1 s.2.1 s.2.2.1 s.2.2.2.1 s.2.2.2.2 h (fun y0 y1 y27 y28 y29 h => K (y0, y1, y27, y28, y29) h) Kr Ke1) (x0, x1, x27, x28, x29) h
theorem F243_4_ok (Kn Kr Ke1) (t : T) (h : H) (H0 : F243_4 (t 0) (t 1) (t 27) (t 28) (t 29) h Kn Kr Ke1) : Wp Tryz.prog 67 (blkC (rest 1 (seqL (rest 2 (bodyOf Tryz.f243.body))))) (mkQ (fun t h => Kn  h) (fun t h => Kr (t 10) h) (keAdd 1 (fun t h => Ke1  h) ke0)) t h :=
  loop_ok (fun t => (t 0, t 1, t 27, t 28, t 29)) (by kernel_rfl) (fun t h K H1 => F243_5_ok (fun y0 y1 y27 y28 y29 h => K (y0, y1, y27, y28, y29) h) Kr Ke1 t h H1) H0
def F243_3 (x0 x1 x27 x28 x29 : Value) (h : H) (Kn : H → Prop) (Kr : Value → H → Prop) : Prop :=
  F243_4 x0 x1 x27 x28 x29 h Kn Kr Kn
theorem F243_3_ok (Kn Kr) (t : T) (h : H) (H0 : F243_3 (t 0) (t 1) (t 27) (t 28) (t 29) h Kn Kr) : Wp Tryz.prog 67 (rest 1 (seqL (rest 2 (bodyOf Tryz.f243.body)))) (mkQ (fun t h => Kn  h) (fun t h => Kr (t 10) h) ke0) t h :=
  block_ok 1 (by kernel_rfl) (by kernel_rfl) (F243_4_ok Kn Kr Kn t h H0)
def F243_2 (x0 x1 x2 : Value) (h : H) (Kn : H → Prop) (Kr : Value → H → Prop) : Prop :=
  o_lenSl x2 fun v28 => F243_3 x0 x1 x2 v28 (.int .i64 0) h Kn Kr
theorem F243_2_ok (Kn Kr) (t : T) (h : H) (H0 : F243_2 (t 0) (t 1) (t 2) h Kn Kr) : Wp Tryz.prog 67 (seqL (rest 2 (bodyOf Tryz.f243.body))) (mkQ (fun t h => Kn  h) (fun t h => Kr (t 10) h) ke0) t h :=
  awpTo_okF 1 H0 (by kernel_rfl) (fun t h (H1 : F243_3 (t 0) (t 1) (t 27) (t 28) (t 29) h Kn Kr) => F243_3_ok Kn Kr t h H1) (by kernel_rfl)
def F243_16 (h : H) (Kn : Value → H → Prop) (Kr : Value → H → Prop) : Prop :=
  Kr (.int .i64 0) h
theorem F243_16_ok (Kn Kr) (t : T) (h : H) (H0 : F243_16  h Kn Kr) : Wp Tryz.prog 67 (seqR (rest 2 (bodyOf Tryz.f243.body))) (mkQ (fun t h => Kn (t 10) h) (fun t h => Kr (t 10) h) ke0) t h :=
  wpEqF H0 (by kernel_rfl)
def F243_1 (x0 x1 x2 : Value) (h : H) (Kn : Value → H → Prop) (Kr : Value → H → Prop) : Prop :=
  F243_2 x0 x1 x2 h (fun  h => F243_16  h Kn Kr) Kr
theorem F243_1_ok (Kn Kr) (t : T) (h : H) (H0 : F243_1 (t 0) (t 1) (t 2) h Kn Kr) : Wp Tryz.prog 67 (rest 2 (bodyOf Tryz.f243.body)) (mkQ (fun t h => Kn (t 10) h) (fun t h => Kr (t 10) h) ke0) t h :=
  seq_ok (by kernel_rfl) (fun t h H1 => F243_16_ok Kn Kr t h H1) (F243_2_ok (fun  h => F243_16  h Kn Kr) Kr t h H0)
def F243_0 (x0 x1 x2 x3 x4 : Value) (h : H) (Kn : Value → H → Prop) (Kr : Value → H → Prop) : Prop :=
  o_lenSl x2 fun v16 => o_bin Tryz.prog .gtr 3 v16 x3 fun v18 => o_if v18 (Kr (.int .i64 1) h) (o_lenSl x2 fun v23 => o_call Tryz.prog 276 [x0, x1, v23, x4] h fun v25 h => o_un Tryz.prog .not v25 fun v26 => o_if v26 (Kr (.int .i64 8) h) (F243_1 x0 x1 x2 h Kn Kr))
theorem F243_0_ok (Kn Kr) (t : T) (h : H) (H0 : F243_0 (t 0) (t 1) (t 2) (t 3) (t 4) h Kn Kr) : Wp Tryz.prog 67 (bodyOf Tryz.f243.body) (mkQ (fun t h => Kn (t 10) h) (fun t h => Kr (t 10) h) ke0) t h :=
  awpTo_okF 2 H0 (by kernel_rfl) (fun t h (H1 : F243_1 (t 0) (t 1) (t 2) h Kn Kr) => F243_1_ok Kn Kr t h H1) (by kernel_rfl)
def F243 (x0 x1 x2 x3 x4 : Value) (h : H) (Q : Value → H → Prop) : Prop := F243_0 x0 x1 x2 x3 x4 h (fun v h => Q v h) (fun v h => Q v h)
theorem F243_spec (x0 x1 x2 x3 x4 : Value) (h : H) (Q : Value → H → Prop) (H0 : F243 x0 x1 x2 x3 x4 h Q) : AM.Spec Tryz.prog 243 [x0, x1, x2, x3, x4] h Q :=
  spec_wp mixed (fn := Tryz.f243) Tryz.func243 (c := bodyOf Tryz.f243.body) (rs := [10]) (N := 67) (by kernel_rfl) (by kernel_rfl) (by kernel_rfl) (by kernel_rfl) (by kernel_rfl) (Nat.le_of_ble_eq_true rfl) (F243_0_ok (fun v h => Q v h) (fun v h => Q v h) (tinit [x0, x1, x2, x3, x4]) h H0) (by kernel_rfl)
end Go.Proofs.YtjdhldfeflmneaaGreat
