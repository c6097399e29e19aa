/-
  Functions of the program, taken apart over the abstract memory: each piece of the loaded code as a proposition; printed by a program (gen.py).
-/
import Derived.Test.YtcohcmlidmaaoaaGreatK1
import Derived.Test.YtcohcmlidmaaoaaGreatM4
import Derived.KernelRfl
set_option linter.unusedVariables false
set_option linter.unusedSimpArgs false
set_option maxRecDepth 100000
namespace Go.Proofs.YtcohcmlidmaaoaaGreat
open Go.Proofs.YtcohcmlidmaaoaaGreat.AM
/-! #### 53: (*tincture/mem.Mem).Gen -/
def F53_2 (x0 x1 : Value) (h : H) (Kn : Value → H → Prop) (Kr : Value → H → Prop) : Prop :=
  o_nilCheck x0 fun v6 => o_fieldAddr 2 v6 fun v7 => o_load false 1 v7 h fun v8 => o_dcall D0 87 [x1] h fun v10 h => o_lookup (.int .u32) (.int .u32 0) v8 v10 false h fun v11 => Kn v11 h
theorem F53_2_ok (Kn Kr) (t : T) (h : H) (H0 : F53_2 (t 0) (t 1) h Kn Kr) : Wp Tryz.prog 12 (seqL (rest 1 (bodyOf Tryz.f53.body))) (mkQ (fun t h => Kn (t 4) h) (fun t h => Kr (t 4) h) ke0) t h :=
  drawD_ok dOk (by kernel_rfl) (by kernel_rfl) H0 (by kernel_rfl)
def F53_3 (x4 : Value) (h : H) (Kn : Value → H → Prop) (Kr : Value → H → Prop) : Prop :=
  Kr x4 h
theorem F53_3_ok (Kn Kr) (t : T) (h : H) (H0 : F53_3 (t 4) h Kn Kr) : Wp Tryz.prog 12 (seqR (rest 1 (bodyOf Tryz.f53.body))) (mkQ (fun t h => Kn (t 4) h) (fun t h => Kr (t 4) h) ke0) t h :=
  wpEqF H0 (by kernel_rfl)
def F53_1 (x0 x1 : Value) (h : H) (Kn : Value → H → Prop) (Kr : Value → H → Prop) : Prop :=
  F53_2 x0 x1 h (fun y4 h => F53_3 y4 h Kn Kr) Kr
theorem F53_1_ok (Kn Kr) (t : T) (h : H) (H0 : F53_1 (t 0) (t 1) h Kn Kr) : Wp Tryz.prog 12 (rest 1 (bodyOf Tryz.f53.body)) (mkQ (fun t h => Kn (t 4) h) (fun t h => Kr (t 4) h) ke0) t h :=
  seq_ok (by kernel_rfl) (fun t h H1 => F53_3_ok Kn Kr t h H1) (F53_2_ok (fun y4 h => F53_3 y4 h Kn Kr) Kr t h H0)
def F53_0 (x0 x1 : Value) (h : H) (Kn : Value → H → Prop) (Kr : Value → H → Prop) : Prop :=
  F53_1 x0 x1 h Kn Kr
theorem F53_0_ok (Kn Kr) (t : T) (h : H) (H0 : F53_0 (t 0) (t 1) h Kn Kr) : Wp Tryz.prog 12 (bodyOf Tryz.f53.body) (mkQ (fun t h => Kn (t 4) h) (fun t h => Kr (t 4) h) ke0) t h :=
  awpTo_okF 1 H0 (by kernel_rfl) (fun t h (H1 : F53_1 (t 0) (t 1) h Kn Kr) => F53_1_ok Kn Kr t h H1) (by kernel_rfl)
def F53 (x0 x1 : Value) (h : H) (Q : Value → H → Prop) : Prop := F53_0 x0 x1 h (fun v h => Q v h) (fun v h => Q v h)
theorem F53_spec (x0 x1 : Value) (h : H) (Q : Value → H → Prop) (H0 : F53 x0 x1 h Q) : AM.Spec Tryz.prog 53 [x0, x1] h Q :=
  spec_wp mixed (fn := Tryz.f53) Tryz.func53 (c := bodyOf Tryz.f53.body) (rs := [4]) (N := 12) (by kernel_rfl) (by kernel_rfl) (by kernel_rfl) (by kernel_rfl) (by kernel_rfl) (Nat.le_of_ble_eq_true rfl) (F53_0_ok (fun v h => Q v h) (fun v h => Q v h) (tinit [x0, x1]) h H0) (by kernel_rfl)
/-! #### 98: (*tincture/mem.Mem).look -/
def F98_2 (x0 x1 x3 : Value) (h : H) (Kn : Value → Value → H → Prop) (Kr : Value → Value → H → Prop) : Prop :=
  o_nilCheck x0 fun v29 => o_fieldAddr 1 v29 fun v30 => o_load false 1 v30 h fun v31 => o_dcall D0 87 [x1] h fun v33 h => o_lookup (.int .u32) (.pointer none) v31 v33 false h fun v34 => Kn x3 v34 h
theorem F98_2_ok (Kn Kr) (t : T) (h : H) (H0 : F98_2 (t 0) (t 1) (t 3) h Kn Kr) : Wp Tryz.prog 48 (seqL (rest 2 (bodyOf Tryz.f98.body))) (mkQ (fun t h => Kn (t 3) (t 10) h) (fun t h => Kr (t 8) (t 9) h) ke0) t h :=
  drawD_ok dOk (by kernel_rfl) (by kernel_rfl) H0 (by kernel_rfl)
def F98_3 (x3 x10 : Value) (h : H) (Kn : Value → Value → H → Prop) (Kr : Value → Value → H → Prop) : Prop :=
  o_bin Tryz.prog .eql 231 x10 (.pointer none) fun v37 => o_if v37 (Kr (.pointer none) (.int .i64 1) h) (o_nilCheck x10 fun v40 => o_fieldAddr 256 v40 fun v41 => o_load false 1 v41 h fun v42 => o_bin Tryz.prog .and 3 v42 x3 fun v44 => o_bin Tryz.prog .neq 3 v44 x3 fun v46 => o_if v46 (Kr (.pointer none) (.int .i64 2) h) (Kr x10 (.int .i64 0) h))
theorem F98_3_ok (Kn Kr) (t : T) (h : H) (H0 : F98_3 (t 3) (t 10) h Kn Kr) : Wp Tryz.prog 48 (seqR (rest 2 (bodyOf Tryz.f98.body))) (mkQ (fun t h => Kn (t 8) (t 9) h) (fun t h => Kr (t 8) (t 9) h) ke0) t h :=
  wpEqF H0 (by kernel_rfl)
def F98_1 (x0 x1 x3 : Value) (h : H) (Kn : Value → Value → H → Prop) (Kr : Value → Value → H → Prop) : Prop :=
  F98_2 x0 x1 x3 h (fun y3 y10 h => F98_3 y3 y10 h Kn Kr) Kr
theorem F98_1_ok (Kn Kr) (t : T) (h : H) (H0 : F98_1 (t 0) (t 1) (t 3) h Kn Kr) : Wp Tryz.prog 48 (rest 2 (bodyOf Tryz.f98.body)) (mkQ (fun t h => Kn (t 8) (t 9) h) (fun t h => Kr (t 8) (t 9) h) ke0) t h :=
  seq_ok (by kernel_rfl) (fun t h H1 => F98_3_ok Kn Kr t h H1) (F98_2_ok (fun y3 y10 h => F98_3 y3 y10 h Kn Kr) Kr t h H0)
def F98_0 (x0 x1 x2 x3 : Value) (h : H) (Kn : Value → Value → H → Prop) (Kr : Value → Value → H → Prop) : Prop :=
  o_bin Tryz.prog .neq 3 x2 (.int .i64 1) fun v12 => o_guard v12 true (fun k4 => o_bin Tryz.prog .neq 3 x2 (.int .i64 2) fun v15 => k4 v15 h) (fun v15 h => o_pick v12 v15 (.bool false) fun v16 => o_guard v16 true (fun k8 => o_bin Tryz.prog .neq 3 x2 (.int .i64 4) fun v19 => k8 v19 h) (fun v19 h => o_pick v16 v19 (.bool false) fun v20 => o_guard v20 false (fun k15 => o_conv .u32 x2 fun v24 => o_bin Tryz.prog .rem 27 x1 v24 fun v25 => o_bin Tryz.prog .neq 27 v25 (.int .u32 0) fun v26 => k15 v26 h) (fun v26 h => o_pick v20 (.bool true) v26 fun v27 => o_if v27 (Kr (.pointer none) (.int .i64 3) h) (F98_1 x0 x1 x3 h Kn Kr)) h) h) h
theorem F98_0_ok (Kn Kr) (t : T) (h : H) (H0 : F98_0 (t 0) (t 1) (t 2) (t 3) h Kn Kr) : Wp Tryz.prog 48 (bodyOf Tryz.f98.body) (mkQ (fun t h => Kn (t 8) (t 9) h) (fun t h => Kr (t 8) (t 9) h) ke0) t h :=
  awpTo_okF 2 H0 (by kernel_rfl) (fun t h (H1 : F98_1 (t 0) (t 1) (t 3) h Kn Kr) => F98_1_ok Kn Kr t h H1) (by kernel_rfl)
def F98 (x0 x1 x2 x3 : Value) (h : H) (Q : Value → H → Prop) : Prop := F98_0 x0 x1 x2 x3 h (fun y8 y9 h => bif [y8, y9].all boxV then Q (.tuple #[y8, y9]) h else False) (fun y8 y9 h => bif [y8, y9].all boxV then Q (.tuple #[y8, y9]) h else False)
theorem F98_spec (x0 x1 x2 x3 : Value) (h : H) (Q : Value → H → Prop) (H0 : F98 x0 x1 x2 x3 h Q) : AM.Spec Tryz.prog 98 [x0, x1, x2, x3] h Q :=
  spec_wp mixed (fn := Tryz.f98) Tryz.func98 (c := bodyOf Tryz.f98.body) (rs := [8, 9]) (N := 48) (by kernel_rfl) (by kernel_rfl) (by kernel_rfl) (by kernel_rfl) (by kernel_rfl) (Nat.le_of_ble_eq_true rfl) (F98_0_ok (fun y8 y9 h => bif [y8, y9].all boxV then Q (.tuple #[y8, y9]) h else False) (fun y8 y9 h => bif [y8, y9].all boxV then Q (.tuple #[y8, y9]) h else False) (tinit [x0, x1, x2, x3]) h H0) (by kernel_rfl)
/-! #### 61: (*tincture/mem.Mem).Load -/
def F61_5 (x1 x10 x12 x26 x27 : Value) (h : H) (Kn : Value → Value → Value → Value → Value → H → Prop) (Kr : Value → Value → H → Prop) (Ke0 : Value → H → Prop) : Prop :=
  o_bin Tryz.prog .lss 27 x27 x26 fun v28 => o_if v28 (o_bin Tryz.prog .rem 27 x1 (.int .u32 256) fun v33 => o_bin Tryz.prog .add 27 v33 x27 fun v35 => o_nilCheck x10 fun v36 => o_fieldAddr 0 v36 fun v37 => o_indexAddr (some 256) 1 v37 v35 fun v38 => o_load false 1 v38 h fun v39 => o_conv .u32 v39 fun v40 => o_bin Tryz.prog .mul 27 (.int .u32 8) x27 fun v42 => o_bin Tryz.prog .shl 27 v40 v42 fun v43 => o_bin Tryz.prog .or 27 x12 v43 fun v44 => o_bin Tryz.prog .add 27 x27 (.int .u32 1) fun v45 => Kn x1 x10 v44 x26 v45 h) (Ke0 x12 h)
theorem F61_5_ok (Kn Kr Ke0) (t : T) (h : H) (H0 : F61_5 (t 1) (t 10) (t 12) (t 26) (t 27) h Kn Kr Ke0) : Wp Tryz.prog 47 (lopC (blkC (rest 1 (seqL (rest 4 (bodyOf Tryz.f61.body)))))) (mkQ (fun t h => Kn (t 1) (t 10) (t 12) (t 26) (t 27) h) (fun t h => Kr (t 8) (t 9) h) (keAdd 0 (fun t h => Ke0 (t 12) h) ke0)) t h :=
  wpEqF H0 (by kernel_rfl)
def F61_4 (x1 x10 x12 x26 x27 : Value) (h : H) (Kn : Value → H → Prop) (Kr : Value → Value → H → Prop) (Ke0 : Value → H → Prop) : Prop :=
  sloop (S := Value × Value × Value × Value × Value) (fun s h K => F61_5 s.1 s.2.1 s.2.2.1 s.2.2.2.1 s.2.2.2.2 h (fun y1 y10 y12 y26 y27 h => K (y1, y10, y12, y26, y27) h) Kr Ke0) (x1, x10, x12, x26, x27) h
theorem F61_4_ok (Kn Kr Ke0) (t : T) (h : H) (H0 : F61_4 (t 1) (t 10) (t 12) (t 26) (t 27) h Kn Kr Ke0) : Wp Tryz.prog 47 (blkC (rest 1 (seqL (rest 4 (bodyOf Tryz.f61.body))))) (mkQ (fun t h => Kn (t 12) h) (fun t h => Kr (t 8) (t 9) h) (keAdd 0 (fun t h => Ke0 (t 12) h) ke0)) t h :=
  loop_ok (fun t => (t 1, t 10, t 12, t 26, t 27)) (by kernel_rfl) (fun t h K H1 => F61_5_ok (fun y1 y10 y12 y26 y27 h => K (y1, y10, y12, y26, y27) h) Kr Ke0 t h H1) H0
def F61_3 (x1 x10 x12 x26 x27 : Value) (h : H) (Kn : Value → H → Prop) (Kr : Value → Value → H → Prop) : Prop :=
  F61_4 x1 x10 x12 x26 x27 h Kn Kr Kn
theorem F61_3_ok (Kn Kr) (t : T) (h : H) (H0 : F61_3 (t 1) (t 10) (t 12) (t 26) (t 27) h Kn Kr) : Wp Tryz.prog 47 (rest 1 (seqL (rest 4 (bodyOf Tryz.f61.body)))) (mkQ (fun t h => Kn (t 12) h) (fun t h => Kr (t 8) (t 9) h) ke0) t h :=
  block_ok 0 (by kernel_rfl) (by kernel_rfl) (F61_4_ok Kn Kr Kn t h H0)
def F61_2 (x1 x2 x10 x12 : Value) (h : H) (Kn : Value → H → Prop) (Kr : Value → Value → H → Prop) : Prop :=
  o_conv .u32 x2 fun v26 => F61_3 x1 x10 x12 v26 (.int .u32 0) h Kn Kr
theorem F61_2_ok (Kn Kr) (t : T) (h : H) (H0 : F61_2 (t 1) (t 2) (t 10) (t 12) h Kn Kr) : Wp Tryz.prog 47 (seqL (rest 4 (bodyOf Tryz.f61.body))) (mkQ (fun t h => Kn (t 12) h) (fun t h => Kr (t 8) (t 9) h) ke0) t h :=
  awpTo_okF 1 H0 (by kernel_rfl) (fun t h (H1 : F61_3 (t 1) (t 10) (t 12) (t 26) (t 27) h Kn Kr) => F61_3_ok Kn Kr t h H1) (by kernel_rfl)
def F61_6 (x12 : Value) (h : H) (Kn : Value → Value → H → Prop) (Kr : Value → Value → H → Prop) : Prop :=
  Kr x12 (.int .i64 0) h
theorem F61_6_ok (Kn Kr) (t : T) (h : H) (H0 : F61_6 (t 12) h Kn Kr) : Wp Tryz.prog 47 (seqR (rest 4 (bodyOf Tryz.f61.body))) (mkQ (fun t h => Kn (t 8) (t 9) h) (fun t h => Kr (t 8) (t 9) h) ke0) t h :=
  wpEqF H0 (by kernel_rfl)
def F61_1 (x1 x2 x10 x12 : Value) (h : H) (Kn : Value → Value → H → Prop) (Kr : Value → Value → H → Prop) : Prop :=
  F61_2 x1 x2 x10 x12 h (fun y12 h => F61_6 y12 h Kn Kr) Kr
theorem F61_1_ok (Kn Kr) (t : T) (h : H) (H0 : F61_1 (t 1) (t 2) (t 10) (t 12) h Kn Kr) : Wp Tryz.prog 47 (rest 4 (bodyOf Tryz.f61.body)) (mkQ (fun t h => Kn (t 8) (t 9) h) (fun t h => Kr (t 8) (t 9) h) ke0) t h :=
  seq_ok (by kernel_rfl) (fun t h H1 => F61_6_ok Kn Kr t h H1) (F61_2_ok (fun y12 h => F61_6 y12 h Kn Kr) Kr t h H0)
def F61_0 (x0 x1 x2 x3 : Value) (h : H) (Kn : Value → Value → H → Prop) (Kr : Value → Value → H → Prop) : Prop :=
  o_call Tryz.prog 98 [x0, x1, x2, x3] h fun v19 h => o_extract v19 0 fun v20 => o_extract v19 1 fun v21 => o_bin Tryz.prog .neq 42 v21 (.int .i64 0) fun v23 => o_if v23 (Kr (.int .u32 0) v21 h) (F61_1 x1 x2 v20 (.int .u32 0) h Kn Kr)
theorem F61_0_ok (Kn Kr) (t : T) (h : H) (H0 : F61_0 (t 0) (t 1) (t 2) (t 3) h Kn Kr) : Wp Tryz.prog 47 (bodyOf Tryz.f61.body) (mkQ (fun t h => Kn (t 8) (t 9) h) (fun t h => Kr (t 8) (t 9) h) ke0) t h :=
  awpTo_okF 4 H0 (by kernel_rfl) (fun t h (H1 : F61_1 (t 1) (t 2) (t 10) (t 12) h Kn Kr) => F61_1_ok Kn Kr t h H1) (by kernel_rfl)
def F61 (x0 x1 x2 x3 : Value) (h : H) (Q : Value → H → Prop) : Prop := F61_0 x0 x1 x2 x3 h (fun y8 y9 h => bif [y8, y9].all boxV then Q (.tuple #[y8, y9]) h else False) (fun y8 y9 h => bif [y8, y9].all boxV then Q (.tuple #[y8, y9]) h else False)
theorem F61_spec (x0 x1 x2 x3 : Value) (h : H) (Q : Value → H → Prop) (H0 : F61 x0 x1 x2 x3 h Q) : AM.Spec Tryz.prog 61 [x0, x1, x2, x3] h Q :=
  spec_wp mixed (fn := Tryz.f61) Tryz.func61 (c := bodyOf Tryz.f61.body) (rs := [8, 9]) (N := 47) (by kernel_rfl) (by kernel_rfl) (by kernel_rfl) (by kernel_rfl) (by kernel_rfl) (Nat.le_of_ble_eq_true rfl) (F61_0_ok (fun y8 y9 h => bif [y8, y9].all boxV then Q (.tuple #[y8, y9]) h else False) (fun y8 y9 h => bif [y8, y9].all boxV then Q (.tuple #[y8, y9]) h else False) (tinit [x0, x1, x2, x3]) h H0) (by kernel_rfl)
/-! #### 137: (*tincture/mem.Mem).Store -/
def F137_5 (x0 x1 x3 x9 x23 x24 : Value) (h : H) (Kn : Value → Value → Value → Value → Value → Value → H → Prop) (Kr : Value → H → Prop) (Ke0 : Value → Value → H → Prop) : Prop :=
  o_bin Tryz.prog .lss 27 x24 x23 fun v25 => o_if v25 (o_bin Tryz.prog .rem 27 x1 (.int .u32 256) fun v29 => o_bin Tryz.prog .add 27 v29 x24 fun v31 => o_bin Tryz.prog .mul 27 (.int .u32 8) x24 fun v34 => o_bin Tryz.prog .shr 27 x3 v34 fun v35 => o_conv .u8 v35 fun v36 => o_nilCheck x9 fun v37 => o_fieldAddr 0 v37 fun v38 => o_indexAddr (some 256) 1 v38 v31 fun v39 => o_store 1 v39 v36 h fun h => o_bin Tryz.prog .add 27 x24 (.int .u32 1) fun v40 => Kn x0 x1 x3 x9 x23 v40 h) (Ke0 x0 x1 h)
theorem F137_5_ok (Kn Kr Ke0) (t : T) (h : H) (H0 : F137_5 (t 0) (t 1) (t 3) (t 9) (t 23) (t 24) h Kn Kr Ke0) : Wp Tryz.prog 49 (lopC (blkC (rest 1 (seqL (rest 3 (bodyOf Tryz.f137.body)))))) (mkQ (fun t h => Kn (t 0) (t 1) (t 3) (t 9) (t 23) (t 24) h) (fun t h => Kr (t 8) h) (keAdd 0 (fun t h => Ke0 (t 0) (t 1) h) ke0)) t h :=
  wpEqF H0 (by kernel_rfl)
def F137_4 (x0 x1 x3 x9 x23 x24 : Value) (h : H) (Kn : Value → Value → H → Prop) (Kr : Value → H → Prop) (Ke0 : Value → Value → H → Prop) : Prop :=
  sloop (S := Value × Value × Value × Value × Value × Value) (fun s h K => F137_5 s.1 s.2.1 s.2.2.1 s.2.2.2.1 s.2.2.2.2.1 s.2.2.2.2.2 h (fun y0 y1 y3 y9 y23 y24 h => K (y0, y1, y3, y9, y23, y24) h) Kr Ke0) (x0, x1, x3, x9, x23, x24) h
theorem F137_4_ok (Kn Kr Ke0) (t : T) (h : H) (H0 : F137_4 (t 0) (t 1) (t 3) (t 9) (t 23) (t 24) h Kn Kr Ke0) : Wp Tryz.prog 49 (blkC (rest 1 (seqL (rest 3 (bodyOf Tryz.f137.body))))) (mkQ (fun t h => Kn (t 0) (t 1) h) (fun t h => Kr (t 8) h) (keAdd 0 (fun t h => Ke0 (t 0) (t 1) h) ke0)) t h :=
  loop_ok (fun t => (t 0, t 1, t 3, t 9, t 23, t 24)) (by kernel_rfl) (fun t h K H1 => F137_5_ok (fun y0 y1 y3 y9 y23 y24 h => K (y0, y1, y3, y9, y23, y24) h) Kr Ke0 t h H1) H0
def F137_3 (x0 x1 x3 x9 x23 x24 : Value) (h : H) (Kn : Value → Value → H → Prop) (Kr : Value → H → Prop) : Prop :=
  F137_4 x0 x1 x3 x9 x23 x24 h Kn Kr Kn
theorem F137_3_ok (Kn Kr) (t : T) (h : H) (H0 : F137_3 (t 0) (t 1) (t 3) (t 9) (t 23) (t 24) h Kn Kr) : Wp Tryz.prog 49 (rest 1 (seqL (rest 3 (bodyOf Tryz.f137.body)))) (mkQ (fun t h => Kn (t 0) (t 1) h) (fun t h => Kr (t 8) h) ke0) t h :=
  block_ok 0 (by kernel_rfl) (by kernel_rfl) (F137_4_ok Kn Kr Kn t h H0)
def F137_2 (x0 x1 x2 x3 x9 : Value) (h : H) (Kn : Value → Value → H → Prop) (Kr : Value → H → Prop) : Prop :=
  o_conv .u32 x2 fun v23 => F137_3 x0 x1 x3 x9 v23 (.int .u32 0) h Kn Kr
theorem F137_2_ok (Kn Kr) (t : T) (h : H) (H0 : F137_2 (t 0) (t 1) (t 2) (t 3) (t 9) h Kn Kr) : Wp Tryz.prog 49 (seqL (rest 3 (bodyOf Tryz.f137.body))) (mkQ (fun t h => Kn (t 0) (t 1) h) (fun t h => Kr (t 8) h) ke0) t h :=
  awpTo_okF 1 H0 (by kernel_rfl) (fun t h (H1 : F137_3 (t 0) (t 1) (t 3) (t 9) (t 23) (t 24) h Kn Kr) => F137_3_ok Kn Kr t h H1) (by kernel_rfl)
def F137_7 (x0 x1 : Value) (h : H) (Kn : H → Prop) (Kr : Value → H → Prop) : Prop :=
  o_nilCheck x0 fun v42 => o_fieldAddr 2 v42 fun v43 => o_load false 1 v43 h fun v44 => o_dcall D0 87 [x1] h fun v46 h => o_lookup (.int .u32) (.int .u32 0) v44 v46 false h fun v47 => o_bin Tryz.prog .add 27 v47 (.int .u32 1) fun v48 => o_mapUpdate (.int .u32) v44 v46 v48 h fun h => Kn h
theorem F137_7_ok (Kn Kr) (t : T) (h : H) (H0 : F137_7 (t 0) (t 1) h Kn Kr) : Wp Tryz.prog 49 (seqL (seqR (rest 3 (bodyOf Tryz.f137.body)))) (mkQ (fun t h => Kn  h) (fun t h => Kr (t 8) h) ke0) t h :=
  drawD_ok dOk (by kernel_rfl) (by kernel_rfl) H0 (by kernel_rfl)
def F137_8 (h : H) (Kn : Value → H → Prop) (Kr : Value → H → Prop) : Prop :=
  Kr (.int .i64 0) h
theorem F137_8_ok (Kn Kr) (t : T) (h : H) (H0 : F137_8  h Kn Kr) : Wp Tryz.prog 49 (seqR (seqR (rest 3 (bodyOf Tryz.f137.body)))) (mkQ (fun t h => Kn (t 8) h) (fun t h => Kr (t 8) h) ke0) t h :=
  wpEqF H0 (by kernel_rfl)
def F137_6 (x0 x1 : Value) (h : H) (Kn : Value → H → Prop) (Kr : Value → H → Prop) : Prop :=
  F137_7 x0 x1 h (fun  h => F137_8  h Kn Kr) Kr
theorem F137_6_ok (Kn Kr) (t : T) (h : H) (H0 : F137_6 (t 0) (t 1) h Kn Kr) : Wp Tryz.prog 49 (seqR (rest 3 (bodyOf Tryz.f137.body))) (mkQ (fun t h => Kn (t 8) h) (fun t h => Kr (t 8) h) ke0) t h :=
  seq_ok (by kernel_rfl) (fun t h H1 => F137_8_ok Kn Kr t h H1) (F137_7_ok (fun  h => F137_8  h Kn Kr) Kr t h H0)
def F137_1 (x0 x1 x2 x3 x9 : Value) (h : H) (Kn : Value → H → Prop) (Kr : Value → H → Prop) : Prop :=
  F137_2 x0 x1 x2 x3 x9 h (fun y0 y1 h => F137_6 y0 y1 h Kn Kr) Kr
theorem F137_1_ok (Kn Kr) (t : T) (h : H) (H0 : F137_1 (t 0) (t 1) (t 2) (t 3) (t 9) h Kn Kr) : Wp Tryz.prog 49 (rest 3 (bodyOf Tryz.f137.body)) (mkQ (fun t h => Kn (t 8) h) (fun t h => Kr (t 8) h) ke0) t h :=
  seq_ok (by kernel_rfl) (fun t h H1 => F137_6_ok Kn Kr t h H1) (F137_2_ok (fun y0 y1 h => F137_6 y0 y1 h Kn Kr) Kr t h H0)
def F137_0 (x0 x1 x2 x3 : Value) (h : H) (Kn : Value → H → Prop) (Kr : Value → H → Prop) : Prop :=
  o_call Tryz.prog 98 [x0, x1, x2, (.int .i64 2)] h fun v16 h => o_extract v16 0 fun v17 => o_extract v16 1 fun v18 => o_bin Tryz.prog .neq 42 v18 (.int .i64 0) fun v20 => o_if v20 (Kr v18 h) (F137_1 x0 x1 x2 x3 v17 h Kn Kr)
theorem F137_0_ok (Kn Kr) (t : T) (h : H) (H0 : F137_0 (t 0) (t 1) (t 2) (t 3) h Kn Kr) : Wp Tryz.prog 49 (bodyOf Tryz.f137.body) (mkQ (fun t h => Kn (t 8) h) (fun t h => Kr (t 8) h) ke0) t h :=
  awpTo_okF 3 H0 (by kernel_rfl) (fun t h (H1 : F137_1 (t 0) (t 1) (t 2) (t 3) (t 9) h Kn Kr) => F137_1_ok Kn Kr t h H1) (by kernel_rfl)
def F137 (x0 x1 x2 x3 : Value) (h : H) (Q : Value → H → Prop) : Prop := F137_0 x0 x1 x2 x3 h (fun v h => Q v h) (fun v h => Q v h)
theorem F137_spec (x0 x1 x2 x3 : Value) (h : H) (Q : Value → H → Prop) (H0 : F137 x0 x1 x2 x3 h Q) : AM.Spec Tryz.prog 137 [x0, x1, x2, x3] h Q :=
  spec_wp mixed (fn := Tryz.f137) Tryz.func137 (c := bodyOf Tryz.f137.body) (rs := [8]) (N := 49) (by kernel_rfl) (by kernel_rfl) (by kernel_rfl) (by kernel_rfl) (by kernel_rfl) (Nat.le_of_ble_eq_true rfl) (F137_0_ok (fun v h => Q v h) (fun v h => Q v h) (tinit [x0, x1, x2, x3]) h H0) (by kernel_rfl)
/-! #### 122: (*tincture/exec.run).put -/
theorem A122_size : (regOps (bodyOf Tryz.f122.body)).size = 14 := by kernel_rfl
theorem A122_back : backB (regOps (bodyOf Tryz.f122.body)) = true := by kernel_rfl
theorem A122_s0 (K : T → H → Prop) (t : T) (h : H) : aStep Tryz.prog (regOps (bodyOf Tryz.f122.body)) 0 K t h = (K (tset t 6 (t 0)) h) := by kernel_rfl
theorem A122_d0 : depL (regOps (bodyOf Tryz.f122.body)) 0 = [] := by kernel_rfl
theorem A122_s1 (K : T → H → Prop) (t : T) (h : H) : aStep Tryz.prog (regOps (bodyOf Tryz.f122.body)) 1 K t h = (K (tset t 7 (t 1)) h) := by kernel_rfl
theorem A122_d1 : depL (regOps (bodyOf Tryz.f122.body)) 1 = [] := by kernel_rfl
theorem A122_s2 (K : T → H → Prop) (t : T) (h : H) : aStep Tryz.prog (regOps (bodyOf Tryz.f122.body)) 2 K t h = (K (tset t 8 (t 0)) h) := by kernel_rfl
theorem A122_d2 : depL (regOps (bodyOf Tryz.f122.body)) 2 = [] := by kernel_rfl
theorem A122_s3 (K : T → H → Prop) (t : T) (h : H) : aStep Tryz.prog (regOps (bodyOf Tryz.f122.body)) 3 K t h = (K (tset t 9 (t 1)) h) := by kernel_rfl
theorem A122_d3 : depL (regOps (bodyOf Tryz.f122.body)) 3 = [] := by kernel_rfl
theorem A122_s4 (K : T → H → Prop) (t : T) (h : H) : aStep Tryz.prog (regOps (bodyOf Tryz.f122.body)) 4 K t h = (K (tset t 10 (t 2)) h) := by kernel_rfl
theorem A122_d4 : depL (regOps (bodyOf Tryz.f122.body)) 4 = [] := by kernel_rfl
theorem A122_s5 (K : T → H → Prop) (t : T) (h : H) : aStep Tryz.prog (regOps (bodyOf Tryz.f122.body)) 5 K t h = (o_build Tryz.prog 55 [] fun v11 => K (tset t 11 v11) h) := by kernel_rfl
theorem A122_d5 : depL (regOps (bodyOf Tryz.f122.body)) 5 = [] := by kernel_rfl
theorem A122_s6 (K : T → H → Prop) (t : T) (h : H) : aStep Tryz.prog (regOps (bodyOf Tryz.f122.body)) 6 K t h = (o_nilCheck (t 6) fun v12 => K (tset t 12 v12) h) := by kernel_rfl
theorem A122_d6 : depL (regOps (bodyOf Tryz.f122.body)) 6 = [0] := by kernel_rfl
theorem A122_s7 (K : T → H → Prop) (t : T) (h : H) : aStep Tryz.prog (regOps (bodyOf Tryz.f122.body)) 7 K t h = (o_fieldAddr 5 (t 12) fun v13 => K (tset t 13 v13) h) := by kernel_rfl
theorem A122_d7 : depL (regOps (bodyOf Tryz.f122.body)) 7 = [6] := by kernel_rfl
theorem A122_s8 (K : T → H → Prop) (t : T) (h : H) : aStep Tryz.prog (regOps (bodyOf Tryz.f122.body)) 8 K t h = (o_indexAddr (some 256) 1 (t 13) (t 7) fun v14 => K (tset t 14 v14) h) := by kernel_rfl
theorem A122_d8 : depL (regOps (bodyOf Tryz.f122.body)) 8 = [7, 1, 0, 1, 4] := by kernel_rfl
theorem A122_s9 (K : T → H → Prop) (t : T) (h : H) : aStep Tryz.prog (regOps (bodyOf Tryz.f122.body)) 9 K t h = (o_store 1 (t 14) (t 10) h fun h => K t h) := by kernel_rfl
theorem A122_d9 : depL (regOps (bodyOf Tryz.f122.body)) 9 = [8, 4, 0, 1, 4] := by kernel_rfl
theorem A122_s10 (K : T → H → Prop) (t : T) (h : H) : aStep Tryz.prog (regOps (bodyOf Tryz.f122.body)) 10 K t h = (o_nilCheck (t 8) fun v15 => K (tset t 15 v15) h) := by kernel_rfl
theorem A122_d10 : depL (regOps (bodyOf Tryz.f122.body)) 10 = [2] := by kernel_rfl
theorem A122_s11 (K : T → H → Prop) (t : T) (h : H) : aStep Tryz.prog (regOps (bodyOf Tryz.f122.body)) 11 K t h = (o_fieldAddr 261 (t 15) fun v16 => K (tset t 16 v16) h) := by kernel_rfl
theorem A122_d11 : depL (regOps (bodyOf Tryz.f122.body)) 11 = [10] := by kernel_rfl
theorem A122_s12 (K : T → H → Prop) (t : T) (h : H) : aStep Tryz.prog (regOps (bodyOf Tryz.f122.body)) 12 K t h = (o_indexAddr (some 256) 4 (t 16) (t 9) fun v17 => K (tset t 17 v17) h) := by kernel_rfl
theorem A122_d12 : depL (regOps (bodyOf Tryz.f122.body)) 12 = [11, 3, 0, 1, 2, 3, 4, 5, 6, 7, 8, 9] := by kernel_rfl
theorem A122_s13 (K : T → H → Prop) (t : T) (h : H) : aStep Tryz.prog (regOps (bodyOf Tryz.f122.body)) 13 K t h = (o_store 4 (t 17) (t 11) h fun h => K t h) := by kernel_rfl
theorem A122_d13 : depL (regOps (bodyOf Tryz.f122.body)) 13 = [12, 5, 9, 0, 1, 2, 3, 4, 5, 6, 7, 8, 9] := by kernel_rfl
def F122_0 (x0 x1 x2 : Value) (h : H) (Kn : H → Prop) (Kr : H → Prop) : Prop :=
  ∃ (b : Nat) (cs : List Value) (E : TypeId), x0 = (.pointer (some ⟨b, 0, none⟩)) ∧ x1 = .int .i64 1 ∧ boxV x2 = true ∧ x2.cells = #[x2] ∧ h b = some (.cells cs E .exact) ∧ cs.length = 1291 ∧ Kn (upd h b (.cells (setL (setL cs 6 [x2]) 265 [.int .u8 0, .int .u8 0, .int .u8 0, .int .u8 0]) E .exact))
theorem F122_0_ok (Kn Kr) (t : T) (h : H) (H0 : F122_0 (t 0) (t 1) (t 2) h Kn Kr) : Wp Tryz.prog 18 (bodyOf Tryz.f122.body) (mkQ (fun t h => Kn  h) (fun t h => Kr  h) ke0) t h := by
  obtain ⟨b, cs, E, e0, e1, hx2, hc2, hb, hcl, hk0⟩ := H0
  generalize ex2 : t 2 = x2 at *
  refine draw_two (h1 := (upd h b (.cells (setL cs 6 [x2]) E .exact))) (h2 := (upd h b (.cells (setL (setL cs 6 [x2]) 265 [.int .u8 0, .int .u8 0, .int .u8 0, .int .u8 0]) E .exact))) 9 13 (by kernel_rfl) A122_back (by kernel_rfl) (by kernel_rfl) (by kernel_rfl) (by kernel_rfl) [(0, (.pointer (some ⟨b, 0, none⟩))), (1, (.int .i64 1)), (2, x2)] [(0, 6), (1, 7), (2, 8), (3, 9), (4, 10), (5, 11), (6, 12), (7, 13), (8, 14), (10, 15), (11, 16), (12, 17)] (fun i => match i with | 0 => (.pointer (some ⟨b, 0, none⟩)) | 1 => (.int .i64 1) | 2 => (.pointer (some ⟨b, 0, none⟩)) | 3 => (.int .i64 1) | 4 => x2 | 5 => (.agg #[.int .u8 0, .int .u8 0, .int .u8 0, .int .u8 0]) | 6 => (.pointer (some ⟨b, 0, none⟩)) | 7 => (.pointer (some ⟨b, 5, none⟩)) | 8 => (.pointer (some ⟨b, 6, none⟩)) | 10 => (.pointer (some ⟨b, 0, none⟩)) | 11 => (.pointer (some ⟨b, 261, none⟩)) | 12 => (.pointer (some ⟨b, 265, none⟩)) | _ => undef) (by simp [*]) (by kernel_rfl) ?_ ?_ ?_ ?_
  · intro l t' i hh hi n1 n2 hor hd hT K hk
    have p0 : t' 0 = (.pointer (some ⟨b, 0, none⟩)) := hT.p (0, (.pointer (some ⟨b, 0, none⟩))) (by simp)
    have p1 : t' 1 = (.int .i64 1) := hT.p (1, (.int .i64 1)) (by simp)
    have p2 : t' 2 = x2 := hT.p (2, x2) (by simp)
    rw [A122_size] at hi
    match i, hi with
    | 0, _ =>
      simp only [A122_s0, p0, nil_ptr, field_addr, conv_int, Nat.zero_add, Nat.add_zero, Nat.reduceAdd]
      exact hk _ (hT.set 0 6 rfl)
    | 1, _ =>
      simp only [A122_s1, p1, nil_ptr, field_addr, conv_int, Nat.zero_add, Nat.add_zero, Nat.reduceAdd]
      exact hk _ (hT.set 1 7 rfl)
    | 2, _ =>
      simp only [A122_s2, p0, nil_ptr, field_addr, conv_int, Nat.zero_add, Nat.add_zero, Nat.reduceAdd]
      exact hk _ (hT.set 2 8 rfl)
    | 3, _ =>
      simp only [A122_s3, p1, nil_ptr, field_addr, conv_int, Nat.zero_add, Nat.add_zero, Nat.reduceAdd]
      exact hk _ (hT.set 3 9 rfl)
    | 4, _ =>
      simp only [A122_s4, p2, nil_ptr, field_addr, conv_int, Nat.zero_add, Nat.add_zero, Nat.reduceAdd]
      exact hk _ (hT.set 4 10 rfl)
    | 5, _ =>
      rw [A122_s5]
      have hz : ∀ K : Value → Prop, o_build Tryz.prog 55 [] K = K (.agg #[.int .u8 0, .int .u8 0, .int .u8 0, .int .u8 0]) := fun K => by kernel_rfl
      rw [hz]
      exact hk _ (hT.set 5 11 rfl)
    | 6, _ =>
      have e6 : t' 6 = (.pointer (some ⟨b, 0, none⟩)) := hT.v (0, 6) (by simp) (hd 0 (by rw [A122_d6]; simp))
      simp only [A122_s6, e6, nil_ptr, field_addr, conv_int, Nat.zero_add, Nat.add_zero, Nat.reduceAdd]
      exact hk _ (hT.set 6 12 rfl)
    | 7, _ =>
      have e12 : t' 12 = (.pointer (some ⟨b, 0, none⟩)) := hT.v (6, 12) (by simp) (hd 6 (by rw [A122_d7]; simp))
      simp only [A122_s7, e12, nil_ptr, field_addr, conv_int, Nat.zero_add, Nat.add_zero, Nat.reduceAdd]
      exact hk _ (hT.set 7 13 rfl)
    | 8, _ =>
      have e7 : t' 7 = (.int .i64 1) := hT.v (1, 7) (by simp) (hd 1 (by rw [A122_d8]; simp))
      have e13 : t' 13 = (.pointer (some ⟨b, 5, none⟩)) := hT.v (7, 13) (by simp) (hd 7 (by rw [A122_d8]; simp))
      rw [A122_s8, e7, e13]
      rw [(show ∀ K : Value → Prop, o_indexAddr (some 256) 1 (.pointer (some ⟨b, 5, none⟩)) (.int .i64 1) K = K (.pointer (some ⟨b, 6, none⟩)) from fun K => index_arr (by decide) (by decide))]
      exact hk _ (hT.set 8 14 rfl)
    | 10, _ =>
      have e8 : t' 8 = (.pointer (some ⟨b, 0, none⟩)) := hT.v (2, 8) (by simp) (hd 2 (by rw [A122_d10]; simp))
      simp only [A122_s10, e8, nil_ptr, field_addr, conv_int, Nat.zero_add, Nat.add_zero, Nat.reduceAdd]
      exact hk _ (hT.set 10 15 rfl)
    | 11, _ =>
      have e15 : t' 15 = (.pointer (some ⟨b, 0, none⟩)) := hT.v (10, 15) (by simp) (hd 10 (by rw [A122_d11]; simp))
      simp only [A122_s11, e15, nil_ptr, field_addr, conv_int, Nat.zero_add, Nat.add_zero, Nat.reduceAdd]
      exact hk _ (hT.set 11 16 rfl)
    | 12, _ =>
      have e9 : t' 9 = (.int .i64 1) := hT.v (3, 9) (by simp) (hd 3 (by rw [A122_d12]; simp))
      have e16 : t' 16 = (.pointer (some ⟨b, 261, none⟩)) := hT.v (11, 16) (by simp) (hd 11 (by rw [A122_d12]; simp))
      rw [A122_s12, e9, e16]
      rw [(show ∀ K : Value → Prop, o_indexAddr (some 256) 4 (.pointer (some ⟨b, 261, none⟩)) (.int .i64 1) K = K (.pointer (some ⟨b, 265, none⟩)) from fun K => index_arr (by decide) (by decide))]
      exact hk _ (hT.set 12 17 rfl)
    | 9, _ => exact absurd rfl n1
    | 13, _ => exact absurd rfl n2
  · intro l t' hd hT K hk
    have p0 : t' 0 = (.pointer (some ⟨b, 0, none⟩)) := hT.p (0, (.pointer (some ⟨b, 0, none⟩))) (by simp)
    have p1 : t' 1 = (.int .i64 1) := hT.p (1, (.int .i64 1)) (by simp)
    have p2 : t' 2 = x2 := hT.p (2, x2) (by simp)
    have e10 : t' 10 = x2 := hT.v (4, 10) (by simp) (hd 4 (by rw [A122_d9]; simp))
    have e14 : t' 14 = (.pointer (some ⟨b, 6, none⟩)) := hT.v (8, 14) (by simp) (hd 8 (by rw [A122_d9]; simp))
    rw [A122_s9, e10, e14]
    rw [store_ok hb (by simp) hx2 (by rw [hc2]; rfl) (by omega), hc2]
    exact hk
  · intro l t' hd hT K hk
    have p0 : t' 0 = (.pointer (some ⟨b, 0, none⟩)) := hT.p (0, (.pointer (some ⟨b, 0, none⟩))) (by simp)
    have p1 : t' 1 = (.int .i64 1) := hT.p (1, (.int .i64 1)) (by simp)
    have p2 : t' 2 = x2 := hT.p (2, x2) (by simp)
    have e11 : t' 11 = (.agg #[.int .u8 0, .int .u8 0, .int .u8 0, .int .u8 0]) := hT.v (5, 11) (by simp) (hd 5 (by rw [A122_d13]; simp))
    have e17 : t' 17 = (.pointer (some ⟨b, 265, none⟩)) := hT.v (12, 17) (by simp) (hd 12 (by rw [A122_d13]; simp))
    rw [A122_s13, e11, e17]
    rw [store_ok (upd_same _ _ _) (by simp) (by rfl) (by rfl) (by rw [setL_length]; omega), upd_upd]
    exact hk
  · intro t' hp hv
    exact hk0
def F122 (x0 x1 x2 : Value) (h : H) (Q : Value → H → Prop) : Prop := F122_0 x0 x1 x2 h (fun h => bif [].all boxV then Q (.tuple #[]) h else False) (fun h => bif [].all boxV then Q (.tuple #[]) h else False)
theorem F122_spec (x0 x1 x2 : Value) (h : H) (Q : Value → H → Prop) (H0 : F122 x0 x1 x2 h Q) : AM.Spec Tryz.prog 122 [x0, x1, x2] h Q :=
  spec_wp mixed (fn := Tryz.f122) Tryz.func122 (c := bodyOf Tryz.f122.body) (rs := []) (N := 18) (by kernel_rfl) (by kernel_rfl) (by kernel_rfl) (by kernel_rfl) (by kernel_rfl) (Nat.le_of_ble_eq_true rfl) (F122_0_ok (fun h => bif [].all boxV then Q (.tuple #[]) h else False) (fun h => bif [].all boxV then Q (.tuple #[]) h else False) (tinit [x0, x1, x2]) h H0) (by kernel_rfl)
/-! #### 92: (*tincture/exec.run).mark -/
def F92_2 (x0 x3 : Value) (h : H) (Kn : Value → H → Prop) (Kr : H → Prop) : Prop :=
  o_nilCheck x0 fun v5 => o_fieldAddr 0 v5 fun v6 => o_load false 1 v6 h fun v7 => o_fieldAddr 4 x3 fun v8 => o_load false 1 v8 h fun v9 => o_nilCheck v7 fun v10 => o_fieldAddr 2 v10 fun v11 => o_fieldAddr 32 v11 fun v12 => o_store 1 v12 v9 h fun h => Kn x0 h
theorem F92_2_ok (Kn Kr) (t : T) (h : H) (H0 : F92_2 (t 0) (t 3) h Kn Kr) : Wp Tryz.prog 48 (seqL (rest 1 (bodyOf Tryz.f92.body))) (mkQ (fun t h => Kn (t 0) h) (fun t h => Kr  h) ke0) t h :=
  draw_okF (by kernel_rfl) (by kernel_rfl) H0 (by kernel_rfl)
theorem A92_size : (regOps (seqL (seqR (rest 1 (bodyOf Tryz.f92.body))))).size = 32 := by kernel_rfl
theorem A92_back : backB (regOps (seqL (seqR (rest 1 (bodyOf Tryz.f92.body))))) = true := by kernel_rfl
theorem A92_s0 (K : T → H → Prop) (t : T) (h : H) : aStep Tryz.prog (regOps (seqL (seqR (rest 1 (bodyOf Tryz.f92.body))))) 0 K t h = (K (tset t 13 (t 0)) h) := by kernel_rfl
theorem A92_d0 : depL (regOps (seqL (seqR (rest 1 (bodyOf Tryz.f92.body))))) 0 = [] := by kernel_rfl
theorem A92_s1 (K : T → H → Prop) (t : T) (h : H) : aStep Tryz.prog (regOps (seqL (seqR (rest 1 (bodyOf Tryz.f92.body))))) 1 K t h = (o_nilCheck (t 13) fun v14 => K (tset t 14 v14) h) := by kernel_rfl
theorem A92_d1 : depL (regOps (seqL (seqR (rest 1 (bodyOf Tryz.f92.body))))) 1 = [0] := by kernel_rfl
theorem A92_s2 (K : T → H → Prop) (t : T) (h : H) : aStep Tryz.prog (regOps (seqL (seqR (rest 1 (bodyOf Tryz.f92.body))))) 2 K t h = (o_fieldAddr 0 (t 14) fun v15 => K (tset t 15 v15) h) := by kernel_rfl
theorem A92_d2 : depL (regOps (seqL (seqR (rest 1 (bodyOf Tryz.f92.body))))) 2 = [1] := by kernel_rfl
theorem A92_s3 (K : T → H → Prop) (t : T) (h : H) : aStep Tryz.prog (regOps (seqL (seqR (rest 1 (bodyOf Tryz.f92.body))))) 3 K t h = (o_load false 1 (t 15) h fun v16 => K (tset t 16 v16) h) := by kernel_rfl
theorem A92_d3 : depL (regOps (seqL (seqR (rest 1 (bodyOf Tryz.f92.body))))) 3 = [2] := by kernel_rfl
theorem A92_s4 (K : T → H → Prop) (t : T) (h : H) : aStep Tryz.prog (regOps (seqL (seqR (rest 1 (bodyOf Tryz.f92.body))))) 4 K t h = (o_nilCheck (t 16) fun v17 => K (tset t 17 v17) h) := by kernel_rfl
theorem A92_d4 : depL (regOps (seqL (seqR (rest 1 (bodyOf Tryz.f92.body))))) 4 = [3] := by kernel_rfl
theorem A92_s5 (K : T → H → Prop) (t : T) (h : H) : aStep Tryz.prog (regOps (seqL (seqR (rest 1 (bodyOf Tryz.f92.body))))) 5 K t h = (o_fieldAddr 2 (t 17) fun v18 => K (tset t 18 v18) h) := by kernel_rfl
theorem A92_d5 : depL (regOps (seqL (seqR (rest 1 (bodyOf Tryz.f92.body))))) 5 = [4] := by kernel_rfl
theorem A92_s6 (K : T → H → Prop) (t : T) (h : H) : aStep Tryz.prog (regOps (seqL (seqR (rest 1 (bodyOf Tryz.f92.body))))) 6 K t h = (o_fieldAddr 33 (t 18) fun v19 => K (tset t 19 v19) h) := by kernel_rfl
theorem A92_d6 : depL (regOps (seqL (seqR (rest 1 (bodyOf Tryz.f92.body))))) 6 = [5] := by kernel_rfl
theorem A92_s7 (K : T → H → Prop) (t : T) (h : H) : aStep Tryz.prog (regOps (seqL (seqR (rest 1 (bodyOf Tryz.f92.body))))) 7 K t h = (o_load false 1 (t 19) h fun v20 => K (tset t 20 v20) h) := by kernel_rfl
theorem A92_d7 : depL (regOps (seqL (seqR (rest 1 (bodyOf Tryz.f92.body))))) 7 = [6] := by kernel_rfl
theorem A92_s8 (K : T → H → Prop) (t : T) (h : H) : aStep Tryz.prog (regOps (seqL (seqR (rest 1 (bodyOf Tryz.f92.body))))) 8 K t h = (K (tset t 21 (t 0)) h) := by kernel_rfl
theorem A92_d8 : depL (regOps (seqL (seqR (rest 1 (bodyOf Tryz.f92.body))))) 8 = [] := by kernel_rfl
theorem A92_s9 (K : T → H → Prop) (t : T) (h : H) : aStep Tryz.prog (regOps (seqL (seqR (rest 1 (bodyOf Tryz.f92.body))))) 9 K t h = (o_nilCheck (t 21) fun v22 => K (tset t 22 v22) h) := by kernel_rfl
theorem A92_d9 : depL (regOps (seqL (seqR (rest 1 (bodyOf Tryz.f92.body))))) 9 = [8] := by kernel_rfl
theorem A92_s10 (K : T → H → Prop) (t : T) (h : H) : aStep Tryz.prog (regOps (seqL (seqR (rest 1 (bodyOf Tryz.f92.body))))) 10 K t h = (o_fieldAddr 1 (t 22) fun v23 => K (tset t 23 v23) h) := by kernel_rfl
theorem A92_d10 : depL (regOps (seqL (seqR (rest 1 (bodyOf Tryz.f92.body))))) 10 = [9] := by kernel_rfl
theorem A92_s11 (K : T → H → Prop) (t : T) (h : H) : aStep Tryz.prog (regOps (seqL (seqR (rest 1 (bodyOf Tryz.f92.body))))) 11 K t h = (o_load false 1 (t 23) h fun v24 => K (tset t 24 v24) h) := by kernel_rfl
theorem A92_d11 : depL (regOps (seqL (seqR (rest 1 (bodyOf Tryz.f92.body))))) 11 = [10] := by kernel_rfl
theorem A92_s12 (K : T → H → Prop) (t : T) (h : H) : aStep Tryz.prog (regOps (seqL (seqR (rest 1 (bodyOf Tryz.f92.body))))) 12 K t h = (o_bin Tryz.prog .geq 2 (t 20) (t 24) fun v25 => K (tset t 25 v25) h) := by kernel_rfl
theorem A92_d12 : depL (regOps (seqL (seqR (rest 1 (bodyOf Tryz.f92.body))))) 12 = [7, 11] := by kernel_rfl
theorem A92_s13 (K : T → H → Prop) (t : T) (h : H) : aStep Tryz.prog (regOps (seqL (seqR (rest 1 (bodyOf Tryz.f92.body))))) 13 K t h = (K (tset t 26 (t 25)) h) := by kernel_rfl
theorem A92_d13 : depL (regOps (seqL (seqR (rest 1 (bodyOf Tryz.f92.body))))) 13 = [12] := by kernel_rfl
theorem A92_s14 (K : T → H → Prop) (t : T) (h : H) : aStep Tryz.prog (regOps (seqL (seqR (rest 1 (bodyOf Tryz.f92.body))))) 14 K t h = (o_guard (t 26) false (fun k => k (t 0) h) (fun v27 h => K (tset t 27 v27) h) h) := by kernel_rfl
theorem A92_d14 : depL (regOps (seqL (seqR (rest 1 (bodyOf Tryz.f92.body))))) 14 = [13] := by kernel_rfl
theorem A92_s15 (K : T → H → Prop) (t : T) (h : H) : aStep Tryz.prog (regOps (seqL (seqR (rest 1 (bodyOf Tryz.f92.body))))) 15 K t h = (o_guard (t 26) false (fun k => o_nilCheck (t 27) fun v28 => k v28 h) (fun v28 h => K (tset t 28 v28) h) h) := by kernel_rfl
theorem A92_d15 : depL (regOps (seqL (seqR (rest 1 (bodyOf Tryz.f92.body))))) 15 = [14, 13] := by kernel_rfl
theorem A92_s16 (K : T → H → Prop) (t : T) (h : H) : aStep Tryz.prog (regOps (seqL (seqR (rest 1 (bodyOf Tryz.f92.body))))) 16 K t h = (o_guard (t 26) false (fun k => o_fieldAddr 0 (t 28) fun v29 => k v29 h) (fun v29 h => K (tset t 29 v29) h) h) := by kernel_rfl
theorem A92_d16 : depL (regOps (seqL (seqR (rest 1 (bodyOf Tryz.f92.body))))) 16 = [15, 13] := by kernel_rfl
theorem A92_s17 (K : T → H → Prop) (t : T) (h : H) : aStep Tryz.prog (regOps (seqL (seqR (rest 1 (bodyOf Tryz.f92.body))))) 17 K t h = (o_guard (t 26) false (fun k => o_load false 1 (t 29) h fun v30 => k v30 h) (fun v30 h => K (tset t 30 v30) h) h) := by kernel_rfl
theorem A92_d17 : depL (regOps (seqL (seqR (rest 1 (bodyOf Tryz.f92.body))))) 17 = [16, 13] := by kernel_rfl
theorem A92_s18 (K : T → H → Prop) (t : T) (h : H) : aStep Tryz.prog (regOps (seqL (seqR (rest 1 (bodyOf Tryz.f92.body))))) 18 K t h = (o_guard (t 26) false (fun k => o_nilCheck (t 30) fun v31 => k v31 h) (fun v31 h => K (tset t 31 v31) h) h) := by kernel_rfl
theorem A92_d18 : depL (regOps (seqL (seqR (rest 1 (bodyOf Tryz.f92.body))))) 18 = [17, 13] := by kernel_rfl
theorem A92_s19 (K : T → H → Prop) (t : T) (h : H) : aStep Tryz.prog (regOps (seqL (seqR (rest 1 (bodyOf Tryz.f92.body))))) 19 K t h = (o_guard (t 26) false (fun k => o_fieldAddr 0 (t 31) fun v32 => k v32 h) (fun v32 h => K (tset t 32 v32) h) h) := by kernel_rfl
theorem A92_d19 : depL (regOps (seqL (seqR (rest 1 (bodyOf Tryz.f92.body))))) 19 = [18, 13] := by kernel_rfl
theorem A92_s20 (K : T → H → Prop) (t : T) (h : H) : aStep Tryz.prog (regOps (seqL (seqR (rest 1 (bodyOf Tryz.f92.body))))) 20 K t h = (o_guard (t 26) false (fun k => o_load false 1 (t 32) h fun v33 => k v33 h) (fun v33 h => K (tset t 33 v33) h) h) := by kernel_rfl
theorem A92_d20 : depL (regOps (seqL (seqR (rest 1 (bodyOf Tryz.f92.body))))) 20 = [19, 13] := by kernel_rfl
theorem A92_s21 (K : T → H → Prop) (t : T) (h : H) : aStep Tryz.prog (regOps (seqL (seqR (rest 1 (bodyOf Tryz.f92.body))))) 21 K t h = (o_guard (t 26) false (fun k => k (t 0) h) (fun v34 h => K (tset t 34 v34) h) h) := by kernel_rfl
theorem A92_d21 : depL (regOps (seqL (seqR (rest 1 (bodyOf Tryz.f92.body))))) 21 = [13] := by kernel_rfl
theorem A92_s22 (K : T → H → Prop) (t : T) (h : H) : aStep Tryz.prog (regOps (seqL (seqR (rest 1 (bodyOf Tryz.f92.body))))) 22 K t h = (o_guard (t 26) false (fun k => o_nilCheck (t 34) fun v35 => k v35 h) (fun v35 h => K (tset t 35 v35) h) h) := by kernel_rfl
theorem A92_d22 : depL (regOps (seqL (seqR (rest 1 (bodyOf Tryz.f92.body))))) 22 = [21, 13] := by kernel_rfl
theorem A92_s23 (K : T → H → Prop) (t : T) (h : H) : aStep Tryz.prog (regOps (seqL (seqR (rest 1 (bodyOf Tryz.f92.body))))) 23 K t h = (o_guard (t 26) false (fun k => o_fieldAddr 3 (t 35) fun v36 => k v36 h) (fun v36 h => K (tset t 36 v36) h) h) := by kernel_rfl
theorem A92_d23 : depL (regOps (seqL (seqR (rest 1 (bodyOf Tryz.f92.body))))) 23 = [22, 13] := by kernel_rfl
theorem A92_s24 (K : T → H → Prop) (t : T) (h : H) : aStep Tryz.prog (regOps (seqL (seqR (rest 1 (bodyOf Tryz.f92.body))))) 24 K t h = (o_guard (t 26) false (fun k => o_load false 1 (t 36) h fun v37 => k v37 h) (fun v37 h => K (tset t 37 v37) h) h) := by kernel_rfl
theorem A92_d24 : depL (regOps (seqL (seqR (rest 1 (bodyOf Tryz.f92.body))))) 24 = [23, 13] := by kernel_rfl
theorem A92_s25 (K : T → H → Prop) (t : T) (h : H) : aStep Tryz.prog (regOps (seqL (seqR (rest 1 (bodyOf Tryz.f92.body))))) 25 K t h = (o_guard (t 26) false (fun k => o_call Tryz.prog 53 [(t 33), (t 37)] h fun v38 h => k v38 h) (fun v38 h => K (tset t 38 v38) h) h) := by kernel_rfl
theorem A92_d25 : depL (regOps (seqL (seqR (rest 1 (bodyOf Tryz.f92.body))))) 25 = [20, 24, 13, 13] := by kernel_rfl
theorem A92_s26 (K : T → H → Prop) (t : T) (h : H) : aStep Tryz.prog (regOps (seqL (seqR (rest 1 (bodyOf Tryz.f92.body))))) 26 K t h = (o_guard (t 26) false (fun k => k (t 0) h) (fun v39 h => K (tset t 39 v39) h) h) := by kernel_rfl
theorem A92_d26 : depL (regOps (seqL (seqR (rest 1 (bodyOf Tryz.f92.body))))) 26 = [13] := by kernel_rfl
theorem A92_s27 (K : T → H → Prop) (t : T) (h : H) : aStep Tryz.prog (regOps (seqL (seqR (rest 1 (bodyOf Tryz.f92.body))))) 27 K t h = (o_guard (t 26) false (fun k => o_nilCheck (t 39) fun v40 => k v40 h) (fun v40 h => K (tset t 40 v40) h) h) := by kernel_rfl
theorem A92_d27 : depL (regOps (seqL (seqR (rest 1 (bodyOf Tryz.f92.body))))) 27 = [26, 13] := by kernel_rfl
theorem A92_s28 (K : T → H → Prop) (t : T) (h : H) : aStep Tryz.prog (regOps (seqL (seqR (rest 1 (bodyOf Tryz.f92.body))))) 28 K t h = (o_guard (t 26) false (fun k => o_fieldAddr 4 (t 40) fun v41 => k v41 h) (fun v41 h => K (tset t 41 v41) h) h) := by kernel_rfl
theorem A92_d28 : depL (regOps (seqL (seqR (rest 1 (bodyOf Tryz.f92.body))))) 28 = [27, 13] := by kernel_rfl
theorem A92_s29 (K : T → H → Prop) (t : T) (h : H) : aStep Tryz.prog (regOps (seqL (seqR (rest 1 (bodyOf Tryz.f92.body))))) 29 K t h = (o_guard (t 26) false (fun k => o_load false 1 (t 41) h fun v42 => k v42 h) (fun v42 h => K (tset t 42 v42) h) h) := by kernel_rfl
theorem A92_d29 : depL (regOps (seqL (seqR (rest 1 (bodyOf Tryz.f92.body))))) 29 = [28, 13] := by kernel_rfl
theorem A92_s30 (K : T → H → Prop) (t : T) (h : H) : aStep Tryz.prog (regOps (seqL (seqR (rest 1 (bodyOf Tryz.f92.body))))) 30 K t h = (o_guard (t 26) false (fun k => o_bin Tryz.prog .neq 27 (t 38) (t 42) fun v43 => k v43 h) (fun v43 h => K (tset t 43 v43) h) h) := by kernel_rfl
theorem A92_d30 : depL (regOps (seqL (seqR (rest 1 (bodyOf Tryz.f92.body))))) 30 = [25, 29, 13] := by kernel_rfl
theorem A92_s31 (K : T → H → Prop) (t : T) (h : H) : aStep Tryz.prog (regOps (seqL (seqR (rest 1 (bodyOf Tryz.f92.body))))) 31 K t h = (o_pick (t 26) (.bool true) (t 43) fun v44 => K (tset t 44 v44) h) := by kernel_rfl
theorem A92_d31 : depL (regOps (seqL (seqR (rest 1 (bodyOf Tryz.f92.body))))) 31 = [13, 30] := by kernel_rfl
def F92_4 (x0 : Value) (h : H) (Kn : Value → Value → H → Prop) (Kr : H → Prop) : Prop :=
  ∃ (b m q : Nat) (ret fuel page gen gn : Int), x0 = (.pointer (some ⟨b, 0, none⟩)) ∧ cellAt h b 0 = some (.pointer (some ⟨m, 0, none⟩)) ∧ cellAt h m 35 = some (.int .i64 ret) ∧ cellAt h b 1 = some (.int .i64 fuel) ∧ cellAt h b 3 = some (.int .u32 page) ∧ cellAt h b 4 = some (.int .u32 gen) ∧ cellAt h m 0 = some (.pointer (some ⟨q, 0, none⟩)) ∧
    (∀ Q : Value → H → Prop, Q (.int .u32 gn) h → AM.Spec Tryz.prog 53 [(.pointer (some ⟨q, 0, none⟩)), .int .u32 page] h Q) ∧ Kn x0 (.bool (decide (fuel ≤ ret) || !decide (gn = gen))) h
theorem F92_4_ok (Kn Kr) (t : T) (h : H) (H0 : F92_4 (t 0) h Kn Kr) : Wp Tryz.prog 48 (seqL (seqR (rest 1 (bodyOf Tryz.f92.body)))) (mkQ (fun t h => Kn (t 0) (t 44) h) (fun t h => Kr  h) ke0) t h := by
  obtain ⟨b, m, q, ret, fuel, page, gen, gn, e0, hc0, hcr, hcf, hcp, hcg, hcq, hcall, hk0⟩ := H0
  cases hdec : decide (fuel ≤ ret)
  · refine draw_read (by kernel_rfl) A92_back [(0, (.pointer (some ⟨b, 0, none⟩)))] [(0, 13), (1, 14), (2, 15), (3, 16), (4, 17), (5, 18), (6, 19), (7, 20), (8, 21), (9, 22), (10, 23), (11, 24), (12, 25), (13, 26), (14, 27), (15, 28), (16, 29), (17, 30), (18, 31), (19, 32), (20, 33), (21, 34), (22, 35), (23, 36), (24, 37), (25, 38), (26, 39), (27, 40), (28, 41), (29, 42), (30, 43), (31, 44)] (fun i => match i with | 0 => (.pointer (some ⟨b, 0, none⟩)) | 1 => (.pointer (some ⟨b, 0, none⟩)) | 2 => (.pointer (some ⟨b, 0, none⟩)) | 3 => (.pointer (some ⟨m, 0, none⟩)) | 4 => (.pointer (some ⟨m, 0, none⟩)) | 5 => (.pointer (some ⟨m, 2, none⟩)) | 6 => (.pointer (some ⟨m, 35, none⟩)) | 7 => (.int .i64 ret) | 8 => (.pointer (some ⟨b, 0, none⟩)) | 9 => (.pointer (some ⟨b, 0, none⟩)) | 10 => (.pointer (some ⟨b, 1, none⟩)) | 11 => (.int .i64 fuel) | 12 => (.bool false) | 13 => (.bool false) | 14 => (.pointer (some ⟨b, 0, none⟩)) | 15 => (.pointer (some ⟨b, 0, none⟩)) | 16 => (.pointer (some ⟨b, 0, none⟩)) | 17 => (.pointer (some ⟨m, 0, none⟩)) | 18 => (.pointer (some ⟨m, 0, none⟩)) | 19 => (.pointer (some ⟨m, 0, none⟩)) | 20 => (.pointer (some ⟨q, 0, none⟩)) | 21 => (.pointer (some ⟨b, 0, none⟩)) | 22 => (.pointer (some ⟨b, 0, none⟩)) | 23 => (.pointer (some ⟨b, 3, none⟩)) | 24 => (.int .u32 page) | 25 => (.int .u32 gn) | 26 => (.pointer (some ⟨b, 0, none⟩)) | 27 => (.pointer (some ⟨b, 0, none⟩)) | 28 => (.pointer (some ⟨b, 4, none⟩)) | 29 => (.int .u32 gen) | 30 => (.bool (!decide (gn = gen))) | 31 => (.bool (!decide (gn = gen))) | _ => undef) (by simp [*]) (by kernel_rfl) ?_ ?_
    · intro l t' i hi hd hT K hk
      have p0 : t' 0 = (.pointer (some ⟨b, 0, none⟩)) := hT.p (0, (.pointer (some ⟨b, 0, none⟩))) (by simp)
      rw [A92_size] at hi
      match i, hi with
      | 0, _ =>
        simp only [A92_s0, p0, nil_ptr, field_addr, conv_int, Nat.zero_add, Nat.add_zero, Nat.reduceAdd, load_cell hc0, load_cell hcr, load_cell hcf, load_cell hcp, load_cell hcg, load_cell hcq, bin_geq, bin_neq, if_true', pick_bool, cond_true, cond_false, hdec, guard_tf, guard_ff, guard_ft, guard_tt]
        exact hk _ (hT.set 0 13 rfl)
      | 1, _ =>
        have e13 : t' 13 = (.pointer (some ⟨b, 0, none⟩)) := hT.v (0, 13) (by simp) (hd 0 (by rw [A92_d1]; simp))
        simp only [A92_s1, e13, nil_ptr, field_addr, conv_int, Nat.zero_add, Nat.add_zero, Nat.reduceAdd, load_cell hc0, load_cell hcr, load_cell hcf, load_cell hcp, load_cell hcg, load_cell hcq, bin_geq, bin_neq, if_true', pick_bool, cond_true, cond_false, hdec, guard_tf, guard_ff, guard_ft, guard_tt]
        exact hk _ (hT.set 1 14 rfl)
      | 2, _ =>
        have e14 : t' 14 = (.pointer (some ⟨b, 0, none⟩)) := hT.v (1, 14) (by simp) (hd 1 (by rw [A92_d2]; simp))
        simp only [A92_s2, e14, nil_ptr, field_addr, conv_int, Nat.zero_add, Nat.add_zero, Nat.reduceAdd, load_cell hc0, load_cell hcr, load_cell hcf, load_cell hcp, load_cell hcg, load_cell hcq, bin_geq, bin_neq, if_true', pick_bool, cond_true, cond_false, hdec, guard_tf, guard_ff, guard_ft, guard_tt]
        exact hk _ (hT.set 2 15 rfl)
      | 3, _ =>
        have e15 : t' 15 = (.pointer (some ⟨b, 0, none⟩)) := hT.v (2, 15) (by simp) (hd 2 (by rw [A92_d3]; simp))
        simp only [A92_s3, e15, nil_ptr, field_addr, conv_int, Nat.zero_add, Nat.add_zero, Nat.reduceAdd, load_cell hc0, load_cell hcr, load_cell hcf, load_cell hcp, load_cell hcg, load_cell hcq, bin_geq, bin_neq, if_true', pick_bool, cond_true, cond_false, hdec, guard_tf, guard_ff, guard_ft, guard_tt]
        exact hk _ (hT.set 3 16 rfl)
      | 4, _ =>
        have e16 : t' 16 = (.pointer (some ⟨m, 0, none⟩)) := hT.v (3, 16) (by simp) (hd 3 (by rw [A92_d4]; simp))
        simp only [A92_s4, e16, nil_ptr, field_addr, conv_int, Nat.zero_add, Nat.add_zero, Nat.reduceAdd, load_cell hc0, load_cell hcr, load_cell hcf, load_cell hcp, load_cell hcg, load_cell hcq, bin_geq, bin_neq, if_true', pick_bool, cond_true, cond_false, hdec, guard_tf, guard_ff, guard_ft, guard_tt]
        exact hk _ (hT.set 4 17 rfl)
      | 5, _ =>
        have e17 : t' 17 = (.pointer (some ⟨m, 0, none⟩)) := hT.v (4, 17) (by simp) (hd 4 (by rw [A92_d5]; simp))
        simp only [A92_s5, e17, nil_ptr, field_addr, conv_int, Nat.zero_add, Nat.add_zero, Nat.reduceAdd, load_cell hc0, load_cell hcr, load_cell hcf, load_cell hcp, load_cell hcg, load_cell hcq, bin_geq, bin_neq, if_true', pick_bool, cond_true, cond_false, hdec, guard_tf, guard_ff, guard_ft, guard_tt]
        exact hk _ (hT.set 5 18 rfl)
      | 6, _ =>
        have e18 : t' 18 = (.pointer (some ⟨m, 2, none⟩)) := hT.v (5, 18) (by simp) (hd 5 (by rw [A92_d6]; simp))
        simp only [A92_s6, e18, nil_ptr, field_addr, conv_int, Nat.zero_add, Nat.add_zero, Nat.reduceAdd, load_cell hc0, load_cell hcr, load_cell hcf, load_cell hcp, load_cell hcg, load_cell hcq, bin_geq, bin_neq, if_true', pick_bool, cond_true, cond_false, hdec, guard_tf, guard_ff, guard_ft, guard_tt]
        exact hk _ (hT.set 6 19 rfl)
      | 7, _ =>
        have e19 : t' 19 = (.pointer (some ⟨m, 35, none⟩)) := hT.v (6, 19) (by simp) (hd 6 (by rw [A92_d7]; simp))
        simp only [A92_s7, e19, nil_ptr, field_addr, conv_int, Nat.zero_add, Nat.add_zero, Nat.reduceAdd, load_cell hc0, load_cell hcr, load_cell hcf, load_cell hcp, load_cell hcg, load_cell hcq, bin_geq, bin_neq, if_true', pick_bool, cond_true, cond_false, hdec, guard_tf, guard_ff, guard_ft, guard_tt]
        exact hk _ (hT.set 7 20 rfl)
      | 8, _ =>
        simp only [A92_s8, p0, nil_ptr, field_addr, conv_int, Nat.zero_add, Nat.add_zero, Nat.reduceAdd, load_cell hc0, load_cell hcr, load_cell hcf, load_cell hcp, load_cell hcg, load_cell hcq, bin_geq, bin_neq, if_true', pick_bool, cond_true, cond_false, hdec, guard_tf, guard_ff, guard_ft, guard_tt]
        exact hk _ (hT.set 8 21 rfl)
      | 9, _ =>
        have e21 : t' 21 = (.pointer (some ⟨b, 0, none⟩)) := hT.v (8, 21) (by simp) (hd 8 (by rw [A92_d9]; simp))
        simp only [A92_s9, e21, nil_ptr, field_addr, conv_int, Nat.zero_add, Nat.add_zero, Nat.reduceAdd, load_cell hc0, load_cell hcr, load_cell hcf, load_cell hcp, load_cell hcg, load_cell hcq, bin_geq, bin_neq, if_true', pick_bool, cond_true, cond_false, hdec, guard_tf, guard_ff, guard_ft, guard_tt]
        exact hk _ (hT.set 9 22 rfl)
      | 10, _ =>
        have e22 : t' 22 = (.pointer (some ⟨b, 0, none⟩)) := hT.v (9, 22) (by simp) (hd 9 (by rw [A92_d10]; simp))
        simp only [A92_s10, e22, nil_ptr, field_addr, conv_int, Nat.zero_add, Nat.add_zero, Nat.reduceAdd, load_cell hc0, load_cell hcr, load_cell hcf, load_cell hcp, load_cell hcg, load_cell hcq, bin_geq, bin_neq, if_true', pick_bool, cond_true, cond_false, hdec, guard_tf, guard_ff, guard_ft, guard_tt]
        exact hk _ (hT.set 10 23 rfl)
      | 11, _ =>
        have e23 : t' 23 = (.pointer (some ⟨b, 1, none⟩)) := hT.v (10, 23) (by simp) (hd 10 (by rw [A92_d11]; simp))
        simp only [A92_s11, e23, nil_ptr, field_addr, conv_int, Nat.zero_add, Nat.add_zero, Nat.reduceAdd, load_cell hc0, load_cell hcr, load_cell hcf, load_cell hcp, load_cell hcg, load_cell hcq, bin_geq, bin_neq, if_true', pick_bool, cond_true, cond_false, hdec, guard_tf, guard_ff, guard_ft, guard_tt]
        exact hk _ (hT.set 11 24 rfl)
      | 12, _ =>
        have e20 : t' 20 = (.int .i64 ret) := hT.v (7, 20) (by simp) (hd 7 (by rw [A92_d12]; simp))
        have e24 : t' 24 = (.int .i64 fuel) := hT.v (11, 24) (by simp) (hd 11 (by rw [A92_d12]; simp))
        simp only [A92_s12, e20, e24, nil_ptr, field_addr, conv_int, Nat.zero_add, Nat.add_zero, Nat.reduceAdd, load_cell hc0, load_cell hcr, load_cell hcf, load_cell hcp, load_cell hcg, load_cell hcq, bin_geq, bin_neq, if_true', pick_bool, cond_true, cond_false, hdec, guard_tf, guard_ff, guard_ft, guard_tt]
        exact hk _ (hT.set 12 25 rfl)
      | 13, _ =>
        have e25 : t' 25 = (.bool false) := hT.v (12, 25) (by simp) (hd 12 (by rw [A92_d13]; simp))
        simp only [A92_s13, e25, nil_ptr, field_addr, conv_int, Nat.zero_add, Nat.add_zero, Nat.reduceAdd, load_cell hc0, load_cell hcr, load_cell hcf, load_cell hcp, load_cell hcg, load_cell hcq, bin_geq, bin_neq, if_true', pick_bool, cond_true, cond_false, hdec, guard_tf, guard_ff, guard_ft, guard_tt]
        exact hk _ (hT.set 13 26 rfl)
      | 14, _ =>
        have e26 : t' 26 = (.bool false) := hT.v (13, 26) (by simp) (hd 13 (by rw [A92_d14]; simp))
        simp only [A92_s14, p0, e26, nil_ptr, field_addr, conv_int, Nat.zero_add, Nat.add_zero, Nat.reduceAdd, load_cell hc0, load_cell hcr, load_cell hcf, load_cell hcp, load_cell hcg, load_cell hcq, bin_geq, bin_neq, if_true', pick_bool, cond_true, cond_false, hdec, guard_tf, guard_ff, guard_ft, guard_tt]
        exact hk _ (hT.set 14 27 rfl)
      | 15, _ =>
        have e26 : t' 26 = (.bool false) := hT.v (13, 26) (by simp) (hd 13 (by rw [A92_d15]; simp))
        have e27 : t' 27 = (.pointer (some ⟨b, 0, none⟩)) := hT.v (14, 27) (by simp) (hd 14 (by rw [A92_d15]; simp))
        simp only [A92_s15, e26, e27, nil_ptr, field_addr, conv_int, Nat.zero_add, Nat.add_zero, Nat.reduceAdd, load_cell hc0, load_cell hcr, load_cell hcf, load_cell hcp, load_cell hcg, load_cell hcq, bin_geq, bin_neq, if_true', pick_bool, cond_true, cond_false, hdec, guard_tf, guard_ff, guard_ft, guard_tt]
        exact hk _ (hT.set 15 28 rfl)
      | 16, _ =>
        have e26 : t' 26 = (.bool false) := hT.v (13, 26) (by simp) (hd 13 (by rw [A92_d16]; simp))
        have e28 : t' 28 = (.pointer (some ⟨b, 0, none⟩)) := hT.v (15, 28) (by simp) (hd 15 (by rw [A92_d16]; simp))
        simp only [A92_s16, e26, e28, nil_ptr, field_addr, conv_int, Nat.zero_add, Nat.add_zero, Nat.reduceAdd, load_cell hc0, load_cell hcr, load_cell hcf, load_cell hcp, load_cell hcg, load_cell hcq, bin_geq, bin_neq, if_true', pick_bool, cond_true, cond_false, hdec, guard_tf, guard_ff, guard_ft, guard_tt]
        exact hk _ (hT.set 16 29 rfl)
      | 17, _ =>
        have e26 : t' 26 = (.bool false) := hT.v (13, 26) (by simp) (hd 13 (by rw [A92_d17]; simp))
        have e29 : t' 29 = (.pointer (some ⟨b, 0, none⟩)) := hT.v (16, 29) (by simp) (hd 16 (by rw [A92_d17]; simp))
        simp only [A92_s17, e26, e29, nil_ptr, field_addr, conv_int, Nat.zero_add, Nat.add_zero, Nat.reduceAdd, load_cell hc0, load_cell hcr, load_cell hcf, load_cell hcp, load_cell hcg, load_cell hcq, bin_geq, bin_neq, if_true', pick_bool, cond_true, cond_false, hdec, guard_tf, guard_ff, guard_ft, guard_tt]
        exact hk _ (hT.set 17 30 rfl)
      | 18, _ =>
        have e26 : t' 26 = (.bool false) := hT.v (13, 26) (by simp) (hd 13 (by rw [A92_d18]; simp))
        have e30 : t' 30 = (.pointer (some ⟨m, 0, none⟩)) := hT.v (17, 30) (by simp) (hd 17 (by rw [A92_d18]; simp))
        simp only [A92_s18, e26, e30, nil_ptr, field_addr, conv_int, Nat.zero_add, Nat.add_zero, Nat.reduceAdd, load_cell hc0, load_cell hcr, load_cell hcf, load_cell hcp, load_cell hcg, load_cell hcq, bin_geq, bin_neq, if_true', pick_bool, cond_true, cond_false, hdec, guard_tf, guard_ff, guard_ft, guard_tt]
        exact hk _ (hT.set 18 31 rfl)
      | 19, _ =>
        have e26 : t' 26 = (.bool false) := hT.v (13, 26) (by simp) (hd 13 (by rw [A92_d19]; simp))
        have e31 : t' 31 = (.pointer (some ⟨m, 0, none⟩)) := hT.v (18, 31) (by simp) (hd 18 (by rw [A92_d19]; simp))
        simp only [A92_s19, e26, e31, nil_ptr, field_addr, conv_int, Nat.zero_add, Nat.add_zero, Nat.reduceAdd, load_cell hc0, load_cell hcr, load_cell hcf, load_cell hcp, load_cell hcg, load_cell hcq, bin_geq, bin_neq, if_true', pick_bool, cond_true, cond_false, hdec, guard_tf, guard_ff, guard_ft, guard_tt]
        exact hk _ (hT.set 19 32 rfl)
      | 20, _ =>
        have e26 : t' 26 = (.bool false) := hT.v (13, 26) (by simp) (hd 13 (by rw [A92_d20]; simp))
        have e32 : t' 32 = (.pointer (some ⟨m, 0, none⟩)) := hT.v (19, 32) (by simp) (hd 19 (by rw [A92_d20]; simp))
        simp only [A92_s20, e26, e32, nil_ptr, field_addr, conv_int, Nat.zero_add, Nat.add_zero, Nat.reduceAdd, load_cell hc0, load_cell hcr, load_cell hcf, load_cell hcp, load_cell hcg, load_cell hcq, bin_geq, bin_neq, if_true', pick_bool, cond_true, cond_false, hdec, guard_tf, guard_ff, guard_ft, guard_tt]
        exact hk _ (hT.set 20 33 rfl)
      | 21, _ =>
        have e26 : t' 26 = (.bool false) := hT.v (13, 26) (by simp) (hd 13 (by rw [A92_d21]; simp))
        simp only [A92_s21, p0, e26, nil_ptr, field_addr, conv_int, Nat.zero_add, Nat.add_zero, Nat.reduceAdd, load_cell hc0, load_cell hcr, load_cell hcf, load_cell hcp, load_cell hcg, load_cell hcq, bin_geq, bin_neq, if_true', pick_bool, cond_true, cond_false, hdec, guard_tf, guard_ff, guard_ft, guard_tt]
        exact hk _ (hT.set 21 34 rfl)
      | 22, _ =>
        have e26 : t' 26 = (.bool false) := hT.v (13, 26) (by simp) (hd 13 (by rw [A92_d22]; simp))
        have e34 : t' 34 = (.pointer (some ⟨b, 0, none⟩)) := hT.v (21, 34) (by simp) (hd 21 (by rw [A92_d22]; simp))
        simp only [A92_s22, e26, e34, nil_ptr, field_addr, conv_int, Nat.zero_add, Nat.add_zero, Nat.reduceAdd, load_cell hc0, load_cell hcr, load_cell hcf, load_cell hcp, load_cell hcg, load_cell hcq, bin_geq, bin_neq, if_true', pick_bool, cond_true, cond_false, hdec, guard_tf, guard_ff, guard_ft, guard_tt]
        exact hk _ (hT.set 22 35 rfl)
      | 23, _ =>
        have e26 : t' 26 = (.bool false) := hT.v (13, 26) (by simp) (hd 13 (by rw [A92_d23]; simp))
        have e35 : t' 35 = (.pointer (some ⟨b, 0, none⟩)) := hT.v (22, 35) (by simp) (hd 22 (by rw [A92_d23]; simp))
        simp only [A92_s23, e26, e35, nil_ptr, field_addr, conv_int, Nat.zero_add, Nat.add_zero, Nat.reduceAdd, load_cell hc0, load_cell hcr, load_cell hcf, load_cell hcp, load_cell hcg, load_cell hcq, bin_geq, bin_neq, if_true', pick_bool, cond_true, cond_false, hdec, guard_tf, guard_ff, guard_ft, guard_tt]
        exact hk _ (hT.set 23 36 rfl)
      | 24, _ =>
        have e26 : t' 26 = (.bool false) := hT.v (13, 26) (by simp) (hd 13 (by rw [A92_d24]; simp))
        have e36 : t' 36 = (.pointer (some ⟨b, 3, none⟩)) := hT.v (23, 36) (by simp) (hd 23 (by rw [A92_d24]; simp))
        simp only [A92_s24, e26, e36, nil_ptr, field_addr, conv_int, Nat.zero_add, Nat.add_zero, Nat.reduceAdd, load_cell hc0, load_cell hcr, load_cell hcf, load_cell hcp, load_cell hcg, load_cell hcq, bin_geq, bin_neq, if_true', pick_bool, cond_true, cond_false, hdec, guard_tf, guard_ff, guard_ft, guard_tt]
        exact hk _ (hT.set 24 37 rfl)
      | 25, _ =>
        have e26 : t' 26 = (.bool false) := hT.v (13, 26) (by simp) (hd 13 (by rw [A92_d25]; simp))
        have e33 : t' 33 = (.pointer (some ⟨q, 0, none⟩)) := hT.v (20, 33) (by simp) (hd 20 (by rw [A92_d25]; simp))
        have e37 : t' 37 = (.int .u32 page) := hT.v (24, 37) (by simp) (hd 24 (by rw [A92_d25]; simp))
        rw [A92_s25, e26, e33, e37]
        rw [guard_ff]
        refine ⟨rfl, hcall _ ?_⟩
        exact hk _ (hT.set 25 38 rfl)
      | 26, _ =>
        have e26 : t' 26 = (.bool false) := hT.v (13, 26) (by simp) (hd 13 (by rw [A92_d26]; simp))
        simp only [A92_s26, p0, e26, nil_ptr, field_addr, conv_int, Nat.zero_add, Nat.add_zero, Nat.reduceAdd, load_cell hc0, load_cell hcr, load_cell hcf, load_cell hcp, load_cell hcg, load_cell hcq, bin_geq, bin_neq, if_true', pick_bool, cond_true, cond_false, hdec, guard_tf, guard_ff, guard_ft, guard_tt]
        exact hk _ (hT.set 26 39 rfl)
      | 27, _ =>
        have e26 : t' 26 = (.bool false) := hT.v (13, 26) (by simp) (hd 13 (by rw [A92_d27]; simp))
        have e39 : t' 39 = (.pointer (some ⟨b, 0, none⟩)) := hT.v (26, 39) (by simp) (hd 26 (by rw [A92_d27]; simp))
        simp only [A92_s27, e26, e39, nil_ptr, field_addr, conv_int, Nat.zero_add, Nat.add_zero, Nat.reduceAdd, load_cell hc0, load_cell hcr, load_cell hcf, load_cell hcp, load_cell hcg, load_cell hcq, bin_geq, bin_neq, if_true', pick_bool, cond_true, cond_false, hdec, guard_tf, guard_ff, guard_ft, guard_tt]
        exact hk _ (hT.set 27 40 rfl)
      | 28, _ =>
        have e26 : t' 26 = (.bool false) := hT.v (13, 26) (by simp) (hd 13 (by rw [A92_d28]; simp))
        have e40 : t' 40 = (.pointer (some ⟨b, 0, none⟩)) := hT.v (27, 40) (by simp) (hd 27 (by rw [A92_d28]; simp))
        simp only [A92_s28, e26, e40, nil_ptr, field_addr, conv_int, Nat.zero_add, Nat.add_zero, Nat.reduceAdd, load_cell hc0, load_cell hcr, load_cell hcf, load_cell hcp, load_cell hcg, load_cell hcq, bin_geq, bin_neq, if_true', pick_bool, cond_true, cond_false, hdec, guard_tf, guard_ff, guard_ft, guard_tt]
        exact hk _ (hT.set 28 41 rfl)
      | 29, _ =>
        have e26 : t' 26 = (.bool false) := hT.v (13, 26) (by simp) (hd 13 (by rw [A92_d29]; simp))
        have e41 : t' 41 = (.pointer (some ⟨b, 4, none⟩)) := hT.v (28, 41) (by simp) (hd 28 (by rw [A92_d29]; simp))
        simp only [A92_s29, e26, e41, nil_ptr, field_addr, conv_int, Nat.zero_add, Nat.add_zero, Nat.reduceAdd, load_cell hc0, load_cell hcr, load_cell hcf, load_cell hcp, load_cell hcg, load_cell hcq, bin_geq, bin_neq, if_true', pick_bool, cond_true, cond_false, hdec, guard_tf, guard_ff, guard_ft, guard_tt]
        exact hk _ (hT.set 29 42 rfl)
      | 30, _ =>
        have e26 : t' 26 = (.bool false) := hT.v (13, 26) (by simp) (hd 13 (by rw [A92_d30]; simp))
        have e38 : t' 38 = (.int .u32 gn) := hT.v (25, 38) (by simp) (hd 25 (by rw [A92_d30]; simp))
        have e42 : t' 42 = (.int .u32 gen) := hT.v (29, 42) (by simp) (hd 29 (by rw [A92_d30]; simp))
        simp only [A92_s30, e26, e38, e42, nil_ptr, field_addr, conv_int, Nat.zero_add, Nat.add_zero, Nat.reduceAdd, load_cell hc0, load_cell hcr, load_cell hcf, load_cell hcp, load_cell hcg, load_cell hcq, bin_geq, bin_neq, if_true', pick_bool, cond_true, cond_false, hdec, guard_tf, guard_ff, guard_ft, guard_tt]
        exact hk _ (hT.set 30 43 rfl)
      | 31, _ =>
        have e26 : t' 26 = (.bool false) := hT.v (13, 26) (by simp) (hd 13 (by rw [A92_d31]; simp))
        have e43 : t' 43 = (.bool (!decide (gn = gen))) := hT.v (30, 43) (by simp) (hd 30 (by rw [A92_d31]; simp))
        simp only [A92_s31, e26, e43, nil_ptr, field_addr, conv_int, Nat.zero_add, Nat.add_zero, Nat.reduceAdd, load_cell hc0, load_cell hcr, load_cell hcf, load_cell hcp, load_cell hcg, load_cell hcq, bin_geq, bin_neq, if_true', pick_bool, cond_true, cond_false, hdec, guard_tf, guard_ff, guard_ft, guard_tt]
        exact hk _ (hT.set 31 44 rfl)
      | k + 32, hk => exact absurd hk (by omega)
    · intro t' hp hv
      show Kn (t' 0) (t' 44) h
      rw [hp (0, (.pointer (some ⟨b, 0, none⟩))) (by simp), hv (31, 44) (by simp), ← e0]
      rw [hdec] at hk0
      exact hk0
  · refine draw_read (by kernel_rfl) A92_back [(0, (.pointer (some ⟨b, 0, none⟩)))] [(0, 13), (1, 14), (2, 15), (3, 16), (4, 17), (5, 18), (6, 19), (7, 20), (8, 21), (9, 22), (10, 23), (11, 24), (12, 25), (13, 26), (14, 27), (15, 28), (16, 29), (17, 30), (18, 31), (19, 32), (20, 33), (21, 34), (22, 35), (23, 36), (24, 37), (25, 38), (26, 39), (27, 40), (28, 41), (29, 42), (30, 43), (31, 44)] (fun i => match i with | 0 => (.pointer (some ⟨b, 0, none⟩)) | 1 => (.pointer (some ⟨b, 0, none⟩)) | 2 => (.pointer (some ⟨b, 0, none⟩)) | 3 => (.pointer (some ⟨m, 0, none⟩)) | 4 => (.pointer (some ⟨m, 0, none⟩)) | 5 => (.pointer (some ⟨m, 2, none⟩)) | 6 => (.pointer (some ⟨m, 35, none⟩)) | 7 => (.int .i64 ret) | 8 => (.pointer (some ⟨b, 0, none⟩)) | 9 => (.pointer (some ⟨b, 0, none⟩)) | 10 => (.pointer (some ⟨b, 1, none⟩)) | 11 => (.int .i64 fuel) | 12 => (.bool true) | 13 => (.bool true) | 14 => undef | 15 => undef | 16 => undef | 17 => undef | 18 => undef | 19 => undef | 20 => undef | 21 => undef | 22 => undef | 23 => undef | 24 => undef | 25 => undef | 26 => undef | 27 => undef | 28 => undef | 29 => undef | 30 => undef | 31 => (.bool true) | _ => undef) (by simp [*]) (by kernel_rfl) ?_ ?_
    · intro l t' i hi hd hT K hk
      have p0 : t' 0 = (.pointer (some ⟨b, 0, none⟩)) := hT.p (0, (.pointer (some ⟨b, 0, none⟩))) (by simp)
      rw [A92_size] at hi
      match i, hi with
      | 0, _ =>
        simp only [A92_s0, p0, nil_ptr, field_addr, conv_int, Nat.zero_add, Nat.add_zero, Nat.reduceAdd, load_cell hc0, load_cell hcr, load_cell hcf, load_cell hcp, load_cell hcg, load_cell hcq, bin_geq, bin_neq, if_true', pick_bool, cond_true, cond_false, hdec, guard_tf, guard_ff, guard_ft, guard_tt]
        exact hk _ (hT.set 0 13 rfl)
      | 1, _ =>
        have e13 : t' 13 = (.pointer (some ⟨b, 0, none⟩)) := hT.v (0, 13) (by simp) (hd 0 (by rw [A92_d1]; simp))
        simp only [A92_s1, e13, nil_ptr, field_addr, conv_int, Nat.zero_add, Nat.add_zero, Nat.reduceAdd, load_cell hc0, load_cell hcr, load_cell hcf, load_cell hcp, load_cell hcg, load_cell hcq, bin_geq, bin_neq, if_true', pick_bool, cond_true, cond_false, hdec, guard_tf, guard_ff, guard_ft, guard_tt]
        exact hk _ (hT.set 1 14 rfl)
      | 2, _ =>
        have e14 : t' 14 = (.pointer (some ⟨b, 0, none⟩)) := hT.v (1, 14) (by simp) (hd 1 (by rw [A92_d2]; simp))
        simp only [A92_s2, e14, nil_ptr, field_addr, conv_int, Nat.zero_add, Nat.add_zero, Nat.reduceAdd, load_cell hc0, load_cell hcr, load_cell hcf, load_cell hcp, load_cell hcg, load_cell hcq, bin_geq, bin_neq, if_true', pick_bool, cond_true, cond_false, hdec, guard_tf, guard_ff, guard_ft, guard_tt]
        exact hk _ (hT.set 2 15 rfl)
      | 3, _ =>
        have e15 : t' 15 = (.pointer (some ⟨b, 0, none⟩)) := hT.v (2, 15) (by simp) (hd 2 (by rw [A92_d3]; simp))
        simp only [A92_s3, e15, nil_ptr, field_addr, conv_int, Nat.zero_add, Nat.add_zero, Nat.reduceAdd, load_cell hc0, load_cell hcr, load_cell hcf, load_cell hcp, load_cell hcg, load_cell hcq, bin_geq, bin_neq, if_true', pick_bool, cond_true, cond_false, hdec, guard_tf, guard_ff, guard_ft, guard_tt]
        exact hk _ (hT.set 3 16 rfl)
      | 4, _ =>
        have e16 : t' 16 = (.pointer (some ⟨m, 0, none⟩)) := hT.v (3, 16) (by simp) (hd 3 (by rw [A92_d4]; simp))
        simp only [A92_s4, e16, nil_ptr, field_addr, conv_int, Nat.zero_add, Nat.add_zero, Nat.reduceAdd, load_cell hc0, load_cell hcr, load_cell hcf, load_cell hcp, load_cell hcg, load_cell hcq, bin_geq, bin_neq, if_true', pick_bool, cond_true, cond_false, hdec, guard_tf, guard_ff, guard_ft, guard_tt]
        exact hk _ (hT.set 4 17 rfl)
      | 5, _ =>
        have e17 : t' 17 = (.pointer (some ⟨m, 0, none⟩)) := hT.v (4, 17) (by simp) (hd 4 (by rw [A92_d5]; simp))
        simp only [A92_s5, e17, nil_ptr, field_addr, conv_int, Nat.zero_add, Nat.add_zero, Nat.reduceAdd, load_cell hc0, load_cell hcr, load_cell hcf, load_cell hcp, load_cell hcg, load_cell hcq, bin_geq, bin_neq, if_true', pick_bool, cond_true, cond_false, hdec, guard_tf, guard_ff, guard_ft, guard_tt]
        exact hk _ (hT.set 5 18 rfl)
      | 6, _ =>
        have e18 : t' 18 = (.pointer (some ⟨m, 2, none⟩)) := hT.v (5, 18) (by simp) (hd 5 (by rw [A92_d6]; simp))
        simp only [A92_s6, e18, nil_ptr, field_addr, conv_int, Nat.zero_add, Nat.add_zero, Nat.reduceAdd, load_cell hc0, load_cell hcr, load_cell hcf, load_cell hcp, load_cell hcg, load_cell hcq, bin_geq, bin_neq, if_true', pick_bool, cond_true, cond_false, hdec, guard_tf, guard_ff, guard_ft, guard_tt]
        exact hk _ (hT.set 6 19 rfl)
      | 7, _ =>
        have e19 : t' 19 = (.pointer (some ⟨m, 35, none⟩)) := hT.v (6, 19) (by simp) (hd 6 (by rw [A92_d7]; simp))
        simp only [A92_s7, e19, nil_ptr, field_addr, conv_int, Nat.zero_add, Nat.add_zero, Nat.reduceAdd, load_cell hc0, load_cell hcr, load_cell hcf, load_cell hcp, load_cell hcg, load_cell hcq, bin_geq, bin_neq, if_true', pick_bool, cond_true, cond_false, hdec, guard_tf, guard_ff, guard_ft, guard_tt]
        exact hk _ (hT.set 7 20 rfl)
      | 8, _ =>
        simp only [A92_s8, p0, nil_ptr, field_addr, conv_int, Nat.zero_add, Nat.add_zero, Nat.reduceAdd, load_cell hc0, load_cell hcr, load_cell hcf, load_cell hcp, load_cell hcg, load_cell hcq, bin_geq, bin_neq, if_true', pick_bool, cond_true, cond_false, hdec, guard_tf, guard_ff, guard_ft, guard_tt]
        exact hk _ (hT.set 8 21 rfl)
      | 9, _ =>
        have e21 : t' 21 = (.pointer (some ⟨b, 0, none⟩)) := hT.v (8, 21) (by simp) (hd 8 (by rw [A92_d9]; simp))
        simp only [A92_s9, e21, nil_ptr, field_addr, conv_int, Nat.zero_add, Nat.add_zero, Nat.reduceAdd, load_cell hc0, load_cell hcr, load_cell hcf, load_cell hcp, load_cell hcg, load_cell hcq, bin_geq, bin_neq, if_true', pick_bool, cond_true, cond_false, hdec, guard_tf, guard_ff, guard_ft, guard_tt]
        exact hk _ (hT.set 9 22 rfl)
      | 10, _ =>
        have e22 : t' 22 = (.pointer (some ⟨b, 0, none⟩)) := hT.v (9, 22) (by simp) (hd 9 (by rw [A92_d10]; simp))
        simp only [A92_s10, e22, nil_ptr, field_addr, conv_int, Nat.zero_add, Nat.add_zero, Nat.reduceAdd, load_cell hc0, load_cell hcr, load_cell hcf, load_cell hcp, load_cell hcg, load_cell hcq, bin_geq, bin_neq, if_true', pick_bool, cond_true, cond_false, hdec, guard_tf, guard_ff, guard_ft, guard_tt]
        exact hk _ (hT.set 10 23 rfl)
      | 11, _ =>
        have e23 : t' 23 = (.pointer (some ⟨b, 1, none⟩)) := hT.v (10, 23) (by simp) (hd 10 (by rw [A92_d11]; simp))
        simp only [A92_s11, e23, nil_ptr, field_addr, conv_int, Nat.zero_add, Nat.add_zero, Nat.reduceAdd, load_cell hc0, load_cell hcr, load_cell hcf, load_cell hcp, load_cell hcg, load_cell hcq, bin_geq, bin_neq, if_true', pick_bool, cond_true, cond_false, hdec, guard_tf, guard_ff, guard_ft, guard_tt]
        exact hk _ (hT.set 11 24 rfl)
      | 12, _ =>
        have e20 : t' 20 = (.int .i64 ret) := hT.v (7, 20) (by simp) (hd 7 (by rw [A92_d12]; simp))
        have e24 : t' 24 = (.int .i64 fuel) := hT.v (11, 24) (by simp) (hd 11 (by rw [A92_d12]; simp))
        simp only [A92_s12, e20, e24, nil_ptr, field_addr, conv_int, Nat.zero_add, Nat.add_zero, Nat.reduceAdd, load_cell hc0, load_cell hcr, load_cell hcf, load_cell hcp, load_cell hcg, load_cell hcq, bin_geq, bin_neq, if_true', pick_bool, cond_true, cond_false, hdec, guard_tf, guard_ff, guard_ft, guard_tt]
        exact hk _ (hT.set 12 25 rfl)
      | 13, _ =>
        have e25 : t' 25 = (.bool true) := hT.v (12, 25) (by simp) (hd 12 (by rw [A92_d13]; simp))
        simp only [A92_s13, e25, nil_ptr, field_addr, conv_int, Nat.zero_add, Nat.add_zero, Nat.reduceAdd, load_cell hc0, load_cell hcr, load_cell hcf, load_cell hcp, load_cell hcg, load_cell hcq, bin_geq, bin_neq, if_true', pick_bool, cond_true, cond_false, hdec, guard_tf, guard_ff, guard_ft, guard_tt]
        exact hk _ (hT.set 13 26 rfl)
      | 14, _ =>
        have e26 : t' 26 = (.bool true) := hT.v (13, 26) (by simp) (hd 13 (by rw [A92_d14]; simp))
        simp only [A92_s14, p0, e26, nil_ptr, field_addr, conv_int, Nat.zero_add, Nat.add_zero, Nat.reduceAdd, load_cell hc0, load_cell hcr, load_cell hcf, load_cell hcp, load_cell hcg, load_cell hcq, bin_geq, bin_neq, if_true', pick_bool, cond_true, cond_false, hdec, guard_tf, guard_ff, guard_ft, guard_tt]
        exact hk _ (hT.set 14 27 rfl)
      | 15, _ =>
        have e26 : t' 26 = (.bool true) := hT.v (13, 26) (by simp) (hd 13 (by rw [A92_d15]; simp))
        have e27 : t' 27 = undef := hT.v (14, 27) (by simp) (hd 14 (by rw [A92_d15]; simp))
        simp only [A92_s15, e26, e27, nil_ptr, field_addr, conv_int, Nat.zero_add, Nat.add_zero, Nat.reduceAdd, load_cell hc0, load_cell hcr, load_cell hcf, load_cell hcp, load_cell hcg, load_cell hcq, bin_geq, bin_neq, if_true', pick_bool, cond_true, cond_false, hdec, guard_tf, guard_ff, guard_ft, guard_tt]
        exact hk _ (hT.set 15 28 rfl)
      | 16, _ =>
        have e26 : t' 26 = (.bool true) := hT.v (13, 26) (by simp) (hd 13 (by rw [A92_d16]; simp))
        have e28 : t' 28 = undef := hT.v (15, 28) (by simp) (hd 15 (by rw [A92_d16]; simp))
        simp only [A92_s16, e26, e28, nil_ptr, field_addr, conv_int, Nat.zero_add, Nat.add_zero, Nat.reduceAdd, load_cell hc0, load_cell hcr, load_cell hcf, load_cell hcp, load_cell hcg, load_cell hcq, bin_geq, bin_neq, if_true', pick_bool, cond_true, cond_false, hdec, guard_tf, guard_ff, guard_ft, guard_tt]
        exact hk _ (hT.set 16 29 rfl)
      | 17, _ =>
        have e26 : t' 26 = (.bool true) := hT.v (13, 26) (by simp) (hd 13 (by rw [A92_d17]; simp))
        have e29 : t' 29 = undef := hT.v (16, 29) (by simp) (hd 16 (by rw [A92_d17]; simp))
        simp only [A92_s17, e26, e29, nil_ptr, field_addr, conv_int, Nat.zero_add, Nat.add_zero, Nat.reduceAdd, load_cell hc0, load_cell hcr, load_cell hcf, load_cell hcp, load_cell hcg, load_cell hcq, bin_geq, bin_neq, if_true', pick_bool, cond_true, cond_false, hdec, guard_tf, guard_ff, guard_ft, guard_tt]
        exact hk _ (hT.set 17 30 rfl)
      | 18, _ =>
        have e26 : t' 26 = (.bool true) := hT.v (13, 26) (by simp) (hd 13 (by rw [A92_d18]; simp))
        have e30 : t' 30 = undef := hT.v (17, 30) (by simp) (hd 17 (by rw [A92_d18]; simp))
        simp only [A92_s18, e26, e30, nil_ptr, field_addr, conv_int, Nat.zero_add, Nat.add_zero, Nat.reduceAdd, load_cell hc0, load_cell hcr, load_cell hcf, load_cell hcp, load_cell hcg, load_cell hcq, bin_geq, bin_neq, if_true', pick_bool, cond_true, cond_false, hdec, guard_tf, guard_ff, guard_ft, guard_tt]
        exact hk _ (hT.set 18 31 rfl)
      | 19, _ =>
        have e26 : t' 26 = (.bool true) := hT.v (13, 26) (by simp) (hd 13 (by rw [A92_d19]; simp))
        have e31 : t' 31 = undef := hT.v (18, 31) (by simp) (hd 18 (by rw [A92_d19]; simp))
        simp only [A92_s19, e26, e31, nil_ptr, field_addr, conv_int, Nat.zero_add, Nat.add_zero, Nat.reduceAdd, load_cell hc0, load_cell hcr, load_cell hcf, load_cell hcp, load_cell hcg, load_cell hcq, bin_geq, bin_neq, if_true', pick_bool, cond_true, cond_false, hdec, guard_tf, guard_ff, guard_ft, guard_tt]
        exact hk _ (hT.set 19 32 rfl)
      | 20, _ =>
        have e26 : t' 26 = (.bool true) := hT.v (13, 26) (by simp) (hd 13 (by rw [A92_d20]; simp))
        have e32 : t' 32 = undef := hT.v (19, 32) (by simp) (hd 19 (by rw [A92_d20]; simp))
        simp only [A92_s20, e26, e32, nil_ptr, field_addr, conv_int, Nat.zero_add, Nat.add_zero, Nat.reduceAdd, load_cell hc0, load_cell hcr, load_cell hcf, load_cell hcp, load_cell hcg, load_cell hcq, bin_geq, bin_neq, if_true', pick_bool, cond_true, cond_false, hdec, guard_tf, guard_ff, guard_ft, guard_tt]
        exact hk _ (hT.set 20 33 rfl)
      | 21, _ =>
        have e26 : t' 26 = (.bool true) := hT.v (13, 26) (by simp) (hd 13 (by rw [A92_d21]; simp))
        simp only [A92_s21, p0, e26, nil_ptr, field_addr, conv_int, Nat.zero_add, Nat.add_zero, Nat.reduceAdd, load_cell hc0, load_cell hcr, load_cell hcf, load_cell hcp, load_cell hcg, load_cell hcq, bin_geq, bin_neq, if_true', pick_bool, cond_true, cond_false, hdec, guard_tf, guard_ff, guard_ft, guard_tt]
        exact hk _ (hT.set 21 34 rfl)
      | 22, _ =>
        have e26 : t' 26 = (.bool true) := hT.v (13, 26) (by simp) (hd 13 (by rw [A92_d22]; simp))
        have e34 : t' 34 = undef := hT.v (21, 34) (by simp) (hd 21 (by rw [A92_d22]; simp))
        simp only [A92_s22, e26, e34, nil_ptr, field_addr, conv_int, Nat.zero_add, Nat.add_zero, Nat.reduceAdd, load_cell hc0, load_cell hcr, load_cell hcf, load_cell hcp, load_cell hcg, load_cell hcq, bin_geq, bin_neq, if_true', pick_bool, cond_true, cond_false, hdec, guard_tf, guard_ff, guard_ft, guard_tt]
        exact hk _ (hT.set 22 35 rfl)
      | 23, _ =>
        have e26 : t' 26 = (.bool true) := hT.v (13, 26) (by simp) (hd 13 (by rw [A92_d23]; simp))
        have e35 : t' 35 = undef := hT.v (22, 35) (by simp) (hd 22 (by rw [A92_d23]; simp))
        simp only [A92_s23, e26, e35, nil_ptr, field_addr, conv_int, Nat.zero_add, Nat.add_zero, Nat.reduceAdd, load_cell hc0, load_cell hcr, load_cell hcf, load_cell hcp, load_cell hcg, load_cell hcq, bin_geq, bin_neq, if_true', pick_bool, cond_true, cond_false, hdec, guard_tf, guard_ff, guard_ft, guard_tt]
        exact hk _ (hT.set 23 36 rfl)
      | 24, _ =>
        have e26 : t' 26 = (.bool true) := hT.v (13, 26) (by simp) (hd 13 (by rw [A92_d24]; simp))
        have e36 : t' 36 = undef := hT.v (23, 36) (by simp) (hd 23 (by rw [A92_d24]; simp))
        simp only [A92_s24, e26, e36, nil_ptr, field_addr, conv_int, Nat.zero_add, Nat.add_zero, Nat.reduceAdd, load_cell hc0, load_cell hcr, load_cell hcf, load_cell hcp, load_cell hcg, load_cell hcq, bin_geq, bin_neq, if_true', pick_bool, cond_true, cond_false, hdec, guard_tf, guard_ff, guard_ft, guard_tt]
        exact hk _ (hT.set 24 37 rfl)
      | 25, _ =>
        have e26 : t' 26 = (.bool true) := hT.v (13, 26) (by simp) (hd 13 (by rw [A92_d25]; simp))
        have e33 : t' 33 = undef := hT.v (20, 33) (by simp) (hd 20 (by rw [A92_d25]; simp))
        have e37 : t' 37 = undef := hT.v (24, 37) (by simp) (hd 24 (by rw [A92_d25]; simp))
        simp only [A92_s25, e26, e33, e37, nil_ptr, field_addr, conv_int, Nat.zero_add, Nat.add_zero, Nat.reduceAdd, load_cell hc0, load_cell hcr, load_cell hcf, load_cell hcp, load_cell hcg, load_cell hcq, bin_geq, bin_neq, if_true', pick_bool, cond_true, cond_false, hdec, guard_tf, guard_ff, guard_ft, guard_tt]
        exact hk _ (hT.set 25 38 rfl)
      | 26, _ =>
        have e26 : t' 26 = (.bool true) := hT.v (13, 26) (by simp) (hd 13 (by rw [A92_d26]; simp))
        simp only [A92_s26, p0, e26, nil_ptr, field_addr, conv_int, Nat.zero_add, Nat.add_zero, Nat.reduceAdd, load_cell hc0, load_cell hcr, load_cell hcf, load_cell hcp, load_cell hcg, load_cell hcq, bin_geq, bin_neq, if_true', pick_bool, cond_true, cond_false, hdec, guard_tf, guard_ff, guard_ft, guard_tt]
        exact hk _ (hT.set 26 39 rfl)
      | 27, _ =>
        have e26 : t' 26 = (.bool true) := hT.v (13, 26) (by simp) (hd 13 (by rw [A92_d27]; simp))
        have e39 : t' 39 = undef := hT.v (26, 39) (by simp) (hd 26 (by rw [A92_d27]; simp))
        simp only [A92_s27, e26, e39, nil_ptr, field_addr, conv_int, Nat.zero_add, Nat.add_zero, Nat.reduceAdd, load_cell hc0, load_cell hcr, load_cell hcf, load_cell hcp, load_cell hcg, load_cell hcq, bin_geq, bin_neq, if_true', pick_bool, cond_true, cond_false, hdec, guard_tf, guard_ff, guard_ft, guard_tt]
        exact hk _ (hT.set 27 40 rfl)
      | 28, _ =>
        have e26 : t' 26 = (.bool true) := hT.v (13, 26) (by simp) (hd 13 (by rw [A92_d28]; simp))
        have e40 : t' 40 = undef := hT.v (27, 40) (by simp) (hd 27 (by rw [A92_d28]; simp))
        simp only [A92_s28, e26, e40, nil_ptr, field_addr, conv_int, Nat.zero_add, Nat.add_zero, Nat.reduceAdd, load_cell hc0, load_cell hcr, load_cell hcf, load_cell hcp, load_cell hcg, load_cell hcq, bin_geq, bin_neq, if_true', pick_bool, cond_true, cond_false, hdec, guard_tf, guard_ff, guard_ft, guard_tt]
        exact hk _ (hT.set 28 41 rfl)
      | 29, _ =>
        have e26 : t' 26 = (.bool true) := hT.v (13, 26) (by simp) (hd 13 (by rw [A92_d29]; simp))
        have e41 : t' 41 = undef := hT.v (28, 41) (by simp) (hd 28 (by rw [A92_d29]; simp))
        simp only [A92_s29, e26, e41, nil_ptr, field_addr, conv_int, Nat.zero_add, Nat.add_zero, Nat.reduceAdd, load_cell hc0, load_cell hcr, load_cell hcf, load_cell hcp, load_cell hcg, load_cell hcq, bin_geq, bin_neq, if_true', pick_bool, cond_true, cond_false, hdec, guard_tf, guard_ff, guard_ft, guard_tt]
        exact hk _ (hT.set 29 42 rfl)
      | 30, _ =>
        have e26 : t' 26 = (.bool true) := hT.v (13, 26) (by simp) (hd 13 (by rw [A92_d30]; simp))
        have e38 : t' 38 = undef := hT.v (25, 38) (by simp) (hd 25 (by rw [A92_d30]; simp))
        have e42 : t' 42 = undef := hT.v (29, 42) (by simp) (hd 29 (by rw [A92_d30]; simp))
        simp only [A92_s30, e26, e38, e42, nil_ptr, field_addr, conv_int, Nat.zero_add, Nat.add_zero, Nat.reduceAdd, load_cell hc0, load_cell hcr, load_cell hcf, load_cell hcp, load_cell hcg, load_cell hcq, bin_geq, bin_neq, if_true', pick_bool, cond_true, cond_false, hdec, guard_tf, guard_ff, guard_ft, guard_tt]
        exact hk _ (hT.set 30 43 rfl)
      | 31, _ =>
        have e26 : t' 26 = (.bool true) := hT.v (13, 26) (by simp) (hd 13 (by rw [A92_d31]; simp))
        have e43 : t' 43 = undef := hT.v (30, 43) (by simp) (hd 30 (by rw [A92_d31]; simp))
        simp only [A92_s31, e26, e43, nil_ptr, field_addr, conv_int, Nat.zero_add, Nat.add_zero, Nat.reduceAdd, load_cell hc0, load_cell hcr, load_cell hcf, load_cell hcp, load_cell hcg, load_cell hcq, bin_geq, bin_neq, if_true', pick_bool, cond_true, cond_false, hdec, guard_tf, guard_ff, guard_ft, guard_tt]
        exact hk _ (hT.set 31 44 rfl)
      | k + 32, hk => exact absurd hk (by omega)
    · intro t' hp hv
      show Kn (t' 0) (t' 44) h
      rw [hp (0, (.pointer (some ⟨b, 0, none⟩))) (by simp), hv (31, 44) (by simp), ← e0]
      rw [hdec] at hk0
      exact hk0
def F92_5 (x0 x44 : Value) (h : H) (Kn : H → Prop) (Kr : H → Prop) : Prop :=
  o_if x44 (o_build Tryz.prog 47 [] fun v46 => o_call Tryz.prog 136 [x0, v46] h fun v47 h => Kn h) (Kn h)
theorem F92_5_ok (Kn Kr) (t : T) (h : H) (H0 : F92_5 (t 0) (t 44) h Kn Kr) : Wp Tryz.prog 48 (seqR (seqR (rest 1 (bodyOf Tryz.f92.body)))) (mkQ (fun t h => Kn  h) (fun t h => Kr  h) ke0) t h :=
  wpEqF H0 (by kernel_rfl)
def F92_3 (x0 : Value) (h : H) (Kn : H → Prop) (Kr : H → Prop) : Prop :=
  F92_4 x0 h (fun y0 y44 h => F92_5 y0 y44 h Kn Kr) Kr
theorem F92_3_ok (Kn Kr) (t : T) (h : H) (H0 : F92_3 (t 0) h Kn Kr) : Wp Tryz.prog 48 (seqR (rest 1 (bodyOf Tryz.f92.body))) (mkQ (fun t h => Kn  h) (fun t h => Kr  h) ke0) t h :=
  seq_ok (by kernel_rfl) (fun t h H1 => F92_5_ok Kn Kr t h H1) (F92_4_ok (fun y0 y44 h => F92_5 y0 y44 h Kn Kr) Kr t h H0)
def F92_1 (x0 x3 : Value) (h : H) (Kn : H → Prop) (Kr : H → Prop) : Prop :=
  F92_2 x0 x3 h (fun y0 h => F92_3 y0 h Kn Kr) Kr
theorem F92_1_ok (Kn Kr) (t : T) (h : H) (H0 : F92_1 (t 0) (t 3) h Kn Kr) : Wp Tryz.prog 48 (rest 1 (bodyOf Tryz.f92.body)) (mkQ (fun t h => Kn  h) (fun t h => Kr  h) ke0) t h :=
  seq_ok (by kernel_rfl) (fun t h H1 => F92_3_ok Kn Kr t h H1) (F92_2_ok (fun y0 h => F92_3 y0 h Kn Kr) Kr t h H0)
def F92_0 (x0 x1 : Value) (h : H) (Kn : H → Prop) (Kr : H → Prop) : Prop :=
  boxV x1 = true ∧ o_new (Value.cells x1).toList 40 .exact h fun b3 h => F92_1 x0 (.pointer (some ⟨b3, 0, none⟩)) h Kn Kr
theorem F92_0_ok (Kn Kr) (t : T) (h : H) (H0 : F92_0 (t 0) (t 1) h Kn Kr) : Wp Tryz.prog 48 (bodyOf Tryz.f92.body) (mkQ (fun t h => Kn  h) (fun t h => Kr  h) ke0) t h :=
  awpTo_okF 1 H0 (by kernel_rfl) (fun t h (H1 : F92_1 (t 0) (t 3) h Kn Kr) => F92_1_ok Kn Kr t h H1) (by kernel_rfl)
def F92 (x0 x1 : Value) (h : H) (Q : Value → H → Prop) : Prop := F92_0 x0 x1 h (fun h => bif [].all boxV then Q (.tuple #[]) h else False) (fun h => bif [].all boxV then Q (.tuple #[]) h else False)
theorem F92_spec (x0 x1 : Value) (h : H) (Q : Value → H → Prop) (H0 : F92 x0 x1 h Q) : AM.Spec Tryz.prog 92 [x0, x1] h Q :=
  spec_wp mixed (fn := Tryz.f92) Tryz.func92 (c := bodyOf Tryz.f92.body) (rs := []) (N := 48) (by kernel_rfl) (by kernel_rfl) (by kernel_rfl) (by kernel_rfl) (by kernel_rfl) (Nat.le_of_ble_eq_true rfl) (F92_0_ok (fun h => bif [].all boxV then Q (.tuple #[]) h else False) (fun h => bif [].all boxV then Q (.tuple #[]) h else False) (tinit [x0, x1]) h H0) (by kernel_rfl)
/-! #### 136: (*tincture/exec.run).finish -/
theorem A136_size : (regOps (rest 1 (bodyOf Tryz.f136.body))).size = 9 := by kernel_rfl
theorem A136_back : backB (regOps (rest 1 (bodyOf Tryz.f136.body))) = true := by kernel_rfl
theorem A136_s0 (K : T → H → Prop) (t : T) (h : H) : aStep Tryz.prog (regOps (rest 1 (bodyOf Tryz.f136.body))) 0 K t h = (K (tset t 4 (t 0)) h) := by kernel_rfl
theorem A136_d0 : depL (regOps (rest 1 (bodyOf Tryz.f136.body))) 0 = [] := by kernel_rfl
theorem A136_s1 (K : T → H → Prop) (t : T) (h : H) : aStep Tryz.prog (regOps (rest 1 (bodyOf Tryz.f136.body))) 1 K t h = (K (tset t 5 (t 0)) h) := by kernel_rfl
theorem A136_d1 : depL (regOps (rest 1 (bodyOf Tryz.f136.body))) 1 = [] := by kernel_rfl
theorem A136_s2 (K : T → H → Prop) (t : T) (h : H) : aStep Tryz.prog (regOps (rest 1 (bodyOf Tryz.f136.body))) 2 K t h = (o_load true 5 (t 3) h fun v6 => K (tset t 6 v6) h) := by kernel_rfl
theorem A136_d2 : depL (regOps (rest 1 (bodyOf Tryz.f136.body))) 2 = [] := by kernel_rfl
theorem A136_s3 (K : T → H → Prop) (t : T) (h : H) : aStep Tryz.prog (regOps (rest 1 (bodyOf Tryz.f136.body))) 3 K t h = (o_nilCheck (t 4) fun v7 => K (tset t 7 v7) h) := by kernel_rfl
theorem A136_d3 : depL (regOps (rest 1 (bodyOf Tryz.f136.body))) 3 = [0, 0] := by kernel_rfl
theorem A136_s4 (K : T → H → Prop) (t : T) (h : H) : aStep Tryz.prog (regOps (rest 1 (bodyOf Tryz.f136.body))) 4 K t h = (o_fieldAddr 1285 (t 7) fun v8 => K (tset t 8 v8) h) := by kernel_rfl
theorem A136_d4 : depL (regOps (rest 1 (bodyOf Tryz.f136.body))) 4 = [3, 0] := by kernel_rfl
theorem A136_s5 (K : T → H → Prop) (t : T) (h : H) : aStep Tryz.prog (regOps (rest 1 (bodyOf Tryz.f136.body))) 5 K t h = (o_store 1 (t 8) (.bool true) h fun h => K t h) := by kernel_rfl
theorem A136_d5 : depL (regOps (rest 1 (bodyOf Tryz.f136.body))) 5 = [4, 0] := by kernel_rfl
theorem A136_s6 (K : T → H → Prop) (t : T) (h : H) : aStep Tryz.prog (regOps (rest 1 (bodyOf Tryz.f136.body))) 6 K t h = (o_nilCheck (t 5) fun v9 => K (tset t 9 v9) h) := by kernel_rfl
theorem A136_d6 : depL (regOps (rest 1 (bodyOf Tryz.f136.body))) 6 = [1, 0, 1, 2, 3, 4, 5] := by kernel_rfl
theorem A136_s7 (K : T → H → Prop) (t : T) (h : H) : aStep Tryz.prog (regOps (rest 1 (bodyOf Tryz.f136.body))) 7 K t h = (o_fieldAddr 1286 (t 9) fun v10 => K (tset t 10 v10) h) := by kernel_rfl
theorem A136_d7 : depL (regOps (rest 1 (bodyOf Tryz.f136.body))) 7 = [6, 0, 1, 2, 3, 4, 5] := by kernel_rfl
theorem A136_s8 (K : T → H → Prop) (t : T) (h : H) : aStep Tryz.prog (regOps (rest 1 (bodyOf Tryz.f136.body))) 8 K t h = (o_store 5 (t 10) (t 6) h fun h => K t h) := by kernel_rfl
theorem A136_d8 : depL (regOps (rest 1 (bodyOf Tryz.f136.body))) 8 = [7, 2, 5, 0, 1, 2, 3, 4, 5] := by kernel_rfl
def F136_1 (x0 x3 : Value) (h : H) (Kn : H → Prop) (Kr : H → Prop) : Prop :=
  ∃ (b b3 : Nat) (cs l0 : List Value) (E : TypeId), x0 = (.pointer (some ⟨b, 0, none⟩)) ∧ x3 = (.pointer (some ⟨b3, 0, none⟩)) ∧ b3 ≠ b ∧ h b = some (.cells cs E .exact) ∧ cs.length = 1291 ∧ cellsAt h b3 0 5 = some l0 ∧ l0.length = 5 ∧ Kn (upd h b (.cells (setL (setL cs 1285 [.bool true]) 1286 l0) E .exact))
theorem F136_1_ok (Kn Kr) (t : T) (h : H) (H0 : F136_1 (t 0) (t 3) h Kn Kr) : Wp Tryz.prog 11 (rest 1 (bodyOf Tryz.f136.body)) (mkQ (fun t h => Kn  h) (fun t h => Kr  h) ke0) t h := by
  obtain ⟨b, b3, cs, l0, E, e0, e3, hne, hb, hcl, hl, hl5, hk0⟩ := H0
  have hl3 : ∀ hh, (hh = h ∨ hh = (upd h b (.cells (setL cs 1285 [.bool true]) E .exact)) ∨ hh = (upd h b (.cells (setL (setL cs 1285 [.bool true]) 1286 l0) E .exact))) → ∀ K : Value → Prop, o_load true 5 (.pointer (some ⟨b3, 0, none⟩)) hh K = K (.agg l0.toArray) := by
    intro hh hor K
    rcases hor with rfl | rfl | rfl
    · exact load_agg hl
    · rw [load_upd_ne hne]; exact load_agg hl
    · rw [load_upd_ne hne]; exact load_agg hl
  refine draw_two (h1 := (upd h b (.cells (setL cs 1285 [.bool true]) E .exact))) (h2 := (upd h b (.cells (setL (setL cs 1285 [.bool true]) 1286 l0) E .exact))) 5 8 (by kernel_rfl) A136_back (by kernel_rfl) (by kernel_rfl) (by kernel_rfl) (by kernel_rfl) [(0, (.pointer (some ⟨b, 0, none⟩))), (3, (.pointer (some ⟨b3, 0, none⟩)))] [(0, 4), (1, 5), (2, 6), (3, 7), (4, 8), (6, 9), (7, 10)] (fun i => match i with | 0 => (.pointer (some ⟨b, 0, none⟩)) | 1 => (.pointer (some ⟨b, 0, none⟩)) | 2 => (.agg l0.toArray) | 3 => (.pointer (some ⟨b, 0, none⟩)) | 4 => (.pointer (some ⟨b, 1285, none⟩)) | 6 => (.pointer (some ⟨b, 0, none⟩)) | 7 => (.pointer (some ⟨b, 1286, none⟩)) | _ => undef) (by simp [*]) (by kernel_rfl) ?_ ?_ ?_ ?_
  · intro l t' i hh hi n1 n2 hor hd hT K hk
    have p0 : t' 0 = (.pointer (some ⟨b, 0, none⟩)) := hT.p (0, (.pointer (some ⟨b, 0, none⟩))) (by simp)
    have p3 : t' 3 = (.pointer (some ⟨b3, 0, none⟩)) := hT.p (3, (.pointer (some ⟨b3, 0, none⟩))) (by simp)
    rw [A136_size] at hi
    match i, hi with
    | 0, _ =>
      simp only [A136_s0, p0, nil_ptr, field_addr, conv_int, Nat.zero_add, Nat.add_zero, Nat.reduceAdd]
      exact hk _ (hT.set 0 4 rfl)
    | 1, _ =>
      simp only [A136_s1, p0, nil_ptr, field_addr, conv_int, Nat.zero_add, Nat.add_zero, Nat.reduceAdd]
      exact hk _ (hT.set 1 5 rfl)
    | 2, _ =>
      rw [A136_s2, p3]
      rw [hl3 hh hor]
      exact hk _ (hT.set 2 6 rfl)
    | 3, _ =>
      have e4 : t' 4 = (.pointer (some ⟨b, 0, none⟩)) := hT.v (0, 4) (by simp) (hd 0 (by rw [A136_d3]; simp))
      simp only [A136_s3, e4, nil_ptr, field_addr, conv_int, Nat.zero_add, Nat.add_zero, Nat.reduceAdd]
      exact hk _ (hT.set 3 7 rfl)
    | 4, _ =>
      have e7 : t' 7 = (.pointer (some ⟨b, 0, none⟩)) := hT.v (3, 7) (by simp) (hd 3 (by rw [A136_d4]; simp))
      simp only [A136_s4, e7, nil_ptr, field_addr, conv_int, Nat.zero_add, Nat.add_zero, Nat.reduceAdd]
      exact hk _ (hT.set 4 8 rfl)
    | 6, _ =>
      have e5 : t' 5 = (.pointer (some ⟨b, 0, none⟩)) := hT.v (1, 5) (by simp) (hd 1 (by rw [A136_d6]; simp))
      simp only [A136_s6, e5, nil_ptr, field_addr, conv_int, Nat.zero_add, Nat.add_zero, Nat.reduceAdd]
      exact hk _ (hT.set 6 9 rfl)
    | 7, _ =>
      have e9 : t' 9 = (.pointer (some ⟨b, 0, none⟩)) := hT.v (6, 9) (by simp) (hd 6 (by rw [A136_d7]; simp))
      simp only [A136_s7, e9, nil_ptr, field_addr, conv_int, Nat.zero_add, Nat.add_zero, Nat.reduceAdd]
      exact hk _ (hT.set 7 10 rfl)
    | 5, _ => exact absurd rfl n1
    | 8, _ => exact absurd rfl n2
  · intro l t' hd hT K hk
    have p0 : t' 0 = (.pointer (some ⟨b, 0, none⟩)) := hT.p (0, (.pointer (some ⟨b, 0, none⟩))) (by simp)
    have p3 : t' 3 = (.pointer (some ⟨b3, 0, none⟩)) := hT.p (3, (.pointer (some ⟨b3, 0, none⟩))) (by simp)
    have e8 : t' 8 = (.pointer (some ⟨b, 1285, none⟩)) := hT.v (4, 8) (by simp) (hd 4 (by rw [A136_d5]; simp))
    rw [A136_s5, e8]
    rw [store_ok hb (by simp) (by rfl) (by rfl) (by omega)]
    exact hk
  · intro l t' hd hT K hk
    have p0 : t' 0 = (.pointer (some ⟨b, 0, none⟩)) := hT.p (0, (.pointer (some ⟨b, 0, none⟩))) (by simp)
    have p3 : t' 3 = (.pointer (some ⟨b3, 0, none⟩)) := hT.p (3, (.pointer (some ⟨b3, 0, none⟩))) (by simp)
    have e6 : t' 6 = (.agg l0.toArray) := hT.v (2, 6) (by simp) (hd 2 (by rw [A136_d8]; simp))
    have e10 : t' 10 = (.pointer (some ⟨b, 1286, none⟩)) := hT.v (7, 10) (by simp) (hd 7 (by rw [A136_d8]; simp))
    rw [A136_s8, e6, e10]
    rw [store_ok (upd_same _ _ _) (by simp) (by rfl) (by simpa [Value.cells] using hl5) (by rw [setL_length]; omega), upd_upd]
    simpa [Value.cells] using hk
  · intro t' hp hv
    exact hk0
def F136_0 (x0 x1 : Value) (h : H) (Kn : H → Prop) (Kr : H → Prop) : Prop :=
  boxV x1 = true ∧ o_new (Value.cells x1).toList 47 .exact h fun b3 h => F136_1 x0 (.pointer (some ⟨b3, 0, none⟩)) h Kn Kr
theorem F136_0_ok (Kn Kr) (t : T) (h : H) (H0 : F136_0 (t 0) (t 1) h Kn Kr) : Wp Tryz.prog 11 (bodyOf Tryz.f136.body) (mkQ (fun t h => Kn  h) (fun t h => Kr  h) ke0) t h :=
  awpTo_okF 1 H0 (by kernel_rfl) (fun t h (H1 : F136_1 (t 0) (t 3) h Kn Kr) => F136_1_ok Kn Kr t h H1) (by kernel_rfl)
def F136 (x0 x1 : Value) (h : H) (Q : Value → H → Prop) : Prop := F136_0 x0 x1 h (fun h => bif [].all boxV then Q (.tuple #[]) h else False) (fun h => bif [].all boxV then Q (.tuple #[]) h else False)
theorem F136_spec (x0 x1 : Value) (h : H) (Q : Value → H → Prop) (H0 : F136 x0 x1 h Q) : AM.Spec Tryz.prog 136 [x0, x1] h Q :=
  spec_wp mixed (fn := Tryz.f136) Tryz.func136 (c := bodyOf Tryz.f136.body) (rs := []) (N := 11) (by kernel_rfl) (by kernel_rfl) (by kernel_rfl) (by kernel_rfl) (by kernel_rfl) (Nat.le_of_ble_eq_true rfl) (F136_0_ok (fun h => bif [].all boxV then Q (.tuple #[]) h else False) (fun h => bif [].all boxV then Q (.tuple #[]) h else False) (tinit [x0, x1]) h H0) (by kernel_rfl)
/-! #### 88: (*tincture/exec.run).number -/
def F88_6 (x0 x3 : Value) (h : H) (Kn : H → Prop) (Kr : Value → H → Prop) (Ke0 : H → Prop) : Prop :=
  o_fieldAddr 1 x3 fun v15 => o_load false 1 v15 h fun v16 => o_fieldAddr 4 x3 fun v17 => o_load false 1 v17 h fun v18 => o_call Tryz.prog 122 [x0, v16, v18] h fun v19 h => Kn h
theorem F88_6_ok (Kn Kr Ke0) (t : T) (h : H) (H0 : F88_6 (t 0) (t 3) h Kn Kr Ke0) : Wp Tryz.prog 106 (cndX (rest 1 (blkC (rest 1 (seqL (rest 1 (bodyOf Tryz.f88.body))))))) (mkQ (fun t h => Kn  h) (fun t h => Kr (t 4) h) (keAdd 0 (fun t h => Ke0  h) ke0)) t h :=
  wpEqF H0 (by kernel_rfl)
def F88_9 (x0 x3 : Value) (h : H) (Kn : H → Prop) (Kr : Value → H → Prop) (Ke0 : H → Prop) : Prop :=
  o_fieldAddr 1 x3 fun v23 => o_load false 1 v23 h fun v24 => o_fieldAddr 4 x3 fun v26 => o_load false 1 v26 h fun v27 => o_dcall D0 123 [x0, v27] h fun v28 h => o_dcall D0 122 [x0, v24, v28] h fun v29 h => Kn h
theorem F88_9_ok (Kn Kr Ke0) (t : T) (h : H) (H0 : F88_9 (t 0) (t 3) h Kn Kr Ke0) : Wp Tryz.prog 106 (cndX (rest 1 (cndY (rest 1 (blkC (rest 1 (seqL (rest 1 (bodyOf Tryz.f88.body))))))))) (mkQ (fun t h => Kn  h) (fun t h => Kr (t 4) h) (keAdd 0 (fun t h => Ke0  h) ke0)) t h :=
  drawD_ok dOk (by kernel_rfl) (by kernel_rfl) H0 (by kernel_rfl)
def F88_12 (x0 x3 : Value) (h : H) (Kn : H → Prop) (Kr : Value → H → Prop) (Ke0 : H → Prop) : Prop :=
  o_nilCheck x0 fun v33 => o_fieldAddr 0 v33 fun v34 => o_load false 1 v34 h fun v35 => o_fieldAddr 4 x3 fun v36 => o_load false 1 v36 h fun v37 => o_fieldAddr 2 x3 fun v39 => o_load false 1 v39 h fun v40 => o_nilCheck x0 fun v41 => o_fieldAddr 5 v41 fun v42 => o_indexAddr (some 256) 1 v42 v40 fun v43 => o_load false 1 v43 h fun v44 => o_nilCheck v35 fun v45 => o_fieldAddr 2 v45 fun v46 => o_fieldAddr 0 v46 fun v47 => o_indexAddr (some 32) 1 v47 v37 fun v48 => o_store 1 v48 v44 h fun h => Kn h
theorem F88_12_ok (Kn Kr Ke0) (t : T) (h : H) (H0 : F88_12 (t 0) (t 3) h Kn Kr Ke0) : Wp Tryz.prog 106 (cndX (rest 1 (cndY (rest 1 (cndY (rest 1 (blkC (rest 1 (seqL (rest 1 (bodyOf Tryz.f88.body))))))))))) (mkQ (fun t h => Kn  h) (fun t h => Kr (t 4) h) (keAdd 0 (fun t h => Ke0  h) ke0)) t h :=
  draw_okF (by kernel_rfl) (by kernel_rfl) H0 (by kernel_rfl)
def F88_16 (x0 x3 : Value) (h : H) (Kn : Value → Value → Value → H → Prop) (Kr : Value → H → Prop) (Ke0 : H → Prop) : Prop :=
  o_fieldAddr 4 x3 fun v52 => o_load false 1 v52 h fun v53 => o_conv .i64 v53 fun v54 => o_fieldAddr 2 x3 fun v56 => o_load false 1 v56 h fun v57 => o_nilCheck x0 fun v58 => o_fieldAddr 5 v58 fun v59 => o_indexAddr (some 256) 1 v59 v57 fun v60 => o_load false 1 v60 h fun v61 => o_fieldAddr 3 x3 fun v63 => o_load false 1 v63 h fun v64 => o_nilCheck x0 fun v65 => o_fieldAddr 5 v65 fun v66 => o_indexAddr (some 256) 1 v66 v64 fun v67 => o_load false 1 v67 h fun v68 => o_dcall D0 124 [v54, v61, v68] h fun v69 h => o_extract v69 0 fun v70 => o_extract v69 1 fun v71 => Kn x0 x3 v70 h
theorem F88_16_ok (Kn Kr Ke0) (t : T) (h : H) (H0 : F88_16 (t 0) (t 3) h Kn Kr Ke0) : Wp Tryz.prog 106 (seqL (cndX (rest 1 (cndY (rest 1 (cndY (rest 1 (cndY (rest 1 (blkC (rest 1 (seqL (rest 1 (bodyOf Tryz.f88.body)))))))))))))) (mkQ (fun t h => Kn (t 0) (t 3) (t 5) h) (fun t h => Kr (t 4) h) (keAdd 0 (fun t h => Ke0  h) ke0)) t h :=
  drawD_ok dOk (by kernel_rfl) (by kernel_rfl) H0 (by kernel_rfl)
def F88_17 (x0 x3 x5 : Value) (h : H) (Kn : H → Prop) (Kr : Value → H → Prop) (Ke0 : H → Prop) : Prop :=
  o_fieldAddr 1 x3 fun v73 => o_load false 1 v73 h fun v74 => o_call Tryz.prog 122 [x0, v74, x5] h fun v76 h => Kn h
theorem F88_17_ok (Kn Kr Ke0) (t : T) (h : H) (H0 : F88_17 (t 0) (t 3) (t 5) h Kn Kr Ke0) : Wp Tryz.prog 106 (seqR (cndX (rest 1 (cndY (rest 1 (cndY (rest 1 (cndY (rest 1 (blkC (rest 1 (seqL (rest 1 (bodyOf Tryz.f88.body)))))))))))))) (mkQ (fun t h => Kn  h) (fun t h => Kr (t 4) h) (keAdd 0 (fun t h => Ke0  h) ke0)) t h :=
  wpEqF H0 (by kernel_rfl)
def F88_15 (x0 x3 : Value) (h : H) (Kn : H → Prop) (Kr : Value → H → Prop) (Ke0 : H → Prop) : Prop :=
  F88_16 x0 x3 h (fun y0 y3 y5 h => F88_17 y0 y3 y5 h Kn Kr Ke0) Kr Ke0
theorem F88_15_ok (Kn Kr Ke0) (t : T) (h : H) (H0 : F88_15 (t 0) (t 3) h Kn Kr Ke0) : Wp Tryz.prog 106 (cndX (rest 1 (cndY (rest 1 (cndY (rest 1 (cndY (rest 1 (blkC (rest 1 (seqL (rest 1 (bodyOf Tryz.f88.body))))))))))))) (mkQ (fun t h => Kn  h) (fun t h => Kr (t 4) h) (keAdd 0 (fun t h => Ke0  h) ke0)) t h :=
  seq_ok (by kernel_rfl) (fun t h H1 => F88_17_ok Kn Kr Ke0 t h H1) (F88_16_ok (fun y0 y3 y5 h => F88_17 y0 y3 y5 h Kn Kr Ke0) Kr Ke0 t h H0)
def F88_21 (x0 x3 : Value) (h : H) (Kn : Value → Value → Value → H → Prop) (Kr : Value → H → Prop) (Ke0 : H → Prop) : Prop :=
  o_fieldAddr 4 x3 fun v80 => o_load false 1 v80 h fun v81 => o_conv .i64 v81 fun v82 => o_fieldAddr 2 x3 fun v84 => o_load false 1 v84 h fun v85 => o_nilCheck x0 fun v86 => o_fieldAddr 5 v86 fun v87 => o_indexAddr (some 256) 1 v87 v85 fun v88 => o_load false 1 v88 h fun v89 => o_fieldAddr 3 x3 fun v91 => o_load false 1 v91 h fun v92 => o_nilCheck x0 fun v93 => o_fieldAddr 5 v93 fun v94 => o_indexAddr (some 256) 1 v94 v92 fun v95 => o_load false 1 v95 h fun v96 => o_dcall D0 125 [v82, v89, v96] h fun v97 h => o_extract v97 0 fun v98 => o_extract v97 1 fun v99 => Kn x0 x3 v98 h
theorem F88_21_ok (Kn Kr Ke0) (t : T) (h : H) (H0 : F88_21 (t 0) (t 3) h Kn Kr Ke0) : Wp Tryz.prog 106 (seqL (cndX (rest 1 (cndY (rest 1 (cndY (rest 1 (cndY (rest 1 (cndY (rest 1 (blkC (rest 1 (seqL (rest 1 (bodyOf Tryz.f88.body)))))))))))))))) (mkQ (fun t h => Kn (t 0) (t 3) (t 7) h) (fun t h => Kr (t 4) h) (keAdd 0 (fun t h => Ke0  h) ke0)) t h :=
  drawD_ok dOk (by kernel_rfl) (by kernel_rfl) H0 (by kernel_rfl)
def F88_24 (x0 x3 x7 x9 : Value) (h : H) (Kn : Value → Value → Value → H → Prop) (Kr : Value → H → Prop) (Ke0 : H → Prop) : Prop :=
  o_if x7 (Kn x0 x3 (.int .u32 1) h) (Kn x0 x3 x9 h)
theorem F88_24_ok (Kn Kr Ke0) (t : T) (h : H) (H0 : F88_24 (t 0) (t 3) (t 7) (t 9) h Kn Kr Ke0) : Wp Tryz.prog 106 (seqL (rest 1 (seqR (cndX (rest 1 (cndY (rest 1 (cndY (rest 1 (cndY (rest 1 (cndY (rest 1 (blkC (rest 1 (seqL (rest 1 (bodyOf Tryz.f88.body)))))))))))))))))) (mkQ (fun t h => Kn (t 0) (t 3) (t 9) h) (fun t h => Kr (t 4) h) (keAdd 0 (fun t h => Ke0  h) ke0)) t h :=
  wpEqF H0 (by kernel_rfl)
def F88_25 (x0 x3 x9 : Value) (h : H) (Kn : H → Prop) (Kr : Value → H → Prop) (Ke0 : H → Prop) : Prop :=
  o_fieldAddr 1 x3 fun v102 => o_load false 1 v102 h fun v103 => o_call Tryz.prog 122 [x0, v103, x9] h fun v105 h => Kn h
theorem F88_25_ok (Kn Kr Ke0) (t : T) (h : H) (H0 : F88_25 (t 0) (t 3) (t 9) h Kn Kr Ke0) : Wp Tryz.prog 106 (seqR (rest 1 (seqR (cndX (rest 1 (cndY (rest 1 (cndY (rest 1 (cndY (rest 1 (cndY (rest 1 (blkC (rest 1 (seqL (rest 1 (bodyOf Tryz.f88.body)))))))))))))))))) (mkQ (fun t h => Kn  h) (fun t h => Kr (t 4) h) (keAdd 0 (fun t h => Ke0  h) ke0)) t h :=
  wpEqF H0 (by kernel_rfl)
def F88_23 (x0 x3 x7 x9 : Value) (h : H) (Kn : H → Prop) (Kr : Value → H → Prop) (Ke0 : H → Prop) : Prop :=
  F88_24 x0 x3 x7 x9 h (fun y0 y3 y9 h => F88_25 y0 y3 y9 h Kn Kr Ke0) Kr Ke0
theorem F88_23_ok (Kn Kr Ke0) (t : T) (h : H) (H0 : F88_23 (t 0) (t 3) (t 7) (t 9) h Kn Kr Ke0) : Wp Tryz.prog 106 (rest 1 (seqR (cndX (rest 1 (cndY (rest 1 (cndY (rest 1 (cndY (rest 1 (cndY (rest 1 (blkC (rest 1 (seqL (rest 1 (bodyOf Tryz.f88.body))))))))))))))))) (mkQ (fun t h => Kn  h) (fun t h => Kr (t 4) h) (keAdd 0 (fun t h => Ke0  h) ke0)) t h :=
  seq_ok (by kernel_rfl) (fun t h H1 => F88_25_ok Kn Kr Ke0 t h H1) (F88_24_ok (fun y0 y3 y9 h => F88_25 y0 y3 y9 h Kn Kr Ke0) Kr Ke0 t h H0)
def F88_22 (x0 x3 x7 : Value) (h : H) (Kn : H → Prop) (Kr : Value → H → Prop) (Ke0 : H → Prop) : Prop :=
  F88_23 x0 x3 x7 (.int .u32 0) h Kn Kr Ke0
theorem F88_22_ok (Kn Kr Ke0) (t : T) (h : H) (H0 : F88_22 (t 0) (t 3) (t 7) h Kn Kr Ke0) : Wp Tryz.prog 106 (seqR (cndX (rest 1 (cndY (rest 1 (cndY (rest 1 (cndY (rest 1 (cndY (rest 1 (blkC (rest 1 (seqL (rest 1 (bodyOf Tryz.f88.body)))))))))))))))) (mkQ (fun t h => Kn  h) (fun t h => Kr (t 4) h) (keAdd 0 (fun t h => Ke0  h) ke0)) t h :=
  awpTo_okF 1 H0 (by kernel_rfl) (fun t h (H1 : F88_23 (t 0) (t 3) (t 7) (t 9) h Kn Kr Ke0) => F88_23_ok Kn Kr Ke0 t h H1) (by kernel_rfl)
def F88_20 (x0 x3 : Value) (h : H) (Kn : H → Prop) (Kr : Value → H → Prop) (Ke0 : H → Prop) : Prop :=
  F88_21 x0 x3 h (fun y0 y3 y7 h => F88_22 y0 y3 y7 h Kn Kr Ke0) Kr Ke0
theorem F88_20_ok (Kn Kr Ke0) (t : T) (h : H) (H0 : F88_20 (t 0) (t 3) h Kn Kr Ke0) : Wp Tryz.prog 106 (cndX (rest 1 (cndY (rest 1 (cndY (rest 1 (cndY (rest 1 (cndY (rest 1 (blkC (rest 1 (seqL (rest 1 (bodyOf Tryz.f88.body))))))))))))))) (mkQ (fun t h => Kn  h) (fun t h => Kr (t 4) h) (keAdd 0 (fun t h => Ke0  h) ke0)) t h :=
  seq_ok (by kernel_rfl) (fun t h H1 => F88_22_ok Kn Kr Ke0 t h H1) (F88_21_ok (fun y0 y3 y7 h => F88_22 y0 y3 y7 h Kn Kr Ke0) Kr Ke0 t h H0)
def F88_26 (h : H) (Kn : H → Prop) (Kr : Value → H → Prop) (Ke0 : H → Prop) : Prop :=
  Kr (.bool false) h
theorem F88_26_ok (Kn Kr Ke0) (t : T) (h : H) (H0 : F88_26  h Kn Kr Ke0) : Wp Tryz.prog 106 (cndY (rest 1 (cndY (rest 1 (cndY (rest 1 (cndY (rest 1 (cndY (rest 1 (blkC (rest 1 (seqL (rest 1 (bodyOf Tryz.f88.body))))))))))))))) (mkQ (fun t h => Kn  h) (fun t h => Kr (t 4) h) (keAdd 0 (fun t h => Ke0  h) ke0)) t h :=
  wpEqF H0 (by kernel_rfl)
def F88_19 (x0 x3 x77 : Value) (h : H) (Kn : H → Prop) (Kr : Value → H → Prop) (Ke0 : H → Prop) : Prop :=
  o_if x77 (F88_20 x0 x3 h Kn Kr Ke0) (F88_26  h Kn Kr Ke0)
theorem F88_19_ok (Kn Kr Ke0) (t : T) (h : H) (H0 : F88_19 (t 0) (t 3) (t 77) h Kn Kr Ke0) : Wp Tryz.prog 106 (rest 1 (cndY (rest 1 (cndY (rest 1 (cndY (rest 1 (cndY (rest 1 (blkC (rest 1 (seqL (rest 1 (bodyOf Tryz.f88.body)))))))))))))) (mkQ (fun t h => Kn  h) (fun t h => Kr (t 4) h) (keAdd 0 (fun t h => Ke0  h) ke0)) t h :=
  cond_ok H0 (by kernel_rfl) (F88_20_ok Kn Kr Ke0 t h) (F88_26_ok Kn Kr Ke0 t h) (by kernel_rfl)
def F88_18 (x0 x3 x11 : Value) (h : H) (Kn : H → Prop) (Kr : Value → H → Prop) (Ke0 : H → Prop) : Prop :=
  o_bin Tryz.prog .eql 3 x11 (.int .i64 5) fun v78 => F88_19 x0 x3 v78 h Kn Kr Ke0
theorem F88_18_ok (Kn Kr Ke0) (t : T) (h : H) (H0 : F88_18 (t 0) (t 3) (t 11) h Kn Kr Ke0) : Wp Tryz.prog 106 (cndY (rest 1 (cndY (rest 1 (cndY (rest 1 (cndY (rest 1 (blkC (rest 1 (seqL (rest 1 (bodyOf Tryz.f88.body))))))))))))) (mkQ (fun t h => Kn  h) (fun t h => Kr (t 4) h) (keAdd 0 (fun t h => Ke0  h) ke0)) t h :=
  awpTo_okF 1 H0 (by kernel_rfl) (fun t h (H1 : F88_19 (t 0) (t 3) (t 77) h Kn Kr Ke0) => F88_19_ok Kn Kr Ke0 t h H1) (by kernel_rfl)
def F88_14 (x0 x3 x11 x49 : Value) (h : H) (Kn : H → Prop) (Kr : Value → H → Prop) (Ke0 : H → Prop) : Prop :=
  o_if x49 (F88_15 x0 x3 h Kn Kr Ke0) (F88_18 x0 x3 x11 h Kn Kr Ke0)
theorem F88_14_ok (Kn Kr Ke0) (t : T) (h : H) (H0 : F88_14 (t 0) (t 3) (t 11) (t 49) h Kn Kr Ke0) : Wp Tryz.prog 106 (rest 1 (cndY (rest 1 (cndY (rest 1 (cndY (rest 1 (blkC (rest 1 (seqL (rest 1 (bodyOf Tryz.f88.body)))))))))))) (mkQ (fun t h => Kn  h) (fun t h => Kr (t 4) h) (keAdd 0 (fun t h => Ke0  h) ke0)) t h :=
  cond_ok H0 (by kernel_rfl) (F88_15_ok Kn Kr Ke0 t h) (F88_18_ok Kn Kr Ke0 t h) (by kernel_rfl)
def F88_13 (x0 x3 x11 : Value) (h : H) (Kn : H → Prop) (Kr : Value → H → Prop) (Ke0 : H → Prop) : Prop :=
  o_bin Tryz.prog .eql 3 x11 (.int .i64 4) fun v50 => F88_14 x0 x3 x11 v50 h Kn Kr Ke0
theorem F88_13_ok (Kn Kr Ke0) (t : T) (h : H) (H0 : F88_13 (t 0) (t 3) (t 11) h Kn Kr Ke0) : Wp Tryz.prog 106 (cndY (rest 1 (cndY (rest 1 (cndY (rest 1 (blkC (rest 1 (seqL (rest 1 (bodyOf Tryz.f88.body))))))))))) (mkQ (fun t h => Kn  h) (fun t h => Kr (t 4) h) (keAdd 0 (fun t h => Ke0  h) ke0)) t h :=
  awpTo_okF 1 H0 (by kernel_rfl) (fun t h (H1 : F88_14 (t 0) (t 3) (t 11) (t 49) h Kn Kr Ke0) => F88_14_ok Kn Kr Ke0 t h H1) (by kernel_rfl)
def F88_11 (x0 x3 x11 x30 : Value) (h : H) (Kn : H → Prop) (Kr : Value → H → Prop) (Ke0 : H → Prop) : Prop :=
  o_if x30 (F88_12 x0 x3 h Kn Kr Ke0) (F88_13 x0 x3 x11 h Kn Kr Ke0)
theorem F88_11_ok (Kn Kr Ke0) (t : T) (h : H) (H0 : F88_11 (t 0) (t 3) (t 11) (t 30) h Kn Kr Ke0) : Wp Tryz.prog 106 (rest 1 (cndY (rest 1 (cndY (rest 1 (blkC (rest 1 (seqL (rest 1 (bodyOf Tryz.f88.body)))))))))) (mkQ (fun t h => Kn  h) (fun t h => Kr (t 4) h) (keAdd 0 (fun t h => Ke0  h) ke0)) t h :=
  cond_ok H0 (by kernel_rfl) (F88_12_ok Kn Kr Ke0 t h) (F88_13_ok Kn Kr Ke0 t h) (by kernel_rfl)
def F88_10 (x0 x3 x11 : Value) (h : H) (Kn : H → Prop) (Kr : Value → H → Prop) (Ke0 : H → Prop) : Prop :=
  o_bin Tryz.prog .eql 3 x11 (.int .i64 3) fun v31 => F88_11 x0 x3 x11 v31 h Kn Kr Ke0
theorem F88_10_ok (Kn Kr Ke0) (t : T) (h : H) (H0 : F88_10 (t 0) (t 3) (t 11) h Kn Kr Ke0) : Wp Tryz.prog 106 (cndY (rest 1 (cndY (rest 1 (blkC (rest 1 (seqL (rest 1 (bodyOf Tryz.f88.body))))))))) (mkQ (fun t h => Kn  h) (fun t h => Kr (t 4) h) (keAdd 0 (fun t h => Ke0  h) ke0)) t h :=
  awpTo_okF 1 H0 (by kernel_rfl) (fun t h (H1 : F88_11 (t 0) (t 3) (t 11) (t 30) h Kn Kr Ke0) => F88_11_ok Kn Kr Ke0 t h H1) (by kernel_rfl)
def F88_8 (x0 x3 x11 x20 : Value) (h : H) (Kn : H → Prop) (Kr : Value → H → Prop) (Ke0 : H → Prop) : Prop :=
  o_if x20 (F88_9 x0 x3 h Kn Kr Ke0) (F88_10 x0 x3 x11 h Kn Kr Ke0)
theorem F88_8_ok (Kn Kr Ke0) (t : T) (h : H) (H0 : F88_8 (t 0) (t 3) (t 11) (t 20) h Kn Kr Ke0) : Wp Tryz.prog 106 (rest 1 (cndY (rest 1 (blkC (rest 1 (seqL (rest 1 (bodyOf Tryz.f88.body)))))))) (mkQ (fun t h => Kn  h) (fun t h => Kr (t 4) h) (keAdd 0 (fun t h => Ke0  h) ke0)) t h :=
  cond_ok H0 (by kernel_rfl) (F88_9_ok Kn Kr Ke0 t h) (F88_10_ok Kn Kr Ke0 t h) (by kernel_rfl)
def F88_7 (x0 x3 x11 : Value) (h : H) (Kn : H → Prop) (Kr : Value → H → Prop) (Ke0 : H → Prop) : Prop :=
  o_bin Tryz.prog .eql 3 x11 (.int .i64 2) fun v21 => F88_8 x0 x3 x11 v21 h Kn Kr Ke0
theorem F88_7_ok (Kn Kr Ke0) (t : T) (h : H) (H0 : F88_7 (t 0) (t 3) (t 11) h Kn Kr Ke0) : Wp Tryz.prog 106 (cndY (rest 1 (blkC (rest 1 (seqL (rest 1 (bodyOf Tryz.f88.body))))))) (mkQ (fun t h => Kn  h) (fun t h => Kr (t 4) h) (keAdd 0 (fun t h => Ke0  h) ke0)) t h :=
  awpTo_okF 1 H0 (by kernel_rfl) (fun t h (H1 : F88_8 (t 0) (t 3) (t 11) (t 20) h Kn Kr Ke0) => F88_8_ok Kn Kr Ke0 t h H1) (by kernel_rfl)
def F88_5 (x0 x3 x11 x12 : Value) (h : H) (Kn : H → Prop) (Kr : Value → H → Prop) (Ke0 : H → Prop) : Prop :=
  o_if x12 (F88_6 x0 x3 h Kn Kr Ke0) (F88_7 x0 x3 x11 h Kn Kr Ke0)
theorem F88_5_ok (Kn Kr Ke0) (t : T) (h : H) (H0 : F88_5 (t 0) (t 3) (t 11) (t 12) h Kn Kr Ke0) : Wp Tryz.prog 106 (rest 1 (blkC (rest 1 (seqL (rest 1 (bodyOf Tryz.f88.body)))))) (mkQ (fun t h => Kn  h) (fun t h => Kr (t 4) h) (keAdd 0 (fun t h => Ke0  h) ke0)) t h :=
  cond_ok H0 (by kernel_rfl) (F88_6_ok Kn Kr Ke0 t h) (F88_7_ok Kn Kr Ke0 t h) (by kernel_rfl)
def F88_4 (x0 x3 x11 : Value) (h : H) (Kn : H → Prop) (Kr : Value → H → Prop) (Ke0 : H → Prop) : Prop :=
  o_bin Tryz.prog .eql 3 x11 (.int .i64 1) fun v13 => F88_5 x0 x3 x11 v13 h Kn Kr Ke0
theorem F88_4_ok (Kn Kr Ke0) (t : T) (h : H) (H0 : F88_4 (t 0) (t 3) (t 11) h Kn Kr Ke0) : Wp Tryz.prog 106 (blkC (rest 1 (seqL (rest 1 (bodyOf Tryz.f88.body))))) (mkQ (fun t h => Kn  h) (fun t h => Kr (t 4) h) (keAdd 0 (fun t h => Ke0  h) ke0)) t h :=
  awpTo_okF 1 H0 (by kernel_rfl) (fun t h (H1 : F88_5 (t 0) (t 3) (t 11) (t 12) h Kn Kr Ke0) => F88_5_ok Kn Kr Ke0 t h H1) (by kernel_rfl)
def F88_3 (x0 x3 x11 : Value) (h : H) (Kn : H → Prop) (Kr : Value → H → Prop) : Prop :=
  F88_4 x0 x3 x11 h Kn Kr Kn
theorem F88_3_ok (Kn Kr) (t : T) (h : H) (H0 : F88_3 (t 0) (t 3) (t 11) h Kn Kr) : Wp Tryz.prog 106 (rest 1 (seqL (rest 1 (bodyOf Tryz.f88.body)))) (mkQ (fun t h => Kn  h) (fun t h => Kr (t 4) h) ke0) t h :=
  block_ok 0 (by kernel_rfl) (by kernel_rfl) (F88_4_ok Kn Kr Kn t h H0)
def F88_2 (x0 x3 : Value) (h : H) (Kn : H → Prop) (Kr : Value → H → Prop) : Prop :=
  o_fieldAddr 0 x3 fun v10 => o_load false 1 v10 h fun v11 => F88_3 x0 x3 v11 h Kn Kr
theorem F88_2_ok (Kn Kr) (t : T) (h : H) (H0 : F88_2 (t 0) (t 3) h Kn Kr) : Wp Tryz.prog 106 (seqL (rest 1 (bodyOf Tryz.f88.body))) (mkQ (fun t h => Kn  h) (fun t h => Kr (t 4) h) ke0) t h :=
  awpTo_okF 1 H0 (by kernel_rfl) (fun t h (H1 : F88_3 (t 0) (t 3) (t 11) h Kn Kr) => F88_3_ok Kn Kr t h H1) (by kernel_rfl)
def F88_27 (h : H) (Kn : Value → H → Prop) (Kr : Value → H → Prop) : Prop :=
  Kr (.bool true) h
theorem F88_27_ok (Kn Kr) (t : T) (h : H) (H0 : F88_27  h Kn Kr) : Wp Tryz.prog 106 (seqR (rest 1 (bodyOf Tryz.f88.body))) (mkQ (fun t h => Kn (t 4) h) (fun t h => Kr (t 4) h) ke0) t h :=
  wpEqF H0 (by kernel_rfl)
def F88_1 (x0 x3 : Value) (h : H) (Kn : Value → H → Prop) (Kr : Value → H → Prop) : Prop :=
  F88_2 x0 x3 h (fun  h => F88_27  h Kn Kr) Kr
theorem F88_1_ok (Kn Kr) (t : T) (h : H) (H0 : F88_1 (t 0) (t 3) h Kn Kr) : Wp Tryz.prog 106 (rest 1 (bodyOf Tryz.f88.body)) (mkQ (fun t h => Kn (t 4) h) (fun t h => Kr (t 4) h) ke0) t h :=
  seq_ok (by kernel_rfl) (fun t h H1 => F88_27_ok Kn Kr t h H1) (F88_2_ok (fun  h => F88_27  h Kn Kr) Kr t h H0)
def F88_0 (x0 x1 : Value) (h : H) (Kn : Value → H → Prop) (Kr : Value → H → Prop) : Prop :=
  boxV x1 = true ∧ o_new (Value.cells x1).toList 40 .exact h fun b3 h => F88_1 x0 (.pointer (some ⟨b3, 0, none⟩)) h Kn Kr
theorem F88_0_ok (Kn Kr) (t : T) (h : H) (H0 : F88_0 (t 0) (t 1) h Kn Kr) : Wp Tryz.prog 106 (bodyOf Tryz.f88.body) (mkQ (fun t h => Kn (t 4) h) (fun t h => Kr (t 4) h) ke0) t h :=
  awpTo_okF 1 H0 (by kernel_rfl) (fun t h (H1 : F88_1 (t 0) (t 3) h Kn Kr) => F88_1_ok Kn Kr t h H1) (by kernel_rfl)
def F88 (x0 x1 : Value) (h : H) (Q : Value → H → Prop) : Prop := F88_0 x0 x1 h (fun v h => Q v h) (fun v h => Q v h)
theorem F88_spec (x0 x1 : Value) (h : H) (Q : Value → H → Prop) (H0 : F88 x0 x1 h Q) : AM.Spec Tryz.prog 88 [x0, x1] h Q :=
  spec_wp mixed (fn := Tryz.f88) Tryz.func88 (c := bodyOf Tryz.f88.body) (rs := [4]) (N := 106) (by kernel_rfl) (by kernel_rfl) (by kernel_rfl) (by kernel_rfl) (by kernel_rfl) (Nat.le_of_ble_eq_true rfl) (F88_0_ok (fun v h => Q v h) (fun v h => Q v h) (tinit [x0, x1]) h H0) (by kernel_rfl)
/-! #### 89: (*tincture/exec.run).labels -/
def F89_7 (x0 x3 : Value) (h : H) (Kn : Value → Value → H → Prop) (Kr : Value → H → Prop) (Ke0 : H → Prop) : Prop := False
theorem F89_7_ok (Kn Kr Ke0) (t : T) (h : H) (H0 : F89_7 (t 0) (t 3) h Kn Kr Ke0) : Wp Tryz.prog 156 (seqL (cndX (rest 1 (blkC (rest 1 (seqL (rest 1 (bodyOf Tryz.f89.body)))))))) (mkQ (fun t h => Kn (t 0) (t 3) h) (fun t h => Kr (t 4) h) (keAdd 0 (fun t h => Ke0  h) ke0)) t h := H0.elim
def F89_10 (x0 x3 : Value) (h : H) (Kn : H → Prop) (Kr : Value → H → Prop) (Ke0 : H → Prop) : Prop :=
  o_fieldAddr 1 x3 fun v22 => o_load false 1 v22 h fun v23 => o_nilCheck x0 fun v25 => o_fieldAddr 0 v25 fun v26 => o_load false 1 v26 h fun v27 => o_fieldAddr 4 x3 fun v28 => o_load false 1 v28 h fun v29 => o_nilCheck v27 fun v30 => o_fieldAddr 36 v30 fun v31 => o_indexAddr (some 32) 4 v31 v29 fun v32 => o_load true 4 v32 h fun v33 => o_nilCheck x0 fun v34 => o_fieldAddr 261 v34 fun v35 => o_indexAddr (some 256) 4 v35 v23 fun v36 => o_store 4 v36 v33 h fun h => Kn h
theorem F89_10_ok (Kn Kr Ke0) (t : T) (h : H) (H0 : F89_10 (t 0) (t 3) h Kn Kr Ke0) : Wp Tryz.prog 156 (cndX (rest 1 (seqR (cndX (rest 1 (blkC (rest 1 (seqL (rest 1 (bodyOf Tryz.f89.body)))))))))) (mkQ (fun t h => Kn  h) (fun t h => Kr (t 4) h) (keAdd 0 (fun t h => Ke0  h) ke0)) t h :=
  draw_okF (by kernel_rfl) (by kernel_rfl) H0 (by kernel_rfl)
def F89_11 (h : H) (Kn : H → Prop) (Kr : Value → H → Prop) (Ke0 : H → Prop) : Prop :=
  Kn h
theorem F89_11_ok (Kn Kr Ke0) (t : T) (h : H) (H0 : F89_11  h Kn Kr Ke0) : Wp Tryz.prog 156 (cndY (rest 1 (seqR (cndX (rest 1 (blkC (rest 1 (seqL (rest 1 (bodyOf Tryz.f89.body)))))))))) (mkQ (fun t h => Kn  h) (fun t h => Kr (t 4) h) (keAdd 0 (fun t h => Ke0  h) ke0)) t h :=
  wpEqF H0 (by kernel_rfl)
def F89_9 (x0 x3 x20 : Value) (h : H) (Kn : H → Prop) (Kr : Value → H → Prop) (Ke0 : H → Prop) : Prop :=
  o_if x20 (F89_10 x0 x3 h Kn Kr Ke0) (F89_11  h Kn Kr Ke0)
theorem F89_9_ok (Kn Kr Ke0) (t : T) (h : H) (H0 : F89_9 (t 0) (t 3) (t 20) h Kn Kr Ke0) : Wp Tryz.prog 156 (rest 1 (seqR (cndX (rest 1 (blkC (rest 1 (seqL (rest 1 (bodyOf Tryz.f89.body))))))))) (mkQ (fun t h => Kn  h) (fun t h => Kr (t 4) h) (keAdd 0 (fun t h => Ke0  h) ke0)) t h :=
  cond_ok H0 (by kernel_rfl) (F89_10_ok Kn Kr Ke0 t h) (F89_11_ok Kn Kr Ke0 t h) (by kernel_rfl)
def F89_8 (x0 x3 : Value) (h : H) (Kn : H → Prop) (Kr : Value → H → Prop) (Ke0 : H → Prop) : Prop :=
  o_fieldAddr 4 x3 fun v18 => o_load false 1 v18 h fun v19 => o_bin Tryz.prog .gtr 27 v19 (.int .u32 0) fun v20 => F89_9 x0 x3 v20 h Kn Kr Ke0
theorem F89_8_ok (Kn Kr Ke0) (t : T) (h : H) (H0 : F89_8 (t 0) (t 3) h Kn Kr Ke0) : Wp Tryz.prog 156 (seqR (cndX (rest 1 (blkC (rest 1 (seqL (rest 1 (bodyOf Tryz.f89.body)))))))) (mkQ (fun t h => Kn  h) (fun t h => Kr (t 4) h) (keAdd 0 (fun t h => Ke0  h) ke0)) t h :=
  awpTo_okF 1 H0 (by kernel_rfl) (fun t h (H1 : F89_9 (t 0) (t 3) (t 20) h Kn Kr Ke0) => F89_9_ok Kn Kr Ke0 t h H1) (by kernel_rfl)
def F89_6 (x0 x3 : Value) (h : H) (Kn : H → Prop) (Kr : Value → H → Prop) (Ke0 : H → Prop) : Prop :=
  F89_7 x0 x3 h (fun y0 y3 h => F89_8 y0 y3 h Kn Kr Ke0) Kr Ke0
theorem F89_6_ok (Kn Kr Ke0) (t : T) (h : H) (H0 : F89_6 (t 0) (t 3) h Kn Kr Ke0) : Wp Tryz.prog 156 (cndX (rest 1 (blkC (rest 1 (seqL (rest 1 (bodyOf Tryz.f89.body))))))) (mkQ (fun t h => Kn  h) (fun t h => Kr (t 4) h) (keAdd 0 (fun t h => Ke0  h) ke0)) t h :=
  seq_ok (by kernel_rfl) (fun t h H1 => F89_8_ok Kn Kr Ke0 t h H1) (F89_7_ok (fun y0 y3 h => F89_8 y0 y3 h Kn Kr Ke0) Kr Ke0 t h H0)
def F89_14 (x0 x3 : Value) (h : H) (Kn : H → Prop) (Kr : Value → H → Prop) (Ke0 : H → Prop) : Prop :=
  o_nilCheck x0 fun v40 => o_fieldAddr 0 v40 fun v41 => o_load false 1 v41 h fun v42 => o_fieldAddr 4 x3 fun v43 => o_load false 1 v43 h fun v44 => o_fieldAddr 2 x3 fun v46 => o_load false 1 v46 h fun v47 => o_nilCheck x0 fun v48 => o_fieldAddr 261 v48 fun v49 => o_indexAddr (some 256) 4 v49 v47 fun v50 => o_load true 4 v50 h fun v51 => o_nilCheck v42 fun v52 => o_fieldAddr 36 v52 fun v53 => o_indexAddr (some 32) 4 v53 v44 fun v54 => o_store 4 v54 v51 h fun h => Kn h
theorem F89_14_ok (Kn Kr Ke0) (t : T) (h : H) (H0 : F89_14 (t 0) (t 3) h Kn Kr Ke0) : Wp Tryz.prog 156 (cndX (rest 1 (cndY (rest 1 (blkC (rest 1 (seqL (rest 1 (bodyOf Tryz.f89.body))))))))) (mkQ (fun t h => Kn  h) (fun t h => Kr (t 4) h) (keAdd 0 (fun t h => Ke0  h) ke0)) t h :=
  draw_okF (by kernel_rfl) (by kernel_rfl) H0 (by kernel_rfl)
def F89_17 (x0 x3 : Value) (h : H) (Kn : H → Prop) (Kr : Value → H → Prop) (Ke0 : H → Prop) : Prop :=
  o_fieldAddr 1 x3 fun v59 => o_load false 1 v59 h fun v60 => o_fieldAddr 4 x3 fun v61 => o_load false 1 v61 h fun v62 => o_conv .i64 v62 fun v63 => o_fieldAddr 2 x3 fun v65 => o_load false 1 v65 h fun v66 => o_nilCheck x0 fun v67 => o_fieldAddr 5 v67 fun v68 => o_indexAddr (some 256) 1 v68 v66 fun v69 => o_load false 1 v69 h fun v70 => o_fieldAddr 3 x3 fun v72 => o_load false 1 v72 h fun v73 => o_nilCheck x0 fun v74 => o_fieldAddr 5 v74 fun v75 => o_indexAddr (some 256) 1 v75 v73 fun v76 => o_load false 1 v76 h fun v77 => o_fieldAddr 2 x3 fun v79 => o_load false 1 v79 h fun v80 => o_nilCheck x0 fun v81 => o_fieldAddr 261 v81 fun v82 => o_indexAddr (some 256) 4 v82 v80 fun v83 => o_load true 4 v83 h fun v84 => o_fieldAddr 3 x3 fun v86 => o_load false 1 v86 h fun v87 => o_nilCheck x0 fun v88 => o_fieldAddr 261 v88 fun v89 => o_indexAddr (some 256) 4 v89 v87 fun v90 => o_load true 4 v90 h fun v91 => o_dcall D0 126 [v63, v70, v77, v84, v91] h fun v92 h => o_extract v92 0 fun v93 => o_extract v92 1 fun v94 => o_nilCheck x0 fun v95 => o_fieldAddr 261 v95 fun v96 => o_indexAddr (some 256) 4 v96 v60 fun v97 => o_store 4 v97 v93 h fun h => Kn h
theorem F89_17_ok (Kn Kr Ke0) (t : T) (h : H) (H0 : F89_17 (t 0) (t 3) h Kn Kr Ke0) : Wp Tryz.prog 156 (cndX (rest 1 (cndY (rest 1 (cndY (rest 1 (blkC (rest 1 (seqL (rest 1 (bodyOf Tryz.f89.body))))))))))) (mkQ (fun t h => Kn  h) (fun t h => Kr (t 4) h) (keAdd 0 (fun t h => Ke0  h) ke0)) t h :=
  drawD_ok dOk (by kernel_rfl) (by kernel_rfl) H0 (by kernel_rfl)
def F89_21 (x0 x3 x5 x6 : Value) (h : H) (Kn : H → Prop) (Kr : Value → H → Prop) (Ke0 : H → Prop) : Prop :=
  o_fieldAddr 1 x3 fun v107 => o_load false 1 v107 h fun v108 => o_nilCheck x0 fun v110 => o_fieldAddr 0 v110 fun v111 => o_load false 1 v111 h fun v112 => o_nilCheck v112 fun v113 => o_fieldAddr 1 v113 fun v114 => o_load false 1 v114 h fun v115 => o_fieldAddr 2 x3 fun v117 => o_load false 1 v117 h fun v118 => o_nilCheck x0 fun v119 => o_fieldAddr 5 v119 fun v120 => o_indexAddr (some 256) 1 v120 v118 fun v121 => o_load false 1 v121 h fun v122 => o_dcall D0 129 [v115, v122, x5] h fun v124 h => o_dcall D0 128 [v124, x5, x6] h fun v127 h => o_nilCheck x0 fun v128 => o_fieldAddr 261 v128 fun v129 => o_indexAddr (some 256) 4 v129 v108 fun v130 => o_store 4 v130 v127 h fun h => Kn h
theorem F89_21_ok (Kn Kr Ke0) (t : T) (h : H) (H0 : F89_21 (t 0) (t 3) (t 5) (t 6) h Kn Kr Ke0) : Wp Tryz.prog 156 (rest 1 (cndX (rest 1 (cndY (rest 1 (cndY (rest 1 (cndY (rest 1 (blkC (rest 1 (seqL (rest 1 (bodyOf Tryz.f89.body)))))))))))))) (mkQ (fun t h => Kn  h) (fun t h => Kr (t 4) h) (keAdd 0 (fun t h => Ke0  h) ke0)) t h :=
  drawD_ok dOk (by kernel_rfl) (by kernel_rfl) H0 (by kernel_rfl)
def F89_20 (x0 x3 : Value) (h : H) (Kn : H → Prop) (Kr : Value → H → Prop) (Ke0 : H → Prop) : Prop :=
  o_fieldAddr 4 x3 fun v101 => o_load false 1 v101 h fun v102 => o_call Tryz.prog 127 [v102] h fun v103 h => o_extract v103 0 fun v104 => o_extract v103 1 fun v105 => F89_21 x0 x3 v104 v105 h Kn Kr Ke0
theorem F89_20_ok (Kn Kr Ke0) (t : T) (h : H) (H0 : F89_20 (t 0) (t 3) h Kn Kr Ke0) : Wp Tryz.prog 156 (cndX (rest 1 (cndY (rest 1 (cndY (rest 1 (cndY (rest 1 (blkC (rest 1 (seqL (rest 1 (bodyOf Tryz.f89.body))))))))))))) (mkQ (fun t h => Kn  h) (fun t h => Kr (t 4) h) (keAdd 0 (fun t h => Ke0  h) ke0)) t h :=
  awpTo_okF 1 H0 (by kernel_rfl) (fun t h (H1 : F89_21 (t 0) (t 3) (t 5) (t 6) h Kn Kr Ke0) => F89_21_ok Kn Kr Ke0 t h H1) (by kernel_rfl)
def F89_24 (x0 x3 : Value) (h : H) (Kn : H → Prop) (Kr : Value → H → Prop) (Ke0 : H → Prop) : Prop :=
  o_fieldAddr 1 x3 fun v134 => o_load false 1 v134 h fun v135 => o_fieldAddr 1 x3 fun v137 => o_load false 1 v137 h fun v138 => o_nilCheck x0 fun v139 => o_fieldAddr 261 v139 fun v140 => o_indexAddr (some 256) 4 v140 v138 fun v141 => o_load true 4 v141 h fun v142 => o_fieldAddr 2 x3 fun v144 => o_load false 1 v144 h fun v145 => o_nilCheck x0 fun v146 => o_fieldAddr 261 v146 fun v147 => o_indexAddr (some 256) 4 v147 v145 fun v148 => o_load true 4 v148 h fun v149 => o_dcall D0 132 [v149] h fun v150 h => o_dcall D0 131 [v150] h fun v151 h => o_dcall D0 130 [v142, v151] h fun v152 h => o_nilCheck x0 fun v153 => o_fieldAddr 261 v153 fun v154 => o_indexAddr (some 256) 4 v154 v135 fun v155 => o_store 4 v155 v152 h fun h => Kn h
theorem F89_24_ok (Kn Kr Ke0) (t : T) (h : H) (H0 : F89_24 (t 0) (t 3) h Kn Kr Ke0) : Wp Tryz.prog 156 (cndX (rest 1 (cndY (rest 1 (cndY (rest 1 (cndY (rest 1 (cndY (rest 1 (blkC (rest 1 (seqL (rest 1 (bodyOf Tryz.f89.body))))))))))))))) (mkQ (fun t h => Kn  h) (fun t h => Kr (t 4) h) (keAdd 0 (fun t h => Ke0  h) ke0)) t h :=
  drawD_ok dOk (by kernel_rfl) (by kernel_rfl) H0 (by kernel_rfl)
def F89_25 (h : H) (Kn : H → Prop) (Kr : Value → H → Prop) (Ke0 : H → Prop) : Prop :=
  Kr (.bool false) h
theorem F89_25_ok (Kn Kr Ke0) (t : T) (h : H) (H0 : F89_25  h Kn Kr Ke0) : Wp Tryz.prog 156 (cndY (rest 1 (cndY (rest 1 (cndY (rest 1 (cndY (rest 1 (cndY (rest 1 (blkC (rest 1 (seqL (rest 1 (bodyOf Tryz.f89.body))))))))))))))) (mkQ (fun t h => Kn  h) (fun t h => Kr (t 4) h) (keAdd 0 (fun t h => Ke0  h) ke0)) t h :=
  wpEqF H0 (by kernel_rfl)
def F89_23 (x0 x3 x131 : Value) (h : H) (Kn : H → Prop) (Kr : Value → H → Prop) (Ke0 : H → Prop) : Prop :=
  o_if x131 (F89_24 x0 x3 h Kn Kr Ke0) (F89_25  h Kn Kr Ke0)
theorem F89_23_ok (Kn Kr Ke0) (t : T) (h : H) (H0 : F89_23 (t 0) (t 3) (t 131) h Kn Kr Ke0) : Wp Tryz.prog 156 (rest 1 (cndY (rest 1 (cndY (rest 1 (cndY (rest 1 (cndY (rest 1 (blkC (rest 1 (seqL (rest 1 (bodyOf Tryz.f89.body)))))))))))))) (mkQ (fun t h => Kn  h) (fun t h => Kr (t 4) h) (keAdd 0 (fun t h => Ke0  h) ke0)) t h :=
  cond_ok H0 (by kernel_rfl) (F89_24_ok Kn Kr Ke0 t h) (F89_25_ok Kn Kr Ke0 t h) (by kernel_rfl)
def F89_22 (x0 x3 x8 : Value) (h : H) (Kn : H → Prop) (Kr : Value → H → Prop) (Ke0 : H → Prop) : Prop :=
  o_bin Tryz.prog .eql 3 x8 (.int .i64 19) fun v132 => F89_23 x0 x3 v132 h Kn Kr Ke0
theorem F89_22_ok (Kn Kr Ke0) (t : T) (h : H) (H0 : F89_22 (t 0) (t 3) (t 8) h Kn Kr Ke0) : Wp Tryz.prog 156 (cndY (rest 1 (cndY (rest 1 (cndY (rest 1 (cndY (rest 1 (blkC (rest 1 (seqL (rest 1 (bodyOf Tryz.f89.body))))))))))))) (mkQ (fun t h => Kn  h) (fun t h => Kr (t 4) h) (keAdd 0 (fun t h => Ke0  h) ke0)) t h :=
  awpTo_okF 1 H0 (by kernel_rfl) (fun t h (H1 : F89_23 (t 0) (t 3) (t 131) h Kn Kr Ke0) => F89_23_ok Kn Kr Ke0 t h H1) (by kernel_rfl)
def F89_19 (x0 x3 x8 x98 : Value) (h : H) (Kn : H → Prop) (Kr : Value → H → Prop) (Ke0 : H → Prop) : Prop :=
  o_if x98 (F89_20 x0 x3 h Kn Kr Ke0) (F89_22 x0 x3 x8 h Kn Kr Ke0)
theorem F89_19_ok (Kn Kr Ke0) (t : T) (h : H) (H0 : F89_19 (t 0) (t 3) (t 8) (t 98) h Kn Kr Ke0) : Wp Tryz.prog 156 (rest 1 (cndY (rest 1 (cndY (rest 1 (cndY (rest 1 (blkC (rest 1 (seqL (rest 1 (bodyOf Tryz.f89.body)))))))))))) (mkQ (fun t h => Kn  h) (fun t h => Kr (t 4) h) (keAdd 0 (fun t h => Ke0  h) ke0)) t h :=
  cond_ok H0 (by kernel_rfl) (F89_20_ok Kn Kr Ke0 t h) (F89_22_ok Kn Kr Ke0 t h) (by kernel_rfl)
def F89_18 (x0 x3 x8 : Value) (h : H) (Kn : H → Prop) (Kr : Value → H → Prop) (Ke0 : H → Prop) : Prop :=
  o_bin Tryz.prog .eql 3 x8 (.int .i64 17) fun v99 => F89_19 x0 x3 x8 v99 h Kn Kr Ke0
theorem F89_18_ok (Kn Kr Ke0) (t : T) (h : H) (H0 : F89_18 (t 0) (t 3) (t 8) h Kn Kr Ke0) : Wp Tryz.prog 156 (cndY (rest 1 (cndY (rest 1 (cndY (rest 1 (blkC (rest 1 (seqL (rest 1 (bodyOf Tryz.f89.body))))))))))) (mkQ (fun t h => Kn  h) (fun t h => Kr (t 4) h) (keAdd 0 (fun t h => Ke0  h) ke0)) t h :=
  awpTo_okF 1 H0 (by kernel_rfl) (fun t h (H1 : F89_19 (t 0) (t 3) (t 8) (t 98) h Kn Kr Ke0) => F89_19_ok Kn Kr Ke0 t h H1) (by kernel_rfl)
def F89_16 (x0 x3 x8 x55 : Value) (h : H) (Kn : H → Prop) (Kr : Value → H → Prop) (Ke0 : H → Prop) : Prop :=
  o_if x55 (F89_17 x0 x3 h Kn Kr Ke0) (F89_18 x0 x3 x8 h Kn Kr Ke0)
theorem F89_16_ok (Kn Kr Ke0) (t : T) (h : H) (H0 : F89_16 (t 0) (t 3) (t 8) (t 55) h Kn Kr Ke0) : Wp Tryz.prog 156 (rest 1 (cndY (rest 1 (cndY (rest 1 (blkC (rest 1 (seqL (rest 1 (bodyOf Tryz.f89.body)))))))))) (mkQ (fun t h => Kn  h) (fun t h => Kr (t 4) h) (keAdd 0 (fun t h => Ke0  h) ke0)) t h :=
  cond_ok H0 (by kernel_rfl) (F89_17_ok Kn Kr Ke0 t h) (F89_18_ok Kn Kr Ke0 t h) (by kernel_rfl)
def F89_15 (x0 x3 x8 : Value) (h : H) (Kn : H → Prop) (Kr : Value → H → Prop) (Ke0 : H → Prop) : Prop :=
  o_bin Tryz.prog .eql 3 x8 (.int .i64 16) fun v56 => F89_16 x0 x3 x8 v56 h Kn Kr Ke0
theorem F89_15_ok (Kn Kr Ke0) (t : T) (h : H) (H0 : F89_15 (t 0) (t 3) (t 8) h Kn Kr Ke0) : Wp Tryz.prog 156 (cndY (rest 1 (cndY (rest 1 (blkC (rest 1 (seqL (rest 1 (bodyOf Tryz.f89.body))))))))) (mkQ (fun t h => Kn  h) (fun t h => Kr (t 4) h) (keAdd 0 (fun t h => Ke0  h) ke0)) t h :=
  awpTo_okF 1 H0 (by kernel_rfl) (fun t h (H1 : F89_16 (t 0) (t 3) (t 8) (t 55) h Kn Kr Ke0) => F89_16_ok Kn Kr Ke0 t h H1) (by kernel_rfl)
def F89_13 (x0 x3 x8 x37 : Value) (h : H) (Kn : H → Prop) (Kr : Value → H → Prop) (Ke0 : H → Prop) : Prop :=
  o_if x37 (F89_14 x0 x3 h Kn Kr Ke0) (F89_15 x0 x3 x8 h Kn Kr Ke0)
theorem F89_13_ok (Kn Kr Ke0) (t : T) (h : H) (H0 : F89_13 (t 0) (t 3) (t 8) (t 37) h Kn Kr Ke0) : Wp Tryz.prog 156 (rest 1 (cndY (rest 1 (blkC (rest 1 (seqL (rest 1 (bodyOf Tryz.f89.body)))))))) (mkQ (fun t h => Kn  h) (fun t h => Kr (t 4) h) (keAdd 0 (fun t h => Ke0  h) ke0)) t h :=
  cond_ok H0 (by kernel_rfl) (F89_14_ok Kn Kr Ke0 t h) (F89_15_ok Kn Kr Ke0 t h) (by kernel_rfl)
def F89_12 (x0 x3 x8 : Value) (h : H) (Kn : H → Prop) (Kr : Value → H → Prop) (Ke0 : H → Prop) : Prop :=
  o_bin Tryz.prog .eql 3 x8 (.int .i64 15) fun v38 => F89_13 x0 x3 x8 v38 h Kn Kr Ke0
theorem F89_12_ok (Kn Kr Ke0) (t : T) (h : H) (H0 : F89_12 (t 0) (t 3) (t 8) h Kn Kr Ke0) : Wp Tryz.prog 156 (cndY (rest 1 (blkC (rest 1 (seqL (rest 1 (bodyOf Tryz.f89.body))))))) (mkQ (fun t h => Kn  h) (fun t h => Kr (t 4) h) (keAdd 0 (fun t h => Ke0  h) ke0)) t h :=
  awpTo_okF 1 H0 (by kernel_rfl) (fun t h (H1 : F89_13 (t 0) (t 3) (t 8) (t 37) h Kn Kr Ke0) => F89_13_ok Kn Kr Ke0 t h H1) (by kernel_rfl)
def F89_5 (x0 x3 x8 x9 : Value) (h : H) (Kn : H → Prop) (Kr : Value → H → Prop) (Ke0 : H → Prop) : Prop :=
  o_if x9 (F89_6 x0 x3 h Kn Kr Ke0) (F89_12 x0 x3 x8 h Kn Kr Ke0)
theorem F89_5_ok (Kn Kr Ke0) (t : T) (h : H) (H0 : F89_5 (t 0) (t 3) (t 8) (t 9) h Kn Kr Ke0) : Wp Tryz.prog 156 (rest 1 (blkC (rest 1 (seqL (rest 1 (bodyOf Tryz.f89.body)))))) (mkQ (fun t h => Kn  h) (fun t h => Kr (t 4) h) (keAdd 0 (fun t h => Ke0  h) ke0)) t h :=
  cond_ok H0 (by kernel_rfl) (F89_6_ok Kn Kr Ke0 t h) (F89_12_ok Kn Kr Ke0 t h) (by kernel_rfl)
def F89_4 (x0 x3 x8 : Value) (h : H) (Kn : H → Prop) (Kr : Value → H → Prop) (Ke0 : H → Prop) : Prop :=
  o_bin Tryz.prog .eql 3 x8 (.int .i64 14) fun v10 => F89_5 x0 x3 x8 v10 h Kn Kr Ke0
theorem F89_4_ok (Kn Kr Ke0) (t : T) (h : H) (H0 : F89_4 (t 0) (t 3) (t 8) h Kn Kr Ke0) : Wp Tryz.prog 156 (blkC (rest 1 (seqL (rest 1 (bodyOf Tryz.f89.body))))) (mkQ (fun t h => Kn  h) (fun t h => Kr (t 4) h) (keAdd 0 (fun t h => Ke0  h) ke0)) t h :=
  awpTo_okF 1 H0 (by kernel_rfl) (fun t h (H1 : F89_5 (t 0) (t 3) (t 8) (t 9) h Kn Kr Ke0) => F89_5_ok Kn Kr Ke0 t h H1) (by kernel_rfl)
def F89_3 (x0 x3 x8 : Value) (h : H) (Kn : H → Prop) (Kr : Value → H → Prop) : Prop :=
  F89_4 x0 x3 x8 h Kn Kr Kn
theorem F89_3_ok (Kn Kr) (t : T) (h : H) (H0 : F89_3 (t 0) (t 3) (t 8) h Kn Kr) : Wp Tryz.prog 156 (rest 1 (seqL (rest 1 (bodyOf Tryz.f89.body)))) (mkQ (fun t h => Kn  h) (fun t h => Kr (t 4) h) ke0) t h :=
  block_ok 0 (by kernel_rfl) (by kernel_rfl) (F89_4_ok Kn Kr Kn t h H0)
def F89_2 (x0 x3 : Value) (h : H) (Kn : H → Prop) (Kr : Value → H → Prop) : Prop :=
  o_fieldAddr 0 x3 fun v7 => o_load false 1 v7 h fun v8 => F89_3 x0 x3 v8 h Kn Kr
theorem F89_2_ok (Kn Kr) (t : T) (h : H) (H0 : F89_2 (t 0) (t 3) h Kn Kr) : Wp Tryz.prog 156 (seqL (rest 1 (bodyOf Tryz.f89.body))) (mkQ (fun t h => Kn  h) (fun t h => Kr (t 4) h) ke0) t h :=
  awpTo_okF 1 H0 (by kernel_rfl) (fun t h (H1 : F89_3 (t 0) (t 3) (t 8) h Kn Kr) => F89_3_ok Kn Kr t h H1) (by kernel_rfl)
def F89_26 (h : H) (Kn : Value → H → Prop) (Kr : Value → H → Prop) : Prop :=
  Kr (.bool true) h
theorem F89_26_ok (Kn Kr) (t : T) (h : H) (H0 : F89_26  h Kn Kr) : Wp Tryz.prog 156 (seqR (rest 1 (bodyOf Tryz.f89.body))) (mkQ (fun t h => Kn (t 4) h) (fun t h => Kr (t 4) h) ke0) t h :=
  wpEqF H0 (by kernel_rfl)
def F89_1 (x0 x3 : Value) (h : H) (Kn : Value → H → Prop) (Kr : Value → H → Prop) : Prop :=
  F89_2 x0 x3 h (fun  h => F89_26  h Kn Kr) Kr
theorem F89_1_ok (Kn Kr) (t : T) (h : H) (H0 : F89_1 (t 0) (t 3) h Kn Kr) : Wp Tryz.prog 156 (rest 1 (bodyOf Tryz.f89.body)) (mkQ (fun t h => Kn (t 4) h) (fun t h => Kr (t 4) h) ke0) t h :=
  seq_ok (by kernel_rfl) (fun t h H1 => F89_26_ok Kn Kr t h H1) (F89_2_ok (fun  h => F89_26  h Kn Kr) Kr t h H0)
def F89_0 (x0 x1 : Value) (h : H) (Kn : Value → H → Prop) (Kr : Value → H → Prop) : Prop :=
  boxV x1 = true ∧ o_new (Value.cells x1).toList 40 .exact h fun b3 h => F89_1 x0 (.pointer (some ⟨b3, 0, none⟩)) h Kn Kr
theorem F89_0_ok (Kn Kr) (t : T) (h : H) (H0 : F89_0 (t 0) (t 1) h Kn Kr) : Wp Tryz.prog 156 (bodyOf Tryz.f89.body) (mkQ (fun t h => Kn (t 4) h) (fun t h => Kr (t 4) h) ke0) t h :=
  awpTo_okF 1 H0 (by kernel_rfl) (fun t h (H1 : F89_1 (t 0) (t 3) h Kn Kr) => F89_1_ok Kn Kr t h H1) (by kernel_rfl)
def F89 (x0 x1 : Value) (h : H) (Q : Value → H → Prop) : Prop := F89_0 x0 x1 h (fun v h => Q v h) (fun v h => Q v h)
theorem F89_spec (x0 x1 : Value) (h : H) (Q : Value → H → Prop) (H0 : F89 x0 x1 h Q) : AM.Spec Tryz.prog 89 [x0, x1] h Q :=
  spec_wp mixed (fn := Tryz.f89) Tryz.func89 (c := bodyOf Tryz.f89.body) (rs := [4]) (N := 156) (by kernel_rfl) (by kernel_rfl) (by kernel_rfl) (by kernel_rfl) (by kernel_rfl) (Nat.le_of_ble_eq_true rfl) (F89_0_ok (fun v h => Q v h) (fun v h => Q v h) (tinit [x0, x1]) h H0) (by kernel_rfl)
/-! #### 94: (*tincture/exec.run).place -/
def F94_5 (x0 x3 : Value) (h : H) (Kn : Value → Value → H → Prop) (Kr : H → Prop) (Ke0 : H → Prop) : Prop :=
  o_fieldAddr 2 x3 fun v10 => o_load false 1 v10 h fun v11 => o_nilCheck x0 fun v12 => o_fieldAddr 5 v12 fun v13 => o_indexAddr (some 256) 1 v13 v11 fun v14 => o_load false 1 v14 h fun v15 => o_bin Tryz.prog .neq 27 v15 (.int .u32 0) fun v16 => o_guard v16 true (fun k9 => k9 x0 h) (fun v18 h => o_guard v16 true (fun k10 => o_fieldAddr 4 x3 fun v19 => k10 v19 h) (fun v19 h => o_guard v16 true (fun k11 => o_load false 1 v19 h fun v20 => k11 v20 h) (fun v20 h => o_guard v16 true (fun k12 => o_dcall D0 139 [v18, v20] h fun v21 h => k12 v21 h) (fun v21 h => o_pick v16 v21 (.bool false) fun v22 => Kn x0 v22 h) h) h) h) h
theorem F94_5_ok (Kn Kr Ke0) (t : T) (h : H) (H0 : F94_5 (t 0) (t 3) h Kn Kr Ke0) : Wp Tryz.prog 82 (seqL (cndX (rest 1 (blkC (rest 2 (bodyOf Tryz.f94.body)))))) (mkQ (fun t h => Kn (t 0) (t 22) h) (fun t h => Kr  h) (keAdd 0 (fun t h => Ke0  h) ke0)) t h :=
  drawD_ok dOk (by kernel_rfl) (by kernel_rfl) H0 (by kernel_rfl)
def F94_6 (x0 x22 : Value) (h : H) (Kn : H → Prop) (Kr : H → Prop) (Ke0 : H → Prop) : Prop :=
  o_if x22 (o_nilCheck x0 fun v24 => o_fieldAddr 0 v24 fun v25 => o_load false 1 v25 h fun v26 => o_nilCheck v26 fun v27 => o_fieldAddr 2 v27 fun v28 => o_fieldAddr 33 v28 fun v29 => o_load false 1 v29 h fun v30 => o_bin Tryz.prog .add 2 v30 (.int .i64 1) fun v31 => o_nilCheck v26 fun v32 => o_fieldAddr 2 v32 fun v33 => o_fieldAddr 33 v33 fun v34 => o_store 1 v34 v31 h fun h => Kn h) (Kn h)
theorem F94_6_ok (Kn Kr Ke0) (t : T) (h : H) (H0 : F94_6 (t 0) (t 22) h Kn Kr Ke0) : Wp Tryz.prog 82 (seqR (cndX (rest 1 (blkC (rest 2 (bodyOf Tryz.f94.body)))))) (mkQ (fun t h => Kn  h) (fun t h => Kr  h) (keAdd 0 (fun t h => Ke0  h) ke0)) t h :=
  wpEqF H0 (by kernel_rfl)
def F94_4 (x0 x3 : Value) (h : H) (Kn : H → Prop) (Kr : H → Prop) (Ke0 : H → Prop) : Prop :=
  F94_5 x0 x3 h (fun y0 y22 h => F94_6 y0 y22 h Kn Kr Ke0) Kr Ke0
theorem F94_4_ok (Kn Kr Ke0) (t : T) (h : H) (H0 : F94_4 (t 0) (t 3) h Kn Kr Ke0) : Wp Tryz.prog 82 (cndX (rest 1 (blkC (rest 2 (bodyOf Tryz.f94.body))))) (mkQ (fun t h => Kn  h) (fun t h => Kr  h) (keAdd 0 (fun t h => Ke0  h) ke0)) t h :=
  seq_ok (by kernel_rfl) (fun t h H1 => F94_6_ok Kn Kr Ke0 t h H1) (F94_5_ok (fun y0 y22 h => F94_6 y0 y22 h Kn Kr Ke0) Kr Ke0 t h H0)
def F94_9 (x0 x3 : Value) (h : H) (Kn : H → Prop) (Kr : H → Prop) (Ke0 : H → Prop) : Prop :=
  o_fieldAddr 2 x3 fun v39 => o_load false 1 v39 h fun v40 => o_nilCheck x0 fun v41 => o_fieldAddr 5 v41 fun v42 => o_indexAddr (some 256) 1 v42 v40 fun v43 => o_load false 1 v43 h fun v44 => o_dcall D0 139 [x0, v44] h fun v45 h => Kn h
theorem F94_9_ok (Kn Kr Ke0) (t : T) (h : H) (H0 : F94_9 (t 0) (t 3) h Kn Kr Ke0) : Wp Tryz.prog 82 (cndX (rest 1 (cndY (rest 1 (blkC (rest 2 (bodyOf Tryz.f94.body))))))) (mkQ (fun t h => Kn  h) (fun t h => Kr  h) (keAdd 0 (fun t h => Ke0  h) ke0)) t h :=
  drawD_ok dOk (by kernel_rfl) (by kernel_rfl) H0 (by kernel_rfl)
def F94_12 (x0 x3 : Value) (h : H) (Kn : H → Prop) (Kr : H → Prop) (Ke0 : H → Prop) : Prop :=
  o_fieldAddr 4 x3 fun v49 => o_load false 1 v49 h fun v50 => o_call Tryz.prog 139 [x0, v50] h fun v51 h => Kn h
theorem F94_12_ok (Kn Kr Ke0) (t : T) (h : H) (H0 : F94_12 (t 0) (t 3) h Kn Kr Ke0) : Wp Tryz.prog 82 (cndX (rest 1 (cndY (rest 1 (cndY (rest 1 (blkC (rest 2 (bodyOf Tryz.f94.body))))))))) (mkQ (fun t h => Kn  h) (fun t h => Kr  h) (keAdd 0 (fun t h => Ke0  h) ke0)) t h :=
  wpEqF H0 (by kernel_rfl)
def F94_15 (x0 x3 : Value) (h : H) (Kn : H → Prop) (Kr : H → Prop) (Ke0 : H → Prop) : Prop :=
  o_fieldAddr 4 x3 fun v55 => o_load false 1 v55 h fun v56 => o_conv .i64 v56 fun v57 => o_nilCheck x0 fun v59 => o_fieldAddr 0 v59 fun v60 => o_load false 1 v60 h fun v61 => o_nilCheck v61 fun v62 => o_fieldAddr 2 v62 fun v63 => o_fieldAddr 32 v63 fun v64 => o_load false 1 v64 h fun v65 => o_dcall D0 133 [x0, v57, v65, (.int .i64 0)] h fun v66 h => Kn h
theorem F94_15_ok (Kn Kr Ke0) (t : T) (h : H) (H0 : F94_15 (t 0) (t 3) h Kn Kr Ke0) : Wp Tryz.prog 82 (cndX (rest 1 (cndY (rest 1 (cndY (rest 1 (cndY (rest 1 (blkC (rest 2 (bodyOf Tryz.f94.body))))))))))) (mkQ (fun t h => Kn  h) (fun t h => Kr  h) (keAdd 0 (fun t h => Ke0  h) ke0)) t h :=
  drawD_ok dOk (by kernel_rfl) (by kernel_rfl) H0 (by kernel_rfl)
def F94_19 (x0 x3 : Value) (h : H) (Kn : Value → Value → H → Prop) (Kr : H → Prop) (Ke0 : H → Prop) : Prop :=
  o_fieldAddr 2 x3 fun v70 => o_load false 1 v70 h fun v71 => o_nilCheck x0 fun v72 => o_fieldAddr 5 v72 fun v73 => o_indexAddr (some 256) 1 v73 v71 fun v74 => o_load false 1 v74 h fun v75 => Kn x0 v75 h
theorem F94_19_ok (Kn Kr Ke0) (t : T) (h : H) (H0 : F94_19 (t 0) (t 3) h Kn Kr Ke0) : Wp Tryz.prog 82 (seqL (cndX (rest 1 (cndY (rest 1 (cndY (rest 1 (cndY (rest 1 (cndY (rest 1 (blkC (rest 2 (bodyOf Tryz.f94.body)))))))))))))) (mkQ (fun t h => Kn (t 0) (t 4) h) (fun t h => Kr  h) (keAdd 0 (fun t h => Ke0  h) ke0)) t h :=
  draw_okF (by kernel_rfl) (by kernel_rfl) H0 (by kernel_rfl)
def F94_20 (x0 x4 : Value) (h : H) (Kn : H → Prop) (Kr : H → Prop) (Ke0 : H → Prop) : Prop :=
  o_bin Tryz.prog .rem 27 x4 (.int .u32 4) fun v77 => o_bin Tryz.prog .neq 27 v77 (.int .u32 0) fun v78 => o_if v78 (o_call Tryz.prog 133 [x0, (.int .i64 7), x4, (.int .i64 0)] h fun v81 h => Kn h) (Kn h)
theorem F94_20_ok (Kn Kr Ke0) (t : T) (h : H) (H0 : F94_20 (t 0) (t 4) h Kn Kr Ke0) : Wp Tryz.prog 82 (seqR (cndX (rest 1 (cndY (rest 1 (cndY (rest 1 (cndY (rest 1 (cndY (rest 1 (blkC (rest 2 (bodyOf Tryz.f94.body)))))))))))))) (mkQ (fun t h => Kn  h) (fun t h => Kr  h) (keAdd 0 (fun t h => Ke0  h) ke0)) t h :=
  wpEqF H0 (by kernel_rfl)
def F94_18 (x0 x3 : Value) (h : H) (Kn : H → Prop) (Kr : H → Prop) (Ke0 : H → Prop) : Prop :=
  F94_19 x0 x3 h (fun y0 y4 h => F94_20 y0 y4 h Kn Kr Ke0) Kr Ke0
theorem F94_18_ok (Kn Kr Ke0) (t : T) (h : H) (H0 : F94_18 (t 0) (t 3) h Kn Kr Ke0) : Wp Tryz.prog 82 (cndX (rest 1 (cndY (rest 1 (cndY (rest 1 (cndY (rest 1 (cndY (rest 1 (blkC (rest 2 (bodyOf Tryz.f94.body))))))))))))) (mkQ (fun t h => Kn  h) (fun t h => Kr  h) (keAdd 0 (fun t h => Ke0  h) ke0)) t h :=
  seq_ok (by kernel_rfl) (fun t h H1 => F94_20_ok Kn Kr Ke0 t h H1) (F94_19_ok (fun y0 y4 h => F94_20 y0 y4 h Kn Kr Ke0) Kr Ke0 t h H0)
def F94_21 (h : H) (Kn : H → Prop) (Kr : H → Prop) (Ke0 : H → Prop) : Prop :=
  Kn h
theorem F94_21_ok (Kn Kr Ke0) (t : T) (h : H) (H0 : F94_21  h Kn Kr Ke0) : Wp Tryz.prog 82 (cndY (rest 1 (cndY (rest 1 (cndY (rest 1 (cndY (rest 1 (cndY (rest 1 (blkC (rest 2 (bodyOf Tryz.f94.body))))))))))))) (mkQ (fun t h => Kn  h) (fun t h => Kr  h) (keAdd 0 (fun t h => Ke0  h) ke0)) t h :=
  wpEqF H0 (by kernel_rfl)
def F94_17 (x0 x3 x67 : Value) (h : H) (Kn : H → Prop) (Kr : H → Prop) (Ke0 : H → Prop) : Prop :=
  o_if x67 (F94_18 x0 x3 h Kn Kr Ke0) (F94_21  h Kn Kr Ke0)
theorem F94_17_ok (Kn Kr Ke0) (t : T) (h : H) (H0 : F94_17 (t 0) (t 3) (t 67) h Kn Kr Ke0) : Wp Tryz.prog 82 (rest 1 (cndY (rest 1 (cndY (rest 1 (cndY (rest 1 (cndY (rest 1 (blkC (rest 2 (bodyOf Tryz.f94.body)))))))))))) (mkQ (fun t h => Kn  h) (fun t h => Kr  h) (keAdd 0 (fun t h => Ke0  h) ke0)) t h :=
  cond_ok H0 (by kernel_rfl) (F94_18_ok Kn Kr Ke0 t h) (F94_21_ok Kn Kr Ke0 t h) (by kernel_rfl)
def F94_16 (x0 x3 x6 : Value) (h : H) (Kn : H → Prop) (Kr : H → Prop) (Ke0 : H → Prop) : Prop :=
  o_bin Tryz.prog .eql 3 x6 (.int .i64 21) fun v68 => F94_17 x0 x3 v68 h Kn Kr Ke0
theorem F94_16_ok (Kn Kr Ke0) (t : T) (h : H) (H0 : F94_16 (t 0) (t 3) (t 6) h Kn Kr Ke0) : Wp Tryz.prog 82 (cndY (rest 1 (cndY (rest 1 (cndY (rest 1 (cndY (rest 1 (blkC (rest 2 (bodyOf Tryz.f94.body))))))))))) (mkQ (fun t h => Kn  h) (fun t h => Kr  h) (keAdd 0 (fun t h => Ke0  h) ke0)) t h :=
  awpTo_okF 1 H0 (by kernel_rfl) (fun t h (H1 : F94_17 (t 0) (t 3) (t 67) h Kn Kr Ke0) => F94_17_ok Kn Kr Ke0 t h H1) (by kernel_rfl)
def F94_14 (x0 x3 x6 x52 : Value) (h : H) (Kn : H → Prop) (Kr : H → Prop) (Ke0 : H → Prop) : Prop :=
  o_if x52 (F94_15 x0 x3 h Kn Kr Ke0) (F94_16 x0 x3 x6 h Kn Kr Ke0)
theorem F94_14_ok (Kn Kr Ke0) (t : T) (h : H) (H0 : F94_14 (t 0) (t 3) (t 6) (t 52) h Kn Kr Ke0) : Wp Tryz.prog 82 (rest 1 (cndY (rest 1 (cndY (rest 1 (cndY (rest 1 (blkC (rest 2 (bodyOf Tryz.f94.body)))))))))) (mkQ (fun t h => Kn  h) (fun t h => Kr  h) (keAdd 0 (fun t h => Ke0  h) ke0)) t h :=
  cond_ok H0 (by kernel_rfl) (F94_15_ok Kn Kr Ke0 t h) (F94_16_ok Kn Kr Ke0 t h) (by kernel_rfl)
def F94_13 (x0 x3 x6 : Value) (h : H) (Kn : H → Prop) (Kr : H → Prop) (Ke0 : H → Prop) : Prop :=
  o_bin Tryz.prog .eql 3 x6 (.int .i64 13) fun v53 => F94_14 x0 x3 x6 v53 h Kn Kr Ke0
theorem F94_13_ok (Kn Kr Ke0) (t : T) (h : H) (H0 : F94_13 (t 0) (t 3) (t 6) h Kn Kr Ke0) : Wp Tryz.prog 82 (cndY (rest 1 (cndY (rest 1 (cndY (rest 1 (blkC (rest 2 (bodyOf Tryz.f94.body))))))))) (mkQ (fun t h => Kn  h) (fun t h => Kr  h) (keAdd 0 (fun t h => Ke0  h) ke0)) t h :=
  awpTo_okF 1 H0 (by kernel_rfl) (fun t h (H1 : F94_14 (t 0) (t 3) (t 6) (t 52) h Kn Kr Ke0) => F94_14_ok Kn Kr Ke0 t h H1) (by kernel_rfl)
def F94_11 (x0 x3 x6 x46 : Value) (h : H) (Kn : H → Prop) (Kr : H → Prop) (Ke0 : H → Prop) : Prop :=
  o_if x46 (F94_12 x0 x3 h Kn Kr Ke0) (F94_13 x0 x3 x6 h Kn Kr Ke0)
theorem F94_11_ok (Kn Kr Ke0) (t : T) (h : H) (H0 : F94_11 (t 0) (t 3) (t 6) (t 46) h Kn Kr Ke0) : Wp Tryz.prog 82 (rest 1 (cndY (rest 1 (cndY (rest 1 (blkC (rest 2 (bodyOf Tryz.f94.body)))))))) (mkQ (fun t h => Kn  h) (fun t h => Kr  h) (keAdd 0 (fun t h => Ke0  h) ke0)) t h :=
  cond_ok H0 (by kernel_rfl) (F94_12_ok Kn Kr Ke0 t h) (F94_13_ok Kn Kr Ke0 t h) (by kernel_rfl)
def F94_10 (x0 x3 x6 : Value) (h : H) (Kn : H → Prop) (Kr : H → Prop) (Ke0 : H → Prop) : Prop :=
  o_bin Tryz.prog .eql 3 x6 (.int .i64 12) fun v47 => F94_11 x0 x3 x6 v47 h Kn Kr Ke0
theorem F94_10_ok (Kn Kr Ke0) (t : T) (h : H) (H0 : F94_10 (t 0) (t 3) (t 6) h Kn Kr Ke0) : Wp Tryz.prog 82 (cndY (rest 1 (cndY (rest 1 (blkC (rest 2 (bodyOf Tryz.f94.body))))))) (mkQ (fun t h => Kn  h) (fun t h => Kr  h) (keAdd 0 (fun t h => Ke0  h) ke0)) t h :=
  awpTo_okF 1 H0 (by kernel_rfl) (fun t h (H1 : F94_11 (t 0) (t 3) (t 6) (t 46) h Kn Kr Ke0) => F94_11_ok Kn Kr Ke0 t h H1) (by kernel_rfl)
def F94_8 (x0 x3 x6 x35 : Value) (h : H) (Kn : H → Prop) (Kr : H → Prop) (Ke0 : H → Prop) : Prop :=
  o_if x35 (F94_9 x0 x3 h Kn Kr Ke0) (F94_10 x0 x3 x6 h Kn Kr Ke0)
theorem F94_8_ok (Kn Kr Ke0) (t : T) (h : H) (H0 : F94_8 (t 0) (t 3) (t 6) (t 35) h Kn Kr Ke0) : Wp Tryz.prog 82 (rest 1 (cndY (rest 1 (blkC (rest 2 (bodyOf Tryz.f94.body)))))) (mkQ (fun t h => Kn  h) (fun t h => Kr  h) (keAdd 0 (fun t h => Ke0  h) ke0)) t h :=
  cond_ok H0 (by kernel_rfl) (F94_9_ok Kn Kr Ke0 t h) (F94_10_ok Kn Kr Ke0 t h) (by kernel_rfl)
def F94_7 (x0 x3 x6 : Value) (h : H) (Kn : H → Prop) (Kr : H → Prop) (Ke0 : H → Prop) : Prop :=
  o_bin Tryz.prog .eql 3 x6 (.int .i64 11) fun v36 => F94_8 x0 x3 x6 v36 h Kn Kr Ke0
theorem F94_7_ok (Kn Kr Ke0) (t : T) (h : H) (H0 : F94_7 (t 0) (t 3) (t 6) h Kn Kr Ke0) : Wp Tryz.prog 82 (cndY (rest 1 (blkC (rest 2 (bodyOf Tryz.f94.body))))) (mkQ (fun t h => Kn  h) (fun t h => Kr  h) (keAdd 0 (fun t h => Ke0  h) ke0)) t h :=
  awpTo_okF 1 H0 (by kernel_rfl) (fun t h (H1 : F94_8 (t 0) (t 3) (t 6) (t 35) h Kn Kr Ke0) => F94_8_ok Kn Kr Ke0 t h H1) (by kernel_rfl)
def F94_3 (x0 x3 x6 x7 : Value) (h : H) (Kn : H → Prop) (Kr : H → Prop) (Ke0 : H → Prop) : Prop :=
  o_if x7 (F94_4 x0 x3 h Kn Kr Ke0) (F94_7 x0 x3 x6 h Kn Kr Ke0)
theorem F94_3_ok (Kn Kr Ke0) (t : T) (h : H) (H0 : F94_3 (t 0) (t 3) (t 6) (t 7) h Kn Kr Ke0) : Wp Tryz.prog 82 (rest 1 (blkC (rest 2 (bodyOf Tryz.f94.body)))) (mkQ (fun t h => Kn  h) (fun t h => Kr  h) (keAdd 0 (fun t h => Ke0  h) ke0)) t h :=
  cond_ok H0 (by kernel_rfl) (F94_4_ok Kn Kr Ke0 t h) (F94_7_ok Kn Kr Ke0 t h) (by kernel_rfl)
def F94_2 (x0 x3 x6 : Value) (h : H) (Kn : H → Prop) (Kr : H → Prop) (Ke0 : H → Prop) : Prop :=
  o_bin Tryz.prog .eql 3 x6 (.int .i64 10) fun v8 => F94_3 x0 x3 x6 v8 h Kn Kr Ke0
theorem F94_2_ok (Kn Kr Ke0) (t : T) (h : H) (H0 : F94_2 (t 0) (t 3) (t 6) h Kn Kr Ke0) : Wp Tryz.prog 82 (blkC (rest 2 (bodyOf Tryz.f94.body))) (mkQ (fun t h => Kn  h) (fun t h => Kr  h) (keAdd 0 (fun t h => Ke0  h) ke0)) t h :=
  awpTo_okF 1 H0 (by kernel_rfl) (fun t h (H1 : F94_3 (t 0) (t 3) (t 6) (t 7) h Kn Kr Ke0) => F94_3_ok Kn Kr Ke0 t h H1) (by kernel_rfl)
def F94_1 (x0 x3 x6 : Value) (h : H) (Kn : H → Prop) (Kr : H → Prop) : Prop :=
  F94_2 x0 x3 x6 h Kn Kr Kn
theorem F94_1_ok (Kn Kr) (t : T) (h : H) (H0 : F94_1 (t 0) (t 3) (t 6) h Kn Kr) : Wp Tryz.prog 82 (rest 2 (bodyOf Tryz.f94.body)) (mkQ (fun t h => Kn  h) (fun t h => Kr  h) ke0) t h :=
  block_ok 0 (by kernel_rfl) (by kernel_rfl) (F94_2_ok Kn Kr Kn t h H0)
def F94_0 (x0 x1 : Value) (h : H) (Kn : H → Prop) (Kr : H → Prop) : Prop :=
  boxV x1 = true ∧ o_new (Value.cells x1).toList 40 .exact h fun b3 h => o_fieldAddr 0 (.pointer (some ⟨b3, 0, none⟩)) fun v5 => o_load false 1 v5 h fun v6 => F94_1 x0 (.pointer (some ⟨b3, 0, none⟩)) v6 h Kn Kr
theorem F94_0_ok (Kn Kr) (t : T) (h : H) (H0 : F94_0 (t 0) (t 1) h Kn Kr) : Wp Tryz.prog 82 (bodyOf Tryz.f94.body) (mkQ (fun t h => Kn  h) (fun t h => Kr  h) ke0) t h :=
  awpTo_okF 2 H0 (by kernel_rfl) (fun t h (H1 : F94_1 (t 0) (t 3) (t 6) h Kn Kr) => F94_1_ok Kn Kr t h H1) (by kernel_rfl)
def F94 (x0 x1 : Value) (h : H) (Q : Value → H → Prop) : Prop := F94_0 x0 x1 h (fun h => bif [].all boxV then Q (.tuple #[]) h else False) (fun h => bif [].all boxV then Q (.tuple #[]) h else False)
theorem F94_spec (x0 x1 : Value) (h : H) (Q : Value → H → Prop) (H0 : F94 x0 x1 h Q) : AM.Spec Tryz.prog 94 [x0, x1] h Q :=
  spec_wp mixed (fn := Tryz.f94) Tryz.func94 (c := bodyOf Tryz.f94.body) (rs := []) (N := 82) (by kernel_rfl) (by kernel_rfl) (by kernel_rfl) (by kernel_rfl) (by kernel_rfl) (Nat.le_of_ble_eq_true rfl) (F94_0_ok (fun h => bif [].all boxV then Q (.tuple #[]) h else False) (fun h => bif [].all boxV then Q (.tuple #[]) h else False) (tinit [x0, x1]) h H0) (by kernel_rfl)
/-! #### 139: (*tincture/exec.run).goes -/
def F139_0 (x0 x1 : Value) (h : H) (Kn : Value → H → Prop) (Kr : Value → H → Prop) : Prop :=
  o_bin Tryz.prog .rem 27 x1 (.int .u32 4) fun v6 => o_bin Tryz.prog .neq 27 v6 (.int .u32 0) fun v7 => o_if v7 (o_call Tryz.prog 133 [x0, (.int .i64 7), x1, (.int .i64 0)] h fun v10 h => Kr (.bool false) h) (o_nilCheck x0 fun v12 => o_fieldAddr 0 v12 fun v13 => o_load false 1 v13 h fun v14 => o_nilCheck v14 fun v16 => o_fieldAddr 2 v16 fun v17 => o_fieldAddr 32 v17 fun v18 => o_store 1 v18 x1 h fun h => o_build Tryz.prog 47 [] fun v20 => o_call Tryz.prog 136 [x0, v20] h fun v21 h => Kr (.bool true) h)
theorem F139_0_ok (Kn Kr) (t : T) (h : H) (H0 : F139_0 (t 0) (t 1) h Kn Kr) : Wp Tryz.prog 22 (bodyOf Tryz.f139.body) (mkQ (fun t h => Kn (t 4) h) (fun t h => Kr (t 4) h) ke0) t h :=
  wpEqF H0 (by kernel_rfl)
def F139 (x0 x1 : Value) (h : H) (Q : Value → H → Prop) : Prop := F139_0 x0 x1 h (fun v h => Q v h) (fun v h => Q v h)
theorem F139_spec (x0 x1 : Value) (h : H) (Q : Value → H → Prop) (H0 : F139 x0 x1 h Q) : AM.Spec Tryz.prog 139 [x0, x1] h Q :=
  spec_wp mixed (fn := Tryz.f139) Tryz.func139 (c := bodyOf Tryz.f139.body) (rs := [4]) (N := 22) (by kernel_rfl) (by kernel_rfl) (by kernel_rfl) (by kernel_rfl) (by kernel_rfl) (Nat.le_of_ble_eq_true rfl) (F139_0_ok (fun v h => Q v h) (fun v h => Q v h) (tinit [x0, x1]) h H0) (by kernel_rfl)
/-! #### 91: (*tincture/exec.run).store -/
def F91_2 (x0 x3 : Value) (h : H) (Kn : Value → Value → Value → H → Prop) (Kr : H → Prop) : Prop :=
  o_fieldAddr 2 x3 fun v9 => o_load false 1 v9 h fun v10 => o_nilCheck x0 fun v11 => o_fieldAddr 5 v11 fun v12 => o_indexAddr (some 256) 1 v12 v10 fun v13 => o_load false 1 v13 h fun v14 => Kn x0 x3 v14 h
theorem F91_2_ok (Kn Kr) (t : T) (h : H) (H0 : F91_2 (t 0) (t 3) h Kn Kr) : Wp Tryz.prog 83 (seqL (rest 1 (bodyOf Tryz.f91.body))) (mkQ (fun t h => Kn (t 0) (t 3) (t 4) h) (fun t h => Kr  h) ke0) t h :=
  draw_okF (by kernel_rfl) (by kernel_rfl) H0 (by kernel_rfl)
theorem A91_size : (regOps (seqL (seqL (seqR (rest 1 (bodyOf Tryz.f91.body)))))).size = 17 := by kernel_rfl
theorem A91_back : backB (regOps (seqL (seqL (seqR (rest 1 (bodyOf Tryz.f91.body)))))) = true := by kernel_rfl
theorem A91_s0 (K : T → H → Prop) (t : T) (h : H) : aStep Tryz.prog (regOps (seqL (seqL (seqR (rest 1 (bodyOf Tryz.f91.body)))))) 0 K t h = (K (tset t 16 (t 0)) h) := by kernel_rfl
theorem A91_d0 : depL (regOps (seqL (seqL (seqR (rest 1 (bodyOf Tryz.f91.body)))))) 0 = [] := by kernel_rfl
theorem A91_s1 (K : T → H → Prop) (t : T) (h : H) : aStep Tryz.prog (regOps (seqL (seqL (seqR (rest 1 (bodyOf Tryz.f91.body)))))) 1 K t h = (o_nilCheck (t 16) fun v17 => K (tset t 17 v17) h) := by kernel_rfl
theorem A91_d1 : depL (regOps (seqL (seqL (seqR (rest 1 (bodyOf Tryz.f91.body)))))) 1 = [0] := by kernel_rfl
theorem A91_s2 (K : T → H → Prop) (t : T) (h : H) : aStep Tryz.prog (regOps (seqL (seqL (seqR (rest 1 (bodyOf Tryz.f91.body)))))) 2 K t h = (o_fieldAddr 0 (t 17) fun v18 => K (tset t 18 v18) h) := by kernel_rfl
theorem A91_d2 : depL (regOps (seqL (seqL (seqR (rest 1 (bodyOf Tryz.f91.body)))))) 2 = [1] := by kernel_rfl
theorem A91_s3 (K : T → H → Prop) (t : T) (h : H) : aStep Tryz.prog (regOps (seqL (seqL (seqR (rest 1 (bodyOf Tryz.f91.body)))))) 3 K t h = (o_load false 1 (t 18) h fun v19 => K (tset t 19 v19) h) := by kernel_rfl
theorem A91_d3 : depL (regOps (seqL (seqL (seqR (rest 1 (bodyOf Tryz.f91.body)))))) 3 = [2] := by kernel_rfl
theorem A91_s4 (K : T → H → Prop) (t : T) (h : H) : aStep Tryz.prog (regOps (seqL (seqL (seqR (rest 1 (bodyOf Tryz.f91.body)))))) 4 K t h = (o_nilCheck (t 19) fun v20 => K (tset t 20 v20) h) := by kernel_rfl
theorem A91_d4 : depL (regOps (seqL (seqL (seqR (rest 1 (bodyOf Tryz.f91.body)))))) 4 = [3] := by kernel_rfl
theorem A91_s5 (K : T → H → Prop) (t : T) (h : H) : aStep Tryz.prog (regOps (seqL (seqL (seqR (rest 1 (bodyOf Tryz.f91.body)))))) 5 K t h = (o_fieldAddr 0 (t 20) fun v21 => K (tset t 21 v21) h) := by kernel_rfl
theorem A91_d5 : depL (regOps (seqL (seqL (seqR (rest 1 (bodyOf Tryz.f91.body)))))) 5 = [4] := by kernel_rfl
theorem A91_s6 (K : T → H → Prop) (t : T) (h : H) : aStep Tryz.prog (regOps (seqL (seqL (seqR (rest 1 (bodyOf Tryz.f91.body)))))) 6 K t h = (o_load false 1 (t 21) h fun v22 => K (tset t 22 v22) h) := by kernel_rfl
theorem A91_d6 : depL (regOps (seqL (seqL (seqR (rest 1 (bodyOf Tryz.f91.body)))))) 6 = [5] := by kernel_rfl
theorem A91_s7 (K : T → H → Prop) (t : T) (h : H) : aStep Tryz.prog (regOps (seqL (seqL (seqR (rest 1 (bodyOf Tryz.f91.body)))))) 7 K t h = (K (tset t 23 (t 4)) h) := by kernel_rfl
theorem A91_d7 : depL (regOps (seqL (seqL (seqR (rest 1 (bodyOf Tryz.f91.body)))))) 7 = [] := by kernel_rfl
theorem A91_s8 (K : T → H → Prop) (t : T) (h : H) : aStep Tryz.prog (regOps (seqL (seqL (seqR (rest 1 (bodyOf Tryz.f91.body)))))) 8 K t h = (o_fieldAddr 4 (t 3) fun v24 => K (tset t 24 v24) h) := by kernel_rfl
theorem A91_d8 : depL (regOps (seqL (seqL (seqR (rest 1 (bodyOf Tryz.f91.body)))))) 8 = [] := by kernel_rfl
theorem A91_s9 (K : T → H → Prop) (t : T) (h : H) : aStep Tryz.prog (regOps (seqL (seqL (seqR (rest 1 (bodyOf Tryz.f91.body)))))) 9 K t h = (o_load false 1 (t 24) h fun v25 => K (tset t 25 v25) h) := by kernel_rfl
theorem A91_d9 : depL (regOps (seqL (seqL (seqR (rest 1 (bodyOf Tryz.f91.body)))))) 9 = [8] := by kernel_rfl
theorem A91_s10 (K : T → H → Prop) (t : T) (h : H) : aStep Tryz.prog (regOps (seqL (seqL (seqR (rest 1 (bodyOf Tryz.f91.body)))))) 10 K t h = (o_conv .i64 (t 25) fun v26 => K (tset t 26 v26) h) := by kernel_rfl
theorem A91_d10 : depL (regOps (seqL (seqL (seqR (rest 1 (bodyOf Tryz.f91.body)))))) 10 = [9] := by kernel_rfl
theorem A91_s11 (K : T → H → Prop) (t : T) (h : H) : aStep Tryz.prog (regOps (seqL (seqL (seqR (rest 1 (bodyOf Tryz.f91.body)))))) 11 K t h = (o_call Tryz.prog 61 [(t 22), (t 23), (t 26), (.int .i64 2)] h fun v27 h => K (tset t 27 v27) h) := by kernel_rfl
theorem A91_d11 : depL (regOps (seqL (seqL (seqR (rest 1 (bodyOf Tryz.f91.body)))))) 11 = [6, 7, 10] := by kernel_rfl
theorem A91_s12 (K : T → H → Prop) (t : T) (h : H) : aStep Tryz.prog (regOps (seqL (seqL (seqR (rest 1 (bodyOf Tryz.f91.body)))))) 12 K t h = (K (tset t 15 (t 27)) h) := by kernel_rfl
theorem A91_d12 : depL (regOps (seqL (seqL (seqR (rest 1 (bodyOf Tryz.f91.body)))))) 12 = [11] := by kernel_rfl
theorem A91_s13 (K : T → H → Prop) (t : T) (h : H) : aStep Tryz.prog (regOps (seqL (seqL (seqR (rest 1 (bodyOf Tryz.f91.body)))))) 13 K t h = (o_extract (t 15) 0 fun v28 => K (tset t 28 v28) h) := by kernel_rfl
theorem A91_d13 : depL (regOps (seqL (seqL (seqR (rest 1 (bodyOf Tryz.f91.body)))))) 13 = [12] := by kernel_rfl
theorem A91_s14 (K : T → H → Prop) (t : T) (h : H) : aStep Tryz.prog (regOps (seqL (seqL (seqR (rest 1 (bodyOf Tryz.f91.body)))))) 14 K t h = (o_extract (t 15) 1 fun v29 => K (tset t 29 v29) h) := by kernel_rfl
theorem A91_d14 : depL (regOps (seqL (seqL (seqR (rest 1 (bodyOf Tryz.f91.body)))))) 14 = [12] := by kernel_rfl
theorem A91_s15 (K : T → H → Prop) (t : T) (h : H) : aStep Tryz.prog (regOps (seqL (seqL (seqR (rest 1 (bodyOf Tryz.f91.body)))))) 15 K t h = (K (tset t 5 (t 28)) h) := by kernel_rfl
theorem A91_d15 : depL (regOps (seqL (seqL (seqR (rest 1 (bodyOf Tryz.f91.body)))))) 15 = [13, 11, 0, 1, 2, 3, 4, 5, 6, 7, 8, 9, 10, 11, 12, 13] := by kernel_rfl
theorem A91_s16 (K : T → H → Prop) (t : T) (h : H) : aStep Tryz.prog (regOps (seqL (seqL (seqR (rest 1 (bodyOf Tryz.f91.body)))))) 16 K t h = (K (tset t 6 (t 29)) h) := by kernel_rfl
theorem A91_d16 : depL (regOps (seqL (seqL (seqR (rest 1 (bodyOf Tryz.f91.body)))))) 16 = [14, 15, 0, 1, 2, 3, 4, 5, 6, 7, 8, 9, 10, 11, 12, 13, 14, 15] := by kernel_rfl
def F91_5 (x0 x3 x4 : Value) (h : H) (Kn : Value → Value → Value → Value → H → Prop) (Kr : H → Prop) : Prop :=
  ∃ (b b3 m q : Nat) (a w : Int), x0 = (.pointer (some ⟨b, 0, none⟩)) ∧ x3 = (.pointer (some ⟨b3, 0, none⟩)) ∧ x4 = .int .u32 a ∧ cellAt h b 0 = some (.pointer (some ⟨m, 0, none⟩)) ∧ cellAt h b3 4 = some (.int .u32 4) ∧ cellAt h m 0 = some (.pointer (some ⟨q, 0, none⟩)) ∧
    (∀ Q : Value → H → Prop, Q (.tuple #[.int .u32 w, .int .i64 0]) h → AM.Spec Tryz.prog 61 [(.pointer (some ⟨q, 0, none⟩)), .int .u32 a, .int .i64 4, .int .i64 2] h Q) ∧ Kn x0 x3 x4 (.int .i64 0) h
theorem F91_5_ok (Kn Kr) (t : T) (h : H) (H0 : F91_5 (t 0) (t 3) (t 4) h Kn Kr) : Wp Tryz.prog 83 (seqL (seqL (seqR (rest 1 (bodyOf Tryz.f91.body))))) (mkQ (fun t h => Kn (t 0) (t 3) (t 4) (t 6) h) (fun t h => Kr  h) ke0) t h := by
  obtain ⟨b, b3, m, q, a, w, e0, e3, e4, hc0, hcv, hcq, hcall, hk0⟩ := H0
  refine draw_read (by kernel_rfl) A91_back [(0, (.pointer (some ⟨b, 0, none⟩))), (3, (.pointer (some ⟨b3, 0, none⟩))), (4, (.int .u32 a))] [(0, 16), (1, 17), (2, 18), (3, 19), (4, 20), (5, 21), (6, 22), (7, 23), (8, 24), (9, 25), (10, 26), (11, 27), (12, 15), (13, 28), (14, 29), (15, 5), (16, 6)] (fun i => match i with | 0 => (.pointer (some ⟨b, 0, none⟩)) | 1 => (.pointer (some ⟨b, 0, none⟩)) | 2 => (.pointer (some ⟨b, 0, none⟩)) | 3 => (.pointer (some ⟨m, 0, none⟩)) | 4 => (.pointer (some ⟨m, 0, none⟩)) | 5 => (.pointer (some ⟨m, 0, none⟩)) | 6 => (.pointer (some ⟨q, 0, none⟩)) | 7 => (.int .u32 a) | 8 => (.pointer (some ⟨b3, 4, none⟩)) | 9 => (.int .u32 4) | 10 => (.int .i64 4) | 11 => (.tuple #[.int .u32 w, .int .i64 0]) | 12 => (.tuple #[.int .u32 w, .int .i64 0]) | 13 => (.int .u32 w) | 14 => (.int .i64 0) | 15 => (.int .u32 w) | 16 => (.int .i64 0) | _ => undef) (by simp [*]) (by kernel_rfl) ?_ ?_
  · intro l t' i hi hd hT K hk
    have p0 : t' 0 = (.pointer (some ⟨b, 0, none⟩)) := hT.p (0, (.pointer (some ⟨b, 0, none⟩))) (by simp)
    have p3 : t' 3 = (.pointer (some ⟨b3, 0, none⟩)) := hT.p (3, (.pointer (some ⟨b3, 0, none⟩))) (by simp)
    have p4 : t' 4 = (.int .u32 a) := hT.p (4, (.int .u32 a)) (by simp)
    rw [A91_size] at hi
    match i, hi with
    | 0, _ =>
      simp only [A91_s0, p0, nil_ptr, field_addr, conv_int, Nat.zero_add, Nat.add_zero, Nat.reduceAdd, load_cell hc0, load_cell hcv, load_cell hcq, ex0, ex1, (show IntKind.i64.wrap 4 = 4 from rfl)]
      exact hk _ (hT.set 0 16 rfl)
    | 1, _ =>
      have e16 : t' 16 = (.pointer (some ⟨b, 0, none⟩)) := hT.v (0, 16) (by simp) (hd 0 (by rw [A91_d1]; simp))
      simp only [A91_s1, e16, nil_ptr, field_addr, conv_int, Nat.zero_add, Nat.add_zero, Nat.reduceAdd, load_cell hc0, load_cell hcv, load_cell hcq, ex0, ex1, (show IntKind.i64.wrap 4 = 4 from rfl)]
      exact hk _ (hT.set 1 17 rfl)
    | 2, _ =>
      have e17 : t' 17 = (.pointer (some ⟨b, 0, none⟩)) := hT.v (1, 17) (by simp) (hd 1 (by rw [A91_d2]; simp))
      simp only [A91_s2, e17, nil_ptr, field_addr, conv_int, Nat.zero_add, Nat.add_zero, Nat.reduceAdd, load_cell hc0, load_cell hcv, load_cell hcq, ex0, ex1, (show IntKind.i64.wrap 4 = 4 from rfl)]
      exact hk _ (hT.set 2 18 rfl)
    | 3, _ =>
      have e18 : t' 18 = (.pointer (some ⟨b, 0, none⟩)) := hT.v (2, 18) (by simp) (hd 2 (by rw [A91_d3]; simp))
      simp only [A91_s3, e18, nil_ptr, field_addr, conv_int, Nat.zero_add, Nat.add_zero, Nat.reduceAdd, load_cell hc0, load_cell hcv, load_cell hcq, ex0, ex1, (show IntKind.i64.wrap 4 = 4 from rfl)]
      exact hk _ (hT.set 3 19 rfl)
    | 4, _ =>
      have e19 : t' 19 = (.pointer (some ⟨m, 0, none⟩)) := hT.v (3, 19) (by simp) (hd 3 (by rw [A91_d4]; simp))
      simp only [A91_s4, e19, nil_ptr, field_addr, conv_int, Nat.zero_add, Nat.add_zero, Nat.reduceAdd, load_cell hc0, load_cell hcv, load_cell hcq, ex0, ex1, (show IntKind.i64.wrap 4 = 4 from rfl)]
      exact hk _ (hT.set 4 20 rfl)
    | 5, _ =>
      have e20 : t' 20 = (.pointer (some ⟨m, 0, none⟩)) := hT.v (4, 20) (by simp) (hd 4 (by rw [A91_d5]; simp))
      simp only [A91_s5, e20, nil_ptr, field_addr, conv_int, Nat.zero_add, Nat.add_zero, Nat.reduceAdd, load_cell hc0, load_cell hcv, load_cell hcq, ex0, ex1, (show IntKind.i64.wrap 4 = 4 from rfl)]
      exact hk _ (hT.set 5 21 rfl)
    | 6, _ =>
      have e21 : t' 21 = (.pointer (some ⟨m, 0, none⟩)) := hT.v (5, 21) (by simp) (hd 5 (by rw [A91_d6]; simp))
      simp only [A91_s6, e21, nil_ptr, field_addr, conv_int, Nat.zero_add, Nat.add_zero, Nat.reduceAdd, load_cell hc0, load_cell hcv, load_cell hcq, ex0, ex1, (show IntKind.i64.wrap 4 = 4 from rfl)]
      exact hk _ (hT.set 6 22 rfl)
    | 7, _ =>
      simp only [A91_s7, p4, nil_ptr, field_addr, conv_int, Nat.zero_add, Nat.add_zero, Nat.reduceAdd, load_cell hc0, load_cell hcv, load_cell hcq, ex0, ex1, (show IntKind.i64.wrap 4 = 4 from rfl)]
      exact hk _ (hT.set 7 23 rfl)
    | 8, _ =>
      simp only [A91_s8, p3, nil_ptr, field_addr, conv_int, Nat.zero_add, Nat.add_zero, Nat.reduceAdd, load_cell hc0, load_cell hcv, load_cell hcq, ex0, ex1, (show IntKind.i64.wrap 4 = 4 from rfl)]
      exact hk _ (hT.set 8 24 rfl)
    | 9, _ =>
      have e24 : t' 24 = (.pointer (some ⟨b3, 4, none⟩)) := hT.v (8, 24) (by simp) (hd 8 (by rw [A91_d9]; simp))
      simp only [A91_s9, e24, nil_ptr, field_addr, conv_int, Nat.zero_add, Nat.add_zero, Nat.reduceAdd, load_cell hc0, load_cell hcv, load_cell hcq, ex0, ex1, (show IntKind.i64.wrap 4 = 4 from rfl)]
      exact hk _ (hT.set 9 25 rfl)
    | 10, _ =>
      have e25 : t' 25 = (.int .u32 4) := hT.v (9, 25) (by simp) (hd 9 (by rw [A91_d10]; simp))
      simp only [A91_s10, e25, nil_ptr, field_addr, conv_int, Nat.zero_add, Nat.add_zero, Nat.reduceAdd, load_cell hc0, load_cell hcv, load_cell hcq, ex0, ex1, (show IntKind.i64.wrap 4 = 4 from rfl)]
      exact hk _ (hT.set 10 26 rfl)
    | 11, _ =>
      have e22 : t' 22 = (.pointer (some ⟨q, 0, none⟩)) := hT.v (6, 22) (by simp) (hd 6 (by rw [A91_d11]; simp))
      have e23 : t' 23 = (.int .u32 a) := hT.v (7, 23) (by simp) (hd 7 (by rw [A91_d11]; simp))
      have e26 : t' 26 = (.int .i64 4) := hT.v (10, 26) (by simp) (hd 10 (by rw [A91_d11]; simp))
      rw [A91_s11, e22, e23, e26]
      refine ⟨rfl, hcall _ ?_⟩
      exact hk _ (hT.set 11 27 rfl)
    | 12, _ =>
      have e27 : t' 27 = (.tuple #[.int .u32 w, .int .i64 0]) := hT.v (11, 27) (by simp) (hd 11 (by rw [A91_d12]; simp))
      simp only [A91_s12, e27, nil_ptr, field_addr, conv_int, Nat.zero_add, Nat.add_zero, Nat.reduceAdd, load_cell hc0, load_cell hcv, load_cell hcq, ex0, ex1, (show IntKind.i64.wrap 4 = 4 from rfl)]
      exact hk _ (hT.set 12 15 rfl)
    | 13, _ =>
      have e15 : t' 15 = (.tuple #[.int .u32 w, .int .i64 0]) := hT.v (12, 15) (by simp) (hd 12 (by rw [A91_d13]; simp))
      simp only [A91_s13, e15, nil_ptr, field_addr, conv_int, Nat.zero_add, Nat.add_zero, Nat.reduceAdd, load_cell hc0, load_cell hcv, load_cell hcq, ex0, ex1, (show IntKind.i64.wrap 4 = 4 from rfl)]
      exact hk _ (hT.set 13 28 rfl)
    | 14, _ =>
      have e15 : t' 15 = (.tuple #[.int .u32 w, .int .i64 0]) := hT.v (12, 15) (by simp) (hd 12 (by rw [A91_d14]; simp))
      simp only [A91_s14, e15, nil_ptr, field_addr, conv_int, Nat.zero_add, Nat.add_zero, Nat.reduceAdd, load_cell hc0, load_cell hcv, load_cell hcq, ex0, ex1, (show IntKind.i64.wrap 4 = 4 from rfl)]
      exact hk _ (hT.set 14 29 rfl)
    | 15, _ =>
      have e28 : t' 28 = (.int .u32 w) := hT.v (13, 28) (by simp) (hd 13 (by rw [A91_d15]; simp))
      simp only [A91_s15, e28, nil_ptr, field_addr, conv_int, Nat.zero_add, Nat.add_zero, Nat.reduceAdd, load_cell hc0, load_cell hcv, load_cell hcq, ex0, ex1, (show IntKind.i64.wrap 4 = 4 from rfl)]
      exact hk _ (hT.set 15 5 rfl)
    | 16, _ =>
      have e29 : t' 29 = (.int .i64 0) := hT.v (14, 29) (by simp) (hd 14 (by rw [A91_d16]; simp))
      simp only [A91_s16, e29, nil_ptr, field_addr, conv_int, Nat.zero_add, Nat.add_zero, Nat.reduceAdd, load_cell hc0, load_cell hcv, load_cell hcq, ex0, ex1, (show IntKind.i64.wrap 4 = 4 from rfl)]
      exact hk _ (hT.set 16 6 rfl)
    | k + 17, hk => exact absurd hk (by omega)
  · intro t' hp hv
    show Kn (t' 0) (t' 3) (t' 4) (t' 6) h
    rw [hp (0, (.pointer (some ⟨b, 0, none⟩))) (by simp), hp (3, (.pointer (some ⟨b3, 0, none⟩))) (by simp), hp (4, .int .u32 a) (by simp), hv (16, 6) (by simp), ← e0, ← e3, ← e4]
    exact hk0
def F91_6 (x0 x3 x4 x6 : Value) (h : H) (Kn : Value → Value → Value → H → Prop) (Kr : H → Prop) : Prop :=
  o_bin Tryz.prog .neq 42 x6 (.int .i64 0) fun v31 => o_if v31 (o_call Tryz.prog 133 [x0, (.int .i64 4), x4, x6] h fun v35 h => Kr h) (Kn x0 x3 x4 h)
theorem F91_6_ok (Kn Kr) (t : T) (h : H) (H0 : F91_6 (t 0) (t 3) (t 4) (t 6) h Kn Kr) : Wp Tryz.prog 83 (seqR (seqL (seqR (rest 1 (bodyOf Tryz.f91.body))))) (mkQ (fun t h => Kn (t 0) (t 3) (t 4) h) (fun t h => Kr  h) ke0) t h :=
  wpEqF H0 (by kernel_rfl)
def F91_4 (x0 x3 x4 : Value) (h : H) (Kn : Value → Value → Value → H → Prop) (Kr : H → Prop) : Prop :=
  F91_5 x0 x3 x4 h (fun y0 y3 y4 y6 h => F91_6 y0 y3 y4 y6 h Kn Kr) Kr
theorem F91_4_ok (Kn Kr) (t : T) (h : H) (H0 : F91_4 (t 0) (t 3) (t 4) h Kn Kr) : Wp Tryz.prog 83 (seqL (seqR (rest 1 (bodyOf Tryz.f91.body)))) (mkQ (fun t h => Kn (t 0) (t 3) (t 4) h) (fun t h => Kr  h) ke0) t h :=
  seq_ok (by kernel_rfl) (fun t h H1 => F91_6_ok Kn Kr t h H1) (F91_5_ok (fun y0 y3 y4 y6 h => F91_6 y0 y3 y4 y6 h Kn Kr) Kr t h H0)
def F91_11 (x0 x3 x4 : Value) (h : H) (Kn : Value → Value → Value → Value → H → Prop) (Kr : H → Prop) : Prop :=
  o_nilCheck x0 fun v40 => o_fieldAddr 0 v40 fun v41 => o_load false 1 v41 h fun v42 => o_nilCheck v42 fun v43 => o_fieldAddr 1 v43 fun v44 => o_load false 1 v44 h fun v45 => o_fieldAddr 4 x3 fun v47 => o_load false 1 v47 h fun v48 => o_conv .i64 v48 fun v49 => o_fieldAddr 3 x3 fun v51 => o_load false 1 v51 h fun v52 => o_nilCheck x0 fun v53 => o_fieldAddr 261 v53 fun v54 => o_indexAddr (some 256) 4 v54 v52 fun v55 => o_load true 4 v55 h fun v56 => o_dcall D0 135 [v45, x4, v49, v56] h fun v57 h => Kn x0 x3 x4 v57 h
theorem F91_11_ok (Kn Kr) (t : T) (h : H) (H0 : F91_11 (t 0) (t 3) (t 4) h Kn Kr) : Wp Tryz.prog 83 (seqL (cndX (rest 1 (seqL (seqR (seqR (rest 1 (bodyOf Tryz.f91.body)))))))) (mkQ (fun t h => Kn (t 0) (t 3) (t 4) (t 7) h) (fun t h => Kr  h) ke0) t h :=
  drawD_ok dOk (by kernel_rfl) (by kernel_rfl) H0 (by kernel_rfl)
def F91_12 (x0 x3 x4 x7 : Value) (h : H) (Kn : Value → Value → Value → H → Prop) (Kr : H → Prop) : Prop :=
  o_bin Tryz.prog .neq 45 x7 (.int .i64 0) fun v59 => o_if v59 (o_build Tryz.prog 47 [(1, x7)] fun v62 => o_call Tryz.prog 136 [x0, v62] h fun v63 h => Kr h) (Kn x0 x3 x4 h)
theorem F91_12_ok (Kn Kr) (t : T) (h : H) (H0 : F91_12 (t 0) (t 3) (t 4) (t 7) h Kn Kr) : Wp Tryz.prog 83 (seqR (cndX (rest 1 (seqL (seqR (seqR (rest 1 (bodyOf Tryz.f91.body)))))))) (mkQ (fun t h => Kn (t 0) (t 3) (t 4) h) (fun t h => Kr  h) ke0) t h :=
  wpEqF H0 (by kernel_rfl)
def F91_10 (x0 x3 x4 : Value) (h : H) (Kn : Value → Value → Value → H → Prop) (Kr : H → Prop) : Prop :=
  F91_11 x0 x3 x4 h (fun y0 y3 y4 y7 h => F91_12 y0 y3 y4 y7 h Kn Kr) Kr
theorem F91_10_ok (Kn Kr) (t : T) (h : H) (H0 : F91_10 (t 0) (t 3) (t 4) h Kn Kr) : Wp Tryz.prog 83 (cndX (rest 1 (seqL (seqR (seqR (rest 1 (bodyOf Tryz.f91.body))))))) (mkQ (fun t h => Kn (t 0) (t 3) (t 4) h) (fun t h => Kr  h) ke0) t h :=
  seq_ok (by kernel_rfl) (fun t h H1 => F91_12_ok Kn Kr t h H1) (F91_11_ok (fun y0 y3 y4 y7 h => F91_12 y0 y3 y4 y7 h Kn Kr) Kr t h H0)
def F91_13 (x0 x3 x4 : Value) (h : H) (Kn : Value → Value → Value → H → Prop) (Kr : H → Prop) : Prop :=
  Kn x0 x3 x4 h
theorem F91_13_ok (Kn Kr) (t : T) (h : H) (H0 : F91_13 (t 0) (t 3) (t 4) h Kn Kr) : Wp Tryz.prog 83 (cndY (rest 1 (seqL (seqR (seqR (rest 1 (bodyOf Tryz.f91.body))))))) (mkQ (fun t h => Kn (t 0) (t 3) (t 4) h) (fun t h => Kr  h) ke0) t h :=
  wpEqF H0 (by kernel_rfl)
def F91_9 (x0 x3 x4 x38 : Value) (h : H) (Kn : Value → Value → Value → H → Prop) (Kr : H → Prop) : Prop :=
  o_if x38 (F91_10 x0 x3 x4 h Kn Kr) (F91_13 x0 x3 x4 h Kn Kr)
theorem F91_9_ok (Kn Kr) (t : T) (h : H) (H0 : F91_9 (t 0) (t 3) (t 4) (t 38) h Kn Kr) : Wp Tryz.prog 83 (rest 1 (seqL (seqR (seqR (rest 1 (bodyOf Tryz.f91.body)))))) (mkQ (fun t h => Kn (t 0) (t 3) (t 4) h) (fun t h => Kr  h) ke0) t h :=
  cond_ok H0 (by kernel_rfl) (F91_10_ok Kn Kr t h) (F91_13_ok Kn Kr t h) (by kernel_rfl)
def F91_8 (x0 x3 x4 : Value) (h : H) (Kn : Value → Value → Value → H → Prop) (Kr : H → Prop) : Prop :=
  o_fieldAddr 0 x3 fun v36 => o_load false 1 v36 h fun v37 => o_bin Tryz.prog .eql 3 v37 (.int .i64 18) fun v38 => F91_9 x0 x3 x4 v38 h Kn Kr
theorem F91_8_ok (Kn Kr) (t : T) (h : H) (H0 : F91_8 (t 0) (t 3) (t 4) h Kn Kr) : Wp Tryz.prog 83 (seqL (seqR (seqR (rest 1 (bodyOf Tryz.f91.body))))) (mkQ (fun t h => Kn (t 0) (t 3) (t 4) h) (fun t h => Kr  h) ke0) t h :=
  awpTo_okF 1 H0 (by kernel_rfl) (fun t h (H1 : F91_9 (t 0) (t 3) (t 4) (t 38) h Kn Kr) => F91_9_ok Kn Kr t h H1) (by kernel_rfl)
theorem B91_size : (regOps (seqR (seqR (seqR (rest 1 (bodyOf Tryz.f91.body)))))).size = 19 := by kernel_rfl
theorem B91_back : backB (regOps (seqR (seqR (seqR (rest 1 (bodyOf Tryz.f91.body)))))) = true := by kernel_rfl
theorem B91_s0 (K : T → H → Prop) (t : T) (h : H) : aStep Tryz.prog (regOps (seqR (seqR (seqR (rest 1 (bodyOf Tryz.f91.body)))))) 0 K t h = (K (tset t 64 (t 0)) h) := by kernel_rfl
theorem B91_d0 : depL (regOps (seqR (seqR (seqR (rest 1 (bodyOf Tryz.f91.body)))))) 0 = [] := by kernel_rfl
theorem B91_s1 (K : T → H → Prop) (t : T) (h : H) : aStep Tryz.prog (regOps (seqR (seqR (seqR (rest 1 (bodyOf Tryz.f91.body)))))) 1 K t h = (o_nilCheck (t 64) fun v65 => K (tset t 65 v65) h) := by kernel_rfl
theorem B91_d1 : depL (regOps (seqR (seqR (seqR (rest 1 (bodyOf Tryz.f91.body)))))) 1 = [0] := by kernel_rfl
theorem B91_s2 (K : T → H → Prop) (t : T) (h : H) : aStep Tryz.prog (regOps (seqR (seqR (seqR (rest 1 (bodyOf Tryz.f91.body)))))) 2 K t h = (o_fieldAddr 0 (t 65) fun v66 => K (tset t 66 v66) h) := by kernel_rfl
theorem B91_d2 : depL (regOps (seqR (seqR (seqR (rest 1 (bodyOf Tryz.f91.body)))))) 2 = [1] := by kernel_rfl
theorem B91_s3 (K : T → H → Prop) (t : T) (h : H) : aStep Tryz.prog (regOps (seqR (seqR (seqR (rest 1 (bodyOf Tryz.f91.body)))))) 3 K t h = (o_load false 1 (t 66) h fun v67 => K (tset t 67 v67) h) := by kernel_rfl
theorem B91_d3 : depL (regOps (seqR (seqR (seqR (rest 1 (bodyOf Tryz.f91.body)))))) 3 = [2] := by kernel_rfl
theorem B91_s4 (K : T → H → Prop) (t : T) (h : H) : aStep Tryz.prog (regOps (seqR (seqR (seqR (rest 1 (bodyOf Tryz.f91.body)))))) 4 K t h = (o_nilCheck (t 67) fun v68 => K (tset t 68 v68) h) := by kernel_rfl
theorem B91_d4 : depL (regOps (seqR (seqR (seqR (rest 1 (bodyOf Tryz.f91.body)))))) 4 = [3] := by kernel_rfl
theorem B91_s5 (K : T → H → Prop) (t : T) (h : H) : aStep Tryz.prog (regOps (seqR (seqR (seqR (rest 1 (bodyOf Tryz.f91.body)))))) 5 K t h = (o_fieldAddr 0 (t 68) fun v69 => K (tset t 69 v69) h) := by kernel_rfl
theorem B91_d5 : depL (regOps (seqR (seqR (seqR (rest 1 (bodyOf Tryz.f91.body)))))) 5 = [4] := by kernel_rfl
theorem B91_s6 (K : T → H → Prop) (t : T) (h : H) : aStep Tryz.prog (regOps (seqR (seqR (seqR (rest 1 (bodyOf Tryz.f91.body)))))) 6 K t h = (o_load false 1 (t 69) h fun v70 => K (tset t 70 v70) h) := by kernel_rfl
theorem B91_d6 : depL (regOps (seqR (seqR (seqR (rest 1 (bodyOf Tryz.f91.body)))))) 6 = [5] := by kernel_rfl
theorem B91_s7 (K : T → H → Prop) (t : T) (h : H) : aStep Tryz.prog (regOps (seqR (seqR (seqR (rest 1 (bodyOf Tryz.f91.body)))))) 7 K t h = (K (tset t 71 (t 4)) h) := by kernel_rfl
theorem B91_d7 : depL (regOps (seqR (seqR (seqR (rest 1 (bodyOf Tryz.f91.body)))))) 7 = [] := by kernel_rfl
theorem B91_s8 (K : T → H → Prop) (t : T) (h : H) : aStep Tryz.prog (regOps (seqR (seqR (seqR (rest 1 (bodyOf Tryz.f91.body)))))) 8 K t h = (o_fieldAddr 4 (t 3) fun v72 => K (tset t 72 v72) h) := by kernel_rfl
theorem B91_d8 : depL (regOps (seqR (seqR (seqR (rest 1 (bodyOf Tryz.f91.body)))))) 8 = [] := by kernel_rfl
theorem B91_s9 (K : T → H → Prop) (t : T) (h : H) : aStep Tryz.prog (regOps (seqR (seqR (seqR (rest 1 (bodyOf Tryz.f91.body)))))) 9 K t h = (o_load false 1 (t 72) h fun v73 => K (tset t 73 v73) h) := by kernel_rfl
theorem B91_d9 : depL (regOps (seqR (seqR (seqR (rest 1 (bodyOf Tryz.f91.body)))))) 9 = [8] := by kernel_rfl
theorem B91_s10 (K : T → H → Prop) (t : T) (h : H) : aStep Tryz.prog (regOps (seqR (seqR (seqR (rest 1 (bodyOf Tryz.f91.body)))))) 10 K t h = (o_conv .i64 (t 73) fun v74 => K (tset t 74 v74) h) := by kernel_rfl
theorem B91_d10 : depL (regOps (seqR (seqR (seqR (rest 1 (bodyOf Tryz.f91.body)))))) 10 = [9] := by kernel_rfl
theorem B91_s11 (K : T → H → Prop) (t : T) (h : H) : aStep Tryz.prog (regOps (seqR (seqR (seqR (rest 1 (bodyOf Tryz.f91.body)))))) 11 K t h = (K (tset t 75 (t 0)) h) := by kernel_rfl
theorem B91_d11 : depL (regOps (seqR (seqR (seqR (rest 1 (bodyOf Tryz.f91.body)))))) 11 = [] := by kernel_rfl
theorem B91_s12 (K : T → H → Prop) (t : T) (h : H) : aStep Tryz.prog (regOps (seqR (seqR (seqR (rest 1 (bodyOf Tryz.f91.body)))))) 12 K t h = (o_fieldAddr 3 (t 3) fun v76 => K (tset t 76 v76) h) := by kernel_rfl
theorem B91_d12 : depL (regOps (seqR (seqR (seqR (rest 1 (bodyOf Tryz.f91.body)))))) 12 = [] := by kernel_rfl
theorem B91_s13 (K : T → H → Prop) (t : T) (h : H) : aStep Tryz.prog (regOps (seqR (seqR (seqR (rest 1 (bodyOf Tryz.f91.body)))))) 13 K t h = (o_load false 1 (t 76) h fun v77 => K (tset t 77 v77) h) := by kernel_rfl
theorem B91_d13 : depL (regOps (seqR (seqR (seqR (rest 1 (bodyOf Tryz.f91.body)))))) 13 = [12] := by kernel_rfl
theorem B91_s14 (K : T → H → Prop) (t : T) (h : H) : aStep Tryz.prog (regOps (seqR (seqR (seqR (rest 1 (bodyOf Tryz.f91.body)))))) 14 K t h = (o_nilCheck (t 75) fun v78 => K (tset t 78 v78) h) := by kernel_rfl
theorem B91_d14 : depL (regOps (seqR (seqR (seqR (rest 1 (bodyOf Tryz.f91.body)))))) 14 = [11] := by kernel_rfl
theorem B91_s15 (K : T → H → Prop) (t : T) (h : H) : aStep Tryz.prog (regOps (seqR (seqR (seqR (rest 1 (bodyOf Tryz.f91.body)))))) 15 K t h = (o_fieldAddr 5 (t 78) fun v79 => K (tset t 79 v79) h) := by kernel_rfl
theorem B91_d15 : depL (regOps (seqR (seqR (seqR (rest 1 (bodyOf Tryz.f91.body)))))) 15 = [14] := by kernel_rfl
theorem B91_s16 (K : T → H → Prop) (t : T) (h : H) : aStep Tryz.prog (regOps (seqR (seqR (seqR (rest 1 (bodyOf Tryz.f91.body)))))) 16 K t h = (o_indexAddr (some 256) 1 (t 79) (t 77) fun v80 => K (tset t 80 v80) h) := by kernel_rfl
theorem B91_d16 : depL (regOps (seqR (seqR (seqR (rest 1 (bodyOf Tryz.f91.body)))))) 16 = [15, 13] := by kernel_rfl
theorem B91_s17 (K : T → H → Prop) (t : T) (h : H) : aStep Tryz.prog (regOps (seqR (seqR (seqR (rest 1 (bodyOf Tryz.f91.body)))))) 17 K t h = (o_load false 1 (t 80) h fun v81 => K (tset t 81 v81) h) := by kernel_rfl
theorem B91_d17 : depL (regOps (seqR (seqR (seqR (rest 1 (bodyOf Tryz.f91.body)))))) 17 = [16] := by kernel_rfl
theorem B91_s18 (K : T → H → Prop) (t : T) (h : H) : aStep Tryz.prog (regOps (seqR (seqR (seqR (rest 1 (bodyOf Tryz.f91.body)))))) 18 K t h = (o_call Tryz.prog 137 [(t 70), (t 71), (t 74), (t 81)] h fun v82 h => K (tset t 82 v82) h) := by kernel_rfl
theorem B91_d18 : depL (regOps (seqR (seqR (seqR (rest 1 (bodyOf Tryz.f91.body)))))) 18 = [6, 7, 10, 17] := by kernel_rfl
def F91_14 (x0 x3 x4 : Value) (h : H) (Kn : H → Prop) (Kr : H → Prop) : Prop :=
  ∃ (b b3 m q : Nat) (a w : Int), x0 = (.pointer (some ⟨b, 0, none⟩)) ∧ x3 = (.pointer (some ⟨b3, 0, none⟩)) ∧ x4 = .int .u32 a ∧ cellAt h b 0 = some (.pointer (some ⟨m, 0, none⟩)) ∧ cellAt h b3 4 = some (.int .u32 4) ∧ cellAt h b3 3 = some (.int .i64 1) ∧ cellAt h b 6 = some (.int .u32 w) ∧ cellAt h m 0 = some (.pointer (some ⟨q, 0, none⟩)) ∧
    AM.Spec Tryz.prog 137 [(.pointer (some ⟨q, 0, none⟩)), .int .u32 a, .int .i64 4, .int .u32 w] h fun _ h => Kn h
theorem F91_14_ok (Kn Kr) (t : T) (h : H) (H0 : F91_14 (t 0) (t 3) (t 4) h Kn Kr) : Wp Tryz.prog 83 (seqR (seqR (seqR (rest 1 (bodyOf Tryz.f91.body))))) (mkQ (fun t h => Kn  h) (fun t h => Kr  h) ke0) t h := by
  obtain ⟨b, b3, m, q, a, w, e0, e3, e4, hc0, hcv, hcB, hcn, hcq, hcall⟩ := H0
  refine draw_sink 18 8 (by kernel_rfl) B91_back B91_size (by kernel_rfl) [(0, (.pointer (some ⟨b, 0, none⟩))), (3, (.pointer (some ⟨b3, 0, none⟩))), (4, (.int .u32 a))] [(0, 64), (1, 65), (2, 66), (3, 67), (4, 68), (5, 69), (6, 70), (7, 71), (8, 72), (9, 73), (10, 74), (11, 75), (12, 76), (13, 77), (14, 78), (15, 79), (16, 80), (17, 81)] (fun i => match i with | 0 => (.pointer (some ⟨b, 0, none⟩)) | 1 => (.pointer (some ⟨b, 0, none⟩)) | 2 => (.pointer (some ⟨b, 0, none⟩)) | 3 => (.pointer (some ⟨m, 0, none⟩)) | 4 => (.pointer (some ⟨m, 0, none⟩)) | 5 => (.pointer (some ⟨m, 0, none⟩)) | 6 => (.pointer (some ⟨q, 0, none⟩)) | 7 => (.int .u32 a) | 8 => (.pointer (some ⟨b3, 4, none⟩)) | 9 => (.int .u32 4) | 10 => (.int .i64 4) | 11 => (.pointer (some ⟨b, 0, none⟩)) | 12 => (.pointer (some ⟨b3, 3, none⟩)) | 13 => (.int .i64 1) | 14 => (.pointer (some ⟨b, 0, none⟩)) | 15 => (.pointer (some ⟨b, 5, none⟩)) | 16 => (.pointer (some ⟨b, 6, none⟩)) | 17 => (.int .u32 w) | _ => undef) (by simp [*]) (by kernel_rfl) ?_ ?_
  · intro l t' i hi hd hT K hk
    have p0 : t' 0 = (.pointer (some ⟨b, 0, none⟩)) := hT.p (0, (.pointer (some ⟨b, 0, none⟩))) (by simp)
    have p3 : t' 3 = (.pointer (some ⟨b3, 0, none⟩)) := hT.p (3, (.pointer (some ⟨b3, 0, none⟩))) (by simp)
    have p4 : t' 4 = (.int .u32 a) := hT.p (4, (.int .u32 a)) (by simp)
    match i, hi with
    | 0, _ =>
      simp only [B91_s0, p0, nil_ptr, field_addr, conv_int, Nat.zero_add, Nat.add_zero, Nat.reduceAdd, load_cell hc0, load_cell hcv, load_cell hcq, load_cell hcB, load_cell hcn, (show IntKind.i64.wrap 4 = 4 from rfl)]
      exact hk _ (hT.set 0 64 rfl)
    | 1, _ =>
      have e64 : t' 64 = (.pointer (some ⟨b, 0, none⟩)) := hT.v (0, 64) (by simp) (hd 0 (by rw [B91_d1]; simp))
      simp only [B91_s1, e64, nil_ptr, field_addr, conv_int, Nat.zero_add, Nat.add_zero, Nat.reduceAdd, load_cell hc0, load_cell hcv, load_cell hcq, load_cell hcB, load_cell hcn, (show IntKind.i64.wrap 4 = 4 from rfl)]
      exact hk _ (hT.set 1 65 rfl)
    | 2, _ =>
      have e65 : t' 65 = (.pointer (some ⟨b, 0, none⟩)) := hT.v (1, 65) (by simp) (hd 1 (by rw [B91_d2]; simp))
      simp only [B91_s2, e65, nil_ptr, field_addr, conv_int, Nat.zero_add, Nat.add_zero, Nat.reduceAdd, load_cell hc0, load_cell hcv, load_cell hcq, load_cell hcB, load_cell hcn, (show IntKind.i64.wrap 4 = 4 from rfl)]
      exact hk _ (hT.set 2 66 rfl)
    | 3, _ =>
      have e66 : t' 66 = (.pointer (some ⟨b, 0, none⟩)) := hT.v (2, 66) (by simp) (hd 2 (by rw [B91_d3]; simp))
      simp only [B91_s3, e66, nil_ptr, field_addr, conv_int, Nat.zero_add, Nat.add_zero, Nat.reduceAdd, load_cell hc0, load_cell hcv, load_cell hcq, load_cell hcB, load_cell hcn, (show IntKind.i64.wrap 4 = 4 from rfl)]
      exact hk _ (hT.set 3 67 rfl)
    | 4, _ =>
      have e67 : t' 67 = (.pointer (some ⟨m, 0, none⟩)) := hT.v (3, 67) (by simp) (hd 3 (by rw [B91_d4]; simp))
      simp only [B91_s4, e67, nil_ptr, field_addr, conv_int, Nat.zero_add, Nat.add_zero, Nat.reduceAdd, load_cell hc0, load_cell hcv, load_cell hcq, load_cell hcB, load_cell hcn, (show IntKind.i64.wrap 4 = 4 from rfl)]
      exact hk _ (hT.set 4 68 rfl)
    | 5, _ =>
      have e68 : t' 68 = (.pointer (some ⟨m, 0, none⟩)) := hT.v (4, 68) (by simp) (hd 4 (by rw [B91_d5]; simp))
      simp only [B91_s5, e68, nil_ptr, field_addr, conv_int, Nat.zero_add, Nat.add_zero, Nat.reduceAdd, load_cell hc0, load_cell hcv, load_cell hcq, load_cell hcB, load_cell hcn, (show IntKind.i64.wrap 4 = 4 from rfl)]
      exact hk _ (hT.set 5 69 rfl)
    | 6, _ =>
      have e69 : t' 69 = (.pointer (some ⟨m, 0, none⟩)) := hT.v (5, 69) (by simp) (hd 5 (by rw [B91_d6]; simp))
      simp only [B91_s6, e69, nil_ptr, field_addr, conv_int, Nat.zero_add, Nat.add_zero, Nat.reduceAdd, load_cell hc0, load_cell hcv, load_cell hcq, load_cell hcB, load_cell hcn, (show IntKind.i64.wrap 4 = 4 from rfl)]
      exact hk _ (hT.set 6 70 rfl)
    | 7, _ =>
      simp only [B91_s7, p4, nil_ptr, field_addr, conv_int, Nat.zero_add, Nat.add_zero, Nat.reduceAdd, load_cell hc0, load_cell hcv, load_cell hcq, load_cell hcB, load_cell hcn, (show IntKind.i64.wrap 4 = 4 from rfl)]
      exact hk _ (hT.set 7 71 rfl)
    | 8, _ =>
      simp only [B91_s8, p3, nil_ptr, field_addr, conv_int, Nat.zero_add, Nat.add_zero, Nat.reduceAdd, load_cell hc0, load_cell hcv, load_cell hcq, load_cell hcB, load_cell hcn, (show IntKind.i64.wrap 4 = 4 from rfl)]
      exact hk _ (hT.set 8 72 rfl)
    | 9, _ =>
      have e72 : t' 72 = (.pointer (some ⟨b3, 4, none⟩)) := hT.v (8, 72) (by simp) (hd 8 (by rw [B91_d9]; simp))
      simp only [B91_s9, e72, nil_ptr, field_addr, conv_int, Nat.zero_add, Nat.add_zero, Nat.reduceAdd, load_cell hc0, load_cell hcv, load_cell hcq, load_cell hcB, load_cell hcn, (show IntKind.i64.wrap 4 = 4 from rfl)]
      exact hk _ (hT.set 9 73 rfl)
    | 10, _ =>
      have e73 : t' 73 = (.int .u32 4) := hT.v (9, 73) (by simp) (hd 9 (by rw [B91_d10]; simp))
      simp only [B91_s10, e73, nil_ptr, field_addr, conv_int, Nat.zero_add, Nat.add_zero, Nat.reduceAdd, load_cell hc0, load_cell hcv, load_cell hcq, load_cell hcB, load_cell hcn, (show IntKind.i64.wrap 4 = 4 from rfl)]
      exact hk _ (hT.set 10 74 rfl)
    | 11, _ =>
      simp only [B91_s11, p0, nil_ptr, field_addr, conv_int, Nat.zero_add, Nat.add_zero, Nat.reduceAdd, load_cell hc0, load_cell hcv, load_cell hcq, load_cell hcB, load_cell hcn, (show IntKind.i64.wrap 4 = 4 from rfl)]
      exact hk _ (hT.set 11 75 rfl)
    | 12, _ =>
      simp only [B91_s12, p3, nil_ptr, field_addr, conv_int, Nat.zero_add, Nat.add_zero, Nat.reduceAdd, load_cell hc0, load_cell hcv, load_cell hcq, load_cell hcB, load_cell hcn, (show IntKind.i64.wrap 4 = 4 from rfl)]
      exact hk _ (hT.set 12 76 rfl)
    | 13, _ =>
      have e76 : t' 76 = (.pointer (some ⟨b3, 3, none⟩)) := hT.v (12, 76) (by simp) (hd 12 (by rw [B91_d13]; simp))
      simp only [B91_s13, e76, nil_ptr, field_addr, conv_int, Nat.zero_add, Nat.add_zero, Nat.reduceAdd, load_cell hc0, load_cell hcv, load_cell hcq, load_cell hcB, load_cell hcn, (show IntKind.i64.wrap 4 = 4 from rfl)]
      exact hk _ (hT.set 13 77 rfl)
    | 14, _ =>
      have e75 : t' 75 = (.pointer (some ⟨b, 0, none⟩)) := hT.v (11, 75) (by simp) (hd 11 (by rw [B91_d14]; simp))
      simp only [B91_s14, e75, nil_ptr, field_addr, conv_int, Nat.zero_add, Nat.add_zero, Nat.reduceAdd, load_cell hc0, load_cell hcv, load_cell hcq, load_cell hcB, load_cell hcn, (show IntKind.i64.wrap 4 = 4 from rfl)]
      exact hk _ (hT.set 14 78 rfl)
    | 15, _ =>
      have e78 : t' 78 = (.pointer (some ⟨b, 0, none⟩)) := hT.v (14, 78) (by simp) (hd 14 (by rw [B91_d15]; simp))
      simp only [B91_s15, e78, nil_ptr, field_addr, conv_int, Nat.zero_add, Nat.add_zero, Nat.reduceAdd, load_cell hc0, load_cell hcv, load_cell hcq, load_cell hcB, load_cell hcn, (show IntKind.i64.wrap 4 = 4 from rfl)]
      exact hk _ (hT.set 15 79 rfl)
    | 16, _ =>
      have e77 : t' 77 = (.int .i64 1) := hT.v (13, 77) (by simp) (hd 13 (by rw [B91_d16]; simp))
      have e79 : t' 79 = (.pointer (some ⟨b, 5, none⟩)) := hT.v (15, 79) (by simp) (hd 15 (by rw [B91_d16]; simp))
      rw [B91_s16, e77, e79]
      rw [(show ∀ K : Value → Prop, o_indexAddr (some 256) 1 (.pointer (some ⟨b, 5, none⟩)) (.int .i64 1) K = K (.pointer (some ⟨b, 6, none⟩)) from fun K => index_arr (by decide) (by decide))]
      exact hk _ (hT.set 16 80 rfl)
    | 17, _ =>
      have e80 : t' 80 = (.pointer (some ⟨b, 6, none⟩)) := hT.v (16, 80) (by simp) (hd 16 (by rw [B91_d17]; simp))
      simp only [B91_s17, e80, nil_ptr, field_addr, conv_int, Nat.zero_add, Nat.add_zero, Nat.reduceAdd, load_cell hc0, load_cell hcv, load_cell hcq, load_cell hcB, load_cell hcn, (show IntKind.i64.wrap 4 = 4 from rfl)]
      exact hk _ (hT.set 17 81 rfl)
    | k + 18, hk => exact absurd hk (by omega)
  · intro t' hp hv
    rw [B91_s18, hv (6, 70) (by simp), hv (7, 71) (by simp), hv (10, 74) (by simp), hv (17, 81) (by simp)]
    exact ⟨rfl, hcall.mono fun v h' hh => hh⟩
def F91_7 (x0 x3 x4 : Value) (h : H) (Kn : H → Prop) (Kr : H → Prop) : Prop :=
  F91_8 x0 x3 x4 h (fun y0 y3 y4 h => F91_14 y0 y3 y4 h Kn Kr) Kr
theorem F91_7_ok (Kn Kr) (t : T) (h : H) (H0 : F91_7 (t 0) (t 3) (t 4) h Kn Kr) : Wp Tryz.prog 83 (seqR (seqR (rest 1 (bodyOf Tryz.f91.body)))) (mkQ (fun t h => Kn  h) (fun t h => Kr  h) ke0) t h :=
  seq_ok (by kernel_rfl) (fun t h H1 => F91_14_ok Kn Kr t h H1) (F91_8_ok (fun y0 y3 y4 h => F91_14 y0 y3 y4 h Kn Kr) Kr t h H0)
def F91_3 (x0 x3 x4 : Value) (h : H) (Kn : H → Prop) (Kr : H → Prop) : Prop :=
  F91_4 x0 x3 x4 h (fun y0 y3 y4 h => F91_7 y0 y3 y4 h Kn Kr) Kr
theorem F91_3_ok (Kn Kr) (t : T) (h : H) (H0 : F91_3 (t 0) (t 3) (t 4) h Kn Kr) : Wp Tryz.prog 83 (seqR (rest 1 (bodyOf Tryz.f91.body))) (mkQ (fun t h => Kn  h) (fun t h => Kr  h) ke0) t h :=
  seq_ok (by kernel_rfl) (fun t h H1 => F91_7_ok Kn Kr t h H1) (F91_4_ok (fun y0 y3 y4 h => F91_7 y0 y3 y4 h Kn Kr) Kr t h H0)
def F91_1 (x0 x3 : Value) (h : H) (Kn : H → Prop) (Kr : H → Prop) : Prop :=
  F91_2 x0 x3 h (fun y0 y3 y4 h => F91_3 y0 y3 y4 h Kn Kr) Kr
theorem F91_1_ok (Kn Kr) (t : T) (h : H) (H0 : F91_1 (t 0) (t 3) h Kn Kr) : Wp Tryz.prog 83 (rest 1 (bodyOf Tryz.f91.body)) (mkQ (fun t h => Kn  h) (fun t h => Kr  h) ke0) t h :=
  seq_ok (by kernel_rfl) (fun t h H1 => F91_3_ok Kn Kr t h H1) (F91_2_ok (fun y0 y3 y4 h => F91_3 y0 y3 y4 h Kn Kr) Kr t h H0)
def F91_0 (x0 x1 : Value) (h : H) (Kn : H → Prop) (Kr : H → Prop) : Prop :=
  boxV x1 = true ∧ o_new (Value.cells x1).toList 40 .exact h fun b3 h => F91_1 x0 (.pointer (some ⟨b3, 0, none⟩)) h Kn Kr
theorem F91_0_ok (Kn Kr) (t : T) (h : H) (H0 : F91_0 (t 0) (t 1) h Kn Kr) : Wp Tryz.prog 83 (bodyOf Tryz.f91.body) (mkQ (fun t h => Kn  h) (fun t h => Kr  h) ke0) t h :=
  awpTo_okF 1 H0 (by kernel_rfl) (fun t h (H1 : F91_1 (t 0) (t 3) h Kn Kr) => F91_1_ok Kn Kr t h H1) (by kernel_rfl)
def F91 (x0 x1 : Value) (h : H) (Q : Value → H → Prop) : Prop := F91_0 x0 x1 h (fun h => bif [].all boxV then Q (.tuple #[]) h else False) (fun h => bif [].all boxV then Q (.tuple #[]) h else False)
theorem F91_spec (x0 x1 : Value) (h : H) (Q : Value → H → Prop) (H0 : F91 x0 x1 h Q) : AM.Spec Tryz.prog 91 [x0, x1] h Q :=
  spec_wp mixed (fn := Tryz.f91) Tryz.func91 (c := bodyOf Tryz.f91.body) (rs := []) (N := 83) (by kernel_rfl) (by kernel_rfl) (by kernel_rfl) (by kernel_rfl) (by kernel_rfl) (Nat.le_of_ble_eq_true rfl) (F91_0_ok (fun h => bif [].all boxV then Q (.tuple #[]) h else False) (fun h => bif [].all boxV then Q (.tuple #[]) h else False) (tinit [x0, x1]) h H0) (by kernel_rfl)
/-! #### 54: (*tincture/exec.run).do -/
def F54_4 (x0 x3 : Value) (h : H) (Kn : H → Prop) (Kr : H → Prop) (Ke0 : H → Prop) : Prop :=
  o_load true 5 x3 h fun v20 => o_call Tryz.prog 90 [x0, v20] h fun v21 h => Kn h
theorem F54_4_ok (Kn Kr Ke0) (t : T) (h : H) (H0 : F54_4 (t 0) (t 3) h Kn Kr Ke0) : Wp Tryz.prog 52 (cndX (rest 1 (blkC (rest 3 (bodyOf Tryz.f54.body))))) (mkQ (fun t h => Kn  h) (fun t h => Kr  h) (keAdd 0 (fun t h => Ke0  h) ke0)) t h :=
  wpEqF H0 (by kernel_rfl)
def F54_6 (x0 x3 x13 : Value) (h : H) (Kn : Value → Value → Value → Value → H → Prop) (Kr : H → Prop) (Ke0 : H → Prop) : Prop :=
  o_bin Tryz.prog .eql 3 x13 (.int .i64 7) fun v23 => o_if v23 (Kn x0 x3 x13 v23 h) (o_bin Tryz.prog .eql 3 x13 (.int .i64 18) fun v24 => Kn x0 x3 x13 v24 h)
theorem F54_6_ok (Kn Kr Ke0) (t : T) (h : H) (H0 : F54_6 (t 0) (t 3) (t 13) h Kn Kr Ke0) : Wp Tryz.prog 52 (seqL (cndY (rest 1 (blkC (rest 3 (bodyOf Tryz.f54.body)))))) (mkQ (fun t h => Kn (t 0) (t 3) (t 13) (t 22) h) (fun t h => Kr  h) (keAdd 0 (fun t h => Ke0  h) ke0)) t h :=
  wpEqF H0 (by kernel_rfl)
theorem F54_6_or {a : Int} {x0 x3 : Value} {h : H} {Kn Kr Ke0} : F54_6 x0 x3 (.int .i64 a) h Kn Kr Ke0 = Kn x0 x3 (.int .i64 a) (.bool (decide (a = 7) || decide (a = 18))) h := by
  simp only [F54_6, bin_eql, if_or]
def F54_7 (x0 x3 x13 x22 : Value) (h : H) (Kn : H → Prop) (Kr : H → Prop) (Ke0 : H → Prop) : Prop :=
  o_if x22 (o_load true 5 x3 h fun v26 => o_call Tryz.prog 91 [x0, v26] h fun v27 h => Kn h) (o_bin Tryz.prog .eql 3 x13 (.int .i64 8) fun v29 => o_if v29 (o_load true 5 x3 h fun v31 => o_call Tryz.prog 92 [x0, v31] h fun v32 h => Kn h) (o_bin Tryz.prog .eql 3 x13 (.int .i64 9) fun v34 => o_if v34 (o_nilCheck x0 fun v36 => o_fieldAddr 0 v36 fun v37 => o_load false 1 v37 h fun v38 => o_nilCheck v38 fun v39 => o_fieldAddr 2 v39 fun v40 => o_fieldAddr 33 v40 fun v41 => o_load false 1 v41 h fun v42 => o_bin Tryz.prog .add 2 v42 (.int .i64 1) fun v43 => o_nilCheck v38 fun v44 => o_fieldAddr 2 v44 fun v45 => o_fieldAddr 33 v45 fun v46 => o_store 1 v46 v43 h fun h => Kn h) (o_bin Tryz.prog .eql 3 x13 (.int .i64 20) fun v48 => o_if v48 (o_load true 5 x3 h fun v50 => o_call Tryz.prog 93 [x0, v50] h fun v51 h => Kn h) (o_load true 5 x3 h fun v15 => o_call Tryz.prog 94 [x0, v15] h fun v16 h => Kn h))))
theorem F54_7_ok (Kn Kr Ke0) (t : T) (h : H) (H0 : F54_7 (t 0) (t 3) (t 13) (t 22) h Kn Kr Ke0) : Wp Tryz.prog 52 (seqR (cndY (rest 1 (blkC (rest 3 (bodyOf Tryz.f54.body)))))) (mkQ (fun t h => Kn  h) (fun t h => Kr  h) (keAdd 0 (fun t h => Ke0  h) ke0)) t h :=
  wpEqF H0 (by kernel_rfl)
def F54_5 (x0 x3 x13 : Value) (h : H) (Kn : H → Prop) (Kr : H → Prop) (Ke0 : H → Prop) : Prop :=
  F54_6 x0 x3 x13 h (fun y0 y3 y13 y22 h => F54_7 y0 y3 y13 y22 h Kn Kr Ke0) Kr Ke0
theorem F54_5_ok (Kn Kr Ke0) (t : T) (h : H) (H0 : F54_5 (t 0) (t 3) (t 13) h Kn Kr Ke0) : Wp Tryz.prog 52 (cndY (rest 1 (blkC (rest 3 (bodyOf Tryz.f54.body))))) (mkQ (fun t h => Kn  h) (fun t h => Kr  h) (keAdd 0 (fun t h => Ke0  h) ke0)) t h :=
  seq_ok (by kernel_rfl) (fun t h H1 => F54_7_ok Kn Kr Ke0 t h H1) (F54_6_ok (fun y0 y3 y13 y22 h => F54_7 y0 y3 y13 y22 h Kn Kr Ke0) Kr Ke0 t h H0)
def F54_3 (x0 x3 x13 x17 : Value) (h : H) (Kn : H → Prop) (Kr : H → Prop) (Ke0 : H → Prop) : Prop :=
  o_if x17 (F54_4 x0 x3 h Kn Kr Ke0) (F54_5 x0 x3 x13 h Kn Kr Ke0)
theorem F54_3_ok (Kn Kr Ke0) (t : T) (h : H) (H0 : F54_3 (t 0) (t 3) (t 13) (t 17) h Kn Kr Ke0) : Wp Tryz.prog 52 (rest 1 (blkC (rest 3 (bodyOf Tryz.f54.body)))) (mkQ (fun t h => Kn  h) (fun t h => Kr  h) (keAdd 0 (fun t h => Ke0  h) ke0)) t h :=
  cond_ok H0 (by kernel_rfl) (F54_4_ok Kn Kr Ke0 t h) (F54_5_ok Kn Kr Ke0 t h) (by kernel_rfl)
def F54_2 (x0 x3 x13 : Value) (h : H) (Kn : H → Prop) (Kr : H → Prop) (Ke0 : H → Prop) : Prop :=
  o_bin Tryz.prog .eql 3 x13 (.int .i64 6) fun v18 => F54_3 x0 x3 x13 v18 h Kn Kr Ke0
theorem F54_2_ok (Kn Kr Ke0) (t : T) (h : H) (H0 : F54_2 (t 0) (t 3) (t 13) h Kn Kr Ke0) : Wp Tryz.prog 52 (blkC (rest 3 (bodyOf Tryz.f54.body))) (mkQ (fun t h => Kn  h) (fun t h => Kr  h) (keAdd 0 (fun t h => Ke0  h) ke0)) t h :=
  awpTo_okF 1 H0 (by kernel_rfl) (fun t h (H1 : F54_3 (t 0) (t 3) (t 13) (t 17) h Kn Kr Ke0) => F54_3_ok Kn Kr Ke0 t h H1) (by kernel_rfl)
def F54_1 (x0 x3 x13 : Value) (h : H) (Kn : H → Prop) (Kr : H → Prop) : Prop :=
  F54_2 x0 x3 x13 h Kn Kr Kn
theorem F54_1_ok (Kn Kr) (t : T) (h : H) (H0 : F54_1 (t 0) (t 3) (t 13) h Kn Kr) : Wp Tryz.prog 52 (rest 3 (bodyOf Tryz.f54.body)) (mkQ (fun t h => Kn  h) (fun t h => Kr  h) ke0) t h :=
  block_ok 0 (by kernel_rfl) (by kernel_rfl) (F54_2_ok Kn Kr Kn t h H0)
def F54_0 (x0 x1 : Value) (h : H) (Kn : H → Prop) (Kr : H → Prop) : Prop :=
  boxV x1 = true ∧ o_new (Value.cells x1).toList 40 .exact h fun b3 h => o_load true 5 (.pointer (some ⟨b3, 0, none⟩)) h fun v5 => o_call Tryz.prog 88 [x0, v5] h fun v6 h => o_guard v6 false (fun k6 => o_load true 5 (.pointer (some ⟨b3, 0, none⟩)) h fun v9 => o_call Tryz.prog 89 [x0, v9] h fun v10 h => k6 v10 h) (fun v10 h => o_pick v6 (.bool true) v10 fun v11 => o_if v11 (Kr h) (o_fieldAddr 0 (.pointer (some ⟨b3, 0, none⟩)) fun v12 => o_load false 1 v12 h fun v13 => F54_1 x0 (.pointer (some ⟨b3, 0, none⟩)) v13 h Kn Kr)) h
theorem F54_0_ok (Kn Kr) (t : T) (h : H) (H0 : F54_0 (t 0) (t 1) h Kn Kr) : Wp Tryz.prog 52 (bodyOf Tryz.f54.body) (mkQ (fun t h => Kn  h) (fun t h => Kr  h) ke0) t h :=
  awpTo_okF 3 H0 (by kernel_rfl) (fun t h (H1 : F54_1 (t 0) (t 3) (t 13) h Kn Kr) => F54_1_ok Kn Kr t h H1) (by kernel_rfl)
def F54 (x0 x1 : Value) (h : H) (Q : Value → H → Prop) : Prop := F54_0 x0 x1 h (fun h => bif [].all boxV then Q (.tuple #[]) h else False) (fun h => bif [].all boxV then Q (.tuple #[]) h else False)
theorem F54_spec (x0 x1 : Value) (h : H) (Q : Value → H → Prop) (H0 : F54 x0 x1 h Q) : AM.Spec Tryz.prog 54 [x0, x1] h Q :=
  spec_wp mixed (fn := Tryz.f54) Tryz.func54 (c := bodyOf Tryz.f54.body) (rs := []) (N := 52) (by kernel_rfl) (by kernel_rfl) (by kernel_rfl) (by kernel_rfl) (by kernel_rfl) (Nat.le_of_ble_eq_true rfl) (F54_0_ok (fun h => bif [].all boxV then Q (.tuple #[]) h else False) (fun h => bif [].all boxV then Q (.tuple #[]) h else False) (tinit [x0, x1]) h H0) (by kernel_rfl)
end Go.Proofs.YtcohcmlidmaaoaaGreat
