/-
  Loads of bytes: the functions taken apart; printed by a program (gen.py).
-/
import Derived.Test.YtjdhldfeflmneaaGreatK2
import Derived.KernelRfl
set_option linter.unusedVariables false
set_option maxRecDepth 100000
namespace Go.Proofs.YtjdhldfeflmneaaGreat
open Go.Proofs.YtjdhldfeflmneaaGreat.AM
/-! #### 46: (*tincture/mem.Mem).look -/
def F46_2 (x0 x1 x3 : Value) (h : H) (Kn : Value → Value → H → Prop) (Kr : Value → Value → H → Prop) : Prop :=
  o_nilCheck x0 fun v29 => o_fieldAddr 1 v29 fun v30 => o_load false 1 v30 h fun v31 => o_dcall D0 109 [x1] h fun v33 h => o_lookup (.int .u32) (.pointer none) v31 v33 false h fun v34 => Kn x3 v34 h
theorem F46_2_ok (Kn Kr) (t : T) (h : H) (H0 : F46_2 (t 0) (t 1) (t 3) h Kn Kr) : Wp Tryz.prog 48 (seqL (rest 2 (bodyOf Tryz.f46.body))) (mkQ (fun t h => Kn (t 3) (t 10) h) (fun t h => Kr (t 8) (t 9) h) ke0) t h :=
  drawD_ok dOk (by kernel_rfl) (by kernel_rfl) H0 (by kernel_rfl)
def F46_3 (x3 x10 : Value) (h : H) (Kn : Value → Value → H → Prop) (Kr : Value → Value → H → Prop) : Prop :=
  o_bin Tryz.prog .eql 122 x10 (.pointer none) fun v37 => o_if v37 (Kr (.pointer none) (.int .i64 1) h) (o_nilCheck x10 fun v40 => o_fieldAddr 256 v40 fun v41 => o_load false 1 v41 h fun v42 => o_bin Tryz.prog .and 3 v42 x3 fun v44 => o_bin Tryz.prog .neq 3 v44 x3 fun v46 => o_if v46 (Kr (.pointer none) (.int .i64 2) h) (Kr x10 (.int .i64 0) h))
theorem F46_3_ok (Kn Kr) (t : T) (h : H) (H0 : F46_3 (t 3) (t 10) h Kn Kr) : Wp Tryz.prog 48 (seqR (rest 2 (bodyOf Tryz.f46.body))) (mkQ (fun t h => Kn (t 8) (t 9) h) (fun t h => Kr (t 8) (t 9) h) ke0) t h :=
  wpEqF H0 (by kernel_rfl)
def F46_1 (x0 x1 x3 : Value) (h : H) (Kn : Value → Value → H → Prop) (Kr : Value → Value → H → Prop) : Prop :=
  F46_2 x0 x1 x3 h (fun y3 y10 h => F46_3 y3 y10 h Kn Kr) Kr
theorem F46_1_ok (Kn Kr) (t : T) (h : H) (H0 : F46_1 (t 0) (t 1) (t 3) h Kn Kr) : Wp Tryz.prog 48 (rest 2 (bodyOf Tryz.f46.body)) (mkQ (fun t h => Kn (t 8) (t 9) h) (fun t h => Kr (t 8) (t 9) h) ke0) t h :=
  seq_ok (by kernel_rfl) (fun t h H1 => F46_3_ok Kn Kr t h H1) (F46_2_ok (fun y3 y10 h => F46_3 y3 y10 h Kn Kr) Kr t h H0)
def F46_0 (x0 x1 x2 x3 : Value) (h : H) (Kn : Value → Value → H → Prop) (Kr : Value → Value → H → Prop) : Prop :=
  o_bin Tryz.prog .neq 3 x2 (.int .i64 1) fun v12 => o_guard v12 true (fun k4 => o_bin Tryz.prog .neq 3 x2 (.int .i64 2) fun v15 => k4 v15 h) (fun v15 h => o_pick v12 v15 (.bool false) fun v16 => o_guard v16 true (fun k8 => o_bin Tryz.prog .neq 3 x2 (.int .i64 4) fun v19 => k8 v19 h) (fun v19 h => o_pick v16 v19 (.bool false) fun v20 => o_guard v20 false (fun k15 => o_conv .u32 x2 fun v24 => o_bin Tryz.prog .rem 27 x1 v24 fun v25 => o_bin Tryz.prog .neq 27 v25 (.int .u32 0) fun v26 => k15 v26 h) (fun v26 h => o_pick v20 (.bool true) v26 fun v27 => o_if v27 (Kr (.pointer none) (.int .i64 3) h) (F46_1 x0 x1 x3 h Kn Kr)) h) h) h
theorem F46_0_ok (Kn Kr) (t : T) (h : H) (H0 : F46_0 (t 0) (t 1) (t 2) (t 3) h Kn Kr) : Wp Tryz.prog 48 (bodyOf Tryz.f46.body) (mkQ (fun t h => Kn (t 8) (t 9) h) (fun t h => Kr (t 8) (t 9) h) ke0) t h :=
  awpTo_okF 2 H0 (by kernel_rfl) (fun t h (H1 : F46_1 (t 0) (t 1) (t 3) h Kn Kr) => F46_1_ok Kn Kr t h H1) (by kernel_rfl)
def F46 (x0 x1 x2 x3 : Value) (h : H) (Q : Value → H → Prop) : Prop := F46_0 x0 x1 x2 x3 h (fun y8 y9 h => bif [y8, y9].all boxV then Q (.tuple #[y8, y9]) h else False) (fun y8 y9 h => bif [y8, y9].all boxV then Q (.tuple #[y8, y9]) h else False)
theorem F46_spec (x0 x1 x2 x3 : Value) (h : H) (Q : Value → H → Prop) (H0 : F46 x0 x1 x2 x3 h Q) : AM.Spec Tryz.prog 46 [x0, x1, x2, x3] h Q :=
  spec_wp mixed (fn := Tryz.f46) Tryz.func46 (c := bodyOf Tryz.f46.body) (rs := [8, 9]) (N := 48) (by kernel_rfl) (by kernel_rfl) (by kernel_rfl) (by kernel_rfl) (by kernel_rfl) (Nat.le_of_ble_eq_true rfl) (F46_0_ok (fun y8 y9 h => bif [y8, y9].all boxV then Q (.tuple #[y8, y9]) h else False) (fun y8 y9 h => bif [y8, y9].all boxV then Q (.tuple #[y8, y9]) h else False) (tinit [x0, x1, x2, x3]) h H0) (by kernel_rfl)
/-! #### 13: (*tincture/mem.Mem).Load -/
def F13_5 (x1 x10 x12 x26 x27 : Value) (h : H) (Kn : Value → Value → Value → Value → Value → H → Prop) (Kr : Value → Value → H → Prop) (Ke0 : Value → H → Prop) : Prop :=
  o_bin Tryz.prog .lss 27 x27 x26 fun v28 => o_if v28 (o_bin Tryz.prog .rem 27 x1 (.int .u32 256) fun v33 => o_bin Tryz.prog .add 27 v33 x27 fun v35 => o_nilCheck x10 fun v36 => o_fieldAddr 0 v36 fun v37 => o_indexAddr (some 256) 1 v37 v35 fun v38 => o_load false 1 v38 h fun v39 => o_conv .u32 v39 fun v40 => o_bin Tryz.prog .mul 27 (.int .u32 8) x27 fun v42 => o_bin Tryz.prog .shl 27 v40 v42 fun v43 => o_bin Tryz.prog .or 27 x12 v43 fun v44 => o_bin Tryz.prog .add 27 x27 (.int .u32 1) fun v45 => Kn x1 x10 v44 x26 v45 h) (Ke0 x12 h)
theorem F13_5_ok (Kn Kr Ke0) (t : T) (h : H) (H0 : F13_5 (t 1) (t 10) (t 12) (t 26) (t 27) h Kn Kr Ke0) : Wp Tryz.prog 47 (lopC (blkC (rest 1 (seqL (rest 4 (bodyOf Tryz.f13.body)))))) (mkQ (fun t h => Kn (t 1) (t 10) (t 12) (t 26) (t 27) h) (fun t h => Kr (t 8) (t 9) h) (keAdd 0 (fun t h => Ke0 (t 12) h) ke0)) t h :=
  wpEqF H0 (by kernel_rfl)
def F13_4 (x1 x10 x12 x26 x27 : Value) (h : H) (Kn : Value → H → Prop) (Kr : Value → Value → H → Prop) (Ke0 : Value → H → Prop) : Prop :=
  sloop (S := Value × Value × Value × Value × Value) (fun s h K => F13_5 s.1 s.2.1 s.2.2.1 s.2.2.2.1 s.2.2.2.2 h (fun y1 y10 y12 y26 y27 h => K (y1, y10, y12, y26, y27) h) Kr Ke0) (x1, x10, x12, x26, x27) h
theorem F13_4_ok (Kn Kr Ke0) (t : T) (h : H) (H0 : F13_4 (t 1) (t 10) (t 12) (t 26) (t 27) h Kn Kr Ke0) : Wp Tryz.prog 47 (blkC (rest 1 (seqL (rest 4 (bodyOf Tryz.f13.body))))) (mkQ (fun t h => Kn (t 12) h) (fun t h => Kr (t 8) (t 9) h) (keAdd 0 (fun t h => Ke0 (t 12) h) ke0)) t h :=
  loop_ok (fun t => (t 1, t 10, t 12, t 26, t 27)) (by kernel_rfl) (fun t h K H1 => F13_5_ok (fun y1 y10 y12 y26 y27 h => K (y1, y10, y12, y26, y27) h) Kr Ke0 t h H1) H0
def F13_3 (x1 x10 x12 x26 x27 : Value) (h : H) (Kn : Value → H → Prop) (Kr : Value → Value → H → Prop) : Prop :=
  F13_4 x1 x10 x12 x26 x27 h Kn Kr Kn
theorem F13_3_ok (Kn Kr) (t : T) (h : H) (H0 : F13_3 (t 1) (t 10) (t 12) (t 26) (t 27) h Kn Kr) : Wp Tryz.prog 47 (rest 1 (seqL (rest 4 (bodyOf Tryz.f13.body)))) (mkQ (fun t h => Kn (t 12) h) (fun t h => Kr (t 8) (t 9) h) ke0) t h :=
  block_ok 0 (by kernel_rfl) (by kernel_rfl) (F13_4_ok Kn Kr Kn t h H0)
def F13_2 (x1 x2 x10 x12 : Value) (h : H) (Kn : Value → H → Prop) (Kr : Value → Value → H → Prop) : Prop :=
  o_conv .u32 x2 fun v26 => F13_3 x1 x10 x12 v26 (.int .u32 0) h Kn Kr
theorem F13_2_ok (Kn Kr) (t : T) (h : H) (H0 : F13_2 (t 1) (t 2) (t 10) (t 12) h Kn Kr) : Wp Tryz.prog 47 (seqL (rest 4 (bodyOf Tryz.f13.body))) (mkQ (fun t h => Kn (t 12) h) (fun t h => Kr (t 8) (t 9) h) ke0) t h :=
  awpTo_okF 1 H0 (by kernel_rfl) (fun t h (H1 : F13_3 (t 1) (t 10) (t 12) (t 26) (t 27) h Kn Kr) => F13_3_ok Kn Kr t h H1) (by kernel_rfl)
def F13_6 (x12 : Value) (h : H) (Kn : Value → Value → H → Prop) (Kr : Value → Value → H → Prop) : Prop :=
  Kr x12 (.int .i64 0) h
theorem F13_6_ok (Kn Kr) (t : T) (h : H) (H0 : F13_6 (t 12) h Kn Kr) : Wp Tryz.prog 47 (seqR (rest 4 (bodyOf Tryz.f13.body))) (mkQ (fun t h => Kn (t 8) (t 9) h) (fun t h => Kr (t 8) (t 9) h) ke0) t h :=
  wpEqF H0 (by kernel_rfl)
def F13_1 (x1 x2 x10 x12 : Value) (h : H) (Kn : Value → Value → H → Prop) (Kr : Value → Value → H → Prop) : Prop :=
  F13_2 x1 x2 x10 x12 h (fun y12 h => F13_6 y12 h Kn Kr) Kr
theorem F13_1_ok (Kn Kr) (t : T) (h : H) (H0 : F13_1 (t 1) (t 2) (t 10) (t 12) h Kn Kr) : Wp Tryz.prog 47 (rest 4 (bodyOf Tryz.f13.body)) (mkQ (fun t h => Kn (t 8) (t 9) h) (fun t h => Kr (t 8) (t 9) h) ke0) t h :=
  seq_ok (by kernel_rfl) (fun t h H1 => F13_6_ok Kn Kr t h H1) (F13_2_ok (fun y12 h => F13_6 y12 h Kn Kr) Kr t h H0)
def F13_0 (x0 x1 x2 x3 : Value) (h : H) (Kn : Value → Value → H → Prop) (Kr : Value → Value → H → Prop) : Prop :=
  o_call Tryz.prog 46 [x0, x1, x2, x3] h fun v19 h => o_extract v19 0 fun v20 => o_extract v19 1 fun v21 => o_bin Tryz.prog .neq 42 v21 (.int .i64 0) fun v23 => o_if v23 (Kr (.int .u32 0) v21 h) (F13_1 x1 x2 v20 (.int .u32 0) h Kn Kr)
theorem F13_0_ok (Kn Kr) (t : T) (h : H) (H0 : F13_0 (t 0) (t 1) (t 2) (t 3) h Kn Kr) : Wp Tryz.prog 47 (bodyOf Tryz.f13.body) (mkQ (fun t h => Kn (t 8) (t 9) h) (fun t h => Kr (t 8) (t 9) h) ke0) t h :=
  awpTo_okF 4 H0 (by kernel_rfl) (fun t h (H1 : F13_1 (t 1) (t 2) (t 10) (t 12) h Kn Kr) => F13_1_ok Kn Kr t h H1) (by kernel_rfl)
def F13 (x0 x1 x2 x3 : Value) (h : H) (Q : Value → H → Prop) : Prop := F13_0 x0 x1 x2 x3 h (fun y8 y9 h => bif [y8, y9].all boxV then Q (.tuple #[y8, y9]) h else False) (fun y8 y9 h => bif [y8, y9].all boxV then Q (.tuple #[y8, y9]) h else False)
theorem F13_spec (x0 x1 x2 x3 : Value) (h : H) (Q : Value → H → Prop) (H0 : F13 x0 x1 x2 x3 h Q) : AM.Spec Tryz.prog 13 [x0, x1, x2, x3] h Q :=
  spec_wp mixed (fn := Tryz.f13) Tryz.func13 (c := bodyOf Tryz.f13.body) (rs := [8, 9]) (N := 47) (by kernel_rfl) (by kernel_rfl) (by kernel_rfl) (by kernel_rfl) (by kernel_rfl) (Nat.le_of_ble_eq_true rfl) (F13_0_ok (fun y8 y9 h => bif [y8, y9].all boxV then Q (.tuple #[y8, y9]) h else False) (fun y8 y9 h => bif [y8, y9].all boxV then Q (.tuple #[y8, y9]) h else False) (tinit [x0, x1, x2, x3]) h H0) (by kernel_rfl)
/-! #### 143: tincture/plain.Bytes -/
def F143_5 (x0 x1 x5 x9 : Value) (h : H) (Kn : Value → Value → Value → Value → H → Prop) (Kr : Value → H → Prop) (Ke0 : Value → H → Prop) : Prop :=
  o_bin Tryz.prog .lss 27 x9 (.int .u32 256) fun v10 => o_if v10 (o_nilCheck x0 fun v14 => o_fieldAddr 0 v14 fun v15 => o_load false 1 v15 h fun v16 => o_bin Tryz.prog .add 27 x1 x9 fun v19 => o_call Tryz.prog 13 [v16, v19, (.int .i64 1), (.int .i64 0)] h fun v20 h => o_extract v20 0 fun v21 => o_extract v20 1 fun v22 => o_conv .u8 v21 fun v25 => o_buildSlice Tryz.prog 30 1 [(0, v25)] h fun v26 h => o_append 5 1 1 x5 v26 h fun v27 h => o_bin Tryz.prog .add 27 x9 (.int .u32 1) fun v28 => Kn x0 x1 v27 v28 h) (Ke0 x5 h)
theorem F143_5_ok (Kn Kr Ke0) (t : T) (h : H) (H0 : F143_5 (t 0) (t 1) (t 5) (t 9) h Kn Kr Ke0) : Wp Tryz.prog 30 (lopC (blkC (rest 1 (seqL (rest 2 (bodyOf Tryz.f143.body)))))) (mkQ (fun t h => Kn (t 0) (t 1) (t 5) (t 9) h) (fun t h => Kr (t 4) h) (keAdd 0 (fun t h => Ke0 (t 5) h) ke0)) t h :=
  wpEqF H0 (by kernel_rfl)
def F143_4 (x0 x1 x5 x9 : Value) (h : H) (Kn : Value → H → Prop) (Kr : Value → H → Prop) (Ke0 : Value → H → Prop) : Prop :=
  sloop (S := Value × Value × Value × Value) (fun s h K => F143_5 s.1 s.2.1 s.2.2.1 s.2.2.2 h (fun y0 y1 y5 y9 h => K (y0, y1, y5, y9) h) Kr Ke0) (x0, x1, x5, x9) h
theorem F143_4_ok (Kn Kr Ke0) (t : T) (h : H) (H0 : F143_4 (t 0) (t 1) (t 5) (t 9) h Kn Kr Ke0) : Wp Tryz.prog 30 (blkC (rest 1 (seqL (rest 2 (bodyOf Tryz.f143.body))))) (mkQ (fun t h => Kn (t 5) h) (fun t h => Kr (t 4) h) (keAdd 0 (fun t h => Ke0 (t 5) h) ke0)) t h :=
  loop_ok (fun t => (t 0, t 1, t 5, t 9)) (by kernel_rfl) (fun t h K H1 => F143_5_ok (fun y0 y1 y5 y9 h => K (y0, y1, y5, y9) h) Kr Ke0 t h H1) H0
def F143_3 (x0 x1 x5 x9 : Value) (h : H) (Kn : Value → H → Prop) (Kr : Value → H → Prop) : Prop :=
  F143_4 x0 x1 x5 x9 h Kn Kr Kn
theorem F143_3_ok (Kn Kr) (t : T) (h : H) (H0 : F143_3 (t 0) (t 1) (t 5) (t 9) h Kn Kr) : Wp Tryz.prog 30 (rest 1 (seqL (rest 2 (bodyOf Tryz.f143.body)))) (mkQ (fun t h => Kn (t 5) h) (fun t h => Kr (t 4) h) ke0) t h :=
  block_ok 0 (by kernel_rfl) (by kernel_rfl) (F143_4_ok Kn Kr Kn t h H0)
def F143_2 (x0 x1 x5 : Value) (h : H) (Kn : Value → H → Prop) (Kr : Value → H → Prop) : Prop :=
  F143_3 x0 x1 x5 (.int .u32 0) h Kn Kr
theorem F143_2_ok (Kn Kr) (t : T) (h : H) (H0 : F143_2 (t 0) (t 1) (t 5) h Kn Kr) : Wp Tryz.prog 30 (seqL (rest 2 (bodyOf Tryz.f143.body))) (mkQ (fun t h => Kn (t 5) h) (fun t h => Kr (t 4) h) ke0) t h :=
  awpTo_okF 1 H0 (by kernel_rfl) (fun t h (H1 : F143_3 (t 0) (t 1) (t 5) (t 9) h Kn Kr) => F143_3_ok Kn Kr t h H1) (by kernel_rfl)
def F143_6 (x5 : Value) (h : H) (Kn : Value → H → Prop) (Kr : Value → H → Prop) : Prop :=
  Kr x5 h
theorem F143_6_ok (Kn Kr) (t : T) (h : H) (H0 : F143_6 (t 5) h Kn Kr) : Wp Tryz.prog 30 (seqR (rest 2 (bodyOf Tryz.f143.body))) (mkQ (fun t h => Kn (t 4) h) (fun t h => Kr (t 4) h) ke0) t h :=
  wpEqF H0 (by kernel_rfl)
def F143_1 (x0 x1 x5 : Value) (h : H) (Kn : Value → H → Prop) (Kr : Value → H → Prop) : Prop :=
  F143_2 x0 x1 x5 h (fun y5 h => F143_6 y5 h Kn Kr) Kr
theorem F143_1_ok (Kn Kr) (t : T) (h : H) (H0 : F143_1 (t 0) (t 1) (t 5) h Kn Kr) : Wp Tryz.prog 30 (rest 2 (bodyOf Tryz.f143.body)) (mkQ (fun t h => Kn (t 4) h) (fun t h => Kr (t 4) h) ke0) t h :=
  seq_ok (by kernel_rfl) (fun t h H1 => F143_6_ok Kn Kr t h H1) (F143_2_ok (fun y5 h => F143_6 y5 h Kn Kr) Kr t h H0)
def F143_0 (x0 x1 : Value) (h : H) (Kn : Value → H → Prop) (Kr : Value → H → Prop) : Prop :=
  F143_1 x0 x1 (.slice none 0 0) h Kn Kr
theorem F143_0_ok (Kn Kr) (t : T) (h : H) (H0 : F143_0 (t 0) (t 1) h Kn Kr) : Wp Tryz.prog 30 (bodyOf Tryz.f143.body) (mkQ (fun t h => Kn (t 4) h) (fun t h => Kr (t 4) h) ke0) t h :=
  awpTo_okF 2 H0 (by kernel_rfl) (fun t h (H1 : F143_1 (t 0) (t 1) (t 5) h Kn Kr) => F143_1_ok Kn Kr t h H1) (by kernel_rfl)
def F143 (x0 x1 : Value) (h : H) (Q : Value → H → Prop) : Prop := F143_0 x0 x1 h (fun v h => Q v h) (fun v h => Q v h)
theorem F143_spec (x0 x1 : Value) (h : H) (Q : Value → H → Prop) (H0 : F143 x0 x1 h Q) : AM.Spec Tryz.prog 143 [x0, x1] h Q :=
  spec_wp mixed (fn := Tryz.f143) Tryz.func143 (c := bodyOf Tryz.f143.body) (rs := [4]) (N := 30) (by kernel_rfl) (by kernel_rfl) (by kernel_rfl) (by kernel_rfl) (by kernel_rfl) (Nat.le_of_ble_eq_true rfl) (F143_0_ok (fun v h => Q v h) (fun v h => Q v h) (tinit [x0, x1]) h H0) (by kernel_rfl)
end Go.Proofs.YtjdhldfeflmneaaGreat
