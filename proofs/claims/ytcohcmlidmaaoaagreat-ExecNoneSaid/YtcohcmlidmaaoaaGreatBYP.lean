/-
  Functions of the program, taken apart over the abstract memory: each piece of the loaded code as a proposition; printed by a program (gen.py).
-/
import Derived.Test.YtcohcmlidmaaoaaGreatK1
import Derived.Test.YtcohcmlidmaaoaaGreatM4
import Derived.KernelRfl
set_option linter.unusedVariables false
set_option linter.unusedSimpArgs false
set_option maxRecDepth 100000
namespace Go.Proofs.YtcohcmlidmaaoaaGreat
open Go.Proofs.YtcohcmlidmaaoaaGreat.AM
/-! #### 98: (*tincture/mem.Mem).look -/
def F98_2 (x0 x1 x3 : Value) (h : H) (Kn : KP2) (Kr : KP2) : Prop :=
  o_nilCheck x0 fun v29 => o_fieldAddr 1 v29 fun v30 => o_load false 1 v30 h fun v31 => o_dcall D0 87 [x1] h fun v33 h => o_lookup (.int .u32) (.pointer none) v31 v33 false h fun v34 => Kn x3 v34 h
theorem F98_2_ok (Kn Kr) (t : T) (h : H) (H0 : F98_2 (t 0) (t 1) (t 3) h Kn Kr) : Wp Tryz.prog 48 (seqL (rest 2 (bodyOf Tryz.f98.body))) (mkQ (kq2 Kn 3 10) (kq2 Kr 8 9) ke0) t h :=
  drawD_ok dOk (by kernel_rfl) (by kernel_rfl) H0 (by kernel_rfl)
def F98_3 (x3 x10 : Value) (h : H) (Kn : KP2) (Kr : KP2) : Prop :=
  o_bin Tryz.prog .eql 231 x10 (.pointer none) fun v37 => o_if v37 (Kr (.pointer none) (.int .i64 1) h) (o_nilCheck x10 fun v40 => o_fieldAddr 256 v40 fun v41 => o_load false 1 v41 h fun v42 => o_bin Tryz.prog .and 3 v42 x3 fun v44 => o_bin Tryz.prog .neq 3 v44 x3 fun v46 => o_if v46 (Kr (.pointer none) (.int .i64 2) h) (Kr x10 (.int .i64 0) h))
theorem F98_3_ok (Kn Kr) (t : T) (h : H) (H0 : F98_3 (t 3) (t 10) h Kn Kr) : Wp Tryz.prog 48 (seqR (rest 2 (bodyOf Tryz.f98.body))) (mkQ (kq2 Kn 8 9) (kq2 Kr 8 9) ke0) t h :=
  wpEqF H0 (by kernel_rfl)
def F98_1 (x0 x1 x3 : Value) (h : H) (Kn : KP2) (Kr : KP2) : Prop :=
  F98_2 x0 x1 x3 h (fun y3 y10 h => F98_3 y3 y10 h Kn Kr) Kr
theorem F98_1_ok (Kn Kr) (t : T) (h : H) (H0 : F98_1 (t 0) (t 1) (t 3) h Kn Kr) : Wp Tryz.prog 48 (rest 2 (bodyOf Tryz.f98.body)) (mkQ (kq2 Kn 8 9) (kq2 Kr 8 9) ke0) t h :=
  seq_ok (by kernel_rfl) (fun t h H1 => F98_3_ok Kn Kr t h H1) (F98_2_ok (fun y3 y10 h => F98_3 y3 y10 h Kn Kr) Kr t h H0)
def F98_0 (x0 x1 x2 x3 : Value) (h : H) (Kn : KP2) (Kr : KP2) : Prop :=
  o_bin Tryz.prog .neq 3 x2 (.int .i64 1) fun v12 => o_guard v12 true (fun k4 => o_bin Tryz.prog .neq 3 x2 (.int .i64 2) fun v15 => k4 v15 h) (fun v15 h => o_pick v12 v15 (.bool false) fun v16 => o_guard v16 true (fun k8 => o_bin Tryz.prog .neq 3 x2 (.int .i64 4) fun v19 => k8 v19 h) (fun v19 h => o_pick v16 v19 (.bool false) fun v20 => o_guard v20 false (fun k15 => o_conv .u32 x2 fun v24 => o_bin Tryz.prog .rem 27 x1 v24 fun v25 => o_bin Tryz.prog .neq 27 v25 (.int .u32 0) fun v26 => k15 v26 h) (fun v26 h => o_pick v20 (.bool true) v26 fun v27 => o_if v27 (Kr (.pointer none) (.int .i64 3) h) (F98_1 x0 x1 x3 h Kn Kr)) h) h) h
theorem F98_0_ok (Kn Kr) (t : T) (h : H) (H0 : F98_0 (t 0) (t 1) (t 2) (t 3) h Kn Kr) : Wp Tryz.prog 48 (bodyOf Tryz.f98.body) (mkQ (kq2 Kn 8 9) (kq2 Kr 8 9) ke0) t h :=
  awpTo_okF 2 H0 (by kernel_rfl) (fun t h (H1 : F98_1 (t 0) (t 1) (t 3) h Kn Kr) => F98_1_ok Kn Kr t h H1) (by kernel_rfl)
def F98 (x0 x1 x2 x3 : Value) (h : H) (Q : Value → H → Prop) : Prop := F98_0 x0 x1 x2 x3 h (fun y8 y9 h => bif [y8, y9].all boxV then Q (.tuple #[y8, y9]) h else False) (fun y8 y9 h => bif [y8, y9].all boxV then Q (.tuple #[y8, y9]) h else False)
theorem F98_spec (x0 x1 x2 x3 : Value) (h : H) (Q : Value → H → Prop) (H0 : F98 x0 x1 x2 x3 h Q) : AM.Spec Tryz.prog 98 [x0, x1, x2, x3] h Q :=
  spec_wp mixed (fn := Tryz.f98) Tryz.func98 (c := bodyOf Tryz.f98.body) (rs := [8, 9]) (N := 48) (by kernel_rfl) (by kernel_rfl) (by kernel_rfl) (by kernel_rfl) (by kernel_rfl) (Nat.le_of_ble_eq_true rfl) (F98_0_ok (fun y8 y9 h => bif [y8, y9].all boxV then Q (.tuple #[y8, y9]) h else False) (fun y8 y9 h => bif [y8, y9].all boxV then Q (.tuple #[y8, y9]) h else False) (tinit [x0, x1, x2, x3]) h H0) (by kernel_rfl)
def F61_5 (x1 x10 x12 x26 x27 : Value) (h : H) (Kn : KP5) (Kr : KP2) (Ke0 : Value → H → Prop) : Prop :=
  o_bin Tryz.prog .lss 27 x27 x26 fun v28 => o_if v28 (o_bin Tryz.prog .rem 27 x1 (.int .u32 256) fun v33 => o_bin Tryz.prog .add 27 v33 x27 fun v35 => o_nilCheck x10 fun v36 => o_fieldAddr 0 v36 fun v37 => o_indexAddr (some 256) 1 v37 v35 fun v38 => o_load false 1 v38 h fun v39 => o_conv .u32 v39 fun v40 => o_bin Tryz.prog .mul 27 (.int .u32 8) x27 fun v42 => o_bin Tryz.prog .shl 27 v40 v42 fun v43 => o_bin Tryz.prog .or 27 x12 v43 fun v44 => o_bin Tryz.prog .add 27 x27 (.int .u32 1) fun v45 => Kn x1 x10 v44 x26 v45 h) (Ke0 x12 h)
theorem F61_5_ok (Kn Kr Ke0) (t : T) (h : H) (H0 : F61_5 (t 1) (t 10) (t 12) (t 26) (t 27) h Kn Kr Ke0) : Wp Tryz.prog 47 (lopC (blkC (rest 1 (seqL (rest 4 (bodyOf Tryz.f61.body)))))) (mkQ (kq5 Kn 1 10 12 26 27) (kq2 Kr 8 9) (keAdd 0 (kq1 Ke0 12) ke0)) t h :=
  wpEqF H0 (by kernel_rfl)
def F61_4 (x1 x10 x12 x26 x27 : Value) (h : H) (Kn : Value → H → Prop) (Kr : KP2) (Ke0 : Value → H → Prop) : Prop :=
  sloop (S := Value × Value × Value × Value × Value) (fun s h K => F61_5 s.1 s.2.1 s.2.2.1 s.2.2.2.1 s.2.2.2.2 h (fun y1 y10 y12 y26 y27 h => K (y1, y10, y12, y26, y27) h) Kr Ke0) (x1, x10, x12, x26, x27) h
theorem F61_4_ok (Kn Kr Ke0) (t : T) (h : H) (H0 : F61_4 (t 1) (t 10) (t 12) (t 26) (t 27) h Kn Kr Ke0) : Wp Tryz.prog 47 (blkC (rest 1 (seqL (rest 4 (bodyOf Tryz.f61.body))))) (mkQ (kq1 Kn 12) (kq2 Kr 8 9) (keAdd 0 (kq1 Ke0 12) ke0)) t h :=
  loop_ok (fun t => (t 1, t 10, t 12, t 26, t 27)) (by kernel_rfl) (fun t h K H1 => F61_5_ok (fun y1 y10 y12 y26 y27 h => K (y1, y10, y12, y26, y27) h) Kr Ke0 t h H1) H0
def F61_3 (x1 x10 x12 x26 x27 : Value) (h : H) (Kn : Value → H → Prop) (Kr : KP2) : Prop :=
  F61_4 x1 x10 x12 x26 x27 h Kn Kr Kn
theorem F61_3_ok (Kn Kr) (t : T) (h : H) (H0 : F61_3 (t 1) (t 10) (t 12) (t 26) (t 27) h Kn Kr) : Wp Tryz.prog 47 (rest 1 (seqL (rest 4 (bodyOf Tryz.f61.body)))) (mkQ (kq1 Kn 12) (kq2 Kr 8 9) ke0) t h :=
  block_ok 0 (by kernel_rfl) (by kernel_rfl) (F61_4_ok Kn Kr Kn t h H0)
def F61_2 (x1 x2 x10 x12 : Value) (h : H) (Kn : Value → H → Prop) (Kr : KP2) : Prop :=
  o_conv .u32 x2 fun v26 => F61_3 x1 x10 x12 v26 (.int .u32 0) h Kn Kr
theorem F61_2_ok (Kn Kr) (t : T) (h : H) (H0 : F61_2 (t 1) (t 2) (t 10) (t 12) h Kn Kr) : Wp Tryz.prog 47 (seqL (rest 4 (bodyOf Tryz.f61.body))) (mkQ (kq1 Kn 12) (kq2 Kr 8 9) ke0) t h :=
  awpTo_okF 1 H0 (by kernel_rfl) (fun t h (H1 : F61_3 (t 1) (t 10) (t 12) (t 26) (t 27) h Kn Kr) => F61_3_ok Kn Kr t h H1) (by kernel_rfl)
def F61_6 (x12 : Value) (h : H) (Kn : KP2) (Kr : KP2) : Prop :=
  Kr x12 (.int .i64 0) h
theorem F61_6_ok (Kn Kr) (t : T) (h : H) (H0 : F61_6 (t 12) h Kn Kr) : Wp Tryz.prog 47 (seqR (rest 4 (bodyOf Tryz.f61.body))) (mkQ (kq2 Kn 8 9) (kq2 Kr 8 9) ke0) t h :=
  wpEqF H0 (by kernel_rfl)
def F61_1 (x1 x2 x10 x12 : Value) (h : H) (Kn : KP2) (Kr : KP2) : Prop :=
  F61_2 x1 x2 x10 x12 h (fun y12 h => F61_6 y12 h Kn Kr) Kr
theorem F61_1_ok (Kn Kr) (t : T) (h : H) (H0 : F61_1 (t 1) (t 2) (t 10) (t 12) h Kn Kr) : Wp Tryz.prog 47 (rest 4 (bodyOf Tryz.f61.body)) (mkQ (kq2 Kn 8 9) (kq2 Kr 8 9) ke0) t h :=
  seq_ok (by kernel_rfl) (fun t h H1 => F61_6_ok Kn Kr t h H1) (F61_2_ok (fun y12 h => F61_6 y12 h Kn Kr) Kr t h H0)
def F61_0 (x0 x1 x2 x3 : Value) (h : H) (Kn : KP2) (Kr : KP2) : Prop :=
  o_call Tryz.prog 98 [x0, x1, x2, x3] h fun v19 h => o_extract v19 0 fun v20 => o_extract v19 1 fun v21 => o_bin Tryz.prog .neq 42 v21 (.int .i64 0) fun v23 => o_if v23 (Kr (.int .u32 0) v21 h) (F61_1 x1 x2 v20 (.int .u32 0) h Kn Kr)
theorem F61_0_ok (Kn Kr) (t : T) (h : H) (H0 : F61_0 (t 0) (t 1) (t 2) (t 3) h Kn Kr) : Wp Tryz.prog 47 (bodyOf Tryz.f61.body) (mkQ (kq2 Kn 8 9) (kq2 Kr 8 9) ke0) t h :=
  awpTo_okF 4 H0 (by kernel_rfl) (fun t h (H1 : F61_1 (t 1) (t 2) (t 10) (t 12) h Kn Kr) => F61_1_ok Kn Kr t h H1) (by kernel_rfl)
def F61 (x0 x1 x2 x3 : Value) (h : H) (Q : Value → H → Prop) : Prop := F61_0 x0 x1 x2 x3 h (fun y8 y9 h => bif [y8, y9].all boxV then Q (.tuple #[y8, y9]) h else False) (fun y8 y9 h => bif [y8, y9].all boxV then Q (.tuple #[y8, y9]) h else False)
theorem F61_spec (x0 x1 x2 x3 : Value) (h : H) (Q : Value → H → Prop) (H0 : F61 x0 x1 x2 x3 h Q) : AM.Spec Tryz.prog 61 [x0, x1, x2, x3] h Q :=
  spec_wp mixed (fn := Tryz.f61) Tryz.func61 (c := bodyOf Tryz.f61.body) (rs := [8, 9]) (N := 47) (by kernel_rfl) (by kernel_rfl) (by kernel_rfl) (by kernel_rfl) (by kernel_rfl) (Nat.le_of_ble_eq_true rfl) (F61_0_ok (fun y8 y9 h => bif [y8, y9].all boxV then Q (.tuple #[y8, y9]) h else False) (fun y8 y9 h => bif [y8, y9].all boxV then Q (.tuple #[y8, y9]) h else False) (tinit [x0, x1, x2, x3]) h H0) (by kernel_rfl)
end Go.Proofs.YtcohcmlidmaaoaaGreat
