import Derived.Test.YtbmfblmebhobiaaGreatProg
import Derived.Test.YtbmfblmebhobiaaGreatM4
import Derived.KernelRfl
import Derived.Test.YtbmfblmebhobiaaGreatM8b
/-
  Functions of the program, taken apart over the abstract memory: each piece of the loaded code as a proposition; printed by a program (gen.py).
-/
set_option linter.unusedVariables false
namespace Go.Proofs.YtbmfblmebhobiaaGreat
open Go.Proofs.YtbmfblmebhobiaaGreat.AM
theorem mixed : Tryz.prog.follows .mixedOrders = true := by kernel_rfl
/-! #### 138: tincture/mem.base -/
def F138_0 (x0 : Value) (h : H) (Kn : Value → H → Prop) (Kr : Value → H → Prop) : Prop :=
  o_bin Tryz.prog .rem 24 x0 (.int .u32 256) fun v5 => o_bin Tryz.prog .sub 24 x0 v5 fun v6 => Kr v6 h
theorem F138_0_ok (Kn Kr) (t : T) (h : H) (H0 : F138_0 (t 0) h Kn Kr) : Wp Tryz.prog 7 (bodyOf Tryz.f138.body) (mkQ (fun t h => Kn (t 2) h) (fun t h => Kr (t 2) h) ke0) t h :=
  wpEqF H0 (by kernel_rfl)
def F138 (x0 : Value) (h : H) (Q : Value → H → Prop) : Prop := F138_0 x0 h (fun v h => Q v h) (fun v h => Q v h)
theorem F138_spec (x0 : Value) (h : H) (Q : Value → H → Prop) (H0 : F138 x0 h Q) : AM.Spec Tryz.prog 138 [x0] h Q :=
  spec_wp mixed (fn := Tryz.f138) Tryz.func138 (c := bodyOf Tryz.f138.body) (rs := [2]) (N := 7) (by kernel_rfl) (by kernel_rfl) (by kernel_rfl) (by kernel_rfl) (by kernel_rfl) (Nat.le_of_ble_eq_true rfl) (F138_0_ok (fun v h => Q v h) (fun v h => Q v h) (tinit [x0]) h H0) (by kernel_rfl)
end Go.Proofs.YtbmfblmebhobiaaGreat

set_option linter.unusedVariables false
namespace Go.Proofs.YtbmfblmebhobiaaGreat
open Go.Proofs.YtbmfblmebhobiaaGreat.AM
/-- What 'base' computes. -/
def D0 : DF := fun f args => match f, args with
  | 138, [.int .u32 n] => some (.int .u32 (IntKind.u32.wrap (n - n.tmod 256)))
  | _, _ => none
theorem dOk : DOk Tryz.prog D0 := by
  intro f args v h K he hk
  unfold D0 at he
  split at he
  · rename_i n
    cases he
    refine F138_spec _ _ _ ?_
    unfold F138 F138_0
    rw [bin_rem (by decide), bin_sub]
    exact hk
  · cases he
end Go.Proofs.YtbmfblmebhobiaaGreat

/-
  Functions of the program, taken apart over the abstract memory: each piece of the loaded code as a proposition; printed by a program (gen.py).
-/
set_option linter.unusedVariables false
set_option maxRecDepth 100000
namespace Go.Proofs.YtbmfblmebhobiaaGreat
open Go.Proofs.YtbmfblmebhobiaaGreat.AM
/-! #### 60: (*tincture/tinctureref3.Mem).at -/
def F60_4 (x0 x6 x7 : Value) (h : H) (Kn : Value → Value → Value → H → Prop) (Kr : Value → Value → H → Prop) (Ke0 : Value → Value → Value → H → Prop) : Prop :=
  o_nilCheck x0 fun v14 => o_fieldAddr 1 v14 fun v15 => o_load false 1 v15 h fun v16 => o_lenSl v16 fun v17 => o_bin Tryz.prog .lss 3 x7 v17 fun v18 => o_guard v18 true (fun k17 => o_nilCheck x0 fun v21 => o_fieldAddr 1 v21 fun v22 => o_load false 1 v22 h fun v23 => o_indexAddr none 258 v23 x7 fun v25 => o_fieldAddr 0 v25 fun v26 => o_load false 1 v26 h fun v27 => o_bin Tryz.prog .lss 24 v27 x6 fun v29 => k17 v29 h) (fun v29 h => o_pick v18 v29 (.bool false) fun v30 => o_if v30 (o_bin Tryz.prog .add 3 x7 (.int .i64 1) fun v32 => Kn x0 x6 v32 h) (Ke0 x0 x6 x7 h)) h
theorem F60_4_ok (Kn Kr Ke0) (t : T) (h : H) (H0 : F60_4 (t 0) (t 6) (t 7) h Kn Kr Ke0) : Wp Tryz.prog 53 (lopC (blkC (seqL (rest 3 (bodyOf Tryz.f60.body))))) (mkQ (fun t h => Kn (t 0) (t 6) (t 7) h) (fun t h => Kr (t 4) (t 5) h) (keAdd 0 (fun t h => Ke0 (t 0) (t 6) (t 7) h) ke0)) t h :=
  wpEqF H0 (by kernel_rfl)
def F60_3 (x0 x6 x7 : Value) (h : H) (Kn : Value → Value → Value → H → Prop) (Kr : Value → Value → H → Prop) (Ke0 : Value → Value → Value → H → Prop) : Prop :=
  sloop (S := Value × Value × Value) (fun s h K => F60_4 s.1 s.2.1 s.2.2 h (fun y0 y6 y7 h => K (y0, y6, y7) h) Kr Ke0) (x0, x6, x7) h
theorem F60_3_ok (Kn Kr Ke0) (t : T) (h : H) (H0 : F60_3 (t 0) (t 6) (t 7) h Kn Kr Ke0) : Wp Tryz.prog 53 (blkC (seqL (rest 3 (bodyOf Tryz.f60.body)))) (mkQ (fun t h => Kn (t 0) (t 6) (t 7) h) (fun t h => Kr (t 4) (t 5) h) (keAdd 0 (fun t h => Ke0 (t 0) (t 6) (t 7) h) ke0)) t h :=
  loop_ok (fun t => (t 0, t 6, t 7)) (by kernel_rfl) (fun t h K H1 => F60_4_ok (fun y0 y6 y7 h => K (y0, y6, y7) h) Kr Ke0 t h H1) H0
def F60_2 (x0 x6 x7 : Value) (h : H) (Kn : Value → Value → Value → H → Prop) (Kr : Value → Value → H → Prop) : Prop :=
  F60_3 x0 x6 x7 h Kn Kr Kn
theorem F60_2_ok (Kn Kr) (t : T) (h : H) (H0 : F60_2 (t 0) (t 6) (t 7) h Kn Kr) : Wp Tryz.prog 53 (seqL (rest 3 (bodyOf Tryz.f60.body))) (mkQ (fun t h => Kn (t 0) (t 6) (t 7) h) (fun t h => Kr (t 4) (t 5) h) ke0) t h :=
  block_ok 0 (by kernel_rfl) (by kernel_rfl) (F60_3_ok Kn Kr Kn t h H0)
def F60_6 (x0 x6 x7 : Value) (h : H) (Kn : Value → Value → H → Prop) (Kr : Value → Value → H → Prop) : Prop :=
  o_nilCheck x0 fun v36 => o_fieldAddr 1 v36 fun v37 => o_load false 1 v37 h fun v38 => o_lenSl v38 fun v39 => o_bin Tryz.prog .lss 3 x7 v39 fun v40 => o_guard v40 true (fun k18 => o_nilCheck x0 fun v43 => o_fieldAddr 1 v43 fun v44 => o_load false 1 v44 h fun v45 => o_indexAddr none 258 v45 x7 fun v47 => o_fieldAddr 0 v47 fun v48 => o_load false 1 v48 h fun v49 => o_bin Tryz.prog .eql 24 v49 x6 fun v51 => k18 v51 h) (fun v51 h => o_pick v40 v51 (.bool false) fun v52 => Kn x7 v52 h) h
theorem F60_6_ok (Kn Kr) (t : T) (h : H) (H0 : F60_6 (t 0) (t 6) (t 7) h Kn Kr) : Wp Tryz.prog 53 (seqL (seqR (rest 3 (bodyOf Tryz.f60.body)))) (mkQ (fun t h => Kn (t 4) (t 5) h) (fun t h => Kr (t 4) (t 5) h) ke0) t h :=
  draw_okF (by kernel_rfl) (by kernel_rfl) H0 (by kernel_rfl)
def F60_7 (x4 x5 : Value) (h : H) (Kn : Value → Value → H → Prop) (Kr : Value → Value → H → Prop) : Prop :=
  Kr x4 x5 h
theorem F60_7_ok (Kn Kr) (t : T) (h : H) (H0 : F60_7 (t 4) (t 5) h Kn Kr) : Wp Tryz.prog 53 (seqR (seqR (rest 3 (bodyOf Tryz.f60.body)))) (mkQ (fun t h => Kn (t 4) (t 5) h) (fun t h => Kr (t 4) (t 5) h) ke0) t h :=
  wpEqF H0 (by kernel_rfl)
def F60_5 (x0 x6 x7 : Value) (h : H) (Kn : Value → Value → H → Prop) (Kr : Value → Value → H → Prop) : Prop :=
  F60_6 x0 x6 x7 h (fun y4 y5 h => F60_7 y4 y5 h Kn Kr) Kr
theorem F60_5_ok (Kn Kr) (t : T) (h : H) (H0 : F60_5 (t 0) (t 6) (t 7) h Kn Kr) : Wp Tryz.prog 53 (seqR (rest 3 (bodyOf Tryz.f60.body))) (mkQ (fun t h => Kn (t 4) (t 5) h) (fun t h => Kr (t 4) (t 5) h) ke0) t h :=
  seq_ok (by kernel_rfl) (fun t h H1 => F60_7_ok Kn Kr t h H1) (F60_6_ok (fun y4 y5 h => F60_7 y4 y5 h Kn Kr) Kr t h H0)
def F60_1 (x0 x6 x7 : Value) (h : H) (Kn : Value → Value → H → Prop) (Kr : Value → Value → H → Prop) : Prop :=
  F60_2 x0 x6 x7 h (fun y0 y6 y7 h => F60_5 y0 y6 y7 h Kn Kr) Kr
theorem F60_1_ok (Kn Kr) (t : T) (h : H) (H0 : F60_1 (t 0) (t 6) (t 7) h Kn Kr) : Wp Tryz.prog 53 (rest 3 (bodyOf Tryz.f60.body)) (mkQ (fun t h => Kn (t 4) (t 5) h) (fun t h => Kr (t 4) (t 5) h) ke0) t h :=
  seq_ok (by kernel_rfl) (fun t h H1 => F60_5_ok Kn Kr t h H1) (F60_2_ok (fun y0 y6 y7 h => F60_5 y0 y6 y7 h Kn Kr) Kr t h H0)
def F60_0 (x0 x1 : Value) (h : H) (Kn : Value → Value → H → Prop) (Kr : Value → Value → H → Prop) : Prop :=
  o_bin Tryz.prog .rem 24 x1 (.int .u32 256) fun v10 => o_bin Tryz.prog .sub 24 x1 v10 fun v11 => F60_1 x0 v11 (.int .i64 0) h Kn Kr
theorem F60_0_ok (Kn Kr) (t : T) (h : H) (H0 : F60_0 (t 0) (t 1) h Kn Kr) : Wp Tryz.prog 53 (bodyOf Tryz.f60.body) (mkQ (fun t h => Kn (t 4) (t 5) h) (fun t h => Kr (t 4) (t 5) h) ke0) t h :=
  awpTo_okF 3 H0 (by kernel_rfl) (fun t h (H1 : F60_1 (t 0) (t 6) (t 7) h Kn Kr) => F60_1_ok Kn Kr t h H1) (by kernel_rfl)
def F60 (x0 x1 : Value) (h : H) (Q : Value → H → Prop) : Prop := F60_0 x0 x1 h (fun y4 y5 h => bif [y4, y5].all boxV then Q (.tuple #[y4, y5]) h else False) (fun y4 y5 h => bif [y4, y5].all boxV then Q (.tuple #[y4, y5]) h else False)
theorem F60_spec (x0 x1 : Value) (h : H) (Q : Value → H → Prop) (H0 : F60 x0 x1 h Q) : AM.Spec Tryz.prog 60 [x0, x1] h Q :=
  spec_wp mixed (fn := Tryz.f60) Tryz.func60 (c := bodyOf Tryz.f60.body) (rs := [4, 5]) (N := 53) (by kernel_rfl) (by kernel_rfl) (by kernel_rfl) (by kernel_rfl) (by kernel_rfl) (Nat.le_of_ble_eq_true rfl) (F60_0_ok (fun y4 y5 h => bif [y4, y5].all boxV then Q (.tuple #[y4, y5]) h else False) (fun y4 y5 h => bif [y4, y5].all boxV then Q (.tuple #[y4, y5]) h else False) (tinit [x0, x1]) h H0) (by kernel_rfl)
/-! #### 61: (*tincture/tinctureref3.Mem).bump -/
def F61_5 (x0 x4 x5 : Value) (h : H) (Kn : Value → Value → Value → H → Prop) (Kr : H → Prop) (Ke0 : Value → Value → H → Prop) : Prop :=
  o_nilCheck x0 fun v12 => o_fieldAddr 2 v12 fun v13 => o_load false 1 v13 h fun v14 => o_lenSl v14 fun v15 => o_bin Tryz.prog .lss 3 x5 v15 fun v16 => o_if v16 (o_nilCheck x0 fun v20 => o_fieldAddr 2 v20 fun v21 => o_load false 1 v21 h fun v22 => o_indexAddr none 2 v22 x5 fun v24 => o_fieldAddr 0 v24 fun v25 => o_load false 1 v25 h fun v26 => o_bin Tryz.prog .eql 24 v26 x4 fun v28 => o_if v28 (o_nilCheck x0 fun v30 => o_fieldAddr 2 v30 fun v31 => o_load false 1 v31 h fun v32 => o_indexAddr none 2 v32 x5 fun v34 => o_fieldAddr 1 v34 fun v35 => o_load false 1 v35 h fun v36 => o_bin Tryz.prog .add 24 v36 (.int .u32 1) fun v37 => o_indexAddr none 2 v32 x5 fun v38 => o_fieldAddr 1 v38 fun v39 => o_store 1 v39 v37 h fun h => Kr h) (o_bin Tryz.prog .add 3 x5 (.int .i64 1) fun v18 => Kn x0 x4 v18 h)) (Ke0 x0 x4 h)
theorem F61_5_ok (Kn Kr Ke0) (t : T) (h : H) (H0 : F61_5 (t 0) (t 4) (t 5) h Kn Kr Ke0) : Wp Tryz.prog 53 (lopC (blkC (rest 1 (seqL (rest 1 (bodyOf Tryz.f61.body)))))) (mkQ (fun t h => Kn (t 0) (t 4) (t 5) h) (fun t h => Kr  h) (keAdd 0 (fun t h => Ke0 (t 0) (t 4) h) ke0)) t h :=
  wpEqF H0 (by kernel_rfl)
def F61_4 (x0 x4 x5 : Value) (h : H) (Kn : Value → Value → H → Prop) (Kr : H → Prop) (Ke0 : Value → Value → H → Prop) : Prop :=
  sloop (S := Value × Value × Value) (fun s h K => F61_5 s.1 s.2.1 s.2.2 h (fun y0 y4 y5 h => K (y0, y4, y5) h) Kr Ke0) (x0, x4, x5) h
theorem F61_4_ok (Kn Kr Ke0) (t : T) (h : H) (H0 : F61_4 (t 0) (t 4) (t 5) h Kn Kr Ke0) : Wp Tryz.prog 53 (blkC (rest 1 (seqL (rest 1 (bodyOf Tryz.f61.body))))) (mkQ (fun t h => Kn (t 0) (t 4) h) (fun t h => Kr  h) (keAdd 0 (fun t h => Ke0 (t 0) (t 4) h) ke0)) t h :=
  loop_ok (fun t => (t 0, t 4, t 5)) (by kernel_rfl) (fun t h K H1 => F61_5_ok (fun y0 y4 y5 h => K (y0, y4, y5) h) Kr Ke0 t h H1) H0
def F61_3 (x0 x4 x5 : Value) (h : H) (Kn : Value → Value → H → Prop) (Kr : H → Prop) : Prop :=
  F61_4 x0 x4 x5 h Kn Kr Kn
theorem F61_3_ok (Kn Kr) (t : T) (h : H) (H0 : F61_3 (t 0) (t 4) (t 5) h Kn Kr) : Wp Tryz.prog 53 (rest 1 (seqL (rest 1 (bodyOf Tryz.f61.body)))) (mkQ (fun t h => Kn (t 0) (t 4) h) (fun t h => Kr  h) ke0) t h :=
  block_ok 0 (by kernel_rfl) (by kernel_rfl) (F61_4_ok Kn Kr Kn t h H0)
def F61_2 (x0 x4 : Value) (h : H) (Kn : Value → Value → H → Prop) (Kr : H → Prop) : Prop :=
  F61_3 x0 x4 (.int .i64 0) h Kn Kr
theorem F61_2_ok (Kn Kr) (t : T) (h : H) (H0 : F61_2 (t 0) (t 4) h Kn Kr) : Wp Tryz.prog 53 (seqL (rest 1 (bodyOf Tryz.f61.body))) (mkQ (fun t h => Kn (t 0) (t 4) h) (fun t h => Kr  h) ke0) t h :=
  awpTo_okF 1 H0 (by kernel_rfl) (fun t h (H1 : F61_3 (t 0) (t 4) (t 5) h Kn Kr) => F61_3_ok Kn Kr t h H1) (by kernel_rfl)
def F61_6 (x0 x4 : Value) (h : H) (Kn : H → Prop) (Kr : H → Prop) : Prop :=
  o_buildSlice Tryz.prog 129 0 [] h fun v41 h => o_nilCheck x0 fun v43 => o_fieldAddr 2 v43 fun v44 => o_load false 1 v44 h fun v45 => o_append 242 2 8 v41 v45 h fun v46 h => o_build Tryz.prog 242 [(0, x4), (1, (.int .u32 1))] fun v48 => o_buildSlice Tryz.prog 129 1 [(0, v48)] h fun v49 h => o_append 242 2 8 v46 v49 h fun v50 h => o_nilCheck x0 fun v51 => o_fieldAddr 2 v51 fun v52 => o_store 1 v52 v50 h fun h => Kn h
theorem F61_6_ok (Kn Kr) (t : T) (h : H) (H0 : F61_6 (t 0) (t 4) h Kn Kr) : Wp Tryz.prog 53 (seqR (rest 1 (bodyOf Tryz.f61.body))) (mkQ (fun t h => Kn  h) (fun t h => Kr  h) ke0) t h :=
  wpEqF H0 (by kernel_rfl)
def F61_1 (x0 x4 : Value) (h : H) (Kn : H → Prop) (Kr : H → Prop) : Prop :=
  F61_2 x0 x4 h (fun y0 y4 h => F61_6 y0 y4 h Kn Kr) Kr
theorem F61_1_ok (Kn Kr) (t : T) (h : H) (H0 : F61_1 (t 0) (t 4) h Kn Kr) : Wp Tryz.prog 53 (rest 1 (bodyOf Tryz.f61.body)) (mkQ (fun t h => Kn  h) (fun t h => Kr  h) ke0) t h :=
  seq_ok (by kernel_rfl) (fun t h H1 => F61_6_ok Kn Kr t h H1) (F61_2_ok (fun y0 y4 h => F61_6 y0 y4 h Kn Kr) Kr t h H0)
def F61_0 (x0 x1 : Value) (h : H) (Kn : H → Prop) (Kr : H → Prop) : Prop :=
  o_bin Tryz.prog .rem 24 x1 (.int .u32 256) fun v8 => o_bin Tryz.prog .sub 24 x1 v8 fun v9 => F61_1 x0 v9 h Kn Kr
theorem F61_0_ok (Kn Kr) (t : T) (h : H) (H0 : F61_0 (t 0) (t 1) h Kn Kr) : Wp Tryz.prog 53 (bodyOf Tryz.f61.body) (mkQ (fun t h => Kn  h) (fun t h => Kr  h) ke0) t h :=
  awpTo_okF 1 H0 (by kernel_rfl) (fun t h (H1 : F61_1 (t 0) (t 4) h Kn Kr) => F61_1_ok Kn Kr t h H1) (by kernel_rfl)
def F61 (x0 x1 : Value) (h : H) (Q : Value → H → Prop) : Prop := F61_0 x0 x1 h (fun h => bif [].all boxV then Q (.tuple #[]) h else False) (fun h => bif [].all boxV then Q (.tuple #[]) h else False)
theorem F61_spec (x0 x1 : Value) (h : H) (Q : Value → H → Prop) (H0 : F61 x0 x1 h Q) : AM.Spec Tryz.prog 61 [x0, x1] h Q :=
  spec_wp mixed (fn := Tryz.f61) Tryz.func61 (c := bodyOf Tryz.f61.body) (rs := []) (N := 53) (by kernel_rfl) (by kernel_rfl) (by kernel_rfl) (by kernel_rfl) (by kernel_rfl) (Nat.le_of_ble_eq_true rfl) (F61_0_ok (fun h => bif [].all boxV then Q (.tuple #[]) h else False) (fun h => bif [].all boxV then Q (.tuple #[]) h else False) (tinit [x0, x1]) h H0) (by kernel_rfl)
/-! #### 63: (*tincture/tinctureref3.Mem).put -/
def F63_8 (x0 x1 x2 x6 x7 x8 : Value) (h : H) (Kn : Value → Value → Value → Value → Value → H → Prop) (Kr : H → Prop) (Ke1 : Value → Value → Value → Value → H → Prop) (Ke0 : H → Prop) : Prop :=
  o_nilCheck x0 fun v27 => o_fieldAddr 1 v27 fun v28 => o_load false 1 v28 h fun v29 => o_bin Tryz.prog .rem 24 x7 (.int .u32 256) fun v32 => o_indexAddr none 1 x2 x6 fun v35 => o_load false 1 v35 h fun v36 => o_indexAddr none 258 v29 x8 fun v37 => o_fieldAddr 2 v37 fun v38 => o_indexAddr (some 256) 1 v38 v32 fun v39 => o_store 1 v39 v36 h fun h => Kn x0 x1 x2 x6 x7 h
theorem F63_8_ok (Kn Kr Ke1 Ke0) (t : T) (h : H) (H0 : F63_8 (t 0) (t 1) (t 2) (t 6) (t 7) (t 8) h Kn Kr Ke1 Ke0) : Wp Tryz.prog 50 (seqL (rest 2 (blkC (seqL (rest 1 (lopC (blkC (rest 1 (bodyOf Tryz.f63.body))))))))) (mkQ (fun t h => Kn (t 0) (t 1) (t 2) (t 6) (t 7) h) (fun t h => Kr  h) (keAdd 1 (fun t h => Ke1 (t 0) (t 1) (t 2) (t 6) h) (keAdd 0 (fun t h => Ke0  h) ke0))) t h :=
  draw_okF (by kernel_rfl) (by kernel_rfl) H0 (by kernel_rfl)
def F63_9 (x0 x1 x2 x6 x7 : Value) (h : H) (Kn : Value → Value → Value → Value → H → Prop) (Kr : H → Prop) (Ke1 : Value → Value → Value → Value → H → Prop) (Ke0 : H → Prop) : Prop :=
  o_bin Tryz.prog .eql 3 x6 (.int .i64 0) fun v41 => o_guard v41 false (fun k5 => o_bin Tryz.prog .rem 24 x7 (.int .u32 256) fun v44 => o_bin Tryz.prog .eql 24 v44 (.int .u32 0) fun v45 => k5 v45 h) (fun v45 h => o_pick v41 (.bool true) v45 fun v46 => o_if v46 (o_call Tryz.prog 61 [x0, x7] h fun v49 h => Kn x0 x1 x2 x6 h) (Kn x0 x1 x2 x6 h)) h
theorem F63_9_ok (Kn Kr Ke1 Ke0) (t : T) (h : H) (H0 : F63_9 (t 0) (t 1) (t 2) (t 6) (t 7) h Kn Kr Ke1 Ke0) : Wp Tryz.prog 50 (seqR (rest 2 (blkC (seqL (rest 1 (lopC (blkC (rest 1 (bodyOf Tryz.f63.body))))))))) (mkQ (fun t h => Kn (t 0) (t 1) (t 2) (t 6) h) (fun t h => Kr  h) (keAdd 1 (fun t h => Ke1 (t 0) (t 1) (t 2) (t 6) h) (keAdd 0 (fun t h => Ke0  h) ke0))) t h :=
  wpEqF H0 (by kernel_rfl)
def F63_7 (x0 x1 x2 x6 x7 x8 : Value) (h : H) (Kn : Value → Value → Value → Value → H → Prop) (Kr : H → Prop) (Ke1 : Value → Value → Value → Value → H → Prop) (Ke0 : H → Prop) : Prop :=
  F63_8 x0 x1 x2 x6 x7 x8 h (fun y0 y1 y2 y6 y7 h => F63_9 y0 y1 y2 y6 y7 h Kn Kr Ke1 Ke0) Kr Ke1 Ke0
theorem F63_7_ok (Kn Kr Ke1 Ke0) (t : T) (h : H) (H0 : F63_7 (t 0) (t 1) (t 2) (t 6) (t 7) (t 8) h Kn Kr Ke1 Ke0) : Wp Tryz.prog 50 (rest 2 (blkC (seqL (rest 1 (lopC (blkC (rest 1 (bodyOf Tryz.f63.body)))))))) (mkQ (fun t h => Kn (t 0) (t 1) (t 2) (t 6) h) (fun t h => Kr  h) (keAdd 1 (fun t h => Ke1 (t 0) (t 1) (t 2) (t 6) h) (keAdd 0 (fun t h => Ke0  h) ke0))) t h :=
  seq_ok (by kernel_rfl) (fun t h H1 => F63_9_ok Kn Kr Ke1 Ke0 t h H1) (F63_8_ok (fun y0 y1 y2 y6 y7 h => F63_9 y0 y1 y2 y6 y7 h Kn Kr Ke1 Ke0) Kr Ke1 Ke0 t h H0)
def F63_6 (x0 x1 x2 x6 : Value) (h : H) (Kn : Value → Value → Value → Value → H → Prop) (Kr : H → Prop) (Ke1 : Value → Value → Value → Value → H → Prop) (Ke0 : H → Prop) : Prop :=
  o_conv .u32 x6 fun v18 => o_bin Tryz.prog .add 24 x1 v18 fun v19 => o_call Tryz.prog 60 [x0, v19] h fun v23 h => o_extract v23 0 fun v24 => o_extract v23 1 fun v25 => F63_7 x0 x1 x2 x6 v19 v24 h Kn Kr Ke1 Ke0
theorem F63_6_ok (Kn Kr Ke1 Ke0) (t : T) (h : H) (H0 : F63_6 (t 0) (t 1) (t 2) (t 6) h Kn Kr Ke1 Ke0) : Wp Tryz.prog 50 (blkC (seqL (rest 1 (lopC (blkC (rest 1 (bodyOf Tryz.f63.body))))))) (mkQ (fun t h => Kn (t 0) (t 1) (t 2) (t 6) h) (fun t h => Kr  h) (keAdd 1 (fun t h => Ke1 (t 0) (t 1) (t 2) (t 6) h) (keAdd 0 (fun t h => Ke0  h) ke0))) t h :=
  awpTo_okF 2 H0 (by kernel_rfl) (fun t h (H1 : F63_7 (t 0) (t 1) (t 2) (t 6) (t 7) (t 8) h Kn Kr Ke1 Ke0) => F63_7_ok Kn Kr Ke1 Ke0 t h H1) (by kernel_rfl)
def F63_5 (x0 x1 x2 x6 : Value) (h : H) (Kn : Value → Value → Value → Value → H → Prop) (Kr : H → Prop) (Ke0 : H → Prop) : Prop :=
  F63_6 x0 x1 x2 x6 h Kn Kr Kn Ke0
theorem F63_5_ok (Kn Kr Ke0) (t : T) (h : H) (H0 : F63_5 (t 0) (t 1) (t 2) (t 6) h Kn Kr Ke0) : Wp Tryz.prog 50 (seqL (rest 1 (lopC (blkC (rest 1 (bodyOf Tryz.f63.body)))))) (mkQ (fun t h => Kn (t 0) (t 1) (t 2) (t 6) h) (fun t h => Kr  h) (keAdd 0 (fun t h => Ke0  h) ke0)) t h :=
  block_ok 1 (by kernel_rfl) (by kernel_rfl) (F63_6_ok Kn Kr Kn Ke0 t h H0)
def F63_10 (x0 x1 x2 x6 : Value) (h : H) (Kn : Value → Value → Value → Value → H → Prop) (Kr : H → Prop) (Ke0 : H → Prop) : Prop :=
  o_bin Tryz.prog .add 3 x6 (.int .i64 1) fun v15 => Kn x0 x1 x2 v15 h
theorem F63_10_ok (Kn Kr Ke0) (t : T) (h : H) (H0 : F63_10 (t 0) (t 1) (t 2) (t 6) h Kn Kr Ke0) : Wp Tryz.prog 50 (seqR (rest 1 (lopC (blkC (rest 1 (bodyOf Tryz.f63.body)))))) (mkQ (fun t h => Kn (t 0) (t 1) (t 2) (t 6) h) (fun t h => Kr  h) (keAdd 0 (fun t h => Ke0  h) ke0)) t h :=
  wpEqF H0 (by kernel_rfl)
def F63_4 (x0 x1 x2 x6 : Value) (h : H) (Kn : Value → Value → Value → Value → H → Prop) (Kr : H → Prop) (Ke0 : H → Prop) : Prop :=
  F63_5 x0 x1 x2 x6 h (fun y0 y1 y2 y6 h => F63_10 y0 y1 y2 y6 h Kn Kr Ke0) Kr Ke0
theorem F63_4_ok (Kn Kr Ke0) (t : T) (h : H) (H0 : F63_4 (t 0) (t 1) (t 2) (t 6) h Kn Kr Ke0) : Wp Tryz.prog 50 (rest 1 (lopC (blkC (rest 1 (bodyOf Tryz.f63.body))))) (mkQ (fun t h => Kn (t 0) (t 1) (t 2) (t 6) h) (fun t h => Kr  h) (keAdd 0 (fun t h => Ke0  h) ke0)) t h :=
  seq_ok (by kernel_rfl) (fun t h H1 => F63_10_ok Kn Kr Ke0 t h H1) (F63_5_ok (fun y0 y1 y2 y6 h => F63_10 y0 y1 y2 y6 h Kn Kr Ke0) Kr Ke0 t h H0)
def F63_3 (x0 x1 x2 x6 : Value) (h : H) (Kn : Value → Value → Value → Value → H → Prop) (Kr : H → Prop) (Ke0 : H → Prop) : Prop :=
  o_lenSl x2 fun v12 => o_bin Tryz.prog .lss 3 x6 v12 fun v13 => o_if v13 (F63_4 x0 x1 x2 x6 h Kn Kr Ke0) (Ke0 h)
theorem F63_3_ok (Kn Kr Ke0) (t : T) (h : H) (H0 : F63_3 (t 0) (t 1) (t 2) (t 6) h Kn Kr Ke0) : Wp Tryz.prog 50 (lopC (blkC (rest 1 (bodyOf Tryz.f63.body)))) (mkQ (fun t h => Kn (t 0) (t 1) (t 2) (t 6) h) (fun t h => Kr  h) (keAdd 0 (fun t h => Ke0  h) ke0)) t h :=
  awpTo_okF 1 H0 (by kernel_rfl) (fun t h (H1 : F63_4 (t 0) (t 1) (t 2) (t 6) h Kn Kr Ke0) => F63_4_ok Kn Kr Ke0 t h H1) (by kernel_rfl)
def F63_2 (x0 x1 x2 x6 : Value) (h : H) (Kn : H → Prop) (Kr : H → Prop) (Ke0 : H → Prop) : Prop :=
  sloop (S := Value × Value × Value × Value) (fun s h K => F63_3 s.1 s.2.1 s.2.2.1 s.2.2.2 h (fun y0 y1 y2 y6 h => K (y0, y1, y2, y6) h) Kr Ke0) (x0, x1, x2, x6) h
theorem F63_2_ok (Kn Kr Ke0) (t : T) (h : H) (H0 : F63_2 (t 0) (t 1) (t 2) (t 6) h Kn Kr Ke0) : Wp Tryz.prog 50 (blkC (rest 1 (bodyOf Tryz.f63.body))) (mkQ (fun t h => Kn  h) (fun t h => Kr  h) (keAdd 0 (fun t h => Ke0  h) ke0)) t h :=
  loop_ok (fun t => (t 0, t 1, t 2, t 6)) (by kernel_rfl) (fun t h K H1 => F63_3_ok (fun y0 y1 y2 y6 h => K (y0, y1, y2, y6) h) Kr Ke0 t h H1) H0
def F63_1 (x0 x1 x2 x6 : Value) (h : H) (Kn : H → Prop) (Kr : H → Prop) : Prop :=
  F63_2 x0 x1 x2 x6 h Kn Kr Kn
theorem F63_1_ok (Kn Kr) (t : T) (h : H) (H0 : F63_1 (t 0) (t 1) (t 2) (t 6) h Kn Kr) : Wp Tryz.prog 50 (rest 1 (bodyOf Tryz.f63.body)) (mkQ (fun t h => Kn  h) (fun t h => Kr  h) ke0) t h :=
  block_ok 0 (by kernel_rfl) (by kernel_rfl) (F63_2_ok Kn Kr Kn t h H0)
def F63_0 (x0 x1 x2 : Value) (h : H) (Kn : H → Prop) (Kr : H → Prop) : Prop :=
  F63_1 x0 x1 x2 (.int .i64 0) h Kn Kr
theorem F63_0_ok (Kn Kr) (t : T) (h : H) (H0 : F63_0 (t 0) (t 1) (t 2) h Kn Kr) : Wp Tryz.prog 50 (bodyOf Tryz.f63.body) (mkQ (fun t h => Kn  h) (fun t h => Kr  h) ke0) t h :=
  awpTo_okF 1 H0 (by kernel_rfl) (fun t h (H1 : F63_1 (t 0) (t 1) (t 2) (t 6) h Kn Kr) => F63_1_ok Kn Kr t h H1) (by kernel_rfl)
def F63 (x0 x1 x2 : Value) (h : H) (Q : Value → H → Prop) : Prop := F63_0 x0 x1 x2 h (fun h => bif [].all boxV then Q (.tuple #[]) h else False) (fun h => bif [].all boxV then Q (.tuple #[]) h else False)
theorem F63_spec (x0 x1 x2 : Value) (h : H) (Q : Value → H → Prop) (H0 : F63 x0 x1 x2 h Q) : AM.Spec Tryz.prog 63 [x0, x1, x2] h Q :=
  spec_wp mixed (fn := Tryz.f63) Tryz.func63 (c := bodyOf Tryz.f63.body) (rs := []) (N := 50) (by kernel_rfl) (by kernel_rfl) (by kernel_rfl) (by kernel_rfl) (by kernel_rfl) (Nat.le_of_ble_eq_true rfl) (F63_0_ok (fun h => bif [].all boxV then Q (.tuple #[]) h else False) (fun h => bif [].all boxV then Q (.tuple #[]) h else False) (tinit [x0, x1, x2]) h H0) (by kernel_rfl)
/-! #### 92: (*tincture/mem.Mem).within -/
def F92_5 (x1 x2 x7 x13 : Value) (h : H) (Kn : Value → Value → Value → Value → H → Prop) (Kr : Value → H → Prop) (Ke0 : Value → H → Prop) : Prop :=
  o_next x13 h fun v14 h => o_extract v14 0 fun v15 => o_if v15 (o_entry x13 h fun v16 => o_extract v16 0 fun v17 => o_bin Tryz.prog .geq 24 v17 x1 fun v20 => o_guard v20 true (fun k11 => o_conv .u64 v17 fun v23 => o_conv .u64 x1 fun v25 => o_bin Tryz.prog .mul 97 x2 (.int .u64 256) fun v27 => o_bin Tryz.prog .add 97 v25 v27 fun v28 => o_bin Tryz.prog .lss 97 v23 v28 fun v29 => k11 v29 h) (fun v29 h => o_pick v20 v29 (.bool false) fun v30 => o_if v30 (o_buildSlice Tryz.prog 35 1 [(0, v17)] h fun v33 h => o_append 24 1 4 x7 v33 h fun v34 h => Kn x1 x2 v34 x13 h) (Kn x1 x2 x7 x13 h)) h) (Ke0 x7 h)
theorem F92_5_ok (Kn Kr Ke0) (t : T) (h : H) (H0 : F92_5 (t 1) (t 2) (t 7) (t 13) h Kn Kr Ke0) : Wp Tryz.prog 36 (lopC (blkC (rest 1 (seqL (rest 2 (bodyOf Tryz.f92.body)))))) (mkQ (fun t h => Kn (t 1) (t 2) (t 7) (t 13) h) (fun t h => Kr (t 6) h) (keAdd 0 (fun t h => Ke0 (t 7) h) ke0)) t h :=
  wpEqF H0 (by kernel_rfl)
def F92_4 (x1 x2 x7 x13 : Value) (h : H) (Kn : Value → H → Prop) (Kr : Value → H → Prop) (Ke0 : Value → H → Prop) : Prop :=
  sloop (S := Value × Value × Value × Value) (fun s h K => F92_5 s.1 s.2.1 s.2.2.1 s.2.2.2 h (fun y1 y2 y7 y13 h => K (y1, y2, y7, y13) h) Kr Ke0) (x1, x2, x7, x13) h
theorem F92_4_ok (Kn Kr Ke0) (t : T) (h : H) (H0 : F92_4 (t 1) (t 2) (t 7) (t 13) h Kn Kr Ke0) : Wp Tryz.prog 36 (blkC (rest 1 (seqL (rest 2 (bodyOf Tryz.f92.body))))) (mkQ (fun t h => Kn (t 7) h) (fun t h => Kr (t 6) h) (keAdd 0 (fun t h => Ke0 (t 7) h) ke0)) t h :=
  loop_ok (fun t => (t 1, t 2, t 7, t 13)) (by kernel_rfl) (fun t h K H1 => F92_5_ok (fun y1 y2 y7 y13 h => K (y1, y2, y7, y13) h) Kr Ke0 t h H1) H0
def F92_3 (x1 x2 x7 x13 : Value) (h : H) (Kn : Value → H → Prop) (Kr : Value → H → Prop) : Prop :=
  F92_4 x1 x2 x7 x13 h Kn Kr Kn
theorem F92_3_ok (Kn Kr) (t : T) (h : H) (H0 : F92_3 (t 1) (t 2) (t 7) (t 13) h Kn Kr) : Wp Tryz.prog 36 (rest 1 (seqL (rest 2 (bodyOf Tryz.f92.body)))) (mkQ (fun t h => Kn (t 7) h) (fun t h => Kr (t 6) h) ke0) t h :=
  block_ok 0 (by kernel_rfl) (by kernel_rfl) (F92_4_ok Kn Kr Kn t h H0)
def F92_2 (x0 x1 x2 x7 : Value) (h : H) (Kn : Value → H → Prop) (Kr : Value → H → Prop) : Prop :=
  o_nilCheck x0 fun v10 => o_fieldAddr 1 v10 fun v11 => o_load false 1 v11 h fun v12 => o_range v12 h fun v13 h => F92_3 x1 x2 x7 v13 h Kn Kr
theorem F92_2_ok (Kn Kr) (t : T) (h : H) (H0 : F92_2 (t 0) (t 1) (t 2) (t 7) h Kn Kr) : Wp Tryz.prog 36 (seqL (rest 2 (bodyOf Tryz.f92.body))) (mkQ (fun t h => Kn (t 7) h) (fun t h => Kr (t 6) h) ke0) t h :=
  awpTo_okF 1 H0 (by kernel_rfl) (fun t h (H1 : F92_3 (t 1) (t 2) (t 7) (t 13) h Kn Kr) => F92_3_ok Kn Kr t h H1) (by kernel_rfl)
def F92_6 (x7 : Value) (h : H) (Kn : Value → H → Prop) (Kr : Value → H → Prop) : Prop :=
  Kr x7 h
theorem F92_6_ok (Kn Kr) (t : T) (h : H) (H0 : F92_6 (t 7) h Kn Kr) : Wp Tryz.prog 36 (seqR (rest 2 (bodyOf Tryz.f92.body))) (mkQ (fun t h => Kn (t 6) h) (fun t h => Kr (t 6) h) ke0) t h :=
  wpEqF H0 (by kernel_rfl)
def F92_1 (x0 x1 x2 x7 : Value) (h : H) (Kn : Value → H → Prop) (Kr : Value → H → Prop) : Prop :=
  F92_2 x0 x1 x2 x7 h (fun y7 h => F92_6 y7 h Kn Kr) Kr
theorem F92_1_ok (Kn Kr) (t : T) (h : H) (H0 : F92_1 (t 0) (t 1) (t 2) (t 7) h Kn Kr) : Wp Tryz.prog 36 (rest 2 (bodyOf Tryz.f92.body)) (mkQ (fun t h => Kn (t 6) h) (fun t h => Kr (t 6) h) ke0) t h :=
  seq_ok (by kernel_rfl) (fun t h H1 => F92_6_ok Kn Kr t h H1) (F92_2_ok (fun y7 h => F92_6 y7 h Kn Kr) Kr t h H0)
def F92_0 (x0 x1 x2 : Value) (h : H) (Kn : Value → H → Prop) (Kr : Value → H → Prop) : Prop :=
  F92_1 x0 x1 x2 (.slice none 0 0) h Kn Kr
theorem F92_0_ok (Kn Kr) (t : T) (h : H) (H0 : F92_0 (t 0) (t 1) (t 2) h Kn Kr) : Wp Tryz.prog 36 (bodyOf Tryz.f92.body) (mkQ (fun t h => Kn (t 6) h) (fun t h => Kr (t 6) h) ke0) t h :=
  awpTo_okF 2 H0 (by kernel_rfl) (fun t h (H1 : F92_1 (t 0) (t 1) (t 2) (t 7) h Kn Kr) => F92_1_ok Kn Kr t h H1) (by kernel_rfl)
def F92 (x0 x1 x2 : Value) (h : H) (Q : Value → H → Prop) : Prop := F92_0 x0 x1 x2 h (fun v h => Q v h) (fun v h => Q v h)
theorem F92_spec (x0 x1 x2 : Value) (h : H) (Q : Value → H → Prop) (H0 : F92 x0 x1 x2 h Q) : AM.Spec Tryz.prog 92 [x0, x1, x2] h Q :=
  spec_wp mixed (fn := Tryz.f92) Tryz.func92 (c := bodyOf Tryz.f92.body) (rs := [6]) (N := 36) (by kernel_rfl) (by kernel_rfl) (by kernel_rfl) (by kernel_rfl) (by kernel_rfl) (Nat.le_of_ble_eq_true rfl) (F92_0_ok (fun v h => Q v h) (fun v h => Q v h) (tinit [x0, x1, x2]) h H0) (by kernel_rfl)
/-! #### 93: (*tincture/mem.Mem).write -/
def F93_10 (x0 x1 x11 x12 x13 x27 x28 x29 : Value) (h : H) (Kn : Value → Value → Value → Value → Value → Value → Value → H → Prop) (Kr : Value → H → Prop) (Ke2 : Value → Value → Value → Value → Value → H → Prop) (Ke1 : H → Prop) : Prop :=
  o_nilCheck x0 fun v39 => o_fieldAddr 1 v39 fun v40 => o_load false 1 v40 h fun v41 => o_dcall D0 138 [x13] h fun v43 h => o_lookup (.int .u32) (.pointer none) v41 v43 false h fun v44 => o_bin Tryz.prog .rem 24 x13 (.int .u32 256) fun v46 => o_nilCheck v44 fun v48 => o_fieldAddr 0 v48 fun v49 => o_indexAddr (some 256) 1 v49 v46 fun v50 => o_store 1 v50 x12 h fun h => Kn x0 x1 x11 x13 x27 x28 x29 h
theorem F93_10_ok (Kn Kr Ke2 Ke1) (t : T) (h : H) (H0 : F93_10 (t 0) (t 1) (t 11) (t 12) (t 13) (t 27) (t 28) (t 29) h Kn Kr Ke2 Ke1) : Wp Tryz.prog 67 (seqL (rest 2 (blkC (seqL (rest 2 (lopC (blkC (rest 1 (seqL (rest 2 (bodyOf Tryz.f93.body))))))))))) (mkQ (fun t h => Kn (t 0) (t 1) (t 11) (t 13) (t 27) (t 28) (t 29) h) (fun t h => Kr (t 10) h) (keAdd 2 (fun t h => Ke2 (t 0) (t 1) (t 27) (t 28) (t 29) h) (keAdd 1 (fun t h => Ke1  h) ke0))) t h :=
  drawD_ok dOk (by kernel_rfl) (by kernel_rfl) H0 (by kernel_rfl)
def F93_13 (x0 x1 x13 x27 x28 x29 : Value) (h : H) (Kn : Value → Value → Value → Value → Value → H → Prop) (Kr : Value → H → Prop) (Ke2 : Value → Value → Value → Value → Value → H → Prop) (Ke1 : H → Prop) : Prop :=
  o_nilCheck x0 fun v59 => o_fieldAddr 2 v59 fun v60 => o_load false 1 v60 h fun v61 => o_dcall D0 138 [x13] h fun v63 h => o_lookup (.int .u32) (.int .u32 0) v61 v63 false h fun v64 => o_bin Tryz.prog .add 24 v64 (.int .u32 1) fun v65 => o_mapUpdate (.int .u32) v61 v63 v65 h fun h => Kn x0 x1 x27 x28 x29 h
theorem F93_13_ok (Kn Kr Ke2 Ke1) (t : T) (h : H) (H0 : F93_13 (t 0) (t 1) (t 13) (t 27) (t 28) (t 29) h Kn Kr Ke2 Ke1) : Wp Tryz.prog 67 (cndX (rest 1 (seqR (rest 2 (blkC (seqL (rest 2 (lopC (blkC (rest 1 (seqL (rest 2 (bodyOf Tryz.f93.body))))))))))))) (mkQ (fun t h => Kn (t 0) (t 1) (t 27) (t 28) (t 29) h) (fun t h => Kr (t 10) h) (keAdd 2 (fun t h => Ke2 (t 0) (t 1) (t 27) (t 28) (t 29) h) (keAdd 1 (fun t h => Ke1  h) ke0))) t h :=
  drawD_ok dOk (by kernel_rfl) (by kernel_rfl) H0 (by kernel_rfl)
def F93_14 (x0 x1 x27 x28 x29 : Value) (h : H) (Kn : Value → Value → Value → Value → Value → H → Prop) (Kr : Value → H → Prop) (Ke2 : Value → Value → Value → Value → Value → H → Prop) (Ke1 : H → Prop) : Prop :=
  Kn x0 x1 x27 x28 x29 h
theorem F93_14_ok (Kn Kr Ke2 Ke1) (t : T) (h : H) (H0 : F93_14 (t 0) (t 1) (t 27) (t 28) (t 29) h Kn Kr Ke2 Ke1) : Wp Tryz.prog 67 (cndY (rest 1 (seqR (rest 2 (blkC (seqL (rest 2 (lopC (blkC (rest 1 (seqL (rest 2 (bodyOf Tryz.f93.body))))))))))))) (mkQ (fun t h => Kn (t 0) (t 1) (t 27) (t 28) (t 29) h) (fun t h => Kr (t 10) h) (keAdd 2 (fun t h => Ke2 (t 0) (t 1) (t 27) (t 28) (t 29) h) (keAdd 1 (fun t h => Ke1  h) ke0))) t h :=
  wpEqF H0 (by kernel_rfl)
def F93_12 (x0 x1 x13 x27 x28 x29 x57 : Value) (h : H) (Kn : Value → Value → Value → Value → Value → H → Prop) (Kr : Value → H → Prop) (Ke2 : Value → Value → Value → Value → Value → H → Prop) (Ke1 : H → Prop) : Prop :=
  o_if x57 (F93_13 x0 x1 x13 x27 x28 x29 h Kn Kr Ke2 Ke1) (F93_14 x0 x1 x27 x28 x29 h Kn Kr Ke2 Ke1)
theorem F93_12_ok (Kn Kr Ke2 Ke1) (t : T) (h : H) (H0 : F93_12 (t 0) (t 1) (t 13) (t 27) (t 28) (t 29) (t 57) h Kn Kr Ke2 Ke1) : Wp Tryz.prog 67 (rest 1 (seqR (rest 2 (blkC (seqL (rest 2 (lopC (blkC (rest 1 (seqL (rest 2 (bodyOf Tryz.f93.body)))))))))))) (mkQ (fun t h => Kn (t 0) (t 1) (t 27) (t 28) (t 29) h) (fun t h => Kr (t 10) h) (keAdd 2 (fun t h => Ke2 (t 0) (t 1) (t 27) (t 28) (t 29) h) (keAdd 1 (fun t h => Ke1  h) ke0))) t h :=
  cond_ok H0 (by kernel_rfl) (F93_13_ok Kn Kr Ke2 Ke1 t h) (F93_14_ok Kn Kr Ke2 Ke1 t h) (by kernel_rfl)
def F93_11 (x0 x1 x11 x13 x27 x28 x29 : Value) (h : H) (Kn : Value → Value → Value → Value → Value → H → Prop) (Kr : Value → H → Prop) (Ke2 : Value → Value → Value → Value → Value → H → Prop) (Ke1 : H → Prop) : Prop :=
  o_bin Tryz.prog .eql 3 x11 (.int .i64 0) fun v52 => o_guard v52 false (fun k5 => o_bin Tryz.prog .rem 24 x13 (.int .u32 256) fun v55 => o_bin Tryz.prog .eql 24 v55 (.int .u32 0) fun v56 => k5 v56 h) (fun v56 h => o_pick v52 (.bool true) v56 fun v57 => F93_12 x0 x1 x13 x27 x28 x29 v57 h Kn Kr Ke2 Ke1) h
theorem F93_11_ok (Kn Kr Ke2 Ke1) (t : T) (h : H) (H0 : F93_11 (t 0) (t 1) (t 11) (t 13) (t 27) (t 28) (t 29) h Kn Kr Ke2 Ke1) : Wp Tryz.prog 67 (seqR (rest 2 (blkC (seqL (rest 2 (lopC (blkC (rest 1 (seqL (rest 2 (bodyOf Tryz.f93.body))))))))))) (mkQ (fun t h => Kn (t 0) (t 1) (t 27) (t 28) (t 29) h) (fun t h => Kr (t 10) h) (keAdd 2 (fun t h => Ke2 (t 0) (t 1) (t 27) (t 28) (t 29) h) (keAdd 1 (fun t h => Ke1  h) ke0))) t h :=
  awpTo_okF 1 H0 (by kernel_rfl) (fun t h (H1 : F93_12 (t 0) (t 1) (t 13) (t 27) (t 28) (t 29) (t 57) h Kn Kr Ke2 Ke1) => F93_12_ok Kn Kr Ke2 Ke1 t h H1) (by kernel_rfl)
def F93_9 (x0 x1 x11 x12 x13 x27 x28 x29 : Value) (h : H) (Kn : Value → Value → Value → Value → Value → H → Prop) (Kr : Value → H → Prop) (Ke2 : Value → Value → Value → Value → Value → H → Prop) (Ke1 : H → Prop) : Prop :=
  F93_10 x0 x1 x11 x12 x13 x27 x28 x29 h (fun y0 y1 y11 y13 y27 y28 y29 h => F93_11 y0 y1 y11 y13 y27 y28 y29 h Kn Kr Ke2 Ke1) Kr Ke2 Ke1
theorem F93_9_ok (Kn Kr Ke2 Ke1) (t : T) (h : H) (H0 : F93_9 (t 0) (t 1) (t 11) (t 12) (t 13) (t 27) (t 28) (t 29) h Kn Kr Ke2 Ke1) : Wp Tryz.prog 67 (rest 2 (blkC (seqL (rest 2 (lopC (blkC (rest 1 (seqL (rest 2 (bodyOf Tryz.f93.body)))))))))) (mkQ (fun t h => Kn (t 0) (t 1) (t 27) (t 28) (t 29) h) (fun t h => Kr (t 10) h) (keAdd 2 (fun t h => Ke2 (t 0) (t 1) (t 27) (t 28) (t 29) h) (keAdd 1 (fun t h => Ke1  h) ke0))) t h :=
  seq_ok (by kernel_rfl) (fun t h H1 => F93_11_ok Kn Kr Ke2 Ke1 t h H1) (F93_10_ok (fun y0 y1 y11 y13 y27 y28 y29 h => F93_11 y0 y1 y11 y13 y27 y28 y29 h Kn Kr Ke2 Ke1) Kr Ke2 Ke1 t h H0)
def F93_8 (x0 x1 x27 x28 x29 : Value) (h : H) (Kn : Value → Value → Value → Value → Value → H → Prop) (Kr : Value → H → Prop) (Ke2 : Value → Value → Value → Value → Value → H → Prop) (Ke1 : H → Prop) : Prop :=
  o_indexAddr none 1 x27 x29 fun v32 => o_load false 1 v32 h fun v33 => o_conv .u32 x29 fun v36 => o_bin Tryz.prog .add 24 x1 v36 fun v37 => F93_9 x0 x1 x29 v33 v37 x27 x28 x29 h Kn Kr Ke2 Ke1
theorem F93_8_ok (Kn Kr Ke2 Ke1) (t : T) (h : H) (H0 : F93_8 (t 0) (t 1) (t 27) (t 28) (t 29) h Kn Kr Ke2 Ke1) : Wp Tryz.prog 67 (blkC (seqL (rest 2 (lopC (blkC (rest 1 (seqL (rest 2 (bodyOf Tryz.f93.body))))))))) (mkQ (fun t h => Kn (t 0) (t 1) (t 27) (t 28) (t 29) h) (fun t h => Kr (t 10) h) (keAdd 2 (fun t h => Ke2 (t 0) (t 1) (t 27) (t 28) (t 29) h) (keAdd 1 (fun t h => Ke1  h) ke0))) t h :=
  awpTo_okF 2 H0 (by kernel_rfl) (fun t h (H1 : F93_9 (t 0) (t 1) (t 11) (t 12) (t 13) (t 27) (t 28) (t 29) h Kn Kr Ke2 Ke1) => F93_9_ok Kn Kr Ke2 Ke1 t h H1) (by kernel_rfl)
def F93_7 (x0 x1 x27 x28 x29 : Value) (h : H) (Kn : Value → Value → Value → Value → Value → H → Prop) (Kr : Value → H → Prop) (Ke1 : H → Prop) : Prop :=
  F93_8 x0 x1 x27 x28 x29 h Kn Kr Kn Ke1
theorem F93_7_ok (Kn Kr Ke1) (t : T) (h : H) (H0 : F93_7 (t 0) (t 1) (t 27) (t 28) (t 29) h Kn Kr Ke1) : Wp Tryz.prog 67 (seqL (rest 2 (lopC (blkC (rest 1 (seqL (rest 2 (bodyOf Tryz.f93.body)))))))) (mkQ (fun t h => Kn (t 0) (t 1) (t 27) (t 28) (t 29) h) (fun t h => Kr (t 10) h) (keAdd 1 (fun t h => Ke1  h) ke0)) t h :=
  block_ok 2 (by kernel_rfl) (by kernel_rfl) (F93_8_ok Kn Kr Kn Ke1 t h H0)
def F93_15 (x0 x1 x27 x28 x29 : Value) (h : H) (Kn : Value → Value → Value → Value → Value → H → Prop) (Kr : Value → H → Prop) (Ke1 : H → Prop) : Prop :=
  o_bin Tryz.prog .add 3 x29 (.int .i64 1) fun v66 => Kn x0 x1 x27 x28 v66 h
theorem F93_15_ok (Kn Kr Ke1) (t : T) (h : H) (H0 : F93_15 (t 0) (t 1) (t 27) (t 28) (t 29) h Kn Kr Ke1) : Wp Tryz.prog 67 (seqR (rest 2 (lopC (blkC (rest 1 (seqL (rest 2 (bodyOf Tryz.f93.body)))))))) (mkQ (fun t h => Kn (t 0) (t 1) (t 27) (t 28) (t 29) h) (fun t h => Kr (t 10) h) (keAdd 1 (fun t h => Ke1  h) ke0)) t h :=
  wpEqF H0 (by kernel_rfl)
def F93_6 (x0 x1 x27 x28 x29 : Value) (h : H) (Kn : Value → Value → Value → Value → Value → H → Prop) (Kr : Value → H → Prop) (Ke1 : H → Prop) : Prop :=
  F93_7 x0 x1 x27 x28 x29 h (fun y0 y1 y27 y28 y29 h => F93_15 y0 y1 y27 y28 y29 h Kn Kr Ke1) Kr Ke1
theorem F93_6_ok (Kn Kr Ke1) (t : T) (h : H) (H0 : F93_6 (t 0) (t 1) (t 27) (t 28) (t 29) h Kn Kr Ke1) : Wp Tryz.prog 67 (rest 2 (lopC (blkC (rest 1 (seqL (rest 2 (bodyOf Tryz.f93.body))))))) (mkQ (fun t h => Kn (t 0) (t 1) (t 27) (t 28) (t 29) h) (fun t h => Kr (t 10) h) (keAdd 1 (fun t h => Ke1  h) ke0)) t h :=
  seq_ok (by kernel_rfl) (fun t h H1 => F93_15_ok Kn Kr Ke1 t h H1) (F93_7_ok (fun y0 y1 y27 y28 y29 h => F93_15 y0 y1 y27 y28 y29 h Kn Kr Ke1) Kr Ke1 t h H0)
def F93_5 (x0 x1 x27 x28 x29 : Value) (h : H) (Kn : Value → Value → Value → Value → Value → H → Prop) (Kr : Value → H → Prop) (Ke1 : H → Prop) : Prop :=
  o_bin Tryz.prog .lss 3 x29 x28 fun v30 => o_if v30 (F93_6 x0 x1 x27 x28 x29 h Kn Kr Ke1) (Ke1 h)
theorem F93_5_ok (Kn Kr Ke1) (t : T) (h : H) (H0 : F93_5 (t 0) (t 1) (t 27) (t 28) (t 29) h Kn Kr Ke1) : Wp Tryz.prog 67 (lopC (blkC (rest 1 (seqL (rest 2 (bodyOf Tryz.f93.body)))))) (mkQ (fun t h => Kn (t 0) (t 1) (t 27) (t 28) (t 29) h) (fun t h => Kr (t 10) h) (keAdd 1 (fun t h => Ke1  h) ke0)) t h :=
  awpTo_okF 2 H0 (by kernel_rfl) (fun t h (H1 : F93_6 (t 0) (t 1) (t 27) (t 28) (t 29) h Kn Kr Ke1) => F93_6_ok Kn Kr Ke1 t h H1) (by kernel_rfl)
def F93_4 (x0 x1 x27 x28 x29 : Value) (h : H) (Kn : H → Prop) (Kr : Value → H → Prop) (Ke1 : H → Prop) : Prop :=
  sloop (S := Value × Value × Value × Value × Value) (fun s h K => F93_5 s.1 s.2.1 s.2.2.1 s.2.2.2.1 s.2.2.2.2 h (fun y0 y1 y27 y28 y29 h => K (y0, y1, y27, y28, y29) h) Kr Ke1) (x0, x1, x27, x28, x29) h
theorem F93_4_ok (Kn Kr Ke1) (t : T) (h : H) (H0 : F93_4 (t 0) (t 1) (t 27) (t 28) (t 29) h Kn Kr Ke1) : Wp Tryz.prog 67 (blkC (rest 1 (seqL (rest 2 (bodyOf Tryz.f93.body))))) (mkQ (fun t h => Kn  h) (fun t h => Kr (t 10) h) (keAdd 1 (fun t h => Ke1  h) ke0)) t h :=
  loop_ok (fun t => (t 0, t 1, t 27, t 28, t 29)) (by kernel_rfl) (fun t h K H1 => F93_5_ok (fun y0 y1 y27 y28 y29 h => K (y0, y1, y27, y28, y29) h) Kr Ke1 t h H1) H0
def F93_3 (x0 x1 x27 x28 x29 : Value) (h : H) (Kn : H → Prop) (Kr : Value → H → Prop) : Prop :=
  F93_4 x0 x1 x27 x28 x29 h Kn Kr Kn
theorem F93_3_ok (Kn Kr) (t : T) (h : H) (H0 : F93_3 (t 0) (t 1) (t 27) (t 28) (t 29) h Kn Kr) : Wp Tryz.prog 67 (rest 1 (seqL (rest 2 (bodyOf Tryz.f93.body)))) (mkQ (fun t h => Kn  h) (fun t h => Kr (t 10) h) ke0) t h :=
  block_ok 1 (by kernel_rfl) (by kernel_rfl) (F93_4_ok Kn Kr Kn t h H0)
def F93_2 (x0 x1 x2 : Value) (h : H) (Kn : H → Prop) (Kr : Value → H → Prop) : Prop :=
  o_lenSl x2 fun v28 => F93_3 x0 x1 x2 v28 (.int .i64 0) h Kn Kr
theorem F93_2_ok (Kn Kr) (t : T) (h : H) (H0 : F93_2 (t 0) (t 1) (t 2) h Kn Kr) : Wp Tryz.prog 67 (seqL (rest 2 (bodyOf Tryz.f93.body))) (mkQ (fun t h => Kn  h) (fun t h => Kr (t 10) h) ke0) t h :=
  awpTo_okF 1 H0 (by kernel_rfl) (fun t h (H1 : F93_3 (t 0) (t 1) (t 27) (t 28) (t 29) h Kn Kr) => F93_3_ok Kn Kr t h H1) (by kernel_rfl)
def F93_16 (h : H) (Kn : Value → H → Prop) (Kr : Value → H → Prop) : Prop :=
  Kr (.int .i64 0) h
theorem F93_16_ok (Kn Kr) (t : T) (h : H) (H0 : F93_16  h Kn Kr) : Wp Tryz.prog 67 (seqR (rest 2 (bodyOf Tryz.f93.body))) (mkQ (fun t h => Kn (t 10) h) (fun t h => Kr (t 10) h) ke0) t h :=
  wpEqF H0 (by kernel_rfl)
def F93_1 (x0 x1 x2 : Value) (h : H) (Kn : Value → H → Prop) (Kr : Value → H → Prop) : Prop :=
  F93_2 x0 x1 x2 h (fun  h => F93_16  h Kn Kr) Kr
theorem F93_1_ok (Kn Kr) (t : T) (h : H) (H0 : F93_1 (t 0) (t 1) (t 2) h Kn Kr) : Wp Tryz.prog 67 (rest 2 (bodyOf Tryz.f93.body)) (mkQ (fun t h => Kn (t 10) h) (fun t h => Kr (t 10) h) ke0) t h :=
  seq_ok (by kernel_rfl) (fun t h H1 => F93_16_ok Kn Kr t h H1) (F93_2_ok (fun  h => F93_16  h Kn Kr) Kr t h H0)
def F93_0 (x0 x1 x2 x3 x4 : Value) (h : H) (Kn : Value → H → Prop) (Kr : Value → H → Prop) : Prop :=
  o_lenSl x2 fun v16 => o_bin Tryz.prog .gtr 3 v16 x3 fun v18 => o_if v18 (Kr (.int .i64 1) h) (o_lenSl x2 fun v23 => o_call Tryz.prog 137 [x0, x1, v23, x4] h fun v25 h => o_un Tryz.prog .not v25 fun v26 => o_if v26 (Kr (.int .i64 8) h) (F93_1 x0 x1 x2 h Kn Kr))
theorem F93_0_ok (Kn Kr) (t : T) (h : H) (H0 : F93_0 (t 0) (t 1) (t 2) (t 3) (t 4) h Kn Kr) : Wp Tryz.prog 67 (bodyOf Tryz.f93.body) (mkQ (fun t h => Kn (t 10) h) (fun t h => Kr (t 10) h) ke0) t h :=
  awpTo_okF 2 H0 (by kernel_rfl) (fun t h (H1 : F93_1 (t 0) (t 1) (t 2) h Kn Kr) => F93_1_ok Kn Kr t h H1) (by kernel_rfl)
def F93 (x0 x1 x2 x3 x4 : Value) (h : H) (Q : Value → H → Prop) : Prop := F93_0 x0 x1 x2 x3 x4 h (fun v h => Q v h) (fun v h => Q v h)
theorem F93_spec (x0 x1 x2 x3 x4 : Value) (h : H) (Q : Value → H → Prop) (H0 : F93 x0 x1 x2 x3 x4 h Q) : AM.Spec Tryz.prog 93 [x0, x1, x2, x3, x4] h Q :=
  spec_wp mixed (fn := Tryz.f93) Tryz.func93 (c := bodyOf Tryz.f93.body) (rs := [10]) (N := 67) (by kernel_rfl) (by kernel_rfl) (by kernel_rfl) (by kernel_rfl) (by kernel_rfl) (Nat.le_of_ble_eq_true rfl) (F93_0_ok (fun v h => Q v h) (fun v h => Q v h) (tinit [x0, x1, x2, x3, x4]) h H0) (by kernel_rfl)
end Go.Proofs.YtbmfblmebhobiaaGreat

/-
  Summaries of functions with long loops, for the executor: what they do, a page at a time.
-/
set_option linter.unusedSimpArgs false
set_option linter.unusedVariables false
namespace Go.Proofs.YtbmfblmebhobiaaGreat.AM
noncomputable section

/-- A value's number. -/
def natC (x : XA) : Option Nat := match x with | .c (.int _ (.ofNat n)) => some n | _ => none
def ptrC (x : XA) : Option (Nat × Nat) := match x with | .c (.pointer (some ⟨b, o, none⟩)) => some (b, o) | _ => none
def mapC (v : Value) : Option Nat := match v with | .map (some m) => some m | _ => none
def cellE (eh : EH) (b o : Nat) : Option Value := match eh.get b with | some (.cells r _ _) => r.get o | _ => none

/-! ### mem: within, where no page of the stretch is there -/
def outside (addr last : Nat) : List (Value × XA) → Bool
  | [] => true
  | e :: l => (match e.1 with | .int .u32 (.ofNat k) => Nat.blt k 4294967296 && (Nat.blt k addr || Nat.ble last k) | _ => false) && outside addr last l
def s_within (args : List XA) (eh : EH) (n : Nat) : Res :=
  match args with
  | [m, .c (.int .u32 (.ofNat addr)), .c (.int .u64 (.ofNat many))] => (match ptrC m with
    | some (mb, mo) => (match cellE eh mb (mo + 1) with
      | some (.map (some pm)) => (match eh.get pm with
        | some (.map (.int .u32) es _) => bif outside addr (addr + many * 256) es && Nat.blt (addr + many * 256) 18446744073709551616 && Nat.blt (many * 256) 18446744073709551616 then some (.a (.c (.slice none 0 0)), eh, n) else none
        | _ => none)
      | _ => none)
    | none => none)
  | _ => none

/-! ### mem: write -/
/-- A byte, or more, of one page; the page's number of changes behind the first. -/
structure WP where
  mb : Nat
  mo : Nat
  bb : Nat
  bo : Nat
  len : Nat
def w_page (p : WP) (eh : EH) (a : Nat) : Option (Nat × Nat) :=
  match cellE eh p.mb (p.mo + 1) with
  | some (.map (some pm)) => (match eh.get pm with
    | some (.map (.int .u32) es _) => (match xfind es (.int .u32 (.ofNat (Nat.sub a (Nat.mod a 256)))) with
      | some (.c (.pointer (some ⟨pb, po, none⟩))) => some (pb, po)
      | _ => none)
    | _ => none)
  | _ => none
def w_first (p : WP) (eh : EH) (a i : Nat) : Option EH :=
  match w_page p eh a, cellE eh p.bb (p.bo + i) with
  | some (pb, po), some v => (match eh.get pb with
    | some (.cells r E w) => bif notRo w && Nat.blt (po + Nat.mod a 256) r.size && Nat.blt a 4294967296 then
        some (eh.set pb (.cells (r.set (po + Nat.mod a 256) v) E w)) else none
    | _ => none)
  | _, _ => none
def w_gen (p : WP) (eh : EH) (a : Nat) : Option EH :=
  match cellE eh p.mb (p.mo + 2) with
  | some (.map (some gm)) => (match eh.get gm with
    | some (.map (.int .u32) gs c) => (match xfind gs (.int .u32 (.ofNat (Nat.sub a (Nat.mod a 256)))) with
      | some (.c (.int .u32 x)) => some (eh.set gm (.map (.int .u32) (xset gs (.int .u32 (.ofNat (Nat.sub a (Nat.mod a 256)))) (.c (.int .u32 (wrapF .u32 (x + 1))))) c))
      | _ => none)
    | _ => none)
  | _ => none
def w_rest (p : WP) (eh : EH) (a i cnt : Nat) : Option EH :=
  bif Nat.beq cnt 0 then some eh else
  match w_page p eh a, eh.get p.bb with
  | some (pb, po), some (.cells br _ _) => (match eh.get pb with
    | some (.cells r E w) => bif notRo w && !Nat.beq pb p.mb && !Nat.beq pb p.bb && Nat.ble (po + Nat.mod a 256 + cnt) r.size && Nat.ble (p.bo + i + cnt) br.size then
        some (eh.set pb (.cells (r.splice (po + Nat.mod a 256) ((br.drop (p.bo + i)).take cnt)) E w)) else none
    | _ => none)
  | _, _ => none
def minN (a b : Nat) : Nat := bc (Nat.ble a b) a b
/-- The bytes from i on, at a: a page at a time. -/
def w_run (p : WP) : Nat → EH → Nat → Nat → Option EH
  | 0, eh, a, i => bif Nat.beq i p.len then some eh else none
  | f + 1, eh, a, i => bif Nat.beq i p.len then some eh else
    match w_first p eh a i with
    | some eh => (match w_gen p eh a with
      | some eh => (match w_rest p eh (a + 1) (i + 1) (minN (p.len - i) (256 - Nat.mod a 256) - 1) with
        | some eh => w_run p f eh (a + minN (p.len - i) (256 - Nat.mod a 256)) (i + minN (p.len - i) (256 - Nat.mod a 256))
        | none => none)
      | none => none)
    | none => none
def isTrueX : XV → Bool
  | .a (.c (.bool b)) => b
  | _ => false
def s_write (C : CallF) (fAll : Nat) (args : List XA) (eh : EH) (n : Nat) : Res :=
  match args with
  | [m, .c (.int .u32 (.ofNat addr)), .c (.slice (some ⟨bb, bo, none⟩) len cap), .c (.int .i64 (.ofNat most)), need] => (match ptrC m with
    | some (mb, mo) => bif Nat.ble len most && Nat.blt 0 len && Nat.ble (addr + len) 4294967296 then (match C fAll [m, .c (.int .u32 (.ofNat addr)), .c (.int .i64 (.ofNat len)), need] eh n with
      | some (v, eh, n) => bif isTrueX v then (match w_run ⟨mb, mo, bb, bo, len⟩ (len / 256 + 2) eh addr 0 with
        | some eh => some (.a (.c (.int .i64 0)), eh, n)
        | none => none) else none
      | none => none) else none
    | none => none)
  | _ => none

/-! ### tinctureref3: put -/
/-- The first page from an address on: its place. -/
def p_at (r : R) (lo cnt base : Nat) : Nat → Nat → Option Nat
  | 0, _ => none
  | f + 1, k => bif Nat.blt k cnt then (match r.get (lo + 258 * k) with
    | some (.int .u32 (.ofNat x)) => bif Nat.blt x base then p_at r lo cnt base f (k + 1) else some k
    | _ => none) else none
def p_mem (p : WP) (eh : EH) : Option (Nat × Nat × Nat) :=
  match cellE eh p.mb (p.mo + 1) with
  | some (.slice (some ⟨lb, lo, none⟩) cnt _) => some (lb, lo, cnt)
  | _ => none
def p_first (p : WP) (eh : EH) (a i : Nat) : Option (EH × Nat) :=
  match p_mem p eh, cellE eh p.bb (p.bo + i) with
  | some (lb, lo, cnt), some v => (match eh.get lb with
    | some (.cells r E w) => (match p_at r lo cnt (Nat.sub a (Nat.mod a 256)) 5000 0 with
      | some k => bif notRo w && Nat.blt (lo + 258 * k + 2 + Nat.mod a 256) r.size && Nat.blt cnt 1000000 && Nat.blt a 4294967296 && !Nat.beq lb p.mb && !Nat.beq lb p.bb then
          some (eh.set lb (.cells (r.set (lo + 258 * k + 2 + Nat.mod a 256) v) E w), k) else none
      | none => none)
    | _ => none)
  | _, _ => none
/-- The first with a base, among the numbers of changes. -/
def p_find (r : R) (go cnt base : Nat) : Nat → Nat → Option Nat
  | 0, _ => none
  | f + 1, k => bif Nat.blt k cnt then (match r.get (go + 2 * k) with
    | some (.int .u32 (.ofNat x)) => bif Nat.beq x base then some k else p_find r go cnt base f (k + 1)
    | _ => none) else none
def p_gen (p : WP) (eh : EH) (a : Nat) : Option EH :=
  match cellE eh p.mb (p.mo + 2) with
  | some (.slice (some ⟨gb, go, none⟩) cnt _) => (match eh.get gb with
    | some (.cells r E w) => (match p_find r go cnt (Nat.sub a (Nat.mod a 256)) 5000 0 with
      | some k => (match r.get (go + 2 * k + 1) with
        | some (.int .u32 x) => bif notRo w && Nat.blt cnt 1000000 && Nat.blt a 4294967296 && Nat.blt (go + 2 * k + 1) r.size && !Nat.beq gb p.mb && !Nat.beq gb p.bb then some (eh.set gb (.cells (r.set (go + 2 * k + 1) (.int .u32 (wrapF .u32 (x + 1)))) E w)) else none
        | _ => none)
      | none => none)
    | _ => none)
  | _ => none
def p_rest (p : WP) (eh : EH) (a i cnt : Nat) : Option EH :=
  bif Nat.beq cnt 0 then some eh else
  match p_mem p eh, eh.get p.bb with
  | some (lb, lo, num), some (.cells br _ _) => (match eh.get lb with
    | some (.cells r E w) => (match p_at r lo num (Nat.sub a (Nat.mod a 256)) 5000 0 with
      | some k => bif notRo w && Nat.blt num 1000000 && !Nat.beq lb p.mb && !Nat.beq lb p.bb && Nat.ble (lo + 258 * k + 2 + Nat.mod a 256 + cnt) r.size && Nat.ble (p.bo + i + cnt) br.size then
          some (eh.set lb (.cells (r.splice (lo + 258 * k + 2 + Nat.mod a 256) ((br.drop (p.bo + i)).take cnt)) E w)) else none
      | none => none)
    | _ => none)
  | _, _ => none
def p_run (p : WP) : Nat → EH → Nat → Nat → Option EH
  | 0, eh, a, i => bif Nat.beq i p.len then some eh else none
  | f + 1, eh, a, i => bif Nat.beq i p.len then some eh else
    match p_first p eh a i with
    | some (eh, k) => (match p_gen p eh a with
      | some eh => (match p_rest p eh (a + 1) (i + 1) (minN (p.len - i) (256 - Nat.mod a 256) - 1) with
        | some eh => p_run p f eh (a + minN (p.len - i) (256 - Nat.mod a 256)) (i + minN (p.len - i) (256 - Nat.mod a 256))
        | none => none)
      | none => none)
    | none => none
def s_put (args : List XA) (eh : EH) (n : Nat) : Res :=
  match args with
  | [m, .c (.int .u32 (.ofNat addr)), .c (.slice (some ⟨bb, bo, none⟩) len cap)] => (match ptrC m with
    | some (mb, mo) => bif Nat.blt 0 len && Nat.ble (addr + len) 4294967296 then (match p_run ⟨mb, mo, bb, bo, len⟩ (len / 256 + 2) eh addr 0 with
        | some eh => some (.tup [], eh, n)
        | none => none) else none
    | none => none)
  | _ => none
end
end Go.Proofs.YtbmfblmebhobiaaGreat.AM

/-
  The summaries of 'put' and what it calls stand for the code.
-/
set_option linter.unusedSimpArgs false
set_option linter.unusedVariables false
namespace Go.Proofs.YtbmfblmebhobiaaGreat
open Go.Proofs.YtbmfblmebhobiaaGreat.AM
section
variable {F : H} {ρ : Ren} {n : Nat} {eh : EH} {h : H}
theorem cell_of {b b' o : Nat} {t : LObj} {v : Value} (hs : XSim F ρ n eh h) (hb : ρ b = some (b', t)) (he : cellE eh b o = some v) : ∃ v', AM.cellAt h b' o = some v' ∧ RC ρ v v' := by
  unfold cellE at he
  split at he
  · rename_i r E w hg
    obtain ⟨cs, h1, h2⟩ := hs.cells hg hb
    rw [R.get_eq] at he
    obtain ⟨v', h3, h4⟩ := h2.get he
    exact ⟨v', by rw [cellAt_of h1]; exact h3, h4⟩
  · cases he
theorem cellG_of {b b' o : Nat} {t : LObj} {v : Value} {r : R} {E : TypeId} {w : AM.Own} (hs : XSim F ρ n eh h) (hb : ρ b = some (b', t)) (hg : eh.get b = some (.cells r E w)) (he : r.get o = some v) : ∃ v', AM.cellAt h b' o = some v' ∧ RC ρ v v' :=
  cell_of hs hb (by simp only [cellE, hg]; exact he)
theorem cellI_of {b b' o : Nat} {t : LObj} {k : IntKind} {i : Int} {r : R} {E : TypeId} {w : AM.Own} (hs : XSim F ρ n eh h) (hb : ρ b = some (b', t)) (hg : eh.get b = some (.cells r E w)) (he : r.get o = some (.int k i)) : AM.cellAt h b' o = some (.int k i) := by
  obtain ⟨v', h1, h2⟩ := cellG_of hs hb hg he
  rw [h2.self_eq rfl] at h1; exact h1
theorem nil_ptr {a : Addr} {K : Value → Prop} : o_nilCheck (.pointer (some a)) K = K (.pointer (some a)) := rfl
theorem p_at_lt {r : R} {lo cnt base k : Nat} : ∀ {f j : Nat}, p_at r lo cnt base f j = some k → k < cnt
  | 0, j, hp => by cases hp
  | f + 1, j, hp => by
    simp only [p_at] at hp
    cases hb : Nat.blt j cnt
    · rw [hb] at hp; cases hp
    · rw [hb, cond_true] at hp
      split at hp
      · rename_i x hx
        cases hb2 : Nat.blt x base
        · rw [hb2] at hp; cases hp; exact blt_iff.1 hb
        · rw [hb2] at hp; exact p_at_lt hp
      · cases hp
theorem base_eq {a : Nat} (ha : a < 4294967296) : IntKind.u32.wrap ((a : Int) - (a : Int).tmod 256) = ((a - a % 256 : Nat) : Int) := by
  have e : (a : Int).tmod 256 = ((a % 256 : Nat) : Int) := by rw [Int.tmod_eq_emod_of_nonneg (by omega)]; omega
  rw [e, wrapu32 (by omega) (by omega)]; omega
theorem rem_eq {a : Nat} : (a : Int).tmod 256 = ((a % 256 : Nat) : Int) := by rw [Int.tmod_eq_emod_of_nonneg (by omega)]; omega
set_option maxRecDepth 10000 in
theorem at_ok {mb mb' mo lb lo cnt cap a fuel k : Nat} {t : LObj} {r : R} {E : TypeId} {w : AM.Own} (hs : XSim F ρ n eh h) (hm : ρ mb = some (mb', t)) (hc : cellE eh mb (mo + 1) = some (.slice (some ⟨lb, lo, none⟩) cnt cap))
    (hg : eh.get lb = some (.cells r E w)) (ha : a < 4294967296) (hcnt : cnt < 1000000) (hp : p_at r lo cnt (a - a % 256) fuel 0 = some k) {Q : Value → H → Prop} (hq : ∀ f, Q (.tuple #[.int .i64 k, .bool f]) h) :
    F60 (.pointer (some ⟨mb', mo, none⟩)) (.int .u32 a) h Q := by
  obtain ⟨v', hv, hr⟩ := cell_of hs hm hc
  obtain ⟨lb', t', _, hl, rfl, _⟩ := hr.slT
  have hk := p_at_lt hp
  unfold F60 F60_0
  rw [bin_rem (by decide), bin_sub, base_eq ha]
  generalize a - a % 256 = base at *
  unfold F60_1 F60_2 F60_3
  refine ⟨fun m s h2 => h2 = h ∧ ∃ j : Nat, s = (.pointer (some ⟨mb', mo, none⟩), .int .u32 base, .int .i64 j) ∧ p_at r lo cnt base m j = some k, ⟨fuel, rfl, 0, rfl, hp⟩, ?_⟩
  rintro m s h2 ⟨rfl, j, rfl, hj⟩
  cases m with
  | zero => cases hj
  | succ m =>
    simp only [p_at] at hj
    cases hb : Nat.blt j cnt
    · rw [hb] at hj; cases hj
    rw [hb, cond_true] at hj
    have hjc := blt_iff.1 hb
    split at hj
    rotate_left
    · cases hj
    rename_i x hx
    have hcell := cellI_of hs hl hg hx
    unfold F60_4
    simp only [nil_ptr, field_addr, load_cell hv, len_sl, bin_lss]
    have d1 : decide ((j : Int) < (cnt : Int)) = true := by simp; omega
    have e1 : lo + (j : Int).toNat * 258 + 0 = lo + 258 * j := by simp; omega
    simp only [d1, guard_tt, index_sl (show (0 : Int) ≤ (j : Int) by omega) (show (j : Int) < (cnt : Int) by omega), field_addr, e1, load_cell hcell, pick_true]
    cases hb2 : Nat.blt x base
    · rw [hb2, cond_false] at hj; cases hj
      have d2 : decide ((x : Int) < (base : Int)) = false := by simp; exact blt_false.1 hb2
      have d2' : decide (Int.ofNat x < (base : Int)) = false := d2
      simp only [bin_lss, d2', if_false']
      unfold F60_5 F60_6 F60_7
      simp only [nil_ptr, field_addr, load_cell hv, len_sl, bin_lss]
      simp only [d1, guard_tt, index_sl (show (0 : Int) ≤ (k : Int) by omega) (show (k : Int) < (cnt : Int) by omega), field_addr, e1, load_cell hcell, pick_true, bin_eql]
      exact hq _
    · rw [hb2, cond_true] at hj
      have d2' : decide (Int.ofNat x < (base : Int)) = true := by have := blt_iff.1 hb2; simp; omega
      simp only [bin_lss, d2', if_true', bin_add]
      have e2 : IntKind.i64.wrap ((j : Int) + 1) = ((j + 1 : Nat) : Int) := by rw [wrap64 (by omega) (by omega)]; omega
      rw [e2]
      exact ⟨m, Nat.lt_succ_self m, trivial, j + 1, rfl, hj⟩
theorem store1 {b b' o : Nat} {t : LObj} {r : R} {E : TypeId} {w : AM.Own} {v v' : Value} (hs : XSim F ρ n eh h) (hg : eh.get b = some (.cells r E w)) (hb : ρ b = some (b', t)) (hw : notRo w = true) (hsz : o < r.size) (hv : RC ρ v v')
    {K : H → Prop} (hk : ∀ h', XSim F ρ n (eh.set b (.cells (r.set o v) E w)) h' → K h') : o_store 1 (.pointer (some ⟨b', o, none⟩)) v' h K := by
  refine e_store_ok (x := .c (.pointer (some ⟨b, o, none⟩))) (y := .c v) hs (.c (.s (.ptr hb))) (.c hv) ?_ hk
  have e : (notRo w && Nat.ble (o + 1) r.size) = true := by rw [hw, ble_iff.2 (by omega)]; rfl
  simp only [e_store, hg, e, cond_true, Nat.beq_refl]
theorem p_find_lt {r : R} {go cnt base k : Nat} : ∀ {f j : Nat}, p_find r go cnt base f j = some k → k < cnt
  | 0, j, hp => by cases hp
  | f + 1, j, hp => by
    simp only [p_find] at hp
    cases hb : Nat.blt j cnt
    · rw [hb] at hp; cases hp
    · rw [hb, cond_true] at hp
      split at hp
      · rename_i x hx
        cases hb2 : Nat.beq x base
        · rw [hb2] at hp; exact p_find_lt hp
        · rw [hb2] at hp; cases hp; exact blt_iff.1 hb
      · cases hp
set_option maxRecDepth 10000 in
theorem bump_ok {p : WP} {mb' a : Nat} {t : LObj} {eh' : EH} (hs : XSim F ρ n eh h) (hm : ρ p.mb = some (mb', t)) (hp : p_gen p eh a = some eh') {Q : Value → H → Prop} (hq : ∀ h', XSim F ρ n eh' h' → Q (.tuple #[]) h') :
    F61 (.pointer (some ⟨mb', p.mo, none⟩)) (.int .u32 a) h Q := by
  unfold p_gen at hp
  split at hp
  rotate_left
  · cases hp
  rename_i gb go cnt cap hc
  obtain ⟨v', hv, hr⟩ := cell_of hs hm hc
  obtain ⟨gb', t', _, hl, rfl, _⟩ := hr.slT
  split at hp
  rotate_left
  · cases hp
  rename_i r E w hg
  split at hp
  rotate_left
  · cases hp
  rename_i k hf
  split at hp
  rotate_left
  · cases hp
  rename_i x hx
  cases hb : (notRo w && Nat.blt cnt 1000000 && Nat.blt a 4294967296 && Nat.blt (go + 2 * k + 1) r.size && !Nat.beq gb p.mb && !Nat.beq gb p.bb)
  · rw [hb] at hp; cases hp
  rw [hb, cond_true] at hp
  cases hp
  simp only [Bool.and_eq_true, blt_iff] at hb
  obtain ⟨⟨⟨⟨⟨hw, hcnt⟩, ha⟩, hsz⟩, _⟩, _⟩ := hb
  have hk := p_find_lt hf
  unfold F61 F61_0
  rw [bin_rem (by decide), bin_sub, base_eq ha]
  change p_find r go cnt (a - a % 256) 5000 0 = some k at hf
  generalize a - a % 256 = base at *
  unfold F61_1 F61_2 F61_3 F61_4
  refine ⟨fun m s h2 => h2 = h ∧ ∃ j : Nat, s = (.pointer (some ⟨mb', p.mo, none⟩), .int .u32 base, .int .i64 j) ∧ p_find r go cnt base m j = some k, ⟨5000, rfl, 0, rfl, hf⟩, ?_⟩
  rintro m s h2 ⟨rfl, j, rfl, hj⟩
  cases m with
  | zero => cases hj
  | succ m =>
    simp only [p_find] at hj
    cases hb : Nat.blt j cnt
    · rw [hb] at hj; cases hj
    rw [hb, cond_true] at hj
    have hjc := blt_iff.1 hb
    split at hj
    rotate_left
    · cases hj
    rename_i y hy
    have hcell := cellI_of hs hl hg hy
    unfold F61_5
    have d1 : decide ((j : Int) < (cnt : Int)) = true := by simp; omega
    have e1 : go + (j : Int).toNat * 2 + 0 = go + 2 * j := by simp; omega
    simp only [nil_ptr, field_addr, load_cell hv, len_sl, bin_lss, d1, if_true', index_sl (show (0 : Int) ≤ (j : Int) by omega) (show (j : Int) < (cnt : Int) by omega), e1]
    rw [load_cell hcell, bin_eql]
    cases hb2 : Nat.beq y base
    · rw [hb2, cond_false] at hj
      have d2 : decide (Int.ofNat y = (base : Int)) = false := by
        have : y ≠ base := fun e => by rw [e, Nat.beq_refl] at hb2; cases hb2
        simp; omega
      rw [d2]
      simp only [if_false', bin_add]
      have e2 : IntKind.i64.wrap ((j : Int) + 1) = ((j + 1 : Nat) : Int) := by rw [wrap64 (by omega) (by omega)]; omega
      rw [e2]
      exact ⟨m, Nat.lt_succ_self m, trivial, j + 1, rfl, hj⟩
    · rw [hb2, cond_true] at hj
      cases hj
      have hyb := Nat.eq_of_beq_eq_true hb2
      subst hyb
      have d2 : decide (Int.ofNat y = (y : Int)) = true := by simp
      rw [d2]
      simp only [if_true', index_sl (show (0 : Int) ≤ (k : Int) by omega) (show (k : Int) < (cnt : Int) by omega), field_addr]
      have e3 : go + (k : Int).toNat * 2 + 1 = go + 2 * k + 1 := by simp; omega
      have hcell2 := cellI_of hs hl hg hx
      rw [e3, load_cell hcell2, bin_add]
      refine store1 hs hg hl hw hsz (.of_self rfl) fun h' hs' => hq _ ?_
      rw [wrapF_eq]; exact hs'
/-- A round of 'put'. -/
theorem put_body {p : WP} {mb' bb' addr i k cap : Nat} {t t2 : LObj} {e1 e2 : EH} (hs : XSim F ρ n eh h) (hm : ρ p.mb = some (mb', t)) (hbb : ρ p.bb = some (bb', t2)) (hi : i < p.len) (hlen : addr + p.len ≤ 4294967296) (hp : p_first p eh (addr + i) i = some (e1, k))
    (hgen : if i = 0 ∨ (addr + i) % 256 = 0 then p_gen p e1 (addr + i) = some e2 else e2 = e1) {Kn : Value → Value → Value → Value → H → Prop} {Kr Ke : H → Prop}
    (hk : ∀ h', XSim F ρ n e2 h' → Kn (.pointer (some ⟨mb', p.mo, none⟩)) (.int .u32 addr) (.slice (some ⟨bb', p.bo, none⟩) p.len cap) (.int .i64 (i + 1 : Nat)) h') :
    F63_3 (.pointer (some ⟨mb', p.mo, none⟩)) (.int .u32 addr) (.slice (some ⟨bb', p.bo, none⟩) p.len cap) (.int .i64 i) h Kn Kr Ke := by
  unfold p_first at hp
  split at hp
  rotate_left
  · cases hp
  rename_i lb lo cnt v hpm hv
  unfold p_mem at hpm
  split at hpm
  rotate_left
  · cases hpm
  rename_i lb' lo' cnt' cap' hc
  cases hpm
  split at hp
  rotate_left
  · cases hp
  rename_i r E w hg
  split at hp
  rotate_left
  · cases hp
  rename_i k' hat
  cases hb : (notRo w && Nat.blt (lo + 258 * k' + 2 + Nat.mod (addr + i) 256) r.size && Nat.blt cnt 1000000 && Nat.blt (addr + i) 4294967296 && !Nat.beq lb p.mb && !Nat.beq lb p.bb)
  · rw [hb] at hp; cases hp
  rw [hb, cond_true] at hp
  cases hp
  simp only [Bool.and_eq_true, blt_iff] at hb
  obtain ⟨⟨⟨⟨⟨hw, hsz⟩, hcnt⟩, ha⟩, _⟩, _⟩ := hb
  obtain ⟨v', hv', hrv⟩ := cell_of hs hbb hv
  obtain ⟨ls, hls, hrl⟩ := cell_of hs hm hc
  obtain ⟨lb', t', _, hl, rfl, _⟩ := hrl.slT
  have hkc := p_at_lt hat
  unfold F63_3
  have d1 : decide ((i : Int) < (p.len : Int)) = true := by simp; omega
  simp only [len_sl, bin_lss, d1, if_true']
  unfold F63_4 F63_5 F63_6
  have e1 : IntKind.u32.wrap (i : Int) = (i : Int) := wrapu32 (by omega) (by omega)
  have e2' : IntKind.u32.wrap ((addr : Int) + (i : Int)) = ((addr + i : Nat) : Int) := by rw [wrapu32 (by omega) (by omega)]; omega
  simp only [conv_int, e1, bin_add, e2']
  rw [call_iff rfl]
  refine F60_spec _ _ _ _ (at_ok hs hm hc hg ha hcnt hat fun f => ?_)
  rw [ex0, ex1]
  unfold F63_7 F63_8
  simp only [nil_ptr, field_addr, load_cell hls]
  rw [bin_rem (by decide), rem_eq]
  have e3 : p.bo + (i : Int).toNat * 1 = p.bo + i := by simp
  rw [index_sl (show (0 : Int) ≤ (i : Int) by omega) (show (i : Int) < (p.len : Int) by omega), e3, load_cell hv', index_sl (show (0 : Int) ≤ (k : Int) by omega) (show (k : Int) < (cnt : Int) by omega)]
  simp only [field_addr]
  have hmod : (addr + i) % 256 < 256 := Nat.mod_lt _ (by decide)
  rw [index_arr (show (0 : Int) ≤ (((addr + i) % 256 : Nat) : Int) by omega) (by omega)]
  have e4 : lo + (k : Int).toNat * 258 + 2 + (((addr + i) % 256 : Nat) : Int).toNat * 1 = lo + 258 * k + 2 + (addr + i) % 256 := by simp; omega
  rw [e4]
  refine store1 hs hg hl hw hsz hrv fun h1 hs1 => ?_
  have hfin : ∀ h', XSim F ρ n e2 h' → F63_10 (.pointer (some ⟨mb', p.mo, none⟩)) (.int .u32 addr) (.slice (some ⟨bb', p.bo, none⟩) p.len cap) (.int .i64 i) h' Kn Kr Ke := by
    intro h' hs'
    unfold F63_10
    have e5 : IntKind.i64.wrap ((i : Int) + 1) = ((i + 1 : Nat) : Int) := by rw [wrap64 (by omega) (by omega)]; omega
    rw [bin_add, e5]
    exact hk h' hs'
  have hbump : p_gen p _ (addr + i) = some e2 → AM.Spec Tryz.prog 61 [.pointer (some ⟨mb', p.mo, none⟩), .int .u32 (addr + i : Nat)] h1 fun _ h => F63_10 (.pointer (some ⟨mb', p.mo, none⟩)) (.int .u32 addr) (.slice (some ⟨bb', p.bo, none⟩) p.len cap) (.int .i64 i) h Kn Kr Ke := fun hg2 =>
    F61_spec _ _ _ _ (bump_ok hs1 hm hg2 fun h' hs' => hfin h' hs')
  unfold F63_9
  rw [bin_eql]
  by_cases hi0 : i = 0
  · subst hi0
    rw [if_pos (Or.inl rfl)] at hgen
    have d2 : decide (((0 : Nat) : Int) = 0) = true := rfl
    rw [d2, guard_tf, pick_true]
    rw [if_true', call_iff rfl]
    exact hbump hgen
  · have d2 : decide ((i : Int) = 0) = false := by simp; omega
    rw [d2, guard_ff, bin_rem (by decide), rem_eq, bin_eql]
    simp only [pick_false]
    by_cases hi1 : (addr + i) % 256 = 0
    · rw [if_pos (Or.inr hi1)] at hgen
      have d3 : decide ((((addr + i) % 256 : Nat) : Int) = 0) = true := by rw [hi1]; rfl
      rw [d3, if_true', call_iff rfl]
      exact hbump hgen
    · rw [if_neg (by rintro (h | h) <;> contradiction)] at hgen
      have d3 : decide ((((addr + i) % 256 : Nat) : Int) = 0) = false := by simp; omega
      rw [d3, if_false']
      subst hgen
      exact hfin _ hs1
end
end Go.Proofs.YtbmfblmebhobiaaGreat

/-
  The loop of 'put' stands for its summary.
-/
set_option linter.unusedSimpArgs false
set_option linter.unusedVariables false
namespace Go.Proofs.YtbmfblmebhobiaaGreat
open Go.Proofs.YtbmfblmebhobiaaGreat.AM
theorem bif_some {α : Type} {c : Bool} {x : Option α} {y : α} (h : (bif c then x else none) = some y) : c = true ∧ x = some y := by
  cases c
  · cases h
  · exact ⟨rfl, h⟩
theorem all2_3 {α β : Type} {R : α → β → Prop} {a b c : α} {l : List β} (h : All2 R [a, b, c] l) : ∃ x y z, l = [x, y, z] ∧ R a x ∧ R b y ∧ R c z := by
  cases h with | cons h1 h => cases h with | cons h2 h => cases h with | cons h3 h => cases h; exact ⟨_, _, _, rfl, h1, h2, h3⟩
section
variable {F : H} {ρ : Ren} {n : Nat} {eh : EH} {h : H}
theorem setL_snoc : ∀ (vs cs : List Value) (o : Nat) (v : Value), setL cs o (vs ++ [v]) = (setL cs o vs).set (o + vs.length) v
  | [], cs, o, v => by simp [setL]
  | u :: vs, cs, o, v => by
    rw [List.cons_append, setL, setL, setL_snoc vs (cs.set o u) (o + 1) v]
    congr 1; simp; omega
theorem XSim.ext' (hs : XSim F ρ n eh h) {eh' : EH} (he : ∀ b, eh'.get b = eh.get b) : XSim F ρ n eh' h where
  z0 := hs.z0
  z1 := hs.z1
  two := hs.two
  top := hs.top
  n2 := hs.n2
  obj b o hb hd := hs.obj b o (he b ▸ hb) hd
  inj b c o o' x t t' h1 h2 h3 h4 h5 h6 := hs.inj b c o o' x t t' (he b ▸ h1) h2 (he c ▸ h3) h4 h5 h6
  fr := hs.fr
  fsep b o x t h1 h2 h3 := hs.fsep b o x t (he b ▸ h1) h2 h3
theorem XSim.reset (hs : XSim F ρ n eh h) {b b' : Nat} {t : LObj} {r r' : R} {E : TypeId} {w : AM.Own} (hg : eh.get b = some (.cells r E w)) (hb : ρ b = some (b', t)) (hr : r'.toL = r.toL) {eh' : EH} (he : ∀ c, eh'.get c = if c = b then some (.cells r' E w) else eh.get c) :
    XSim F ρ n eh' h := by
  obtain ⟨cs, h1, h2⟩ := hs.cells hg hb
  have := hs.upd (o := .cells r' E w) hg rfl hb (RO.cells (τ := t) (cs := cs) (by rw [hr]; exact h2))
  have e : AM.upd h b' (.cells cs E w) = h := by
    funext c
    by_cases hc : c = b'
    · subst hc; rw [upd_same, h1]
    · rw [upd_ne _ _ hc]
  rw [e] at this
  exact XSim.ext' this fun c => by rw [he, Tr.get_set]
theorem XSim.reset' (hs : XSim F ρ n eh h) {b : Nat} {r r' : R} {E : TypeId} {w : AM.Own} (hg : eh.get b = some (.cells r E w)) (hr : r'.toL = r.toL) {eh' : EH} (he : ∀ c, eh'.get c = if c = b then some (.cells r' E w) else eh.get c) :
    XSim F ρ n eh' h := by
  obtain ⟨b', t, _, h1, _⟩ := hs.obj b _ hg rfl
  exact XSim.reset hs hg h1 hr he
theorem cellE_set {b c q : Nat} {o : EO} (hc : c ≠ b) : cellE (eh.set b o) c q = cellE eh c q := by simp only [cellE, Tr.get_set, if_neg hc]
theorem nbeq {a b : Nat} (h : a ≠ b) : Nat.beq a b = false := Bool.eq_false_iff.2 fun e => h (Nat.eq_of_beq_eq_true e)
theorem R.set_size (r : R) (i : Nat) (v : Value) : (r.set i v).size = r.size := by rw [R.size_eq, R.size_eq, R.set_toL, List.length_set]
theorem R.splice_size (r : R) (o : Nat) (s : R) (h : o + s.size ≤ r.size) : (r.splice o s).size = r.size := by rw [R.size_eq, R.splice_toL _ _ _ h, setL_length, ← R.size_eq]
theorem R.take_size (r : R) (k : Nat) (h : k ≤ r.size) : (r.take k).size = k := by rw [R.size_eq] at *; rw [R.take_toL, List.length_take]; omega
theorem R.drop_size (r : R) (k : Nat) : (r.drop k).size = r.size - k := by rw [R.size_eq, R.size_eq, R.drop_toL, List.length_drop]
theorem splice_snoc {r s : R} {st c : Nat} {v : Value} (hc : c < s.size) (hv : s.get c = some v) (hl : st + s.size ≤ r.size) : ((r.splice st (s.take c)).set (st + c) v).toL = (r.splice st (s.take (c + 1))).toL := by
  have h1 : (s.take c).size = c := R.take_size _ _ (by omega)
  have h2 : (s.take (c + 1)).size = c + 1 := R.take_size _ _ (by omega)
  rw [R.set_toL, R.splice_toL _ _ _ (by omega), R.splice_toL _ _ _ (by omega), R.take_toL, R.take_toL]
  rw [R.get_eq] at hv
  rw [List.take_add_one, hv, Option.toList_some, setL_snoc]
  congr 1
  rw [List.length_take]
  rw [R.size_eq] at hc; omega
theorem setL_get_lt : ∀ (vs cs : List Value) (o i : Nat), i < o → (setL cs o vs)[i]? = cs[i]?
  | [], cs, o, i, _ => rfl
  | v :: vs, cs, o, i, hi => by
    rw [setL, setL_get_lt vs (cs.set o v) (o + 1) i (by omega), List.getElem?_set_ne (by omega)]
theorem splice_get_lt {r s : R} {o i : Nat} (hl : o + s.size ≤ r.size) (hi : i < o) : (r.splice o s).get i = r.get i := by
  rw [R.get_eq, R.get_eq, R.splice_toL _ _ _ hl, setL_get_lt _ _ _ _ hi]
theorem p_at_congr {r r' : R} {lo cnt base k : Nat} (hrr : ∀ i, i ≤ lo + 258 * k → r'.get i = r.get i) : ∀ {f j : Nat}, p_at r lo cnt base f j = some k → p_at r' lo cnt base f j = some k ∧ j ≤ k
  | 0, j, hp => by cases hp
  | f + 1, j, hp => by
    simp only [p_at] at hp ⊢
    cases hb : Nat.blt j cnt
    · rw [hb] at hp; cases hp
    · rw [hb, cond_true] at hp
      rw [cond_true]
      split at hp
      · rename_i x hx
        cases hb2 : Nat.blt x base
        · rw [hb2] at hp
          cases hp
          rw [hrr _ (Nat.le_refl _), hx]
          simp only [hb2, cond_false]
          exact ⟨trivial, Nat.le_refl _⟩
        · rw [hb2] at hp
          obtain ⟨h1, h2⟩ := p_at_congr hrr hp
          rw [hrr _ (by omega), hx]
          simp only [hb2, cond_true]
          exact ⟨h1, by omega⟩
      · cases hp
theorem minN_eq (a b : Nat) : minN a b = min a b := by
  unfold minN
  cases hb : Nat.ble a b
  · have := ble_false.1 hb; rw [bc_false]; omega
  · have := ble_iff.1 hb; rw [bc_true]; omega
/-- The round at byte i stands within a page: c bytes behind the first are done, of cnt. -/
def Mid (F : H) (ρ : Ren) (n : Nat) (p : WP) (addr : Nat) (ehf : EH) (i : Nat) (h : H) : Prop :=
  ∃ (e1 : EH) (lb lo num k c cnt : Nat) (r : R) (E : TypeId) (w : AM.Own) (br : R) (bE : TypeId) (bw : AM.Own) (f : Nat) (s : R),
    c < cnt ∧ c < i ∧ i - c + cnt ≤ p.len ∧ (addr + i) % 256 = (addr + (i - c)) % 256 + c ∧ (addr + (i - c)) % 256 ≠ 0 ∧ (addr + (i - c)) % 256 + cnt ≤ 256 ∧
    p_mem p e1 = some (lb, lo, num) ∧ e1.get lb = some (.cells r E w) ∧ e1.get p.bb = some (.cells br bE bw) ∧ p_at r lo num (addr + i - (addr + i) % 256) 5000 0 = some k ∧
    notRo w = true ∧ num < 1000000 ∧ lb ≠ p.mb ∧ lb ≠ p.bb ∧ lo + 258 * k + 2 + (addr + (i - c)) % 256 + cnt ≤ r.size ∧ p.bo + (i - c) + cnt ≤ br.size ∧
    s = (br.drop (p.bo + (i - c))).take cnt ∧
    XSim F ρ n (e1.set lb (.cells (r.splice (lo + 258 * k + 2 + (addr + (i - c)) % 256) (s.take c)) E w)) h ∧
    (i - c + cnt = p.len ∨ (addr + (i - c + cnt)) % 256 = 0) ∧
    p_run p f (e1.set lb (.cells (r.splice (lo + 258 * k + 2 + (addr + (i - c)) % 256) s) E w)) (addr + (i - c) + cnt) (i - c + cnt) = some ehf
def Edge' (F : H) (ρ : Ren) (n : Nat) (p : WP) (addr : Nat) (ehf : EH) (i : Nat) (h : H) : Prop :=
  ∃ f e, (i = 0 ∨ (addr + i) % 256 = 0 ∨ i = p.len) ∧ XSim F ρ n e h ∧ p_run p f e (addr + i) i = some ehf
/-- A round out of the midst of a page. -/
theorem mid_step {p : WP} {addr i : Nat} {ehf : EH} (hM : Mid F ρ n p addr ehf i h) (hlen : addr + p.len ≤ 4294967296) :
    i < p.len ∧ i ≠ 0 ∧ (addr + i) % 256 ≠ 0 ∧ ∃ eh k e1, XSim F ρ n eh h ∧ p_first p eh (addr + i) i = some (e1, k) ∧ ∀ h', XSim F ρ n e1 h' → Mid F ρ n p addr ehf (i + 1) h' ∨ Edge' F ρ n p addr ehf (i + 1) h' := by
  obtain ⟨e1, lb, lo, num, k, c, cnt, r, E, w, br, bE, bw, f, s, h1, h2, h3, h4, h5, h6, h7, h8, h9, h10, h11, h12, h13, h14, h15, h16, h17, h18, h19, h20⟩ := hM
  have hss : s.size = cnt := by rw [h17, R.take_size _ _ (by rw [R.drop_size]; omega)]
  have hsc : (s.take c).size = c := R.take_size _ _ (by omega)
  obtain ⟨v, hv⟩ : ∃ v, br.get (p.bo + i) = some v := by
    have : p.bo + i < br.toL.length := by rw [← R.size_eq]; omega
    exact ⟨br.toL[p.bo + i], by rw [R.get_eq, List.getElem?_eq_getElem this]⟩
  have hvs : s.get c = some v := by
    rw [h17, R.get_eq, R.take_toL, R.drop_toL, List.getElem?_take_of_lt h1, List.getElem?_drop, ← R.get_eq, ← hv]
    congr 1; omega
  generalize hst : lo + 258 * k + 2 + (addr + (i - c)) % 256 = st at *
  have hsto : lo + 258 * k + 2 + (addr + i) % 256 = st + c := by omega
  have hXsz : (r.splice st (s.take c)).size = r.size := R.splice_size _ _ _ (by omega)
  refine ⟨by omega, by omega, by omega, e1.set lb (.cells (r.splice st (s.take c)) E w), k, (e1.set lb (.cells (r.splice st (s.take c)) E w)).set lb (.cells ((r.splice st (s.take c)).set (st + c) v) E w), h18, ?_, ?_⟩
  · have g1 : p_mem p (e1.set lb (.cells (r.splice st (s.take c)) E w)) = some (lb, lo, num) := by
      unfold p_mem at h7 ⊢
      rw [cellE_set (Ne.symm h13)]; exact h7
    have g2 : cellE (e1.set lb (.cells (r.splice st (s.take c)) E w)) p.bb (p.bo + i) = some v := by
      rw [cellE_set (Ne.symm h14)]
      simp only [cellE, h9]; exact hv
    have g3 : (e1.set lb (.cells (r.splice st (s.take c)) E w)).get lb = some (.cells (r.splice st (s.take c)) E w) := by rw [Tr.get_set, if_pos rfl]
    have g4 : p_at (r.splice st (s.take c)) lo num (Nat.sub (addr + i) (Nat.mod (addr + i) 256)) 5000 0 = some k := (p_at_congr (fun q hq => splice_get_lt (by omega) (by omega)) h10).1
    unfold p_first
    rw [g1, g2]
    simp only [g3, g4]
    have g5 : (notRo w && Nat.blt (lo + 258 * k + 2 + Nat.mod (addr + i) 256) (r.splice st (s.take c)).size && Nat.blt num 1000000 && Nat.blt (addr + i) 4294967296 && !Nat.beq lb p.mb && !Nat.beq lb p.bb) = true := by
      simp only [Bool.and_eq_true, blt_iff, h11, h12, true_and, Bool.not_eq_true', nbeq h13, nbeq h14, and_true, hXsz]
      refine ⟨?_, ?_⟩
      · show lo + 258 * k + 2 + (addr + i) % 256 < r.size
        omega
      · omega
    rw [g5, cond_true]
    show some ((e1.set lb (.cells (r.splice st (s.take c)) E w)).set lb (.cells ((r.splice st (s.take c)).set (lo + 258 * k + 2 + (addr + i) % 256) v) E w), k) = _
    rw [hsto]
  · intro h' hs'
    have key : ∀ s', s'.toL = (r.splice st (s.take (c + 1))).toL → XSim F ρ n (e1.set lb (.cells s' E w)) h' := by
      intro s' he
      refine XSim.reset' hs' (r := (r.splice st (s.take c)).set (st + c) v) (b := lb) (r' := s') (E := E) (w := w) (by rw [Tr.get_set, if_pos rfl]) ?_ ?_
      · rw [he, splice_snoc (by omega) hvs (by omega)]
      · intro q
        rw [Tr.get_set, Tr.get_set, Tr.get_set]
        split <;> rfl
    by_cases hcc : c + 1 < cnt
    · left
      have e1' : i + 1 - (c + 1) = i - c := by omega
      have e2' : (addr + (i + 1)) % 256 = (addr + i) % 256 + 1 := by omega
      refine ⟨e1, lb, lo, num, k, c + 1, cnt, r, E, w, br, bE, bw, f, s, hcc, by omega, ?_⟩
      rw [e1', hst]
      refine ⟨h3, by omega, h5, h6, h7, h8, h9, ?_, h11, h12, h13, h14, h15, h16, h17, key _ rfl, h19, h20⟩
      rw [show addr + (i + 1) - (addr + (i + 1)) % 256 = addr + i - (addr + i) % 256 by omega]; exact h10
    · right
      have hc1 : c + 1 = cnt := by omega
      refine ⟨f, e1.set lb (.cells (r.splice st s) E w), ?_, key _ ?_, ?_⟩
      · rw [show i - c + cnt = i + 1 by omega] at h19
        rcases h19 with h | h
        · exact .inr (.inr h)
        · exact .inr (.inl h)
      · have : (s.take (c + 1)).toL = s.toL := by rw [R.take_toL, List.take_of_length_le]; rw [← R.size_eq]; omega
        rw [R.splice_toL _ _ _ (by omega), R.splice_toL _ _ _ (by rw [R.take_size _ _ (by omega)]; omega), this]
      · rw [show addr + (i + 1) = addr + (i - c) + cnt by omega, show i + 1 = i - c + cnt by omega]; exact h20
/-- A round at a page's head. -/
theorem edge_step {p : WP} {addr i : Nat} {ehf : EH} (hE : Edge' F ρ n p addr ehf i h) (hi : i < p.len) (hlen : addr + p.len ≤ 4294967296) :
    (i = 0 ∨ (addr + i) % 256 = 0) ∧ ∃ eh k e1 e2, XSim F ρ n eh h ∧ p_first p eh (addr + i) i = some (e1, k) ∧ p_gen p e1 (addr + i) = some e2 ∧ ∀ h', XSim F ρ n e2 h' → Mid F ρ n p addr ehf (i + 1) h' ∨ Edge' F ρ n p addr ehf (i + 1) h' := by
  obtain ⟨f, e, h1, h2, h3⟩ := hE
  refine ⟨by omega, ?_⟩
  have hne : Nat.beq i p.len = false := nbeq (by omega)
  cases f with
  | zero => simp only [p_run, hne, cond_false] at h3; cases h3
  | succ f =>
    simp only [p_run, hne, cond_false] at h3
    split at h3
    rotate_left
    · cases h3
    rename_i e1 k hf
    split at h3
    rotate_left
    · cases h3
    rename_i e2 hg
    split at h3
    rotate_left
    · cases h3
    rename_i e3 hr
    refine ⟨e, k, e1, e2, h2, hf, hg, fun h' hs' => ?_⟩
    rw [minN_eq] at h3 hr
    change p_run p f e3 (addr + i + min (p.len - i) (256 - (addr + i) % 256)) (i + min (p.len - i) (256 - (addr + i) % 256)) = some ehf at h3
    change p_rest p e2 (addr + i + 1) (i + 1) (min (p.len - i) (256 - (addr + i) % 256) - 1) = some e3 at hr
    have hmod : (addr + i) % 256 < 256 := Nat.mod_lt _ (by decide)
    generalize hm : min (p.len - i) (256 - (addr + i) % 256) = m at *
    have hm1 : 1 ≤ m := by omega
    unfold p_rest at hr
    cases hz : Nat.beq (m - 1) 0
    · rw [hz, cond_false] at hr
      have hz' : m - 1 ≠ 0 := fun e => by rw [e] at hz; cases hz
      split at hr
      rotate_left
      · cases hr
      rename_i lb lo num br bE bw hpm hbb
      split at hr
      rotate_left
      · cases hr
      rename_i r E w hgl
      split at hr
      rotate_left
      · cases hr
      rename_i k' hat
      obtain ⟨hb, hr⟩ := bif_some hr
      simp only [Bool.and_eq_true, blt_iff, ble_iff, Bool.not_eq_true'] at hb
      obtain ⟨⟨⟨⟨⟨hw, hn⟩, hb1⟩, hb2⟩, hs1⟩, hs2⟩ := hb
      have hne1 : lb ≠ p.mb := fun e => by rw [e, Nat.beq_refl] at hb1; cases hb1
      have hne2 : lb ≠ p.bb := fun e => by rw [e, Nat.beq_refl] at hb2; cases hb2
      cases hr
      change lo + 258 * k' + 2 + (addr + i + 1) % 256 + (m - 1) ≤ r.size at hs1
      left
      have ei : i + 1 - 0 = i + 1 := rfl
      refine ⟨e2, lb, lo, num, k', 0, m - 1, r, E, w, br, bE, bw, f, (br.drop (p.bo + (i + 1))).take (m - 1), by omega, by omega, ?_⟩
      rw [ei]
      have ea : addr + (i + 1) = addr + i + 1 := rfl
      rw [ea]
      refine ⟨by omega, by omega, by omega, by omega, hpm, hgl, hbb, hat, hw, hn, hne1, hne2, hs1, hs2, rfl, ?_, ?_, ?_⟩
      · refine XSim.reset' hs' (r := r) (b := lb) hgl ?_ fun c => Tr.get_set _ _ _ _
        have e0 : ((R.take (R.take (R.drop br (p.bo + (i + 1))) (m - 1)) 0).toL : List Value) = [] := by rw [R.take_toL, List.take_zero]
        rw [R.splice_toL _ _ _ (by rw [R.take_size _ _ (Nat.zero_le _)]; omega), e0]
        rfl
      · rw [show i + 1 + (m - 1) = i + m by omega]
        by_cases hq : p.len - i ≤ 256 - (addr + i) % 256
        · left; omega
        · right; omega
      · rw [show addr + i + 1 + (m - 1) = addr + i + m by omega, show i + 1 + (m - 1) = i + m by omega]
        exact h3
    · rw [hz, cond_true] at hr
      cases hr
      have hm' : m - 1 = 0 := Nat.eq_of_beq_eq_true hz
      have : m = 1 := by omega
      subst this
      right
      refine ⟨f, e2, ?_, hs', h3⟩
      by_cases hq : p.len - i ≤ 256 - (addr + i) % 256
      · exact .inr (.inr (by omega))
      · exact .inr (.inl (by omega))
/-- The summary of 'put' stands for the code. -/
theorem put_ok {args : List XA} {r : XV × EH × Nat} (he : s_put args eh n = some r) {args' : List Value} (hs : XSim F ρ n eh h) (ha : All2 (RA ρ) args args') : AM.Spec Tryz.prog 63 args' h (CPost F ρ r) := by
  unfold s_put at he
  split at he
  rotate_left
  · cases he
  rename_i m addr bb bo len cap
  split at he
  rotate_left
  · cases he
  rename_i mb mo hptr
  obtain ⟨hc, he⟩ := bif_some he
  simp only [Bool.and_eq_true, blt_iff, ble_iff] at hc
  obtain ⟨hl0, hlen⟩ := hc
  split at he
  rotate_left
  · cases he
  rename_i ehf hrun
  cases he
  obtain ⟨a1, a2, a3, rfl, h1, h2, h3⟩ := all2_3 ha
  unfold ptrC at hptr
  split at hptr
  rotate_left
  · cases hptr
  cases hptr
  obtain ⟨mb', t, hm, rfl⟩ := h1.toC.ptr
  obtain ⟨bb', t2, cap, hbb, rfl, _⟩ := h3.toC.slT
  obtain rfl := h2.toC.self_eq rfl
  refine F63_spec _ _ _ _ _ ?_
  unfold F63 F63_0 F63_1 F63_2
  refine ⟨fun m s h' => ∃ i, s = (.pointer (some ⟨mb', mo, none⟩), .int .u32 addr, .slice (some ⟨bb', bo, none⟩) len cap, .int .i64 (i : Nat)) ∧ i ≤ len ∧ m = len - i ∧ (Mid F ρ n ⟨mb, mo, bb, bo, len⟩ addr ehf i h' ∨ Edge' F ρ n ⟨mb, mo, bb, bo, len⟩ addr ehf i h'),
    ⟨len, 0, rfl, Nat.zero_le _, rfl, .inr ⟨_, eh, .inl rfl, hs, hrun⟩⟩, ?_⟩
  rintro m s h' ⟨i, rfl, hi, rfl, hM⟩
  by_cases hlt : i < len
  · rcases hM with hM | hM
    · obtain ⟨q1, q2, q3, eh', k, e1, g1, g2, g3⟩ := mid_step hM hlen
      refine put_body (p := ⟨mb, mo, bb, bo, len⟩) (e2 := e1) g1 hm hbb hlt hlen g2 (by rw [if_neg (by rintro (h | h) <;> contradiction)]) fun h'' hs'' => ?_
      exact ⟨len - (i + 1), by omega, i + 1, rfl, hlt, rfl, g3 h'' hs''⟩
    · obtain ⟨q1, eh', k, e1, e2, g1, g2, g3, g4⟩ := edge_step hM hlt hlen
      refine put_body (p := ⟨mb, mo, bb, bo, len⟩) g1 hm hbb hlt hlen g2 (by rw [if_pos q1]; exact g3) fun h'' hs'' => ?_
      exact ⟨len - (i + 1), by omega, i + 1, rfl, hlt, rfl, g4 h'' hs''⟩
  · have hil : i = len := by omega
    subst hil
    rcases hM with hM | hM
    · obtain ⟨q1, _⟩ := mid_step hM hlen
      exact absurd q1 (Nat.lt_irrefl _)
    · obtain ⟨f, e, k1, k2, k3⟩ := hM
      unfold F63_3
      have d1 : decide ((i : Int) < (i : Int)) = false := by simp
      simp only [len_sl, bin_lss, d1, if_false']
      have : e = ehf := by
        cases f <;> simp only [p_run, Nat.beq_refl, cond_true] at k3 <;> cases k3 <;> rfl
      subst this
      exact ⟨ρ, Ren.le_refl ρ, k2, .tup .nil⟩
end
end Go.Proofs.YtbmfblmebhobiaaGreat

/-
  The summary of 'within' stands for the code.
-/
set_option linter.unusedSimpArgs false
set_option linter.unusedVariables false
namespace Go.Proofs.YtbmfblmebhobiaaGreat
open Go.Proofs.YtbmfblmebhobiaaGreat.AM
section
variable {F : H} {ρ : Ren} {n : Nat} {eh : EH} {h : H}
theorem XSim.sub (hs : XSim F ρ n eh h) {h' : H} (hh : Sub h h') : XSim F ρ n eh h' where
  z0 := hs.z0
  z1 := hs.z1
  two := hs.two
  top := hs.top
  n2 := hs.n2
  obj b o hb hd := by
    obtain ⟨b', τ, o', h1, h2, h3⟩ := hs.obj b o hb hd
    exact ⟨b', τ, o', h1, hh _ _ h2, h3⟩
  inj := hs.inj
  fr c o hc := hh _ _ (hs.fr c o hc)
  fsep := hs.fsep
theorem outside_mem {addr last : Nat} {es : List (Value × XA)} {es' : List (Value × Value)} (ha : RM ρ es es') (ho : outside addr last es = true) : ∀ e ∈ es', ∃ k : Nat, e.1 = .int .u32 k ∧ k < 4294967296 ∧ (k < addr ∨ last ≤ k) := by
  obtain ⟨l, ha, hp, hd⟩ := ha
  clear hd
  intro e he
  replace he := hp.mem_iff.2 he
  clear hp
  revert e
  revert ho
  induction ha with
  | nil => intro _ e he; cases he
  | cons h1 h2 ih =>
    rename_i e0 e1 l m
    intro ho e he
    simp only [outside, Bool.and_eq_true] at ho
    obtain ⟨ho1, ho2⟩ := ho
    rcases List.mem_cons.1 he with rfl | he
    · rw [h1.1]
      split at ho1
      · rename_i k hk
        simp only [Bool.and_eq_true, Bool.or_eq_true, blt_iff, ble_iff] at ho1
        exact ⟨k, hk, ho1⟩
      · cases ho1
    · exact ih ho2 e he
theorem mfind_in {es : List (Value × Value)} {e : Value × Value} (he : e ∈ es) (hr : keyEq e.1 e.1 = true) : ∃ v, mfind es e.1 = some v := by
  induction es with
  | nil => cases he
  | cons a l ih =>
    simp only [mfind]
    cases hk : keyEq e.1 a.1
    · rcases List.mem_cons.1 he with rfl | he
      · rw [hr] at hk; cases hk
      · exact ih he
    · exact ⟨_, rfl⟩
theorem filter_lt {l : List Value} {p : Value → Bool} (h : l.any p = true) : (l.filter fun k => !p k).length < l.length := by
  induction l with
  | nil => cases h
  | cons a l ih =>
    simp only [List.any_cons, Bool.or_eq_true] at h
    simp only [List.filter_cons]
    cases hp : p a
    · rw [hp] at h
      simp only [Bool.not_false, if_true, List.length_cons]
      have := ih (by simpa using h)
      omega
    · simp only [Bool.not_true, if_false, List.length_cons]
      exact Nat.lt_succ_of_le (List.length_filter_le _ _)
set_option maxRecDepth 10000 in
theorem within_ok {args : List XA} {r : XV × EH × Nat} (he : s_within args eh n = some r) {args' : List Value} (hs : XSim F ρ n eh h) (ha : All2 (RA ρ) args args') : AM.Spec Tryz.prog 92 args' h (CPost F ρ r) := by
  unfold s_within at he
  split at he
  rotate_left
  · cases he
  rename_i m addr many
  split at he
  rotate_left
  · cases he
  rename_i mb mo hptr
  split at he
  rotate_left
  · cases he
  rename_i pm hc
  split at he
  rotate_left
  · cases he
  rename_i es clk hg
  obtain ⟨hb, he⟩ := bif_some he
  cases he
  simp only [Bool.and_eq_true, blt_iff] at hb
  obtain ⟨⟨ho, hl1⟩, hl2⟩ := hb
  obtain ⟨a1, a2, a3, rfl, h1, h2, h3⟩ := all2_3 ha
  unfold ptrC at hptr
  split at hptr
  rotate_left
  · cases hptr
  cases hptr
  obtain ⟨mb', t, hm, rfl⟩ := h1.toC.ptr
  obtain rfl := h2.toC.self_eq rfl
  obtain rfl := h3.toC.self_eq rfl
  obtain ⟨v', hv', hr⟩ := cell_of hs hm hc
  obtain ⟨pm', t', hl, rfl⟩ := hr.mp
  obtain ⟨es', hmap, hes⟩ := hs.map hg hl
  have hout := outside_mem hes ho
  refine F92_spec _ _ _ _ _ ?_
  unfold F92 F92_0 F92_1 F92_2
  simp only [nil_ptr, field_addr, load_cell hv']
  unfold o_range
  simp only [hmap]
  intro b hb2 hbn
  have hne : pm' ≠ b := fun e => by rw [e, hbn] at hmap; cases hmap
  unfold F92_3 F92_4
  refine ⟨fun m s h' => ∃ left cur, s = (.int .u32 addr, .int .u64 many, .slice none 0 0, .pointer (some ⟨b, 0, none⟩)) ∧ h' = AM.upd h b (.iter (some pm') left clk cur) ∧ m = left.length, ⟨_, _, _, rfl, rfl, rfl⟩, ?_⟩
  rintro m s h' ⟨left, cur, rfl, rfl, rfl⟩
  have hmapU : ∀ o, AM.upd h b o pm' = some (.map (.int .u32) es' clk) := fun o => by rw [upd_ne _ _ hne]; exact hmap
  have hrefl : ∀ e ∈ es', keyEq e.1 e.1 = true := fun e he => by
    obtain ⟨k, hk, _⟩ := hout e he
    rw [hk]; simp [keyEq]
  unfold F92_5 o_next
  simp only [upd_same, hmapU]
  refine ⟨trivial, fun e hem hany => ?_, fun _ => ?_⟩
  · obtain ⟨k, hk, hkl, hkk⟩ := hout e hem
    obtain ⟨v, hv⟩ := mfind_in hem (hrefl e hem)
    rw [ex0', if_true']
    unfold o_entry
    have hupd2 : ∀ o o', AM.upd (AM.upd h b o) b o' = AM.upd h b o' := fun o o' => by
      funext c; unfold AM.upd; split <;> rfl
    rw [hupd2]
    simp only [upd_same, hmapU, hv]
    refine ⟨trivial, ?_⟩
    rw [ex0, hk, bin_geq]
    have hlt := filter_lt hany
    rw [hk] at hlt
    by_cases hka : addr ≤ k
    · have d1 : decide ((addr : Int) ≤ (k : Int)) = true := by simp; omega
      rw [d1, guard_tt]
      have u64 : ∀ {x : Int}, 0 ≤ x → x < 18446744073709551616 → IntKind.u64.wrap x = x := fun {x} h1 h2 => by
        refine wrap_id ?_ ?_ <;> simp [IntKind.min, IntKind.max, IntKind.signed, IntKind.bits] <;> omega
      rw [conv_int, u64 (by omega) (by omega)]
      simp only [conv_int]
      rw [u64 (x := (addr : Int)) (by omega) (by omega), bin_mul]
      rw [u64 (x := (many : Int) * 256) (by omega) (by omega), bin_add]
      rw [u64 (x := (addr : Int) + (many : Int) * 256) (by omega) (by omega), bin_lss]
      have d2 : decide ((k : Int) < (addr : Int) + (many : Int) * 256) = false := by simp; omega
      rw [d2, pick_true, if_false']
      exact ⟨_, hlt, _, _, trivial, rfl, rfl⟩
    · have d1 : decide ((addr : Int) ≤ (k : Int)) = false := by simp; omega
      rw [d1, guard_ft, pick_false, if_false']
      exact ⟨_, hlt, _, _, trivial, rfl, rfl⟩
  · rw [extract_tuple (v := .bool false) rfl, if_false']
    unfold F92_6
    exact ⟨ρ, Ren.le_refl ρ, XSim.sub hs (Sub.new hbn), .a (.c (.of_self rfl))⟩
end
end Go.Proofs.YtbmfblmebhobiaaGreat

/-
  The summary of 'write' stands for the code.
-/
set_option linter.unusedSimpArgs false
set_option linter.unusedVariables false
namespace Go.Proofs.YtbmfblmebhobiaaGreat
open Go.Proofs.YtbmfblmebhobiaaGreat.AM
section
variable {F : H} {ρ : Ren} {n : Nat} {eh : EH} {h : H}
theorem w_page_set {p : WP} {e : EH} {pb a : Nat} {r r' : R} {E E' : TypeId} {w w' : AM.Own} (hg : e.get pb = some (.cells r E w)) (hne : pb ≠ p.mb) : w_page p (e.set pb (.cells r' E' w')) a = w_page p e a := by
  unfold w_page
  rw [cellE_set (Ne.symm hne)]
  split
  · rename_i pm _
    by_cases he : pm = pb
    · subst he
      rw [Tr.get_set, if_pos rfl, hg]
    · rw [Tr.get_set, if_neg he]
  · rfl
theorem w_page_congr {p : WP} {e : EH} {a b : Nat} (h : a - a % 256 = b - b % 256) : w_page p e a = w_page p e b := by
  have h' : Nat.sub a (Nat.mod a 256) = Nat.sub b (Nat.mod b 256) := h
  unfold w_page
  rw [h']
theorem dcall_base {a : Nat} {K : Value → H → Prop} (ha : a < 4294967296) : o_dcall D0 138 [.int .u32 a] h K = K (.int .u32 (a - a % 256 : Nat)) h := by
  show (_ ∧ K (.int .u32 (IntKind.u32.wrap ((a : Int) - (a : Int).tmod 256))) h) = _
  rw [base_eq ha]
  simp [boxV]
theorem gen_ok {p : WP} {mb' a : Nat} {t : LObj} {eh' : EH} (hs : XSim F ρ n eh h) (hm : ρ p.mb = some (mb', t)) (ha : a < 4294967296) (hp : w_gen p eh a = some eh') {x1 x27 x28 x29 : Value} {Kn : Value → Value → Value → Value → Value → H → Prop} {Kr : Value → H → Prop} {Ke2 : Value → Value → Value → Value → Value → H → Prop} {Ke1 : H → Prop}
    (hq : ∀ h', XSim F ρ n eh' h' → Kn (.pointer (some ⟨mb', p.mo, none⟩)) x1 x27 x28 x29 h') : F93_13 (.pointer (some ⟨mb', p.mo, none⟩)) x1 (.int .u32 a) x27 x28 x29 h Kn Kr Ke2 Ke1 := by
  unfold w_gen at hp
  split at hp
  rotate_left
  · cases hp
  rename_i gm hc
  split at hp
  rotate_left
  · cases hp
  rename_i gs c hg
  split at hp
  rotate_left
  · cases hp
  rename_i x hx
  cases hp
  obtain ⟨v', hv', hr⟩ := cell_of hs hm hc
  obtain ⟨gm', t', hl, rfl⟩ := hr.mp
  change xfind gs (.int .u32 ((a - a % 256 : Nat) : Int)) = _ at hx
  unfold F93_13
  simp only [nil_ptr, field_addr, load_cell hv']
  rw [dcall_base ha]
  refine e_lookup_ok (z := .c (.int .u32 0)) (x := .c (.map (some gm))) (k := .c (.int .u32 ((a - a % 256 : Nat) : Int))) (r := .a (.c (.int .u32 x))) hs (.c (.of_self rfl)) (.c hr) (.c (.of_self rfl)) ?_ fun u hu => ?_
  · simp only [e_lookup, hg, hx]; rfl
  · have : u = .int .u32 x := by cases hu with | a hu => exact hu.toC.self_eq rfl
    subst this
    rw [bin_add]
    refine e_mapUpdate_ok (m := .c (.map (some gm))) (k := .c (.int .u32 ((a - a % 256 : Nat) : Int))) (x := .c (.int .u32 (wrapF .u32 (x + 1)))) hs (.c hr) (.c (.of_self rfl)) (by rw [wrapF_eq]; exact .c (.of_self rfl)) ?_ hq
    simp only [e_mapUpdate, hg, hx]; rfl
/-- A round of 'write'. -/
theorem write_body {p : WP} {mb' bb' addr i cap : Nat} {t t2 : LObj} {e1 e2 : EH} (hs : XSim F ρ n eh h) (hm : ρ p.mb = some (mb', t)) (hbb : ρ p.bb = some (bb', t2)) (hi : i < p.len) (hlen : addr + p.len ≤ 4294967296) (hp : w_first p eh (addr + i) i = some e1)
    (hgen : if i = 0 ∨ (addr + i) % 256 = 0 then w_gen p e1 (addr + i) = some e2 else e2 = e1) {Kn : Value → Value → Value → Value → Value → H → Prop} {Kr : Value → H → Prop} {Ke : H → Prop}
    (hk : ∀ h', XSim F ρ n e2 h' → Kn (.pointer (some ⟨mb', p.mo, none⟩)) (.int .u32 addr) (.slice (some ⟨bb', p.bo, none⟩) p.len cap) (.int .i64 p.len) (.int .i64 (i + 1 : Nat)) h') :
    F93_5 (.pointer (some ⟨mb', p.mo, none⟩)) (.int .u32 addr) (.slice (some ⟨bb', p.bo, none⟩) p.len cap) (.int .i64 p.len) (.int .i64 i) h Kn Kr Ke := by
  unfold w_first at hp
  split at hp
  rotate_left
  · cases hp
  rename_i pb po v hpm hv
  unfold w_page at hpm
  split at hpm
  rotate_left
  · cases hpm
  rename_i pm hc
  split at hpm
  rotate_left
  · cases hpm
  rename_i es clk hgm
  split at hpm
  rotate_left
  · cases hpm
  rename_i pb' po' hx
  cases hpm
  split at hp
  rotate_left
  · cases hp
  rename_i r E w hg
  obtain ⟨hb, hp⟩ := bif_some hp
  cases hp
  simp only [Bool.and_eq_true, blt_iff] at hb
  obtain ⟨⟨hw, hsz⟩, ha⟩ := hb
  change po + (addr + i) % 256 < r.size at hsz
  change xfind es (.int .u32 ((addr + i - (addr + i) % 256 : Nat) : Int)) = _ at hx
  obtain ⟨v', hv', hrv⟩ := cell_of hs hbb hv
  obtain ⟨ls, hls, hrl⟩ := cell_of hs hm hc
  obtain ⟨pm', t', hl, rfl⟩ := hrl.mp
  unfold F93_5
  have d1 : decide ((i : Int) < (p.len : Int)) = true := by simp; omega
  rw [bin_lss, d1, if_true']
  unfold F93_6 F93_7 F93_8
  have e3 : p.bo + (i : Int).toNat * 1 = p.bo + i := by simp
  rw [index_sl (show (0 : Int) ≤ (i : Int) by omega) (show (i : Int) < (p.len : Int) by omega), e3, load_cell hv']
  have e1 : IntKind.u32.wrap (i : Int) = (i : Int) := wrapu32 (by omega) (by omega)
  have e2' : IntKind.u32.wrap ((addr : Int) + (i : Int)) = ((addr + i : Nat) : Int) := by rw [wrapu32 (by omega) (by omega)]; omega
  simp only [conv_int, e1, bin_add, e2']
  unfold F93_9 F93_10
  simp only [nil_ptr, field_addr, load_cell hls]
  rw [dcall_base ha]
  have hmod : (addr + i) % 256 < 256 := Nat.mod_lt _ (by decide)
  refine e_lookup_ok (z := .c (.pointer none)) (x := .c (.map (some pm))) (k := .c (.int .u32 ((addr + i - (addr + i) % 256 : Nat) : Int))) (r := .a (.c (.pointer (some ⟨pb, po, none⟩)))) hs (.c (.of_self rfl)) (.c hrl) (.c (.of_self rfl)) ?_ fun u hu => ?_
  · simp only [e_lookup, hgm, hx]; rfl
  obtain ⟨pb', tp, hpb, rfl⟩ : ∃ b' t, ρ pb = some (b', t) ∧ u = .pointer (some ⟨b', po, none⟩) := by cases hu with | a hu => exact hu.toC.ptr
  rw [bin_rem (by decide), rem_eq, nil_ptr, field_addr]
  rw [index_arr (show (0 : Int) ≤ (((addr + i) % 256 : Nat) : Int) by omega) (by omega)]
  have e4 : po + 0 + (((addr + i) % 256 : Nat) : Int).toNat * 1 = po + (addr + i) % 256 := by rw [Int.toNat_natCast, Nat.mul_one, Nat.add_zero]
  rw [e4]
  refine store1 hs hg hpb hw hsz hrv fun h1 hs1 => ?_
  have hfin : ∀ h', XSim F ρ n e2 h' → F93_15 (.pointer (some ⟨mb', p.mo, none⟩)) (.int .u32 addr) (.slice (some ⟨bb', p.bo, none⟩) p.len cap) (.int .i64 p.len) (.int .i64 i) h' Kn Kr Ke := by
    intro h' hs'
    unfold F93_15
    have e5 : IntKind.i64.wrap ((i : Int) + 1) = ((i + 1 : Nat) : Int) := by rw [wrap64 (by omega) (by omega)]; omega
    rw [bin_add, e5]
    exact hk h' hs'
  unfold F93_11
  rw [bin_eql]
  by_cases hi0 : i = 0
  · subst hi0
    rw [if_pos (Or.inl rfl)] at hgen
    have d2 : decide (((0 : Nat) : Int) = 0) = true := rfl
    rw [d2, guard_tf, pick_true]
    unfold F93_12
    rw [if_true']
    exact gen_ok hs1 hm ha hgen hfin
  · have d2 : decide ((i : Int) = 0) = false := by simp; omega
    rw [d2, guard_ff, bin_rem (by decide), rem_eq, bin_eql]
    simp only [pick_false]
    unfold F93_12
    by_cases hi1 : (addr + i) % 256 = 0
    · rw [if_pos (Or.inr hi1)] at hgen
      have d3 : decide ((((addr + i) % 256 : Nat) : Int) = 0) = true := by rw [hi1]; rfl
      rw [d3, if_true']
      exact gen_ok hs1 hm ha hgen hfin
    · rw [if_neg (by rintro (h | h) <;> contradiction)] at hgen
      have d3 : decide ((((addr + i) % 256 : Nat) : Int) = 0) = false := by simp; omega
      rw [d3, if_false']
      unfold F93_14
      subst hgen
      exact hfin _ hs1
/-- The round at byte i stands within a page: c bytes behind the first are done, of cnt. -/
def MidW (F : H) (ρ : Ren) (n : Nat) (p : WP) (addr : Nat) (ehf : EH) (i : Nat) (h : H) : Prop :=
  ∃ (e1 : EH) (pb po c cnt : Nat) (r : R) (E : TypeId) (w : AM.Own) (br : R) (bE : TypeId) (bw : AM.Own) (f : Nat) (s : R),
    c < cnt ∧ c < i ∧ i - c + cnt ≤ p.len ∧ (addr + i) % 256 = (addr + (i - c)) % 256 + c ∧ (addr + (i - c)) % 256 ≠ 0 ∧ (addr + (i - c)) % 256 + cnt ≤ 256 ∧
    w_page p e1 (addr + i) = some (pb, po) ∧ e1.get pb = some (.cells r E w) ∧ e1.get p.bb = some (.cells br bE bw) ∧
    notRo w = true ∧ pb ≠ p.mb ∧ pb ≠ p.bb ∧ po + (addr + (i - c)) % 256 + cnt ≤ r.size ∧ p.bo + (i - c) + cnt ≤ br.size ∧
    s = (br.drop (p.bo + (i - c))).take cnt ∧
    XSim F ρ n (e1.set pb (.cells (r.splice (po + (addr + (i - c)) % 256) (s.take c)) E w)) h ∧
    (i - c + cnt = p.len ∨ (addr + (i - c + cnt)) % 256 = 0) ∧
    w_run p f (e1.set pb (.cells (r.splice (po + (addr + (i - c)) % 256) s) E w)) (addr + (i - c) + cnt) (i - c + cnt) = some ehf
def EdgeW (F : H) (ρ : Ren) (n : Nat) (p : WP) (addr : Nat) (ehf : EH) (i : Nat) (h : H) : Prop :=
  ∃ f e, (i = 0 ∨ (addr + i) % 256 = 0 ∨ i = p.len) ∧ XSim F ρ n e h ∧ w_run p f e (addr + i) i = some ehf
/-- A round out of the midst of a page. -/
theorem midW_step {p : WP} {addr i : Nat} {ehf : EH} (hM : MidW F ρ n p addr ehf i h) (hlen : addr + p.len ≤ 4294967296) :
    i < p.len ∧ i ≠ 0 ∧ (addr + i) % 256 ≠ 0 ∧ ∃ eh e1, XSim F ρ n eh h ∧ w_first p eh (addr + i) i = some e1 ∧ ∀ h', XSim F ρ n e1 h' → MidW F ρ n p addr ehf (i + 1) h' ∨ EdgeW F ρ n p addr ehf (i + 1) h' := by
  obtain ⟨e1, pb, po, c, cnt, r, E, w, br, bE, bw, f, s, h1, h2, h3, h4, h5, h6, h7, h8, h9, h11, h13, h14, h15, h16, h17, h18, h19, h20⟩ := hM
  have hss : s.size = cnt := by rw [h17, R.take_size _ _ (by rw [R.drop_size]; omega)]
  have hsc : (s.take c).size = c := R.take_size _ _ (by omega)
  obtain ⟨v, hv⟩ : ∃ v, br.get (p.bo + i) = some v := by
    have : p.bo + i < br.toL.length := by rw [← R.size_eq]; omega
    exact ⟨br.toL[p.bo + i], by rw [R.get_eq, List.getElem?_eq_getElem this]⟩
  have hvs : s.get c = some v := by
    rw [h17, R.get_eq, R.take_toL, R.drop_toL, List.getElem?_take_of_lt h1, List.getElem?_drop, ← R.get_eq, ← hv]
    congr 1; omega
  generalize hst : po + (addr + (i - c)) % 256 = st at *
  have hsto : po + (addr + i) % 256 = st + c := by omega
  have hXsz : (r.splice st (s.take c)).size = r.size := R.splice_size _ _ _ (by omega)
  refine ⟨by omega, by omega, by omega, e1.set pb (.cells (r.splice st (s.take c)) E w), (e1.set pb (.cells (r.splice st (s.take c)) E w)).set pb (.cells ((r.splice st (s.take c)).set (st + c) v) E w), h18, ?_, ?_⟩
  · have g1 : w_page p (e1.set pb (.cells (r.splice st (s.take c)) E w)) (addr + i) = some (pb, po) := by rw [w_page_set h8 h13]; exact h7
    have g2 : cellE (e1.set pb (.cells (r.splice st (s.take c)) E w)) p.bb (p.bo + i) = some v := by
      rw [cellE_set (Ne.symm h14)]
      simp only [cellE, h9]; exact hv
    have g3 : (e1.set pb (.cells (r.splice st (s.take c)) E w)).get pb = some (.cells (r.splice st (s.take c)) E w) := by rw [Tr.get_set, if_pos rfl]
    unfold w_first
    rw [g1, g2]
    simp only [g3]
    have g5 : (notRo w && Nat.blt (po + Nat.mod (addr + i) 256) (r.splice st (s.take c)).size && Nat.blt (addr + i) 4294967296) = true := by
      simp only [Bool.and_eq_true, blt_iff, h11, true_and, hXsz]
      refine ⟨?_, ?_⟩
      · show po + (addr + i) % 256 < r.size
        omega
      · omega
    rw [g5, cond_true]
    show some ((e1.set pb (.cells (r.splice st (s.take c)) E w)).set pb (.cells ((r.splice st (s.take c)).set (po + (addr + i) % 256) v) E w)) = _
    rw [hsto]
  · intro h' hs'
    have key : ∀ s', s'.toL = (r.splice st (s.take (c + 1))).toL → XSim F ρ n (e1.set pb (.cells s' E w)) h' := by
      intro s' he
      refine XSim.reset' hs' (r := (r.splice st (s.take c)).set (st + c) v) (b := pb) (r' := s') (E := E) (w := w) (by rw [Tr.get_set, if_pos rfl]) ?_ ?_
      · rw [he, splice_snoc (by omega) hvs (by omega)]
      · intro q
        rw [Tr.get_set, Tr.get_set, Tr.get_set]
        split <;> rfl
    by_cases hcc : c + 1 < cnt
    · left
      have e1' : i + 1 - (c + 1) = i - c := by omega
      have e2' : (addr + (i + 1)) % 256 = (addr + i) % 256 + 1 := by omega
      refine ⟨e1, pb, po, c + 1, cnt, r, E, w, br, bE, bw, f, s, hcc, by omega, ?_⟩
      rw [e1', hst]
      refine ⟨h3, by omega, h5, h6, ?_, h8, h9, h11, h13, h14, h15, h16, h17, key _ rfl, h19, h20⟩
      rw [w_page_congr (show addr + (i + 1) - (addr + (i + 1)) % 256 = addr + i - (addr + i) % 256 by omega)]; exact h7
    · right
      have hc1 : c + 1 = cnt := by omega
      refine ⟨f, e1.set pb (.cells (r.splice st s) E w), ?_, key _ ?_, ?_⟩
      · rw [show i - c + cnt = i + 1 by omega] at h19
        rcases h19 with h | h
        · exact .inr (.inr h)
        · exact .inr (.inl h)
      · have : (s.take (c + 1)).toL = s.toL := by rw [R.take_toL, List.take_of_length_le]; rw [← R.size_eq]; omega
        rw [R.splice_toL _ _ _ (by omega), R.splice_toL _ _ _ (by rw [R.take_size _ _ (by omega)]; omega), this]
      · rw [show addr + (i + 1) = addr + (i - c) + cnt by omega, show i + 1 = i - c + cnt by omega]; exact h20
/-- A round at a page's head. -/
theorem edgeW_step {p : WP} {addr i : Nat} {ehf : EH} (hE : EdgeW F ρ n p addr ehf i h) (hi : i < p.len) (hlen : addr + p.len ≤ 4294967296) :
    (i = 0 ∨ (addr + i) % 256 = 0) ∧ ∃ eh e1 e2, XSim F ρ n eh h ∧ w_first p eh (addr + i) i = some e1 ∧ w_gen p e1 (addr + i) = some e2 ∧ ∀ h', XSim F ρ n e2 h' → MidW F ρ n p addr ehf (i + 1) h' ∨ EdgeW F ρ n p addr ehf (i + 1) h' := by
  obtain ⟨f, e, h1, h2, h3⟩ := hE
  refine ⟨by omega, ?_⟩
  have hne : Nat.beq i p.len = false := nbeq (by omega)
  cases f with
  | zero => simp only [w_run, hne, cond_false] at h3; cases h3
  | succ f =>
    simp only [w_run, hne, cond_false] at h3
    split at h3
    rotate_left
    · cases h3
    rename_i e1 hf
    split at h3
    rotate_left
    · cases h3
    rename_i e2 hg
    split at h3
    rotate_left
    · cases h3
    rename_i e3 hr
    refine ⟨e, e1, e2, h2, hf, hg, fun h' hs' => ?_⟩
    rw [minN_eq] at h3 hr
    change w_run p f e3 (addr + i + min (p.len - i) (256 - (addr + i) % 256)) (i + min (p.len - i) (256 - (addr + i) % 256)) = some ehf at h3
    change w_rest p e2 (addr + i + 1) (i + 1) (min (p.len - i) (256 - (addr + i) % 256) - 1) = some e3 at hr
    have hmod : (addr + i) % 256 < 256 := Nat.mod_lt _ (by decide)
    generalize hm : min (p.len - i) (256 - (addr + i) % 256) = m at *
    have hm1 : 1 ≤ m := by omega
    unfold w_rest at hr
    cases hz : Nat.beq (m - 1) 0
    · rw [hz, cond_false] at hr
      have hz' : m - 1 ≠ 0 := fun e => by rw [e] at hz; cases hz
      split at hr
      rotate_left
      · cases hr
      rename_i pb po br bE bw hpm hbb
      split at hr
      rotate_left
      · cases hr
      rename_i r E w hgl
      obtain ⟨hb, hr⟩ := bif_some hr
      simp only [Bool.and_eq_true, blt_iff, ble_iff, Bool.not_eq_true'] at hb
      obtain ⟨⟨⟨⟨hw, hb1⟩, hb2⟩, hs1⟩, hs2⟩ := hb
      have hne1 : pb ≠ p.mb := fun e => by rw [e, Nat.beq_refl] at hb1; cases hb1
      have hne2 : pb ≠ p.bb := fun e => by rw [e, Nat.beq_refl] at hb2; cases hb2
      cases hr
      change po + (addr + i + 1) % 256 + (m - 1) ≤ r.size at hs1
      left
      have ei : i + 1 - 0 = i + 1 := rfl
      refine ⟨e2, pb, po, 0, m - 1, r, E, w, br, bE, bw, f, (br.drop (p.bo + (i + 1))).take (m - 1), by omega, by omega, ?_⟩
      rw [ei]
      have ea : addr + (i + 1) = addr + i + 1 := rfl
      rw [ea]
      refine ⟨by omega, by omega, by omega, by omega, hpm, hgl, hbb, hw, hne1, hne2, hs1, hs2, rfl, ?_, ?_, ?_⟩
      · refine XSim.reset' hs' (r := r) (b := pb) hgl ?_ fun c => Tr.get_set _ _ _ _
        have e0 : ((R.take (R.take (R.drop br (p.bo + (i + 1))) (m - 1)) 0).toL : List Value) = [] := by rw [R.take_toL, List.take_zero]
        rw [R.splice_toL _ _ _ (by rw [R.take_size _ _ (Nat.zero_le _)]; omega), e0]
        rfl
      · rw [show i + 1 + (m - 1) = i + m by omega]
        by_cases hq : p.len - i ≤ 256 - (addr + i) % 256
        · left; omega
        · right; omega
      · rw [show addr + i + 1 + (m - 1) = addr + i + m by omega, show i + 1 + (m - 1) = i + m by omega]
        exact h3
    · rw [hz, cond_true] at hr
      cases hr
      have hm' : m - 1 = 0 := Nat.eq_of_beq_eq_true hz
      have : m = 1 := by omega
      subst this
      right
      refine ⟨f, e2, ?_, hs', h3⟩
      by_cases hq : p.len - i ≤ 256 - (addr + i) % 256
      · exact .inr (.inr (by omega))
      · exact .inr (.inl (by omega))
theorem all2_5 {α β : Type} {R : α → β → Prop} {a b c d e : α} {l : List β} (h : All2 R [a, b, c, d, e] l) : ∃ x y z u v, l = [x, y, z, u, v] ∧ R a x ∧ R b y ∧ R c z ∧ R d u ∧ R e v := by
  cases h with | cons h1 h => cases h with | cons h2 h => cases h with | cons h3 h => cases h with | cons h4 h => cases h with | cons h5 h => cases h; exact ⟨_, _, _, _, _, rfl, h1, h2, h3, h4, h5⟩
/-- The summary of 'write' stands for the code. -/
theorem write_ok {C : CallF} (hC : CallOk Tryz.prog C) {fAll : Nat} (hAll : fAll = 137) {args : List XA} {r : XV × EH × Nat} (he : s_write C fAll args eh n = some r) {args' : List Value} (hs : XSim F ρ n eh h) (ha : All2 (RA ρ) args args') : AM.Spec Tryz.prog 93 args' h (CPost F ρ r) := by
  subst hAll
  unfold s_write at he
  split at he
  rotate_left
  · cases he
  rename_i m addr bb bo len cap most need
  split at he
  rotate_left
  · cases he
  rename_i mb mo hptr
  obtain ⟨hc, he⟩ := bif_some he
  simp only [Bool.and_eq_true, blt_iff, ble_iff] at hc
  obtain ⟨⟨hmost, hl0⟩, hlen⟩ := hc
  split at he
  rotate_left
  · cases he
  rename_i va ea na hca
  obtain ⟨hva, he⟩ := bif_some he
  split at he
  rotate_left
  · cases he
  rename_i ehf hrun
  cases he
  obtain ⟨a1, a2, a3, a4, a5, rfl, h1, h2, h3, h4, h5⟩ := all2_5 ha
  unfold ptrC at hptr
  split at hptr
  rotate_left
  · cases hptr
  cases hptr
  obtain ⟨mb', t, hm, rfl⟩ := h1.toC.ptr
  obtain ⟨bb', t2, cap, hbb, rfl, _⟩ := h3.toC.slT
  obtain rfl := h2.toC.self_eq rfl
  obtain rfl := h4.toC.self_eq rfl
  refine F93_spec _ _ _ _ _ _ _ ?_
  unfold F93 F93_0
  have d0 : decide ((most : Int) < (len : Int)) = false := by simp; omega
  simp only [len_sl]
  rw [bin_gtr]
  have d0' : decide (Int.ofNat most < (len : Int)) = false := d0
  rw [d0', if_false', call_iff (by simp only [List.all_cons, List.all_nil, bx_ptr, bx_int, h5.boxV, Bool.and_true])]
  refine (hC _ _ _ _ _ hca F ρ h _ hs (.cons h1 (.cons h2 (.cons (.c (.of_self rfl)) (.cons h5 .nil))))).mono ?_
  rintro v h1' ⟨ρ', hle, hs1, hv⟩
  unfold isTrueX at hva
  split at hva
  rotate_left
  · cases hva
  subst hva
  have : v = .bool true := by cases hv with | a hv => exact hv.toC.self_eq rfl
  subst this
  rw [un_not]
  show o_if (.bool false) _ _
  rw [if_false']
  unfold F93_1 F93_2
  simp only [len_sl]
  unfold F93_3 F93_4
  have hm' := hle _ _ hm
  have hbb' := hle _ _ hbb
  refine ⟨fun m s h' => ∃ i, s = (.pointer (some ⟨mb', mo, none⟩), .int .u32 addr, .slice (some ⟨bb', bo, none⟩) len cap, .int .i64 len, .int .i64 (i : Nat)) ∧ i ≤ len ∧ m = len - i ∧ (MidW F ρ' na ⟨mb, mo, bb, bo, len⟩ addr ehf i h' ∨ EdgeW F ρ' na ⟨mb, mo, bb, bo, len⟩ addr ehf i h'),
    ⟨len, 0, rfl, Nat.zero_le _, rfl, .inr ⟨_, ea, .inl rfl, hs1, hrun⟩⟩, ?_⟩
  rintro m s h' ⟨i, rfl, hi, rfl, hM⟩
  by_cases hlt : i < len
  · rcases hM with hM | hM
    · obtain ⟨q1, q2, q3, eh', e1, g1, g2, g3⟩ := midW_step hM hlen
      refine write_body (p := ⟨mb, mo, bb, bo, len⟩) (e2 := e1) g1 hm' hbb' hlt hlen g2 (by rw [if_neg (by rintro (h | h) <;> contradiction)]) fun h'' hs'' => ?_
      exact ⟨len - (i + 1), by omega, i + 1, rfl, hlt, rfl, g3 h'' hs''⟩
    · obtain ⟨q1, eh', e1, e2, g1, g2, g3, g4⟩ := edgeW_step hM hlt hlen
      refine write_body (p := ⟨mb, mo, bb, bo, len⟩) g1 hm' hbb' hlt hlen g2 (by rw [if_pos q1]; exact g3) fun h'' hs'' => ?_
      exact ⟨len - (i + 1), by omega, i + 1, rfl, hlt, rfl, g4 h'' hs''⟩
  · have hil : i = len := by omega
    subst hil
    rcases hM with hM | hM
    · obtain ⟨q1, _⟩ := midW_step hM hlen
      exact absurd q1 (Nat.lt_irrefl _)
    · obtain ⟨f, e, k1, k2, k3⟩ := hM
      unfold F93_5
      have d1 : decide ((i : Int) < (i : Int)) = false := by simp
      rw [bin_lss, d1, if_false']
      have : e = ehf := by
        cases f <;> simp only [w_run, Nat.beq_refl, cond_true] at k3 <;> cases k3 <;> rfl
      subst this
      unfold F93_16
      exact ⟨ρ', hle, k2, .a (.c (.of_self rfl))⟩
end
end Go.Proofs.YtbmfblmebhobiaaGreat

/-
  A summary of 'bump', and that it stands for the code.
-/
set_option linter.unusedSimpArgs false
set_option linter.unusedVariables false
namespace Go.Proofs.YtbmfblmebhobiaaGreat.AM
noncomputable section
/-- Has none a base, among the numbers of changes? -/
def p_none (r : R) (go cnt base : Nat) : Nat → Nat → Bool
  | 0, _ => false
  | f + 1, k => bif Nat.blt k cnt then (match r.get (go + 2 * k) with
    | some (.int .u32 (.ofNat x)) => bif Nat.beq x base then false else p_none r go cnt base f (k + 1)
    | _ => false) else true
def s_bump_new (P : Program) (mb mo base : Nat) (eh : EH) (n : Nat) : Res :=
  match e_buildSlice P 129 0 [] eh n with
  | some (.a v41, eh1, n1) => (match cellE eh1 mb (mo + 2) with
    | some sl => (match e_append 242 2 8 v41 (.c sl) eh1 n1 with
      | some (.a v46, eh2, n2) => (match e_build P 242 [(0, .c (.int .u32 (.ofNat base))), (1, .c (.int .u32 1))] with
        | some (.a v48) => (match e_buildSlice P 129 1 [(0, v48)] eh2 n2 with
          | some (.a v49, eh3, n3) => (match e_append 242 2 8 v46 v49 eh3 n3 with
            | some (.a v50, eh4, n4) => (match e_store 1 (.c (.pointer (some ⟨mb, mo + 2, none⟩))) v50 eh4 with
              | some eh5 => some (.tup [], eh5, n4)
              | none => none)
            | _ => none)
          | _ => none)
        | _ => none)
      | _ => none)
    | none => none)
  | _ => none
def s_bump (P : Program) (args : List XA) (eh : EH) (n : Nat) : Res :=
  match args with
  | [m, .c (.int .u32 (.ofNat a))] => (match ptrC m with
    | some (mb, mo) => (match p_gen ⟨mb, mo, mb, 0, 0⟩ eh a with
      | some eh' => some (.tup [], eh', n)
      | none => (match cellE eh mb (mo + 2) with
        | some (.slice (some ⟨gb, go, none⟩) cnt cap) => (match eh.get gb with
          | some (.cells r _ _) => bif p_none r go cnt (Nat.sub a (Nat.mod a 256)) 5000 0 && Nat.blt cnt 1000000 && Nat.blt a 4294967296 then s_bump_new P mb mo (Nat.sub a (Nat.mod a 256)) eh n else none
          | _ => none)
        | _ => none))
    | none => none)
  | _ => none
end
end Go.Proofs.YtbmfblmebhobiaaGreat.AM
namespace Go.Proofs.YtbmfblmebhobiaaGreat
open Go.Proofs.YtbmfblmebhobiaaGreat.AM
section
variable {F : H} {ρ : Ren} {n : Nat} {eh : EH} {h : H}
theorem RV.toA {x : XA} {v : Value} (h : RV ρ (.a x) v) : RA ρ x v := by cases h; assumption
theorem all2_2 {α β : Type} {R : α → β → Prop} {a b : α} {l : List β} (h : All2 R [a, b] l) : ∃ x y, l = [x, y] ∧ R a x ∧ R b y := by
  cases h with | cons h1 h => cases h with | cons h2 h => cases h; exact ⟨_, _, rfl, h1, h2⟩
set_option maxRecDepth 100000 in
theorem bump_new_ok {mb mb' mo base : Nat} {t : LObj} {r : XV × EH × Nat} (hs : XSim F ρ n eh h) (hm : ρ mb = some (mb', t)) (he : s_bump_new Tryz.prog mb mo base eh n = some r) {Kn Kr : H → Prop}
    (hk : ∀ ρ' h', ρ.le ρ' → XSim F ρ' r.2.2 r.2.1 h' → RV ρ' r.1 (.tuple #[]) → Kn h') : F61_6 (.pointer (some ⟨mb', mo, none⟩)) (.int .u32 (base : Nat)) h Kn Kr := by
  unfold s_bump_new at he
  split at he
  rotate_left
  · cases he
  rename_i v41 eh1 n1 h1
  split at he
  rotate_left
  · cases he
  rename_i sl hsl
  split at he
  rotate_left
  · cases he
  rename_i v46 eh2 n2 h2
  split at he
  rotate_left
  · cases he
  rename_i v48 h3
  split at he
  rotate_left
  · cases he
  rename_i v49 eh3 n3 h4
  split at he
  rotate_left
  · cases he
  rename_i v50 eh4 n4 h5
  split at he
  rotate_left
  · cases he
  rename_i eh5 h6
  cases he
  unfold F61_6
  refine e_buildSlice_ok (ps := []) hs .nil h1 fun ρ1 u41 g1 le1 hs1 hv1 => ?_
  obtain ⟨w, hw, hrw⟩ := cell_of hs1 (le1 _ _ hm) hsl
  simp only [nil_ptr, field_addr, load_cell hw]
  refine e_append_ok hs1 (RV.toA hv1) (.c hrw) h2 fun ρ2 u46 g2 le2 hs2 hv2 => ?_
  refine e_build_ok (ρ := ρ2) (ps := [(0, .c (.int .u32 (.ofNat base))), (1, .c (.int .u32 1))]) (.cons ⟨rfl, .c (.of_self rfl)⟩ (.cons ⟨rfl, .c (.of_self rfl)⟩ .nil)) h3 fun u48 hv3 => ?_
  refine e_buildSlice_ok (ps := [(0, v48)]) hs2 (.cons ⟨rfl, RV.toA hv3⟩ .nil) h4 fun ρ3 u49 g3 le3 hs3 hv4 => ?_
  refine e_append_ok hs3 ((RV.toA hv2).mono le3) (RV.toA hv4) h5 fun ρ4 u50 g4 le4 hs4 hv5 => ?_
  have le : ρ.le ρ4 := Ren.le_trans le1 (Ren.le_trans le2 (Ren.le_trans le3 le4))
  refine e_store_ok (x := .c (.pointer (some ⟨mb, mo + 2, none⟩))) hs4 (.c (.s (.ptr (le _ _ hm)))) (RV.toA hv5) h6 fun g5 hs5 => ?_
  exact hk ρ4 g5 le hs5 (.tup .nil)
set_option maxRecDepth 10000 in
/-- The summary of 'bump' stands for the code. -/
theorem bump_sum_ok {args : List XA} {r : XV × EH × Nat} (he : s_bump Tryz.prog args eh n = some r) {args' : List Value} (hs : XSim F ρ n eh h) (ha : All2 (RA ρ) args args') : AM.Spec Tryz.prog 61 args' h (CPost F ρ r) := by
  unfold s_bump at he
  split at he
  rotate_left
  · cases he
  rename_i m a
  split at he
  rotate_left
  · cases he
  rename_i mb mo hptr
  obtain ⟨a1, a2, rfl, h1, h2⟩ := all2_2 ha
  unfold ptrC at hptr
  split at hptr
  rotate_left
  · cases hptr
  cases hptr
  obtain ⟨mb', t, hm, rfl⟩ := h1.toC.ptr
  obtain rfl := h2.toC.self_eq rfl
  refine F61_spec _ _ _ _ ?_
  split at he
  · rename_i eh' hg
    cases he
    exact bump_ok (p := ⟨mb, mo, mb, 0, 0⟩) hs hm hg fun h' hs' => ⟨ρ, Ren.le_refl ρ, hs', .tup .nil⟩
  · split at he
    rotate_left
    · cases he
    rename_i gb go cnt cap hc
    split at he
    rotate_left
    · cases he
    rename_i rr E w hg
    obtain ⟨hb, he⟩ := bif_some he
    simp only [Bool.and_eq_true, blt_iff] at hb
    obtain ⟨⟨hf, hcnt⟩, hal⟩ := hb
    obtain ⟨v', hv, hr⟩ := cell_of hs hm hc
    obtain ⟨gb', t', _, hl, rfl, _⟩ := hr.slT
    change p_none rr go cnt (a - a % 256) 5000 0 = true at hf
    change s_bump_new Tryz.prog mb mo (a - a % 256) eh n = some r at he
    unfold F61 F61_0
    show o_bin Tryz.prog .rem 24 (.int .u32 (a : Int)) (.int .u32 256) _
    rw [bin_rem (by decide)]
    show o_bin Tryz.prog .sub 24 (.int .u32 (a : Int)) _ _
    rw [bin_sub, base_eq hal]
    generalize a - a % 256 = base at *
    unfold F61_1 F61_2 F61_3 F61_4
    refine ⟨fun m s h2 => h2 = h ∧ ∃ j : Nat, s = (.pointer (some ⟨mb', mo, none⟩), .int .u32 base, .int .i64 j) ∧ j ≤ cnt ∧ p_none rr go cnt base m j = true, ⟨5000, rfl, 0, rfl, Nat.zero_le _, hf⟩, ?_⟩
    rintro m s h2 ⟨rfl, j, rfl, hjc, hj⟩
    cases m with
    | zero => cases hj
    | succ m =>
      simp only [p_none] at hj
      unfold F61_5
      simp only [nil_ptr, field_addr, load_cell hv, len_sl, bin_lss]
      cases hb : Nat.blt j cnt
      · have := blt_false.1 hb
        have d1 : decide ((j : Int) < (cnt : Int)) = false := by simp; omega
        rw [d1, if_false']
        exact bump_new_ok hs hm he fun ρ' h' le hs' hv' => ⟨ρ', le, hs', hv'⟩
      · rw [hb, cond_true] at hj
        have hjc := blt_iff.1 hb
        split at hj
        rotate_left
        · cases hj
        rename_i y hy
        have hcell := cellI_of hs hl hg hy
        have d1 : decide ((j : Int) < (cnt : Int)) = true := by simp; omega
        have e1 : go + (j : Int).toNat * 2 + 0 = go + 2 * j := by simp; omega
        rw [d1, if_true', index_sl (show (0 : Int) ≤ (j : Int) by omega) (show (j : Int) < (cnt : Int) by omega), field_addr, e1, load_cell hcell, bin_eql]
        cases hb2 : Nat.beq y base
        · rw [hb2, cond_false] at hj
          have d2 : decide (Int.ofNat y = (base : Int)) = false := by
            have : y ≠ base := fun e => by rw [e, Nat.beq_refl] at hb2; cases hb2
            simp; omega
          rw [d2, if_false', bin_add]
          have e2 : IntKind.i64.wrap ((j : Int) + 1) = ((j + 1 : Nat) : Int) := by rw [wrap64 (by omega) (by omega)]; omega
          rw [e2]
          exact ⟨m, Nat.lt_succ_self m, trivial, j + 1, rfl, hjc, hj⟩
        · rw [hb2, cond_true] at hj; cases hj
end
end Go.Proofs.YtbmfblmebhobiaaGreat

/-
  The executor over this program: the summaries of three functions, each proved to stand for the code; which temporaries of a function are used within a region alone.
-/
set_option linter.unusedVariables false
namespace Go.Proofs.YtbmfblmebhobiaaGreat
open Go.Proofs.YtbmfblmebhobiaaGreat.AM
noncomputable section
def noS : CallF := fun _ _ _ _ => none
def masks : List Nat := [0, 0, 1, 1267650599637933582341703181312, 4835703278458499518955304, 15762598693699584, 2, 502234880, 2235307118264320, 33536960, 8, 2064128, 5192217049483419857504323210575872, 862691965175469682397856214053811804413712749603157841961579075076096, 68719468480, 295147904079841181568, 4398045462496, 56, 534773680, 2356568177647955214080, 32736, 8585739264, 2147483072, 31448320, 4088, 288230376143830912, 2251726799237248, 32240, 15856, 3848156471296, 64355295232, 3940616924750848, 374144419145822111317404359118056427333838232317952, 170141183460464244912393154146749775616, 2720763553871611364212852202523110407936, 2040, 77371252455257100129394688, 1015168, 649037107316844230172276361756672, 1125899831339008, 562949819201504, 137438953456, 2474661705703048495736291328, 16744192, 18281859405516666615808, 1208891231969474863134208, 1097364144112, 232, 232, 524248, 232, 75557832200578418597888, 1920, 9903520313202178284320915456, 274876069888, 120, 8048, 984, 50331584, 4026498560, 9007198180998912, 9007198986239936, 140736951209984, 1055531162656256, 2097120, 4193216, 2243003718565376, 2113863168, 24, 17591175200768, 274835963776, 8588623744, 16777208, 232, 504, 4503591037435200, 2097144, 618970019633401463218073600, 66977536, 288225977836763136, 4398046511096, 524256, 32752, 549613662336, 524256, 480, 504, 8125952, 4256312589824, 232, 232, 268435328, 67645693440, 147429837399586734080, 253440, 2096640, 4177856, 8064, 4194176, 16744192, 402649024, 32760, 81129561043354226359384384667392, 140737010188288, 5065650338505873306849602699008, 3504, 16376, 130016, 139637976600576, 488, 112, 488, 488, 27968, 8160, 32256, 524032, 2096096, 504, 1065270784, 1073282560, 68652335072, 599739957821027683110912, 32608, 2535291527860086888773201659904, 302213008124399094594512, 8998333896835008, 562949953355760, 16376, 480, 268435440, 4503565267599304, 17179836408, 457792, 224, 480, 496, 985162417950720, 120, 120, 10138716228026158357011226361856, 240, 281165604845568, 2172350934897632, 32640, 1048568, 1048568, 2040, 56, 0, 31712, 760, 248, 632584937491582204308881238016, 36020000925908992, 262096, 17177763840, 575897802316316480, 562949893648384, 316912647658980479985658576896, 2305843009197964288, 32736, 519904, 56, 65504, 1125899789268992, 20282409600921264069562570112768, 17122685507780738048, 18428729606480461312, 575334852396576512, 4499201580793728, 1076078835427895288, 457792, 224, 457792, 34357637056, 4026004736, 56, 56, 56, 536342464, 1065285568, 160, 285627154277665848320, 1073740672, 32576, 268164608, 8512557530112, 120, 520064, 504, 2198960076800, 2096576, 56, 4395864489472, 139637975668736, 73786976294771093504, 549621586944, 133137408, 120, 137438691064, 8589932480, 134152160, 8257440, 71987225140654080, 34355544032, 33030112, 22020056, 0, 0, 2216581079232512, 504, 1015680, 274877841312, 64000, 536866560, 8723077521408, 140668768288000, 18014398442110464, 4611677496675385344, 496, 8, 16, 15697664, 24, 2040, 8016, 7936, 21778061098346189844478291628122334298112, 248, 562948879675136, 72057592963659776, 36893479342736111616, 123286018324422656, 4294958848, 10888952654262176519432384150372830132224, 131040, 19342794090620444689299456, 374144419134252505651064520051920053992477580849152, 524008, 33537768, 75557859222245976505344, 120, 8589934584, 32640, 68719474688, 56, 268172288, 0, 0, 0, 0, 0, 0, 0, 0, 0, 0, 0, 0, 0, 0, 0, 0, 0, 0, 0, 0, 0, 0]
def SB (P : Program) (M : Nat → Nat) : CallF := fun g args eh n =>
  bc (Nat.beq g 92) (s_within args eh n) (bc (Nat.beq g 93) (s_write (k_call P noS M (kev P noS M 1000)) 137 args eh n) (bc (Nat.beq g 63) (s_put args eh n) none))
theorem noS_ok : CallOk Tryz.prog noS := fun _ _ _ _ _ he => by cases he
theorem SB_ok (M : Nat → Nat) : CallOk Tryz.prog (SB Tryz.prog M) := by
  intro f args eh n r he F ρ h args' hs ha
  unfold SB at he
  cases h1 : Nat.beq f 92
  · rw [h1, bc_false] at he
    cases h2 : Nat.beq f 93
    · rw [h2, bc_false] at he
      cases h3 : Nat.beq f 63
      · rw [h3, bc_false] at he; cases he
      · rw [h3, bc_true] at he
        obtain rfl := Nat.eq_of_beq_eq_true h3
        exact put_ok he hs ha
    · rw [h2, bc_true] at he
      obtain rfl := Nat.eq_of_beq_eq_true h2
      refine write_ok ?_ rfl he hs ha
      rw [k_call_eq, kev_eq]
      exact xcall_ok mixed noS_ok (ev_ok mixed noS_ok 1000)
  · rw [h1, bc_true] at he
    obtain rfl := Nat.eq_of_beq_eq_true h1
    exact within_ok he hs ha
def runB (f : Nat) : Res := runE Tryz.prog (SB Tryz.prog (nthN masks)) (nthN masks) 100000 f
theorem spec_b {f : Nat} (he : okT (runB f) = true) (h : H) : AM.Spec Tryz.prog f [] h fun v h' => v = .bool true ∧ Sub h h' := spec_true mixed (SB_ok _) he h
end
end Go.Proofs.YtbmfblmebhobiaaGreat

/-
  The executor over this program, with a summary of 'bump' besides.
-/
set_option linter.unusedVariables false
namespace Go.Proofs.YtbmfblmebhobiaaGreat
open Go.Proofs.YtbmfblmebhobiaaGreat.AM
noncomputable section
def SC (P : Program) (M : Nat → Nat) : CallF := fun g args eh n => bc (Nat.beq g 61) (s_bump P args eh n) (SB P M g args eh n)
theorem SC_ok (M : Nat → Nat) : CallOk Tryz.prog (SC Tryz.prog M) := by
  intro f args eh n r he F ρ h args' hs ha
  unfold SC at he
  cases h1 : Nat.beq f 61
  · rw [h1, bc_false] at he
    exact SB_ok M f args eh n r he F ρ h args' hs ha
  · rw [h1, bc_true] at he
    obtain rfl := Nat.eq_of_beq_eq_true h1
    exact bump_sum_ok he hs ha
def runC (f : Nat) : Res := runE Tryz.prog (SC Tryz.prog (nthN masks)) (nthN masks) 100000 f
theorem spec_c {f : Nat} (he : okT (runC f) = true) (h : H) : AM.Spec Tryz.prog f [] h fun v h' => v = .bool true ∧ Sub h h' := spec_true mixed (SC_ok _) he h
/-- A call by the executor with these summaries. -/
def callS (P : Program) (S : CallF) (M : Nat → Nat) : CallF := k_call P S M (kev P S M 100000)
theorem callS_ok {S : CallF} (hS : CallOk Tryz.prog S) (M : Nat → Nat) : CallOk Tryz.prog (callS Tryz.prog S M) := by
  unfold callS
  rw [kev_eq, k_call_eq]
  exact xcall_ok mixed hS (ev_ok mixed hS 100000)
def CC : CallF := callS Tryz.prog (SC Tryz.prog (nthN masks)) (nthN masks)
theorem CC_ok : CallOk Tryz.prog CC := callS_ok (SC_ok _) _
/-- A function without arguments of which it is known that it answers true, beside other summaries. -/
def ST (g : Nat) (S : CallF) : CallF := fun f args eh n => bc (Nat.beq f g) (match args with | [] => some (.a (.c (.bool true)), eh, n) | _ => none) (S f args eh n)
theorem ST_ok {g : Nat} {S : CallF} (hS : CallOk Tryz.prog S) (hg : ∀ h, AM.Spec Tryz.prog g [] h fun v h' => v = .bool true ∧ Sub h h') : CallOk Tryz.prog (ST g S) := by
  intro f args eh n r he F ρ h args' hs ha
  unfold ST at he
  cases h1 : Nat.beq f g
  · rw [h1, bc_false] at he
    exact hS f args eh n r he F ρ h args' hs ha
  · rw [h1, bc_true] at he
    obtain rfl := Nat.eq_of_beq_eq_true h1
    cases args with
    | cons a l => cases he
    | nil =>
      cases he
      cases ha
      refine (hg h).mono ?_
      rintro v h' ⟨rfl, hsub⟩
      exact ⟨ρ, Ren.le_refl ρ, XSim.sub hs hsub, .a (.c (.of_self rfl))⟩
end
end Go.Proofs.YtbmfblmebhobiaaGreat

