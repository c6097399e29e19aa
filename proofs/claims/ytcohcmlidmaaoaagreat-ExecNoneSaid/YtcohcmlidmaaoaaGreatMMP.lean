/-
  Functions of the program, taken apart over the abstract memory: each piece of the loaded code as a proposition; printed by a program (gen.py).
-/
import Derived.Test.YtcohcmlidmaaoaaGreatK1
import Derived.Test.YtcohcmlidmaaoaaGreatM4
import Derived.KernelRfl
set_option linter.unusedVariables false
set_option linter.unusedSimpArgs false
set_option maxRecDepth 100000
namespace Go.Proofs.YtcohcmlidmaaoaaGreat
open Go.Proofs.YtcohcmlidmaaoaaGreat.AM
def F26_13 (x0 x5 x6 x7 x8 x9 x69 : Value) (h : H) (Kn : KP7) (Kr : KP2) (Ke2 : KP6) (Ke1 : KP5) (Ke0 : KP2) : Prop :=
  o_bin Tryz.prog .lss 27 x9 (.int .u32 256) fun v39 => o_if v39 (o_indexAddr none 1 x6 x7 fun v46 => o_load false 1 v46 h fun v47 => o_bin Tryz.prog .add 27 v47 x9 fun v49 => o_call Tryz.prog 61 [x0, v49, (.int .i64 1), (.int .i64 0)] h fun v50 h => o_extract v50 0 fun v51 => o_extract v50 1 fun v52 => o_conv .u8 v51 fun v55 => o_fieldAddr 2 x8 fun v56 => o_indexAddr (some 256) 1 v56 x9 fun v57 => o_store 1 v57 v55 h fun h => o_bin Tryz.prog .add 27 x9 (.int .u32 1) fun v41 => Kn x0 x5 x6 x7 x8 v41 x69 h) (Ke2 x0 x5 x6 x7 x8 x69 h)
theorem F26_13_ok (Kn Kr Ke2 Ke1 Ke0) (t : T) (h : H) (H0 : F26_13 (t 0) (t 5) (t 6) (t 7) (t 8) (t 9) (t 69) h Kn Kr Ke2 Ke1 Ke0) : Wp Tryz.prog 69 (lopC (blkC (rest 1 (seqL (rest 2 (blkC (seqL (rest 1 (lopC (blkC (rest 1 (seqL (rest 3 (bodyOf Tryz.f26.body)))))))))))))) (mkQ (kq7 Kn 0 5 6 7 8 9 69) (kq2 Kr 4 69) (keAdd 2 (kq6 Ke2 0 5 6 7 8 69) (keAdd 1 (kq5 Ke1 0 5 6 7 69) (keAdd 0 (kq2 Ke0 5 69) ke0)))) t h :=
  wpEqF H0 (by kernel_rfl)
def F26_12 (x0 x5 x6 x7 x8 x9 x69 : Value) (h : H) (Kn : KP6) (Kr : KP2) (Ke2 : KP6) (Ke1 : KP5) (Ke0 : KP2) : Prop :=
  sloop (S := Value × Value × Value × Value × Value × Value × Value) (fun s h K => F26_13 s.1 s.2.1 s.2.2.1 s.2.2.2.1 s.2.2.2.2.1 s.2.2.2.2.2.1 s.2.2.2.2.2.2 h (fun y0 y5 y6 y7 y8 y9 y69 h => K (y0, y5, y6, y7, y8, y9, y69) h) Kr Ke2 Ke1 Ke0) (x0, x5, x6, x7, x8, x9, x69) h
theorem F26_12_ok (Kn Kr Ke2 Ke1 Ke0) (t : T) (h : H) (H0 : F26_12 (t 0) (t 5) (t 6) (t 7) (t 8) (t 9) (t 69) h Kn Kr Ke2 Ke1 Ke0) : Wp Tryz.prog 69 (blkC (rest 1 (seqL (rest 2 (blkC (seqL (rest 1 (lopC (blkC (rest 1 (seqL (rest 3 (bodyOf Tryz.f26.body))))))))))))) (mkQ (kq6 Kn 0 5 6 7 8 69) (kq2 Kr 4 69) (keAdd 2 (kq6 Ke2 0 5 6 7 8 69) (keAdd 1 (kq5 Ke1 0 5 6 7 69) (keAdd 0 (kq2 Ke0 5 69) ke0)))) t h :=
  loop_ok (fun t => (t 0, t 5, t 6, t 7, t 8, t 9, t 69)) (by kernel_rfl) (fun t h K H1 => F26_13_ok (fun y0 y5 y6 y7 y8 y9 y69 h => K (y0, y5, y6, y7, y8, y9, y69) h) Kr Ke2 Ke1 Ke0 t h H1) H0
def F26_11 (x0 x5 x6 x7 x8 x9 x69 : Value) (h : H) (Kn : KP6) (Kr : KP2) (Ke1 : KP5) (Ke0 : KP2) : Prop :=
  F26_12 x0 x5 x6 x7 x8 x9 x69 h Kn Kr Kn Ke1 Ke0
theorem F26_11_ok (Kn Kr Ke1 Ke0) (t : T) (h : H) (H0 : F26_11 (t 0) (t 5) (t 6) (t 7) (t 8) (t 9) (t 69) h Kn Kr Ke1 Ke0) : Wp Tryz.prog 69 (rest 1 (seqL (rest 2 (blkC (seqL (rest 1 (lopC (blkC (rest 1 (seqL (rest 3 (bodyOf Tryz.f26.body)))))))))))) (mkQ (kq6 Kn 0 5 6 7 8 69) (kq2 Kr 4 69) (keAdd 1 (kq5 Ke1 0 5 6 7 69) (keAdd 0 (kq2 Ke0 5 69) ke0))) t h :=
  block_ok 2 (by kernel_rfl) (by kernel_rfl) (F26_12_ok Kn Kr Kn Ke1 Ke0 t h H0)
def F26_10 (x0 x5 x6 x7 x8 x69 : Value) (h : H) (Kn : KP6) (Kr : KP2) (Ke1 : KP5) (Ke0 : KP2) : Prop :=
  F26_11 x0 x5 x6 x7 x8 (.int .u32 0) x69 h Kn Kr Ke1 Ke0
theorem F26_10_ok (Kn Kr Ke1 Ke0) (t : T) (h : H) (H0 : F26_10 (t 0) (t 5) (t 6) (t 7) (t 8) (t 69) h Kn Kr Ke1 Ke0) : Wp Tryz.prog 69 (seqL (rest 2 (blkC (seqL (rest 1 (lopC (blkC (rest 1 (seqL (rest 3 (bodyOf Tryz.f26.body))))))))))) (mkQ (kq6 Kn 0 5 6 7 8 69) (kq2 Kr 4 69) (keAdd 1 (kq5 Ke1 0 5 6 7 69) (keAdd 0 (kq2 Ke0 5 69) ke0))) t h :=
  awpTo_okF 1 H0 (by kernel_rfl) (fun t h (H1 : F26_11 (t 0) (t 5) (t 6) (t 7) (t 8) (t 9) (t 69) h Kn Kr Ke1 Ke0) => F26_11_ok Kn Kr Ke1 Ke0 t h H1) (by kernel_rfl)
end Go.Proofs.YtcohcmlidmaaoaaGreat
