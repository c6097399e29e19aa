/-
  Part of a proof: several texts put together, long names shortened.
-/
import Derived.Test.YtnckimioabkheaaGreatZ3
import Derived.KernelRfl
import Derived.Test.YtnckimioabkheaaGreatZ2
set_option linter.unusedVariables false
set_option maxRecDepth 100000
namespace Go.Proofs.YtnckimioabkheaaGreat
open Go.Proofs.YtnckimioabkheaaGreat.AM
@[simp] theorem yvo6 {a0 : Int} {K : Value → Prop} {u : Dm K} : ysnr PG yr7r [(0, .int .u32 a0)] K u = K (.agg #[.int .u32 a0, .slice none 0 0]) := by kernel_rfl
@[simp] theorem ycx6 {K : Value → Prop} {u : Dm K} : ysnr PG y5c0 [] K u = K (.agg #[.slice none 0 0, .slice none 0 0, .slice none 0 0, .slice none 0 0, .slice none 0 0, .slice none 0 0]) := by kernel_rfl
@[simp] theorem y60u {a0a : Option Addr} {a0n : Nat} {a0c : Nat} {a1a : Option Addr} {a1n : Nat} {a1c : Nat} {a2a : Option Addr} {a2n : Nat} {a2c : Nat} {a3a : Option Addr} {a3n : Nat} {a3c : Nat} {a4a : Option Addr} {a4n : Nat} {a4c : Nat} {K : Value → Prop} {u : Dm K} : ysnr PG y5c0 [(0, .slice a0a a0n a0c), (1, .slice a1a a1n a1c), (2, .slice a2a a2n a2c), (3, .slice a3a a3n a3c), (4, .slice a4a a4n a4c)] K u = K (.agg #[.slice a0a a0n a0c, .slice a1a a1n a1c, .slice a2a a2n a2c, .slice a3a a3n a3c, .slice a4a a4n a4c, .slice none 0 0]) := by kernel_rfl
@[simp] theorem y3v3 {a0_0a : Option Addr} {a0_0n : Nat} {a0_0c : Nat} {a0_1a : Option Addr} {a0_1n : Nat} {a0_1c : Nat} {a0_2a : Option Addr} {a0_2n : Nat} {a0_2c : Nat} {a0_3a : Option Addr} {a0_3n : Nat} {a0_3c : Nat} {a0_4a : Option Addr} {a0_4n : Nat} {a0_4c : Nat} {a0_5a : Option Addr} {a0_5n : Nat} {a0_5c : Nat} {K : Value → Prop} {u : Dm K} : ysnr PG yxsr [(0, .agg #[.slice a0_0a a0_0n a0_0c, .slice a0_1a a0_1n a0_1c, .slice a0_2a a0_2n a0_2c, .slice a0_3a a0_3n a0_3c, .slice a0_4a a0_4n a0_4c, .slice a0_5a a0_5n a0_5c])] K u = K (.agg #[.slice a0_0a a0_0n a0_0c, .slice a0_1a a0_1n a0_1c, .slice a0_2a a0_2n a0_2c, .slice a0_3a a0_3n a0_3c, .slice a0_4a a0_4n a0_4c, .slice a0_5a a0_5n a0_5c, .int .i64 0, .int .i64 0, .int .i64 0]) := by kernel_rfl
@[simp] theorem y36x {a0 : Option Addr} {a1a : Option Addr} {a1n : Nat} {a1c : Nat} {K : Value → Prop} {u : Dm K} : ysnr PG ydrn [(0, .pointer a0), (1, .slice a1a a1n a1c)] K u = K (.agg #[.pointer a0, .slice a1a a1n a1c, .slice none 0 0, .slice none 0 0]) := by kernel_rfl
@[simp] theorem y2pz {a0 : Int} {a1 : Int} {a2 : Int} {a3a : Option Addr} {a3n : Nat} {a3c : Nat} {K : Value → Prop} {u : Dm K} : ysnr PG yhas [(0, .int .u32 a0), (1, .int .u32 a1), (2, .int .i64 a2), (3, .slice a3a a3n a3c)] K u = K (.agg #[.int .u32 a0, .int .u32 a1, .int .i64 a2, .slice a3a a3n a3c]) := by kernel_rfl
@[simp] theorem ywcg {a0 : Int} {a1 : Int} {a2 : Int} {a3 : Int} {K : Value → Prop} {u : Dm K} : ysnr PG ybsk [(0, .int .i64 a0), (1, .int .u32 a1), (2, .int .u32 a2), (3, .int .u8 a3)] K u = K (.agg #[.int .i64 a0, .int .u32 a1, .int .u32 a2, .int .u8 a3]) := by kernel_rfl
@[simp] theorem y3u5 {a0 : Int} {a1 : Int} {K : Value → Prop} {u : Dm K} : ysnr PG yogz [(0, .int .u32 a0), (1, .int .i64 a1)] K u = K (.agg #[.int .u32 a0, .int .i64 a1]) := by kernel_rfl
@[simp] theorem ydfk {a0 : Int} {a1 : Int} {a2 : Int} {K : Value → Prop} {u : Dm K} : ysnr PG ytfh [(0, .int .i64 a0), (1, .int .i64 a1), (2, .int .u8 a2)] K u = K (.agg #[.int .i64 a0, .int .i64 a1, .int .u8 a2]) := by kernel_rfl
@[simp] theorem y9fj {a0 : ByteArray} {a1a : Option Addr} {a1n : Nat} {a1c : Nat} {K : Value → Prop} {u : Dm K} : ysnr PG ymzi [(0, .string a0), (1, .slice a1a a1n a1c)] K u = K (.agg #[.string a0, .slice a1a a1n a1c]) := by kernel_rfl
@[simp] theorem ymvb {a0 : Int} {a1 : Int} {a2 : Int} {K : Value → Prop} {u : Dm K} : ysnr PG yukk [(0, .int .i64 a0), (1, .int .i64 a1), (2, .int .i64 a2)] K u = K (.agg #[.int .i64 a0, .int .i64 a1, .int .i64 a2]) := by kernel_rfl
@[simp] theorem yzqx {a0 : Bool} {K : Value → Prop} {u : Dm K} : ysnr PG ysrv [(0, .bool a0)] K u = K (.agg #[.bool a0, .slice none 0 0, .slice none 0 0]) := by kernel_rfl
@[simp] theorem yj0p {a0_0 : Int} {a0_1 : Int} {a0_2 : Int} {a0_3a : Option Addr} {a0_3n : Nat} {a0_3c : Nat} {h : H} {K : K1} {u : Dm K} : ynqb PG y1cj 1 [(0, .agg #[.int .u32 a0_0, .int .u32 a0_1, .int .i64 a0_2, .slice a0_3a a0_3n a0_3c])] h K u = u_new [.int .u32 a0_0, .int .u32 a0_1, .int .i64 a0_2, .slice a0_3a a0_3n a0_3c] yhas .exact h fun b h => K (.slice (some ⟨b, 0, none⟩) 1 1) h := by kernel_rfl
@[simp] theorem yxvn {a0_0 : ByteArray} {a0_1a : Option Addr} {a0_1n : Nat} {a0_1c : Nat} {h : H} {K : K1} {u : Dm K} : ynqb PG y6pz 1 [(0, .agg #[.string a0_0, .slice a0_1a a0_1n a0_1c])] h K u = u_new [.string a0_0, .slice a0_1a a0_1n a0_1c] ymzi .exact h fun b h => K (.slice (some ⟨b, 0, none⟩) 1 1) h := by kernel_rfl
@[simp] theorem y6lq {a0_0 : Int} {a0_1 : Int} {a0_2 : Int} {a1_0 : Int} {a1_1 : Int} {a1_2 : Int} {a2_0 : Int} {a2_1 : Int} {a2_2 : Int} {h : H} {K : K1} {u : Dm K} : ynqb PG yxrw 3 [(0, .agg #[.int .i64 a0_0, .int .i64 a0_1, .int .i64 a0_2]), (1, .agg #[.int .i64 a1_0, .int .i64 a1_1, .int .i64 a1_2]), (2, .agg #[.int .i64 a2_0, .int .i64 a2_1, .int .i64 a2_2])] h K u = u_new [.int .i64 a0_0, .int .i64 a0_1, .int .i64 a0_2, .int .i64 a1_0, .int .i64 a1_1, .int .i64 a1_2, .int .i64 a2_0, .int .i64 a2_1, .int .i64 a2_2] yukk .exact h fun b h => K (.slice (some ⟨b, 0, none⟩) 3 3) h := by kernel_rfl
@[simp] theorem ysal {a0_0 : Int} {a0_1 : Int} {h : H} {K : K1} {u : Dm K} : ynqb PG yzw0 1 [(0, .agg #[.int .u32 a0_0, .int .i64 a0_1])] h K u = u_new [.int .u32 a0_0, .int .i64 a0_1] yogz .exact h fun b h => K (.slice (some ⟨b, 0, none⟩) 1 1) h := by kernel_rfl
@[simp] theorem yqrw {h : H} {K : K1} {u : Dm K} : ynqb PG y8f0 0 [] h K u = u_new [] yoj6 .exact h fun b h => K (.slice (some ⟨b, 0, none⟩) 0 0) h := by kernel_rfl
@[simp] theorem ym03 {a0 : Int} {a1 : Int} {a2 : Int} {a3 : Int} {h : H} {K : K1} {u : Dm K} : ynqb PG y8f0 4 [(0, .int .u8 a0), (1, .int .u8 a1), (2, .int .u8 a2), (3, .int .u8 a3)] h K u = u_new [.int .u8 a0, .int .u8 a1, .int .u8 a2, .int .u8 a3] yoj6 .exact h fun b h => K (.slice (some ⟨b, 0, none⟩) 4 4) h := by kernel_rfl
@[simp] theorem ywzm {a0_0 : Int} {a0_1 : Int} {a0_2 : Int} {a0_3 : Int} {h : H} {K : K1} {u : Dm K} : ynqb PG yoxq 1 [(0, .agg #[.int .i64 a0_0, .int .u32 a0_1, .int .u32 a0_2, .int .u8 a0_3])] h K u = u_new [.int .i64 a0_0, .int .u32 a0_1, .int .u32 a0_2, .int .u8 a0_3] ybsk .exact h fun b h => K (.slice (some ⟨b, 0, none⟩) 1 1) h := by kernel_rfl
@[simp] theorem yfpg {a0_0 : Int} {a0_1 : Int} {a0_2 : Int} {h : H} {K : K1} {u : Dm K} : ynqb PG y3uw 1 [(0, .agg #[.int .i64 a0_0, .int .i64 a0_1, .int .u8 a0_2])] h K u = u_new [.int .i64 a0_0, .int .i64 a0_1, .int .u8 a0_2] ytfh .exact h fun b h => K (.slice (some ⟨b, 0, none⟩) 1 1) h := by kernel_rfl
def yfec (x1 x3 x4 x5 : Value) (h : H) (Kn : K4) (Kr : K1) (Ke0 : K3) : Prop :=
  u_bf false 1 1 x1 h fun v22 => ywmm v22 fun v23 => u_bin PG .lss T_int x5 v23 fun v24 => u_if v24 (u_bf false 1 1 x1 h fun v28 => u_ix true 4 none v28 x5 h fun v31 => u_new [.int .u32 0, .int .u32 0, .int .i64 0, .slice none 0 0] yhas .exact h fun b6 h => ylel 4 (.pointer (some ⟨b6, 0, none⟩)) v31 h fun h => u_bf false 1 0 (.pointer (some ⟨b6, 0, none⟩)) h fun v33 => u_bin PG .rem ycpa v33 (.int .u32 256) fun v34 => u_bin PG .neq ycpa v34 (.int .u32 0) fun v35 => ydv6 v35 false (fun k7 => u_bf false 1 1 (.pointer (some ⟨b6, 0, none⟩)) h fun v38 => u_bin PG .eql ycpa v38 (.int .u32 0) fun v39 => k7 v39 h) (fun v39 h => y9rg v35 (.bool true) v39 fun v40 => ydv6 v40 false (fun k16 => u_bf false 1 1 (.pointer (some ⟨b6, 0, none⟩)) h fun v43 => y2x6 .i64 v43 fun v44 => u_bf false 1 3 (.pointer (some ⟨b6, 0, none⟩)) h fun v46 => ywmm v46 fun v47 => u_bin PG .lss yeb5 v44 v47 fun v48 => k16 v48 h) (fun v48 h => y9rg v40 (.bool true) v48 fun v49 => ydv6 v49 false (fun k26 => u_bf false 1 0 (.pointer (some ⟨b6, 0, none⟩)) h fun v52 => y2x6 .i64 v52 fun v53 => u_bf false 1 1 (.pointer (some ⟨b6, 0, none⟩)) h fun v55 => y2x6 .i64 v55 fun v56 => u_bin PG .add yeb5 v53 v56 fun v57 => u_bin PG .gtr yeb5 v57 (.int .i64 4294967296) fun v58 => k26 v58 h) (fun v58 h => y9rg v49 (.bool true) v58 fun v59 => ydv6 v59 false (fun k31 => u_bf false 1 2 (.pointer (some ⟨b6, 0, none⟩)) h fun v62 => u_bin PG .lss T_int v62 (.int .i64 0) fun v63 => k31 v63 h) (fun v63 h => y9rg v59 (.bool true) v63 fun v64 => ydv6 v64 false (fun k36 => u_bf false 1 2 (.pointer (some ⟨b6, 0, none⟩)) h fun v67 => u_bin PG .gtr T_int v67 (.int .i64 7) fun v68 => k36 v68 h) (fun v68 h => y9rg v64 (.bool true) v68 fun v69 => u_if v69 (Kr (.int .i64 1) h) (u_bf false 1 3 (.pointer (some ⟨b6, 0, none⟩)) h fun v72 => ywmm v72 fun v73 => u_bin PG .add yeb5 x3 v73 fun v74 => u_bf false 1 1 (.pointer (some ⟨b6, 0, none⟩)) h fun v77 => y2x6 .i64 v77 fun v78 => u_bin PG .add yeb5 x4 v78 fun v79 => u_bin PG .add T_int x5 (.int .i64 1) fun v26 => Kn x1 v74 v79 v26 h)) h) h) h) h) h) (Ke0 x1 x3 x4 h)
theorem y5l8 (Kn : K4) (Kr : K1) (Ke0 : K3) (t : T) (h : H) (H0 : yfec (t 1) (t 3) (t 4) (t 5) h Kn Kr Ke0) : Wp PG 169 (lopC (blkC (rest 1 (seqL (rest 4 (ygjk Tryz.f145.body)))))) (mkQ (q4 Kn 1 3 4 5) (q1 Kr 2) (keAdd 0 (q3 Ke0 1 3 4) ke0)) t h :=
  wpEqC E5_ok H0 (by kernel_rfl)
def y48c (x1 x3 x4 x5 : Value) (h : H) (Kn : K3) (Kr : K1) (Ke0 : K3) : Prop :=
  sloop (S := Value × Value × Value × Value) (fun s h K => yfec s.1 s.2.1 s.2.2.1 s.2.2.2 h (fun y1 y3 y4 y5 h => K (y1, y3, y4, y5) h) Kr Ke0) (x1, x3, x4, x5) h
theorem y4tc (Kn : K3) (Kr : K1) (Ke0 : K3) (t : T) (h : H) (H0 : y48c (t 1) (t 3) (t 4) (t 5) h Kn Kr Ke0) : Wp PG 169 (blkC (rest 1 (seqL (rest 4 (ygjk Tryz.f145.body))))) (mkQ (q3 Kn 1 3 4) (q1 Kr 2) (keAdd 0 (q3 Ke0 1 3 4) ke0)) t h :=
  yv0a (fun t => (t 1, t 3, t 4, t 5)) (by kernel_rfl) (fun t h K H1 => y5l8 (fun y1 y3 y4 y5 h => K (y1, y3, y4, y5) h) Kr Ke0 t h H1) H0
def ypmf (x1 x3 x4 x5 : Value) (h : H) (Kn : K3) (Kr : K1) : Prop :=
  y48c x1 x3 x4 x5 h Kn Kr Kn
theorem yi5u (Kn : K3) (Kr : K1) (t : T) (h : H) (H0 : ypmf (t 1) (t 3) (t 4) (t 5) h Kn Kr) : Wp PG 169 (rest 1 (seqL (rest 4 (ygjk Tryz.f145.body)))) (mkQ (q3 Kn 1 3 4) (q1 Kr 2) ke0) t h :=
  y6tu 0 (by kernel_rfl) (by kernel_rfl) (y4tc Kn Kr Kn t h H0)
def ycly (x1 x3 x4 : Value) (h : H) (Kn : K3) (Kr : K1) : Prop :=
  ypmf x1 x3 x4 (.int .i64 0) h Kn Kr
theorem ynhx (Kn : K3) (Kr : K1) (t : T) (h : H) (H0 : ycly (t 1) (t 3) (t 4) h Kn Kr) : Wp PG 169 (seqL (rest 4 (ygjk Tryz.f145.body))) (mkQ (q3 Kn 1 3 4) (q1 Kr 2) ke0) t h :=
  yvnp E5_ok 1 H0 (by kernel_rfl) (fun t h (H1 : ypmf (t 1) (t 3) (t 4) (t 5) h Kn Kr) => yi5u Kn Kr t h H1) (by kernel_rfl)
def yns0 (x1 x7 x8 x9 x10 x11 : Value) (h : H) (Kn : K6) (Kr : K1) (Ke5 : K5) (Ke4 : K4) (Ke3 : K3) (Ke2 : K2) : Prop :=
  u_bf false 1 0 x9 h fun v109 => y2x6 .i64 v109 fun v110 => u_bf false 1 0 x11 h fun v112 => y2x6 .i64 v112 fun v113 => u_bf false 1 1 x11 h fun v115 => y2x6 .i64 v115 fun v116 => u_ct yx7l [v116] h fun v117 h => u_bin PG .add yeb5 v113 v117 fun v118 => u_bin PG .lss yeb5 v110 v118 fun v119 => ydv6 v119 true (fun k24 => u_bf false 1 0 x11 h fun v122 => y2x6 .i64 v122 fun v123 => u_bf false 1 0 x9 h fun v125 => y2x6 .i64 v125 fun v126 => u_bf false 1 1 x9 h fun v128 => y2x6 .i64 v128 fun v129 => u_ct yx7l [v129] h fun v130 h => u_bin PG .add yeb5 v126 v130 fun v131 => u_bin PG .lss yeb5 v123 v131 fun v132 => k24 v132 h) (fun v132 h => y9rg v119 v132 (.bool false) fun v133 => Kn x1 x7 x8 x9 x10 v133 h) h
theorem yyhz (Kn : K6) (Kr : K1) (Ke5 : K5) (Ke4 : K4) (Ke3 : K3) (Ke2 : K2) (t : T) (h : H) (H0 : yns0 (t 1) (t 7) (t 8) (t 9) (t 10) (t 11) h Kn Kr Ke5 Ke4 Ke3 Ke2) : Wp PG 169 (seqL (rest 1 (blkC (seqL (rest 1 (lopC (blkC (rest 1 (seqL (rest 1 (blkC (seqL (rest 1 (lopC (blkC (rest 1 (seqL (rest 2 (seqR (rest 4 (ygjk Tryz.f145.body))))))))))))))))))))) (mkQ (q6 Kn 1 7 8 9 10 133) (q1 Kr 2) (keAdd 5 (q5 Ke5 1 7 8 9 10) (keAdd 4 (q4 Ke4 1 7 8 9) (keAdd 3 (q3 Ke3 1 7 8) (keAdd 2 (q2 Ke2 1 7) ke0))))) t h :=
  ybop E5_ok [0, 1, 2, 3, 4, 5, 6, 7, 8, 9, 10, 11, 12, 13, 14, 15, 16, 17, 18, 19, 20, 21, 22, 23, 24, 25] (by kernel_rfl) (by kernel_rfl) H0 (by kernel_rfl)
def y6b3 (x1 x7 x8 x9 x10 x133 : Value) (h : H) (Kn : K5) (Kr : K1) (Ke5 : K5) (Ke4 : K4) (Ke3 : K3) (Ke2 : K2) : Prop :=
  u_if x133 (Kr (.int .i64 1) h) (Kn x1 x7 x8 x9 x10 h)
theorem yi2q (Kn : K5) (Kr : K1) (Ke5 : K5) (Ke4 : K4) (Ke3 : K3) (Ke2 : K2) (t : T) (h : H) (H0 : y6b3 (t 1) (t 7) (t 8) (t 9) (t 10) (t 133) h Kn Kr Ke5 Ke4 Ke3 Ke2) : Wp PG 169 (seqR (rest 1 (blkC (seqL (rest 1 (lopC (blkC (rest 1 (seqL (rest 1 (blkC (seqL (rest 1 (lopC (blkC (rest 1 (seqL (rest 2 (seqR (rest 4 (ygjk Tryz.f145.body))))))))))))))))))))) (mkQ (q5 Kn 1 7 8 9 10) (q1 Kr 2) (keAdd 5 (q5 Ke5 1 7 8 9 10) (keAdd 4 (q4 Ke4 1 7 8 9) (keAdd 3 (q3 Ke3 1 7 8) (keAdd 2 (q2 Ke2 1 7) ke0))))) t h :=
  wpEqC E5_ok H0 (by kernel_rfl)
def y494 (x1 x7 x8 x9 x10 x11 : Value) (h : H) (Kn : K5) (Kr : K1) (Ke5 : K5) (Ke4 : K4) (Ke3 : K3) (Ke2 : K2) : Prop :=
  yns0 x1 x7 x8 x9 x10 x11 h (fun y1 y7 y8 y9 y10 y133 h => y6b3 y1 y7 y8 y9 y10 y133 h Kn Kr Ke5 Ke4 Ke3 Ke2) Kr Ke5 Ke4 Ke3 Ke2
theorem yhs9 (Kn : K5) (Kr : K1) (Ke5 : K5) (Ke4 : K4) (Ke3 : K3) (Ke2 : K2) (t : T) (h : H) (H0 : y494 (t 1) (t 7) (t 8) (t 9) (t 10) (t 11) h Kn Kr Ke5 Ke4 Ke3 Ke2) : Wp PG 169 (rest 1 (blkC (seqL (rest 1 (lopC (blkC (rest 1 (seqL (rest 1 (blkC (seqL (rest 1 (lopC (blkC (rest 1 (seqL (rest 2 (seqR (rest 4 (ygjk Tryz.f145.body)))))))))))))))))))) (mkQ (q5 Kn 1 7 8 9 10) (q1 Kr 2) (keAdd 5 (q5 Ke5 1 7 8 9 10) (keAdd 4 (q4 Ke4 1 7 8 9) (keAdd 3 (q3 Ke3 1 7 8) (keAdd 2 (q2 Ke2 1 7) ke0))))) t h :=
  ykv2 (by kernel_rfl) (fun t h H1 => yi2q Kn Kr Ke5 Ke4 Ke3 Ke2 t h H1) (yyhz (fun y1 y7 y8 y9 y10 y133 h => y6b3 y1 y7 y8 y9 y10 y133 h Kn Kr Ke5 Ke4 Ke3 Ke2) Kr Ke5 Ke4 Ke3 Ke2 t h H0)
def ydsc (x1 x7 x8 x9 x10 : Value) (h : H) (Kn : K5) (Kr : K1) (Ke5 : K5) (Ke4 : K4) (Ke3 : K3) (Ke2 : K2) : Prop :=
  u_bf false 1 1 x1 h fun v104 => u_ix true 4 none v104 x10 h fun v107 => u_new [.int .u32 0, .int .u32 0, .int .i64 0, .slice none 0 0] yhas .exact h fun b11 h => ylel 4 (.pointer (some ⟨b11, 0, none⟩)) v107 h fun h => y494 x1 x7 x8 x9 x10 (.pointer (some ⟨b11, 0, none⟩)) h Kn Kr Ke5 Ke4 Ke3 Ke2
theorem ynyw (Kn : K5) (Kr : K1) (Ke5 : K5) (Ke4 : K4) (Ke3 : K3) (Ke2 : K2) (t : T) (h : H) (H0 : ydsc (t 1) (t 7) (t 8) (t 9) (t 10) h Kn Kr Ke5 Ke4 Ke3 Ke2) : Wp PG 169 (blkC (seqL (rest 1 (lopC (blkC (rest 1 (seqL (rest 1 (blkC (seqL (rest 1 (lopC (blkC (rest 1 (seqL (rest 2 (seqR (rest 4 (ygjk Tryz.f145.body))))))))))))))))))) (mkQ (q5 Kn 1 7 8 9 10) (q1 Kr 2) (keAdd 5 (q5 Ke5 1 7 8 9 10) (keAdd 4 (q4 Ke4 1 7 8 9) (keAdd 3 (q3 Ke3 1 7 8) (keAdd 2 (q2 Ke2 1 7) ke0))))) t h :=
  yvnp E5_ok 1 H0 (by kernel_rfl) (fun t h (H1 : y494 (t 1) (t 7) (t 8) (t 9) (t 10) (t 11) h Kn Kr Ke5 Ke4 Ke3 Ke2) => yhs9 Kn Kr Ke5 Ke4 Ke3 Ke2 t h H1) (by kernel_rfl)
def yf2o (x1 x7 x8 x9 x10 : Value) (h : H) (Kn : K5) (Kr : K1) (Ke4 : K4) (Ke3 : K3) (Ke2 : K2) : Prop :=
  ydsc x1 x7 x8 x9 x10 h Kn Kr Kn Ke4 Ke3 Ke2
theorem ybij (Kn : K5) (Kr : K1) (Ke4 : K4) (Ke3 : K3) (Ke2 : K2) (t : T) (h : H) (H0 : yf2o (t 1) (t 7) (t 8) (t 9) (t 10) h Kn Kr Ke4 Ke3 Ke2) : Wp PG 169 (seqL (rest 1 (lopC (blkC (rest 1 (seqL (rest 1 (blkC (seqL (rest 1 (lopC (blkC (rest 1 (seqL (rest 2 (seqR (rest 4 (ygjk Tryz.f145.body)))))))))))))))))) (mkQ (q5 Kn 1 7 8 9 10) (q1 Kr 2) (keAdd 4 (q4 Ke4 1 7 8 9) (keAdd 3 (q3 Ke3 1 7 8) (keAdd 2 (q2 Ke2 1 7) ke0)))) t h :=
  y6tu 5 (by kernel_rfl) (by kernel_rfl) (ynyw Kn Kr Kn Ke4 Ke3 Ke2 t h H0)
def ywfn (x1 x7 x8 x9 x10 : Value) (h : H) (Kn : K5) (Kr : K1) (Ke4 : K4) (Ke3 : K3) (Ke2 : K2) : Prop :=
  u_bin PG .add T_int x10 (.int .i64 1) fun v102 => Kn x1 x7 x8 x9 v102 h
theorem yhbs (Kn : K5) (Kr : K1) (Ke4 : K4) (Ke3 : K3) (Ke2 : K2) (t : T) (h : H) (H0 : ywfn (t 1) (t 7) (t 8) (t 9) (t 10) h Kn Kr Ke4 Ke3 Ke2) : Wp PG 169 (seqR (rest 1 (lopC (blkC (rest 1 (seqL (rest 1 (blkC (seqL (rest 1 (lopC (blkC (rest 1 (seqL (rest 2 (seqR (rest 4 (ygjk Tryz.f145.body)))))))))))))))))) (mkQ (q5 Kn 1 7 8 9 10) (q1 Kr 2) (keAdd 4 (q4 Ke4 1 7 8 9) (keAdd 3 (q3 Ke3 1 7 8) (keAdd 2 (q2 Ke2 1 7) ke0)))) t h :=
  wpEqC E5_ok H0 (by kernel_rfl)
def yt29 (x1 x7 x8 x9 x10 : Value) (h : H) (Kn : K5) (Kr : K1) (Ke4 : K4) (Ke3 : K3) (Ke2 : K2) : Prop :=
  yf2o x1 x7 x8 x9 x10 h (fun y1 y7 y8 y9 y10 h => ywfn y1 y7 y8 y9 y10 h Kn Kr Ke4 Ke3 Ke2) Kr Ke4 Ke3 Ke2
theorem yatg (Kn : K5) (Kr : K1) (Ke4 : K4) (Ke3 : K3) (Ke2 : K2) (t : T) (h : H) (H0 : yt29 (t 1) (t 7) (t 8) (t 9) (t 10) h Kn Kr Ke4 Ke3 Ke2) : Wp PG 169 (rest 1 (lopC (blkC (rest 1 (seqL (rest 1 (blkC (seqL (rest 1 (lopC (blkC (rest 1 (seqL (rest 2 (seqR (rest 4 (ygjk Tryz.f145.body))))))))))))))))) (mkQ (q5 Kn 1 7 8 9 10) (q1 Kr 2) (keAdd 4 (q4 Ke4 1 7 8 9) (keAdd 3 (q3 Ke3 1 7 8) (keAdd 2 (q2 Ke2 1 7) ke0)))) t h :=
  ykv2 (by kernel_rfl) (fun t h H1 => yhbs Kn Kr Ke4 Ke3 Ke2 t h H1) (ybij (fun y1 y7 y8 y9 y10 h => ywfn y1 y7 y8 y9 y10 h Kn Kr Ke4 Ke3 Ke2) Kr Ke4 Ke3 Ke2 t h H0)
def yl0b (x1 x7 x8 x9 x10 : Value) (h : H) (Kn : K5) (Kr : K1) (Ke4 : K4) (Ke3 : K3) (Ke2 : K2) : Prop :=
  u_bin PG .lss T_int x10 x8 fun v100 => u_if v100 (yt29 x1 x7 x8 x9 x10 h Kn Kr Ke4 Ke3 Ke2) (Ke4 x1 x7 x8 x9 h)
theorem ys7d (Kn : K5) (Kr : K1) (Ke4 : K4) (Ke3 : K3) (Ke2 : K2) (t : T) (h : H) (H0 : yl0b (t 1) (t 7) (t 8) (t 9) (t 10) h Kn Kr Ke4 Ke3 Ke2) : Wp PG 169 (lopC (blkC (rest 1 (seqL (rest 1 (blkC (seqL (rest 1 (lopC (blkC (rest 1 (seqL (rest 2 (seqR (rest 4 (ygjk Tryz.f145.body)))))))))))))))) (mkQ (q5 Kn 1 7 8 9 10) (q1 Kr 2) (keAdd 4 (q4 Ke4 1 7 8 9) (keAdd 3 (q3 Ke3 1 7 8) (keAdd 2 (q2 Ke2 1 7) ke0)))) t h :=
  yvnp E5_ok 1 H0 (by kernel_rfl) (fun t h (H1 : yt29 (t 1) (t 7) (t 8) (t 9) (t 10) h Kn Kr Ke4 Ke3 Ke2) => yatg Kn Kr Ke4 Ke3 Ke2 t h H1) (by kernel_rfl)
def y8ev (x1 x7 x8 x9 x10 : Value) (h : H) (Kn : K4) (Kr : K1) (Ke4 : K4) (Ke3 : K3) (Ke2 : K2) : Prop :=
  sloop (S := Value × Value × Value × Value × Value) (fun s h K => yl0b s.1 s.2.1 s.2.2.1 s.2.2.2.1 s.2.2.2.2 h (fun y1 y7 y8 y9 y10 h => K (y1, y7, y8, y9, y10) h) Kr Ke4 Ke3 Ke2) (x1, x7, x8, x9, x10) h
theorem yo1w (Kn : K4) (Kr : K1) (Ke4 : K4) (Ke3 : K3) (Ke2 : K2) (t : T) (h : H) (H0 : y8ev (t 1) (t 7) (t 8) (t 9) (t 10) h Kn Kr Ke4 Ke3 Ke2) : Wp PG 169 (blkC (rest 1 (seqL (rest 1 (blkC (seqL (rest 1 (lopC (blkC (rest 1 (seqL (rest 2 (seqR (rest 4 (ygjk Tryz.f145.body))))))))))))))) (mkQ (q4 Kn 1 7 8 9) (q1 Kr 2) (keAdd 4 (q4 Ke4 1 7 8 9) (keAdd 3 (q3 Ke3 1 7 8) (keAdd 2 (q2 Ke2 1 7) ke0)))) t h :=
  yv0a (fun t => (t 1, t 7, t 8, t 9, t 10)) (by kernel_rfl) (fun t h K H1 => ys7d (fun y1 y7 y8 y9 y10 h => K (y1, y7, y8, y9, y10) h) Kr Ke4 Ke3 Ke2 t h H1) H0
def y43f (x1 x7 x8 x9 x10 : Value) (h : H) (Kn : K4) (Kr : K1) (Ke3 : K3) (Ke2 : K2) : Prop :=
  y8ev x1 x7 x8 x9 x10 h Kn Kr Kn Ke3 Ke2
theorem ylxy (Kn : K4) (Kr : K1) (Ke3 : K3) (Ke2 : K2) (t : T) (h : H) (H0 : y43f (t 1) (t 7) (t 8) (t 9) (t 10) h Kn Kr Ke3 Ke2) : Wp PG 169 (rest 1 (seqL (rest 1 (blkC (seqL (rest 1 (lopC (blkC (rest 1 (seqL (rest 2 (seqR (rest 4 (ygjk Tryz.f145.body)))))))))))))) (mkQ (q4 Kn 1 7 8 9) (q1 Kr 2) (keAdd 3 (q3 Ke3 1 7 8) (keAdd 2 (q2 Ke2 1 7) ke0))) t h :=
  y6tu 4 (by kernel_rfl) (by kernel_rfl) (yo1w Kn Kr Kn Ke3 Ke2 t h H0)
def y09h (x1 x7 x8 x9 : Value) (h : H) (Kn : K4) (Kr : K1) (Ke3 : K3) (Ke2 : K2) : Prop :=
  y43f x1 x7 x8 x9 (.int .i64 0) h Kn Kr Ke3 Ke2
theorem y8sj (Kn : K4) (Kr : K1) (Ke3 : K3) (Ke2 : K2) (t : T) (h : H) (H0 : y09h (t 1) (t 7) (t 8) (t 9) h Kn Kr Ke3 Ke2) : Wp PG 169 (seqL (rest 1 (blkC (seqL (rest 1 (lopC (blkC (rest 1 (seqL (rest 2 (seqR (rest 4 (ygjk Tryz.f145.body))))))))))))) (mkQ (q4 Kn 1 7 8 9) (q1 Kr 2) (keAdd 3 (q3 Ke3 1 7 8) (keAdd 2 (q2 Ke2 1 7) ke0))) t h :=
  yvnp E5_ok 1 H0 (by kernel_rfl) (fun t h (H1 : y43f (t 1) (t 7) (t 8) (t 9) (t 10) h Kn Kr Ke3 Ke2) => ylxy Kn Kr Ke3 Ke2 t h H1) (by kernel_rfl)
def yx28 (x1 x7 x8 x9 : Value) (h : H) (Kn : K3) (Kr : K1) (Ke3 : K3) (Ke2 : K2) : Prop :=
  ydv6 x7 false (fun k25 => u_bf false 1 2 x9 h fun v137 => u_bin PG .and T_int v137 (.int .i64 4) fun v138 => u_bin PG .neq T_int v138 (.int .i64 0) fun v139 => ydv6 v139 true (fun k11 => u_bf false 1 0 x1 h fun v142 => u_bf false 1 0 x9 h fun v144 => u_bin PG .geq ycpa v142 v144 fun v145 => k11 v145 h) (fun v145 h => y9rg v139 v145 (.bool false) fun v146 => ydv6 v146 true (fun k24 => u_bf false 1 0 x1 h fun v149 => y2x6 .i64 v149 fun v150 => u_bf false 1 0 x9 h fun v152 => y2x6 .i64 v152 fun v153 => u_bin PG .sub yeb5 v150 v153 fun v154 => u_bf false 1 1 x9 h fun v156 => y2x6 .i64 v156 fun v157 => u_bin PG .lss yeb5 v154 v157 fun v158 => k24 v158 h) (fun v158 h => y9rg v146 v158 (.bool false) fun v159 => k25 v159 h) h) h) (fun v159 h => y9rg x7 (.bool true) v159 fun v160 => Kn x1 v160 x8 h) h
theorem yxfj (Kn : K3) (Kr : K1) (Ke3 : K3) (Ke2 : K2) (t : T) (h : H) (H0 : yx28 (t 1) (t 7) (t 8) (t 9) h Kn Kr Ke3 Ke2) : Wp PG 169 (seqR (rest 1 (blkC (seqL (rest 1 (lopC (blkC (rest 1 (seqL (rest 2 (seqR (rest 4 (ygjk Tryz.f145.body))))))))))))) (mkQ (q3 Kn 1 7 8) (q1 Kr 2) (keAdd 3 (q3 Ke3 1 7 8) (keAdd 2 (q2 Ke2 1 7) ke0))) t h :=
  wpEqC E5_ok H0 (by kernel_rfl)
def yp7k (x1 x7 x8 x9 : Value) (h : H) (Kn : K3) (Kr : K1) (Ke3 : K3) (Ke2 : K2) : Prop :=
  y09h x1 x7 x8 x9 h (fun y1 y7 y8 y9 h => yx28 y1 y7 y8 y9 h Kn Kr Ke3 Ke2) Kr Ke3 Ke2
theorem ymjg (Kn : K3) (Kr : K1) (Ke3 : K3) (Ke2 : K2) (t : T) (h : H) (H0 : yp7k (t 1) (t 7) (t 8) (t 9) h Kn Kr Ke3 Ke2) : Wp PG 169 (rest 1 (blkC (seqL (rest 1 (lopC (blkC (rest 1 (seqL (rest 2 (seqR (rest 4 (ygjk Tryz.f145.body)))))))))))) (mkQ (q3 Kn 1 7 8) (q1 Kr 2) (keAdd 3 (q3 Ke3 1 7 8) (keAdd 2 (q2 Ke2 1 7) ke0))) t h :=
  ykv2 (by kernel_rfl) (fun t h H1 => yxfj Kn Kr Ke3 Ke2 t h H1) (y8sj (fun y1 y7 y8 y9 h => yx28 y1 y7 y8 y9 h Kn Kr Ke3 Ke2) Kr Ke3 Ke2 t h H0)
def yq9s (x1 x7 x8 : Value) (h : H) (Kn : K3) (Kr : K1) (Ke3 : K3) (Ke2 : K2) : Prop :=
  u_bf false 1 1 x1 h fun v94 => u_ix true 4 none v94 x8 h fun v97 => u_new [.int .u32 0, .int .u32 0, .int .i64 0, .slice none 0 0] yhas .exact h fun b9 h => ylel 4 (.pointer (some ⟨b9, 0, none⟩)) v97 h fun h => yp7k x1 x7 x8 (.pointer (some ⟨b9, 0, none⟩)) h Kn Kr Ke3 Ke2
theorem yjzl (Kn : K3) (Kr : K1) (Ke3 : K3) (Ke2 : K2) (t : T) (h : H) (H0 : yq9s (t 1) (t 7) (t 8) h Kn Kr Ke3 Ke2) : Wp PG 169 (blkC (seqL (rest 1 (lopC (blkC (rest 1 (seqL (rest 2 (seqR (rest 4 (ygjk Tryz.f145.body))))))))))) (mkQ (q3 Kn 1 7 8) (q1 Kr 2) (keAdd 3 (q3 Ke3 1 7 8) (keAdd 2 (q2 Ke2 1 7) ke0))) t h :=
  yvnp E5_ok 1 H0 (by kernel_rfl) (fun t h (H1 : yp7k (t 1) (t 7) (t 8) (t 9) h Kn Kr Ke3 Ke2) => ymjg Kn Kr Ke3 Ke2 t h H1) (by kernel_rfl)
def yaq4 (x1 x7 x8 : Value) (h : H) (Kn : K3) (Kr : K1) (Ke2 : K2) : Prop :=
  yq9s x1 x7 x8 h Kn Kr Kn Ke2
theorem y4p6 (Kn : K3) (Kr : K1) (Ke2 : K2) (t : T) (h : H) (H0 : yaq4 (t 1) (t 7) (t 8) h Kn Kr Ke2) : Wp PG 169 (seqL (rest 1 (lopC (blkC (rest 1 (seqL (rest 2 (seqR (rest 4 (ygjk Tryz.f145.body)))))))))) (mkQ (q3 Kn 1 7 8) (q1 Kr 2) (keAdd 2 (q2 Ke2 1 7) ke0)) t h :=
  y6tu 3 (by kernel_rfl) (by kernel_rfl) (yjzl Kn Kr Kn Ke2 t h H0)
def yd2r (x1 x7 x8 : Value) (h : H) (Kn : K3) (Kr : K1) (Ke2 : K2) : Prop :=
  u_bin PG .add T_int x8 (.int .i64 1) fun v92 => Kn x1 x7 v92 h
theorem yp6q (Kn : K3) (Kr : K1) (Ke2 : K2) (t : T) (h : H) (H0 : yd2r (t 1) (t 7) (t 8) h Kn Kr Ke2) : Wp PG 169 (seqR (rest 1 (lopC (blkC (rest 1 (seqL (rest 2 (seqR (rest 4 (ygjk Tryz.f145.body)))))))))) (mkQ (q3 Kn 1 7 8) (q1 Kr 2) (keAdd 2 (q2 Ke2 1 7) ke0)) t h :=
  wpEqC E5_ok H0 (by kernel_rfl)
def y11l (x1 x7 x8 : Value) (h : H) (Kn : K3) (Kr : K1) (Ke2 : K2) : Prop :=
  yaq4 x1 x7 x8 h (fun y1 y7 y8 h => yd2r y1 y7 y8 h Kn Kr Ke2) Kr Ke2
theorem yc1k (Kn : K3) (Kr : K1) (Ke2 : K2) (t : T) (h : H) (H0 : y11l (t 1) (t 7) (t 8) h Kn Kr Ke2) : Wp PG 169 (rest 1 (lopC (blkC (rest 1 (seqL (rest 2 (seqR (rest 4 (ygjk Tryz.f145.body))))))))) (mkQ (q3 Kn 1 7 8) (q1 Kr 2) (keAdd 2 (q2 Ke2 1 7) ke0)) t h :=
  ykv2 (by kernel_rfl) (fun t h H1 => yp6q Kn Kr Ke2 t h H1) (y4p6 (fun y1 y7 y8 h => yd2r y1 y7 y8 h Kn Kr Ke2) Kr Ke2 t h H0)
def yaeq (x1 x7 x8 : Value) (h : H) (Kn : K3) (Kr : K1) (Ke2 : K2) : Prop :=
  u_bf false 1 1 x1 h fun v88 => ywmm v88 fun v89 => u_bin PG .lss T_int x8 v89 fun v90 => u_if v90 (y11l x1 x7 x8 h Kn Kr Ke2) (Ke2 x1 x7 h)
theorem yb59 (Kn : K3) (Kr : K1) (Ke2 : K2) (t : T) (h : H) (H0 : yaeq (t 1) (t 7) (t 8) h Kn Kr Ke2) : Wp PG 169 (lopC (blkC (rest 1 (seqL (rest 2 (seqR (rest 4 (ygjk Tryz.f145.body)))))))) (mkQ (q3 Kn 1 7 8) (q1 Kr 2) (keAdd 2 (q2 Ke2 1 7) ke0)) t h :=
  yvnp E5_ok 1 H0 (by kernel_rfl) (fun t h (H1 : y11l (t 1) (t 7) (t 8) h Kn Kr Ke2) => yc1k Kn Kr Ke2 t h H1) (by kernel_rfl)
def ygfp (x1 x7 x8 : Value) (h : H) (Kn : K2) (Kr : K1) (Ke2 : K2) : Prop :=
  sloop (S := Value × Value × Value) (fun s h K => yaeq s.1 s.2.1 s.2.2 h (fun y1 y7 y8 h => K (y1, y7, y8) h) Kr Ke2) (x1, x7, x8) h
theorem ynex (Kn : K2) (Kr : K1) (Ke2 : K2) (t : T) (h : H) (H0 : ygfp (t 1) (t 7) (t 8) h Kn Kr Ke2) : Wp PG 169 (blkC (rest 1 (seqL (rest 2 (seqR (rest 4 (ygjk Tryz.f145.body))))))) (mkQ (q2 Kn 1 7) (q1 Kr 2) (keAdd 2 (q2 Ke2 1 7) ke0)) t h :=
  yv0a (fun t => (t 1, t 7, t 8)) (by kernel_rfl) (fun t h K H1 => yb59 (fun y1 y7 y8 h => K (y1, y7, y8) h) Kr Ke2 t h H1) H0
def yp4t (x1 x7 x8 : Value) (h : H) (Kn : K2) (Kr : K1) : Prop :=
  ygfp x1 x7 x8 h Kn Kr Kn
theorem y0jg (Kn : K2) (Kr : K1) (t : T) (h : H) (H0 : yp4t (t 1) (t 7) (t 8) h Kn Kr) : Wp PG 169 (rest 1 (seqL (rest 2 (seqR (rest 4 (ygjk Tryz.f145.body)))))) (mkQ (q2 Kn 1 7) (q1 Kr 2) ke0) t h :=
  y6tu 2 (by kernel_rfl) (by kernel_rfl) (ynex Kn Kr Kn t h H0)
def ywqd (x1 x7 : Value) (h : H) (Kn : K2) (Kr : K1) : Prop :=
  yp4t x1 x7 (.int .i64 0) h Kn Kr
theorem y28j (Kn : K2) (Kr : K1) (t : T) (h : H) (H0 : ywqd (t 1) (t 7) h Kn Kr) : Wp PG 169 (seqL (rest 2 (seqR (rest 4 (ygjk Tryz.f145.body))))) (mkQ (q2 Kn 1 7) (q1 Kr 2) ke0) t h :=
  yvnp E5_ok 1 H0 (by kernel_rfl) (fun t h (H1 : yp4t (t 1) (t 7) (t 8) h Kn Kr) => y0jg Kn Kr t h H1) (by kernel_rfl)
def ytui (x1 x7 : Value) (h : H) (Kn : K1) (Kr : K1) : Prop :=
  u_bf false 1 0 x1 h fun v162 => u_bin PG .rem ycpa v162 (.int .u32 4) fun v163 => u_bin PG .neq ycpa v163 (.int .u32 0) fun v164 => ydv6 v164 false (fun k6 => u_un PG .not x7 fun v167 => k6 v167 h) (fun v167 h => y9rg v164 (.bool true) v167 fun v168 => u_if v168 (Kr (.int .i64 1) h) (Kr (.int .i64 0) h)) h
theorem yi2e (Kn : K1) (Kr : K1) (t : T) (h : H) (H0 : ytui (t 1) (t 7) h Kn Kr) : Wp PG 169 (seqR (rest 2 (seqR (rest 4 (ygjk Tryz.f145.body))))) (mkQ (q1 Kn 2) (q1 Kr 2) ke0) t h :=
  wpEqC E5_ok H0 (by kernel_rfl)
def yeqh (x1 x7 : Value) (h : H) (Kn : K1) (Kr : K1) : Prop :=
  ywqd x1 x7 h (fun y1 y7 h => ytui y1 y7 h Kn Kr) Kr
theorem y5v6 (Kn : K1) (Kr : K1) (t : T) (h : H) (H0 : yeqh (t 1) (t 7) h Kn Kr) : Wp PG 169 (rest 2 (seqR (rest 4 (ygjk Tryz.f145.body)))) (mkQ (q1 Kn 2) (q1 Kr 2) ke0) t h :=
  ykv2 (by kernel_rfl) (fun t h H1 => yi2e Kn Kr t h H1) (y28j (fun y1 y7 h => ytui y1 y7 h Kn Kr) Kr t h H0)
def yggq (x1 x3 x4 : Value) (h : H) (Kn : K1) (Kr : K1) : Prop :=
  u_bin PG .gtr yeb5 x3 (.int .i64 65536) fun v81 => ydv6 v81 false (fun k4 => u_bin PG .gtr yeb5 x4 (.int .i64 65536) fun v84 => k4 v84 h) (fun v84 h => y9rg v81 (.bool true) v84 fun v85 => u_if v85 (Kr (.int .i64 2) h) (yeqh x1 (.bool false) h Kn Kr)) h
theorem y2xj (Kn : K1) (Kr : K1) (t : T) (h : H) (H0 : yggq (t 1) (t 3) (t 4) h Kn Kr) : Wp PG 169 (seqR (rest 4 (ygjk Tryz.f145.body))) (mkQ (q1 Kn 2) (q1 Kr 2) ke0) t h :=
  yvnp E5_ok 2 H0 (by kernel_rfl) (fun t h (H1 : yeqh (t 1) (t 7) h Kn Kr) => y5v6 Kn Kr t h H1) (by kernel_rfl)
def yvrz (x1 x3 x4 : Value) (h : H) (Kn : K1) (Kr : K1) : Prop :=
  ycly x1 x3 x4 h (fun y1 y3 y4 h => yggq y1 y3 y4 h Kn Kr) Kr
theorem yw1d (Kn : K1) (Kr : K1) (t : T) (h : H) (H0 : yvrz (t 1) (t 3) (t 4) h Kn Kr) : Wp PG 169 (rest 4 (ygjk Tryz.f145.body)) (mkQ (q1 Kn 2) (q1 Kr 2) ke0) t h :=
  ykv2 (by kernel_rfl) (fun t h H1 => y2xj Kn Kr t h H1) (ynhx (fun y1 y3 y4 h => yggq y1 y3 y4 h Kn Kr) Kr t h H0)
def y2if (x0 : Value) (h : H) (Kn : K1) (Kr : K1) : Prop :=
  boxV x0 = true ∧ u_new (Value.cells x0).toList yr7r .exact h fun b1 h => u_bf false 1 1 (.pointer (some ⟨b1, 0, none⟩)) h fun v13 => ywmm v13 fun v14 => u_bin PG .gtr T_int v14 (.int .i64 8) fun v15 => u_if v15 (Kr (.int .i64 2) h) (u_bf false 1 1 (.pointer (some ⟨b1, 0, none⟩)) h fun v17 => ywmm v17 fun v18 => u_bin PG .eql T_int v18 (.int .i64 0) fun v19 => u_if v19 (Kr (.int .i64 1) h) (yvrz (.pointer (some ⟨b1, 0, none⟩)) (.int .i64 0) (.int .i64 0) h Kn Kr))
theorem y6ho (Kn : K1) (Kr : K1) (t : T) (h : H) (H0 : y2if (t 0) h Kn Kr) : Wp PG 169 (ygjk Tryz.f145.body) (mkQ (q1 Kn 2) (q1 Kr 2) ke0) t h :=
  yvnp E5_ok 4 H0 (by kernel_rfl) (fun t h (H1 : yvrz (t 1) (t 3) (t 4) h Kn Kr) => yw1d Kn Kr t h H1) (by kernel_rfl)
def yg76 (x0 : Value) (h : H) (Q : K1) : Prop := y2if x0 h Q Q
theorem yepe (x0 : Value) (h : H) (Q : K1) (H0 : yg76 x0 h Q) : AM.Spec PG y3mv [x0] h Q :=
  yqxt mixed (fn := Tryz.f145) Tryz.func145 (c := ygjk Tryz.f145.body) (rs := [2]) (N := 169) (by kernel_rfl) (by kernel_rfl) (by kernel_rfl) (by kernel_rfl) (by kernel_rfl) (Nat.le_of_ble_eq_true rfl) (y6ho Q Q (tinit [x0]) h H0) (by kernel_rfl)
def ylt6 (x1 x3 : Value) (h : H) (Kn : K2) (Kr : K1) (Ke0 : K1) : Prop :=
  u_bf false 1 1 x1 h fun v20 => ywmm v20 fun v21 => u_bin PG .lss T_int x3 v21 fun v22 => u_if v22 (u_bf false 1 1 x1 h fun v26 => u_ix true 4 none v26 x3 h fun v29 => u_new [.int .i64 0, .int .u32 0, .int .u32 0, .int .u8 0] ybsk .exact h fun b4 h => ylel 4 (.pointer (some ⟨b4, 0, none⟩)) v29 h fun h => u_bf false 1 3 (.pointer (some ⟨b4, 0, none⟩)) h fun v31 => u_bin PG .neq yoj6 v31 (.int .u8 0) fun v32 => u_bf false 1 0 (.pointer (some ⟨b4, 0, none⟩)) h fun v34 => u_bin PG .eql T_int v34 (.int .i64 1) fun v36 => u_if v36 (ydv6 v32 true (fun k4 => u_bf false 1 2 (.pointer (some ⟨b4, 0, none⟩)) h fun v40 => u_bin PG .eql ycpa v40 (.int .u32 0) fun v41 => k4 v41 h) (fun v41 h => y9rg v32 v41 (.bool false) fun v42 => u_un PG .not v42 fun v77 => u_if v77 (Kr (.bool false) h) (u_bin PG .add T_int x3 (.int .i64 1) fun v24 => Kn x1 v24 h)) h) (yi4e PG T_int v34 [(.int .i64 2), (.int .i64 3), (.int .i64 5)] fun w43 => u_if w43 (ydv6 v32 true (fun k4 => u_bf false 1 1 (.pointer (some ⟨b4, 0, none⟩)) h fun v50 => u_bin PG .eql ycpa v50 (.int .u32 0) fun v51 => k4 v51 h) (fun v51 h => y9rg v32 v51 (.bool false) fun v52 => ydv6 v52 true (fun k9 => u_bf false 1 2 (.pointer (some ⟨b4, 0, none⟩)) h fun v55 => u_bin PG .eql ycpa v55 (.int .u32 0) fun v56 => k9 v56 h) (fun v56 h => y9rg v52 v56 (.bool false) fun v57 => u_un PG .not v57 fun v77 => u_if v77 (Kr (.bool false) h) (u_bin PG .add T_int x3 (.int .i64 1) fun v24 => Kn x1 v24 h)) h) h) (u_bin PG .eql T_int v34 (.int .i64 4) fun v59 => u_if v59 (ydv6 v32 true (fun k4 => u_bf false 1 2 (.pointer (some ⟨b4, 0, none⟩)) h fun v63 => u_bin PG .neq ycpa v63 (.int .u32 0) fun v64 => k4 v64 h) (fun v64 h => y9rg v32 v64 (.bool false) fun v65 => ydv6 v65 true (fun k14 => u_bf false 1 1 (.pointer (some ⟨b4, 0, none⟩)) h fun v68 => y2x6 .i64 v68 fun v69 => u_bf false 1 2 (.pointer (some ⟨b4, 0, none⟩)) h fun v71 => y2x6 .i64 v71 fun v72 => u_bin PG .add yeb5 v69 v72 fun v73 => u_bin PG .leq yeb5 v73 (.int .i64 4294967296) fun v74 => k14 v74 h) (fun v74 h => y9rg v65 v74 (.bool false) fun v75 => u_un PG .not v75 fun v77 => u_if v77 (Kr (.bool false) h) (u_bin PG .add T_int x3 (.int .i64 1) fun v24 => Kn x1 v24 h)) h) h) (u_un PG .not (.bool false) fun v77 => u_if v77 (Kr (.bool false) h) (u_bin PG .add T_int x3 (.int .i64 1) fun v24 => Kn x1 v24 h))))) (Ke0 x1 h)
theorem yzof (Kn : K2) (Kr : K1) (Ke0 : K1) (t : T) (h : H) (H0 : ylt6 (t 1) (t 3) h Kn Kr Ke0) : Wp PG 128 (lopC (blkC (rest 1 (seqL (rest 2 (ygjk Tryz.f146.body)))))) (mkQ (q2 Kn 1 3) (q1 Kr 2) (keAdd 0 (q1 Ke0 1) ke0)) t h :=
  wpEqC E5_ok H0 (by kernel_rfl)
def y856 (x1 x3 : Value) (h : H) (Kn : K1) (Kr : K1) (Ke0 : K1) : Prop :=
  sloop (S := Value × Value) (fun s h K => ylt6 s.1 s.2 h (fun y1 y3 h => K (y1, y3) h) Kr Ke0) (x1, x3) h
theorem y2ex (Kn : K1) (Kr : K1) (Ke0 : K1) (t : T) (h : H) (H0 : y856 (t 1) (t 3) h Kn Kr Ke0) : Wp PG 128 (blkC (rest 1 (seqL (rest 2 (ygjk Tryz.f146.body))))) (mkQ (q1 Kn 1) (q1 Kr 2) (keAdd 0 (q1 Ke0 1) ke0)) t h :=
  yv0a (fun t => (t 1, t 3)) (by kernel_rfl) (fun t h K H1 => yzof (fun y1 y3 h => K (y1, y3) h) Kr Ke0 t h H1) H0
def yqes (x1 x3 : Value) (h : H) (Kn : K1) (Kr : K1) : Prop :=
  y856 x1 x3 h Kn Kr Kn
theorem ymw3 (Kn : K1) (Kr : K1) (t : T) (h : H) (H0 : yqes (t 1) (t 3) h Kn Kr) : Wp PG 128 (rest 1 (seqL (rest 2 (ygjk Tryz.f146.body)))) (mkQ (q1 Kn 1) (q1 Kr 2) ke0) t h :=
  y6tu 0 (by kernel_rfl) (by kernel_rfl) (y2ex Kn Kr Kn t h H0)
def y198 (x1 : Value) (h : H) (Kn : K1) (Kr : K1) : Prop :=
  yqes x1 (.int .i64 0) h Kn Kr
theorem ypdj (Kn : K1) (Kr : K1) (t : T) (h : H) (H0 : y198 (t 1) h Kn Kr) : Wp PG 128 (seqL (rest 2 (ygjk Tryz.f146.body))) (mkQ (q1 Kn 1) (q1 Kr 2) ke0) t h :=
  yvnp E5_ok 1 H0 (by kernel_rfl) (fun t h (H1 : yqes (t 1) (t 3) h Kn Kr) => ymw3 Kn Kr t h H1) (by kernel_rfl)
def yrek (x1 x6 : Value) (h : H) (Kn : K2) (Kr : K1) (Ke3 : K0) : Prop :=
  u_bf false 1 2 x1 h fun v80 => ywmm v80 fun v81 => u_bin PG .lss T_int x6 v81 fun v82 => u_if v82 (u_bf false 1 2 x1 h fun v86 => u_ix true 3 none v86 x6 h fun v89 => u_new [.int .i64 0, .int .i64 0, .int .u8 0] ytfh .exact h fun b7 h => ylel 3 (.pointer (some ⟨b7, 0, none⟩)) v89 h fun h => u_bf false 1 0 (.pointer (some ⟨b7, 0, none⟩)) h fun v91 => u_bin PG .lss T_int v91 (.int .i64 1) fun v92 => ydv6 v92 false (fun k6 => u_bf false 1 0 (.pointer (some ⟨b7, 0, none⟩)) h fun v95 => u_bin PG .gtr T_int v95 (.int .i64 5) fun v96 => k6 v96 h) (fun v96 h => y9rg v92 (.bool true) v96 fun v97 => ydv6 v97 false (fun k11 => u_bf false 1 2 (.pointer (some ⟨b7, 0, none⟩)) h fun v100 => u_bin PG .eql yoj6 v100 (.int .u8 0) fun v101 => k11 v101 h) (fun v101 h => y9rg v97 (.bool true) v101 fun v102 => ydv6 v102 false (fun k16 => u_bf false 1 1 (.pointer (some ⟨b7, 0, none⟩)) h fun v105 => u_bin PG .lss T_int v105 (.int .i64 0) fun v106 => k16 v106 h) (fun v106 h => y9rg v102 (.bool true) v106 fun v107 => ydv6 v107 false (fun k26 => u_bf false 1 0 (.pointer (some ⟨b7, 0, none⟩)) h fun v110 => u_bin PG .eql T_int v110 (.int .i64 4) fun v111 => ydv6 v111 true (fun k25 => u_bf false 1 1 (.pointer (some ⟨b7, 0, none⟩)) h fun v114 => u_bin PG .gtr T_int v114 (.int .i64 6) fun v115 => k25 v115 h) (fun v115 h => y9rg v111 v115 (.bool false) fun v116 => k26 v116 h) h) (fun v116 h => y9rg v107 (.bool true) v116 fun v117 => ydv6 v117 false (fun k36 => u_bf false 1 0 (.pointer (some ⟨b7, 0, none⟩)) h fun v120 => u_bin PG .neq T_int v120 (.int .i64 4) fun v121 => ydv6 v121 true (fun k35 => u_bf false 1 1 (.pointer (some ⟨b7, 0, none⟩)) h fun v124 => u_bin PG .neq T_int v124 (.int .i64 0) fun v125 => k35 v125 h) (fun v125 h => y9rg v121 v125 (.bool false) fun v126 => k36 v126 h) h) (fun v126 h => y9rg v117 (.bool true) v126 fun v127 => u_if v127 (Kr (.bool false) h) (u_bin PG .add T_int x6 (.int .i64 1) fun v84 => Kn x1 v84 h)) h) h) h) h) h) (Ke3 h)
theorem yvlv (Kn : K2) (Kr : K1) (Ke3 : K0) (t : T) (h : H) (H0 : yrek (t 1) (t 6) h Kn Kr Ke3) : Wp PG 128 (lopC (blkC (rest 1 (seqL (seqR (rest 2 (ygjk Tryz.f146.body))))))) (mkQ (q2 Kn 1 6) (q1 Kr 2) (keAdd 3 (q0 Ke3) ke0)) t h :=
  wpEqC E5_ok H0 (by kernel_rfl)
def yt3h (x1 x6 : Value) (h : H) (Kn : K0) (Kr : K1) (Ke3 : K0) : Prop :=
  sloop (S := Value × Value) (fun s h K => yrek s.1 s.2 h (fun y1 y6 h => K (y1, y6) h) Kr Ke3) (x1, x6) h
theorem yryk (Kn : K0) (Kr : K1) (Ke3 : K0) (t : T) (h : H) (H0 : yt3h (t 1) (t 6) h Kn Kr Ke3) : Wp PG 128 (blkC (rest 1 (seqL (seqR (rest 2 (ygjk Tryz.f146.body)))))) (mkQ (q0 Kn) (q1 Kr 2) (keAdd 3 (q0 Ke3) ke0)) t h :=
  yv0a (fun t => (t 1, t 6)) (by kernel_rfl) (fun t h K H1 => yvlv (fun y1 y6 h => K (y1, y6) h) Kr Ke3 t h H1) H0
def y5fc (x1 x6 : Value) (h : H) (Kn : K0) (Kr : K1) : Prop :=
  yt3h x1 x6 h Kn Kr Kn
theorem ynq8 (Kn : K0) (Kr : K1) (t : T) (h : H) (H0 : y5fc (t 1) (t 6) h Kn Kr) : Wp PG 128 (rest 1 (seqL (seqR (rest 2 (ygjk Tryz.f146.body))))) (mkQ (q0 Kn) (q1 Kr 2) ke0) t h :=
  y6tu 3 (by kernel_rfl) (by kernel_rfl) (yryk Kn Kr Kn t h H0)
def yiih (x1 : Value) (h : H) (Kn : K0) (Kr : K1) : Prop :=
  y5fc x1 (.int .i64 0) h Kn Kr
theorem yg0h (Kn : K0) (Kr : K1) (t : T) (h : H) (H0 : yiih (t 1) h Kn Kr) : Wp PG 128 (seqL (seqR (rest 2 (ygjk Tryz.f146.body)))) (mkQ (q0 Kn) (q1 Kr 2) ke0) t h :=
  yvnp E5_ok 1 H0 (by kernel_rfl) (fun t h (H1 : y5fc (t 1) (t 6) h Kn Kr) => ynq8 Kn Kr t h H1) (by kernel_rfl)
def ymcg (h : H) (Kn : K1) (Kr : K1) : Prop :=
  Kr (.bool true) h
theorem ykl4 (Kn : K1) (Kr : K1) (t : T) (h : H) (H0 : ymcg  h Kn Kr) : Wp PG 128 (seqR (seqR (rest 2 (ygjk Tryz.f146.body)))) (mkQ (q1 Kn 2) (q1 Kr 2) ke0) t h :=
  wpEqC E5_ok H0 (by kernel_rfl)
def y56t (x1 : Value) (h : H) (Kn : K1) (Kr : K1) : Prop :=
  yiih x1 h (fun  h => ymcg  h Kn Kr) Kr
theorem ythl (Kn : K1) (Kr : K1) (t : T) (h : H) (H0 : y56t (t 1) h Kn Kr) : Wp PG 128 (seqR (rest 2 (ygjk Tryz.f146.body))) (mkQ (q1 Kn 2) (q1 Kr 2) ke0) t h :=
  ykv2 (by kernel_rfl) (fun t h H1 => ykl4 Kn Kr t h H1) (yg0h (fun  h => ymcg  h Kn Kr) Kr t h H0)
def y7gc (x1 : Value) (h : H) (Kn : K1) (Kr : K1) : Prop :=
  y198 x1 h (fun y1 h => y56t y1 h Kn Kr) Kr
theorem ym42 (Kn : K1) (Kr : K1) (t : T) (h : H) (H0 : y7gc (t 1) h Kn Kr) : Wp PG 128 (rest 2 (ygjk Tryz.f146.body)) (mkQ (q1 Kn 2) (q1 Kr 2) ke0) t h :=
  ykv2 (by kernel_rfl) (fun t h H1 => ythl Kn Kr t h H1) (ypdj (fun y1 h => y56t y1 h Kn Kr) Kr t h H0)
def y1gy (x0 : Value) (h : H) (Kn : K1) (Kr : K1) : Prop :=
  boxV x0 = true ∧ u_new (Value.cells x0).toList ysrv .exact h fun b1 h => u_bf false 1 1 (.pointer (some ⟨b1, 0, none⟩)) h fun v9 => ywmm v9 fun v10 => u_bin PG .gtr T_int v10 (.int .i64 32) fun v11 => ydv6 v11 false (fun k8 => u_bf false 1 2 (.pointer (some ⟨b1, 0, none⟩)) h fun v14 => ywmm v14 fun v15 => u_bin PG .gtr T_int v15 (.int .i64 32) fun v16 => k8 v16 h) (fun v16 h => y9rg v11 (.bool true) v16 fun v17 => u_if v17 (Kr (.bool false) h) (y7gc (.pointer (some ⟨b1, 0, none⟩)) h Kn Kr)) h
theorem y6tx (Kn : K1) (Kr : K1) (t : T) (h : H) (H0 : y1gy (t 0) h Kn Kr) : Wp PG 128 (ygjk Tryz.f146.body) (mkQ (q1 Kn 2) (q1 Kr 2) ke0) t h :=
  yvnp E5_ok 2 H0 (by kernel_rfl) (fun t h (H1 : y7gc (t 1) h Kn Kr) => ym42 Kn Kr t h H1) (by kernel_rfl)
def y5ue (x0 : Value) (h : H) (Q : K1) : Prop := y1gy x0 h Q Q
theorem yxso (x0 : Value) (h : H) (Q : K1) (H0 : y5ue x0 h Q) : AM.Spec PG ywke [x0] h Q :=
  yqxt mixed (fn := Tryz.f146) Tryz.func146 (c := ygjk Tryz.f146.body) (rs := [2]) (N := 128) (by kernel_rfl) (by kernel_rfl) (by kernel_rfl) (by kernel_rfl) (by kernel_rfl) (Nat.le_of_ble_eq_true rfl) (y6tx Q Q (tinit [x0]) h H0) (by kernel_rfl)
def yzcq (x1 x3 : Value) (h : H) (Kn : K2) (Kr : K1) (Ke0 : K1) : Prop :=
  u_bf false 1 0 x1 h fun v44 => ywmm v44 fun v45 => u_bin PG .lss T_int x3 v45 fun v46 => u_if v46 (u_bf false 1 0 x1 h fun v50 => u_ix false 1 none v50 x3 h fun v53 => y5hj v53 fun v54 => u_bin PG .gtr T_int v54 (.int .i64 200) fun v55 => ydv6 v55 false (fun k13 => u_bf false 1 0 x1 h fun v58 => u_ix false 1 none v58 x3 h fun v61 => yjdf PG yz8b [v61] h fun v62 h => k13 v62 h) (fun v62 h => y9rg v55 (.bool true) v62 fun v63 => u_if v63 (Kr (.bool false) h) (u_bin PG .add T_int x3 (.int .i64 1) fun v48 => Kn x1 v48 h)) h) (Ke0 x1 h)
theorem ys5y (Kn : K2) (Kr : K1) (Ke0 : K1) (t : T) (h : H) (H0 : yzcq (t 1) (t 3) h Kn Kr Ke0) : Wp PG 132 (lopC (blkC (rest 1 (seqL (rest 2 (ygjk Tryz.f147.body)))))) (mkQ (q2 Kn 1 3) (q1 Kr 2) (keAdd 0 (q1 Ke0 1) ke0)) t h :=
  wpEqC E5_ok H0 (by kernel_rfl)
def yecb (x1 x3 : Value) (h : H) (Kn : K1) (Kr : K1) (Ke0 : K1) : Prop :=
  sloop (S := Value × Value) (fun s h K => yzcq s.1 s.2 h (fun y1 y3 h => K (y1, y3) h) Kr Ke0) (x1, x3) h
theorem yy2i (Kn : K1) (Kr : K1) (Ke0 : K1) (t : T) (h : H) (H0 : yecb (t 1) (t 3) h Kn Kr Ke0) : Wp PG 132 (blkC (rest 1 (seqL (rest 2 (ygjk Tryz.f147.body))))) (mkQ (q1 Kn 1) (q1 Kr 2) (keAdd 0 (q1 Ke0 1) ke0)) t h :=
  yv0a (fun t => (t 1, t 3)) (by kernel_rfl) (fun t h K H1 => ys5y (fun y1 y3 h => K (y1, y3) h) Kr Ke0 t h H1) H0
def yj7y (x1 x3 : Value) (h : H) (Kn : K1) (Kr : K1) : Prop :=
  yecb x1 x3 h Kn Kr Kn
theorem yv2r (Kn : K1) (Kr : K1) (t : T) (h : H) (H0 : yj7y (t 1) (t 3) h Kn Kr) : Wp PG 132 (rest 1 (seqL (rest 2 (ygjk Tryz.f147.body)))) (mkQ (q1 Kn 1) (q1 Kr 2) ke0) t h :=
  y6tu 0 (by kernel_rfl) (by kernel_rfl) (yy2i Kn Kr Kn t h H0)
def yxd7 (x1 : Value) (h : H) (Kn : K1) (Kr : K1) : Prop :=
  yj7y x1 (.int .i64 0) h Kn Kr
theorem yh5w (Kn : K1) (Kr : K1) (t : T) (h : H) (H0 : yxd7 (t 1) h Kn Kr) : Wp PG 132 (seqL (rest 2 (ygjk Tryz.f147.body))) (mkQ (q1 Kn 1) (q1 Kr 2) ke0) t h :=
  yvnp E5_ok 1 H0 (by kernel_rfl) (fun t h (H1 : yj7y (t 1) (t 3) h Kn Kr) => yv2r Kn Kr t h H1) (by kernel_rfl)
def y5l6 (x1 x4 : Value) (h : H) (Kn : K2) (Kr : K1) (Ke2 : K1) : Prop :=
  u_bf false 1 2 x1 h fun v66 => ywmm v66 fun v67 => u_bin PG .lss T_int x4 v67 fun v68 => u_if v68 (u_bf false 1 2 x1 h fun v72 => u_ix false 1 none v72 x4 h fun v75 => u_bin PG .lss T_int v75 (.int .i64 0) fun v76 => ydv6 v76 false (fun k12 => u_bf false 1 2 x1 h fun v79 => u_ix false 1 none v79 x4 h fun v82 => u_bin PG .gtr T_int v82 (.int .i64 4096) fun v83 => k12 v83 h) (fun v83 h => y9rg v76 (.bool true) v83 fun v84 => u_if v84 (Kr (.bool false) h) (u_bin PG .add T_int x4 (.int .i64 1) fun v70 => Kn x1 v70 h)) h) (Ke2 x1 h)
theorem y9h4 (Kn : K2) (Kr : K1) (Ke2 : K1) (t : T) (h : H) (H0 : y5l6 (t 1) (t 4) h Kn Kr Ke2) : Wp PG 132 (lopC (blkC (rest 1 (seqL (seqR (rest 2 (ygjk Tryz.f147.body))))))) (mkQ (q2 Kn 1 4) (q1 Kr 2) (keAdd 2 (q1 Ke2 1) ke0)) t h :=
  wpEqC E5_ok H0 (by kernel_rfl)
def y3g7 (x1 x4 : Value) (h : H) (Kn : K1) (Kr : K1) (Ke2 : K1) : Prop :=
  sloop (S := Value × Value) (fun s h K => y5l6 s.1 s.2 h (fun y1 y4 h => K (y1, y4) h) Kr Ke2) (x1, x4) h
theorem you3 (Kn : K1) (Kr : K1) (Ke2 : K1) (t : T) (h : H) (H0 : y3g7 (t 1) (t 4) h Kn Kr Ke2) : Wp PG 132 (blkC (rest 1 (seqL (seqR (rest 2 (ygjk Tryz.f147.body)))))) (mkQ (q1 Kn 1) (q1 Kr 2) (keAdd 2 (q1 Ke2 1) ke0)) t h :=
  yv0a (fun t => (t 1, t 4)) (by kernel_rfl) (fun t h K H1 => y9h4 (fun y1 y4 h => K (y1, y4) h) Kr Ke2 t h H1) H0
def y67r (x1 x4 : Value) (h : H) (Kn : K1) (Kr : K1) : Prop :=
  y3g7 x1 x4 h Kn Kr Kn
theorem yak7 (Kn : K1) (Kr : K1) (t : T) (h : H) (H0 : y67r (t 1) (t 4) h Kn Kr) : Wp PG 132 (rest 1 (seqL (seqR (rest 2 (ygjk Tryz.f147.body))))) (mkQ (q1 Kn 1) (q1 Kr 2) ke0) t h :=
  y6tu 2 (by kernel_rfl) (by kernel_rfl) (you3 Kn Kr Kn t h H0)
def yctv (x1 : Value) (h : H) (Kn : K1) (Kr : K1) : Prop :=
  y67r x1 (.int .i64 0) h Kn Kr
theorem yl6a (Kn : K1) (Kr : K1) (t : T) (h : H) (H0 : yctv (t 1) h Kn Kr) : Wp PG 132 (seqL (seqR (rest 2 (ygjk Tryz.f147.body)))) (mkQ (q1 Kn 1) (q1 Kr 2) ke0) t h :=
  yvnp E5_ok 1 H0 (by kernel_rfl) (fun t h (H1 : y67r (t 1) (t 4) h Kn Kr) => yak7 Kn Kr t h H1) (by kernel_rfl)
def ydd4 (x1 x5 : Value) (h : H) (Kn : K2) (Kr : K1) (Ke4 : K0) : Prop :=
  False
theorem yz8l (Kn : K2) (Kr : K1) (Ke4 : K0) (t : T) (h : H) (H0 : ydd4 (t 1) (t 5) h Kn Kr Ke4) : Wp PG 132 (rest 1 (lopC (blkC (rest 1 (seqL (seqR (seqR (rest 2 (ygjk Tryz.f147.body))))))))) (mkQ (q2 Kn 1 5) (q1 Kr 2) (keAdd 4 (q0 Ke4) ke0)) t h :=
  H0.elim
def y0rw (x1 x5 : Value) (h : H) (Kn : K2) (Kr : K1) (Ke4 : K0) : Prop :=
  u_bf false 1 5 x1 h fun v87 => ywmm v87 fun v88 => u_bin PG .lss T_int x5 v88 fun v89 => u_if v89 (ydd4 x1 x5 h Kn Kr Ke4) (Ke4 h)
theorem y2po (Kn : K2) (Kr : K1) (Ke4 : K0) (t : T) (h : H) (H0 : y0rw (t 1) (t 5) h Kn Kr Ke4) : Wp PG 132 (lopC (blkC (rest 1 (seqL (seqR (seqR (rest 2 (ygjk Tryz.f147.body)))))))) (mkQ (q2 Kn 1 5) (q1 Kr 2) (keAdd 4 (q0 Ke4) ke0)) t h :=
  yvnp E5_ok 1 H0 (by kernel_rfl) (fun t h (H1 : ydd4 (t 1) (t 5) h Kn Kr Ke4) => yz8l Kn Kr Ke4 t h H1) (by kernel_rfl)
def y38c (x1 x5 : Value) (h : H) (Kn : K0) (Kr : K1) (Ke4 : K0) : Prop :=
  sloop (S := Value × Value) (fun s h K => y0rw s.1 s.2 h (fun y1 y5 h => K (y1, y5) h) Kr Ke4) (x1, x5) h
theorem ydld (Kn : K0) (Kr : K1) (Ke4 : K0) (t : T) (h : H) (H0 : y38c (t 1) (t 5) h Kn Kr Ke4) : Wp PG 132 (blkC (rest 1 (seqL (seqR (seqR (rest 2 (ygjk Tryz.f147.body))))))) (mkQ (q0 Kn) (q1 Kr 2) (keAdd 4 (q0 Ke4) ke0)) t h :=
  yv0a (fun t => (t 1, t 5)) (by kernel_rfl) (fun t h K H1 => y2po (fun y1 y5 h => K (y1, y5) h) Kr Ke4 t h H1) H0
def yq1z (x1 x5 : Value) (h : H) (Kn : K0) (Kr : K1) : Prop :=
  y38c x1 x5 h Kn Kr Kn
theorem yra0 (Kn : K0) (Kr : K1) (t : T) (h : H) (H0 : yq1z (t 1) (t 5) h Kn Kr) : Wp PG 132 (rest 1 (seqL (seqR (seqR (rest 2 (ygjk Tryz.f147.body)))))) (mkQ (q0 Kn) (q1 Kr 2) ke0) t h :=
  y6tu 4 (by kernel_rfl) (by kernel_rfl) (ydld Kn Kr Kn t h H0)
def ym1c (x1 : Value) (h : H) (Kn : K0) (Kr : K1) : Prop :=
  yq1z x1 (.int .i64 0) h Kn Kr
theorem ytef (Kn : K0) (Kr : K1) (t : T) (h : H) (H0 : ym1c (t 1) h Kn Kr) : Wp PG 132 (seqL (seqR (seqR (rest 2 (ygjk Tryz.f147.body))))) (mkQ (q0 Kn) (q1 Kr 2) ke0) t h :=
  yvnp E5_ok 1 H0 (by kernel_rfl) (fun t h (H1 : yq1z (t 1) (t 5) h Kn Kr) => yra0 Kn Kr t h H1) (by kernel_rfl)
def yt7z (h : H) (Kn : K1) (Kr : K1) : Prop :=
  Kr (.bool true) h
theorem ya3f (Kn : K1) (Kr : K1) (t : T) (h : H) (H0 : yt7z  h Kn Kr) : Wp PG 132 (seqR (seqR (seqR (rest 2 (ygjk Tryz.f147.body))))) (mkQ (q1 Kn 2) (q1 Kr 2) ke0) t h :=
  wpEqC E5_ok H0 (by kernel_rfl)
def y1zn (x1 : Value) (h : H) (Kn : K1) (Kr : K1) : Prop :=
  ym1c x1 h (fun  h => yt7z  h Kn Kr) Kr
theorem y5f1 (Kn : K1) (Kr : K1) (t : T) (h : H) (H0 : y1zn (t 1) h Kn Kr) : Wp PG 132 (seqR (seqR (rest 2 (ygjk Tryz.f147.body)))) (mkQ (q1 Kn 2) (q1 Kr 2) ke0) t h :=
  ykv2 (by kernel_rfl) (fun t h H1 => ya3f Kn Kr t h H1) (ytef (fun  h => yt7z  h Kn Kr) Kr t h H0)
def yrvm (x1 : Value) (h : H) (Kn : K1) (Kr : K1) : Prop :=
  yctv x1 h (fun y1 h => y1zn y1 h Kn Kr) Kr
theorem ymgt (Kn : K1) (Kr : K1) (t : T) (h : H) (H0 : yrvm (t 1) h Kn Kr) : Wp PG 132 (seqR (rest 2 (ygjk Tryz.f147.body))) (mkQ (q1 Kn 2) (q1 Kr 2) ke0) t h :=
  ykv2 (by kernel_rfl) (fun t h H1 => y5f1 Kn Kr t h H1) (yl6a (fun y1 h => y1zn y1 h Kn Kr) Kr t h H0)
def ykqk (x1 : Value) (h : H) (Kn : K1) (Kr : K1) : Prop :=
  yxd7 x1 h (fun y1 h => yrvm y1 h Kn Kr) Kr
theorem ym8u (Kn : K1) (Kr : K1) (t : T) (h : H) (H0 : ykqk (t 1) h Kn Kr) : Wp PG 132 (rest 2 (ygjk Tryz.f147.body)) (mkQ (q1 Kn 2) (q1 Kr 2) ke0) t h :=
  ykv2 (by kernel_rfl) (fun t h H1 => ymgt Kn Kr t h H1) (yh5w (fun y1 h => yrvm y1 h Kn Kr) Kr t h H0)
def yukp (x0 : Value) (h : H) (Kn : K1) (Kr : K1) : Prop :=
  boxV x0 = true ∧ u_new (Value.cells x0).toList y5c0 .exact h fun b1 h => u_bf false 1 0 (.pointer (some ⟨b1, 0, none⟩)) h fun v9 => ywmm v9 fun v10 => u_bin PG .gtr T_int v10 (.int .i64 16) fun v11 => ydv6 v11 false (fun k8 => u_bf false 1 1 (.pointer (some ⟨b1, 0, none⟩)) h fun v14 => ywmm v14 fun v15 => u_bin PG .gtr T_int v15 (.int .i64 4096) fun v16 => k8 v16 h) (fun v16 h => y9rg v11 (.bool true) v16 fun v17 => ydv6 v17 false (fun k14 => u_bf false 1 2 (.pointer (some ⟨b1, 0, none⟩)) h fun v20 => ywmm v20 fun v21 => u_bin PG .gtr T_int v21 (.int .i64 64) fun v22 => k14 v22 h) (fun v22 h => y9rg v17 (.bool true) v22 fun v23 => ydv6 v23 false (fun k20 => u_bf false 1 3 (.pointer (some ⟨b1, 0, none⟩)) h fun v26 => ywmm v26 fun v27 => u_bin PG .gtr T_int v27 (.int .i64 4096) fun v28 => k20 v28 h) (fun v28 h => y9rg v23 (.bool true) v28 fun v29 => ydv6 v29 false (fun k26 => u_bf false 1 4 (.pointer (some ⟨b1, 0, none⟩)) h fun v32 => ywmm v32 fun v33 => u_bin PG .gtr T_int v33 (.int .i64 64) fun v34 => k26 v34 h) (fun v34 h => y9rg v29 (.bool true) v34 fun v35 => ydv6 v35 false (fun k32 => u_bf false 1 5 (.pointer (some ⟨b1, 0, none⟩)) h fun v38 => ywmm v38 fun v39 => u_bin PG .gtr T_int v39 (.int .i64 8) fun v40 => k32 v40 h) (fun v40 h => y9rg v35 (.bool true) v40 fun v41 => u_if v41 (Kr (.bool false) h) (ykqk (.pointer (some ⟨b1, 0, none⟩)) h Kn Kr)) h) h) h) h) h
theorem yw6y (Kn : K1) (Kr : K1) (t : T) (h : H) (H0 : yukp (t 0) h Kn Kr) : Wp PG 132 (ygjk Tryz.f147.body) (mkQ (q1 Kn 2) (q1 Kr 2) ke0) t h :=
  yvnp E5_ok 2 H0 (by kernel_rfl) (fun t h (H1 : ykqk (t 1) h Kn Kr) => ym8u Kn Kr t h H1) (by kernel_rfl)
def ykiw (x0 : Value) (h : H) (Q : K1) : Prop := yukp x0 h Q Q
theorem yrlf (x0 : Value) (h : H) (Q : K1) (H0 : ykiw x0 h Q) : AM.Spec PG yak4 [x0] h Q :=
  yqxt mixed (fn := Tryz.f147) Tryz.func147 (c := ygjk Tryz.f147.body) (rs := [2]) (N := 132) (by kernel_rfl) (by kernel_rfl) (by kernel_rfl) (by kernel_rfl) (by kernel_rfl) (Nat.le_of_ble_eq_true rfl) (yw6y Q Q (tinit [x0]) h H0) (by kernel_rfl)
def ylli (x0 : Value) (h : H) (Kn : K1) (Kr : K1) : Prop :=
  boxV x0 = true ∧ u_new (Value.cells x0).toList y5c0 .exact h fun b1 h => ybqh true 6 (.pointer (some ⟨b1, 0, none⟩)) h fun v3 => yjdf PG yak4 [v3] h fun v4 h => u_un PG .not v4 fun v5 => u_if v5 (ysnr PG y5c0 [] fun v6 => ylel 6 (.pointer (some ⟨b1, 0, none⟩)) v6 h fun h => ybqh true 6 (.pointer (some ⟨b1, 0, none⟩)) h fun v7 => ysnr PG yxsr [(0, v7)] fun v8 => boxV v8 = true ∧ u_new (Value.cells v8).toList yxsr .exact h fun b9 h => Kr (.pointer (some ⟨b9, 0, none⟩)) h) (ybqh true 6 (.pointer (some ⟨b1, 0, none⟩)) h fun v7 => ysnr PG yxsr [(0, v7)] fun v8 => boxV v8 = true ∧ u_new (Value.cells v8).toList yxsr .exact h fun b9 h => Kr (.pointer (some ⟨b9, 0, none⟩)) h)
theorem you4 (Kn : K1) (Kr : K1) (t : T) (h : H) (H0 : ylli (t 0) h Kn Kr) : Wp PG 10 (ygjk Tryz.f218.body) (mkQ (q1 Kn 2) (q1 Kr 2) ke0) t h :=
  wpEqC E5_ok H0 (by kernel_rfl)
def y8a3 (x0 : Value) (h : H) (Q : K1) : Prop := ylli x0 h Q Q
theorem y6h7 (x0 : Value) (h : H) (Q : K1) (H0 : y8a3 x0 h Q) : AM.Spec PG ygvy [x0] h Q :=
  yqxt mixed (fn := Tryz.f218) Tryz.func218 (c := ygjk Tryz.f218.body) (rs := [2]) (N := 10) (by kernel_rfl) (by kernel_rfl) (by kernel_rfl) (by kernel_rfl) (by kernel_rfl) (Nat.le_of_ble_eq_true rfl) (you4 Q Q (tinit [x0]) h H0) (by kernel_rfl)
def y0it (x0 : Value) (h : H) (Kn : K1) (Kr : K1) : Prop :=
  boxV x0 = true ∧ u_new (Value.cells x0).toList y5c0 .exact h fun b1 h => ybqh true 6 (.pointer (some ⟨b1, 0, none⟩)) h fun v3 => yjdf PG ygvy [v3] h fun v4 h => ysnr PG yukk [(0, (.int .i64 0)), (1, (.int .i64 (-1))), (2, (.int .i64 0))] fun v5 => ysnr PG yukk [(0, (.int .i64 1)), (1, (.int .i64 (-2))), (2, (.int .i64 0))] fun v6 => ysnr PG yukk [(0, (.int .i64 2)), (1, (.int .i64 (-2))), (2, (.int .i64 0))] fun v7 => ynqb PG yxrw 3 [(0, v5), (1, v6), (2, v7)] h fun v8 h => ysnr PG ydrn [(0, v4), (1, v8)] fun v9 => boxV v9 = true ∧ u_new (Value.cells v9).toList ydrn .exact h fun b10 h => Kr (.pointer (some ⟨b10, 0, none⟩)) h
theorem yyx6 (Kn : K1) (Kr : K1) (t : T) (h : H) (H0 : y0it (t 0) h Kn Kr) : Wp PG 11 (ygjk Tryz.f148.body) (mkQ (q1 Kn 2) (q1 Kr 2) ke0) t h :=
  wpEqC E5_ok H0 (by kernel_rfl)
def y6jv (x0 : Value) (h : H) (Q : K1) : Prop := y0it x0 h Q Q
theorem yigq (x0 : Value) (h : H) (Q : K1) (H0 : y6jv x0 h Q) : AM.Spec PG ybvf [x0] h Q :=
  yqxt mixed (fn := Tryz.f148) Tryz.func148 (c := ygjk Tryz.f148.body) (rs := [2]) (N := 11) (by kernel_rfl) (by kernel_rfl) (by kernel_rfl) (by kernel_rfl) (by kernel_rfl) (Nat.le_of_ble_eq_true rfl) (yyx6 Q Q (tinit [x0]) h H0) (by kernel_rfl)
def yvgt (x0 x1 : Value) (h : H) (Kn : K1) (Kr : K1) : Prop :=
  ynqb PG y8f0 0 [] h fun v5 h => yx4h yoj6 1 1 v5 x0 h fun v7 h => y2x6 .u8 x1 fun v9 => u_bin PG .shr ycpa x1 (.int .u64 8) fun v11 => y2x6 .u8 v11 fun v12 => u_bin PG .shr ycpa x1 (.int .u64 16) fun v14 => y2x6 .u8 v14 fun v15 => u_bin PG .shr ycpa x1 (.int .u64 24) fun v17 => y2x6 .u8 v17 fun v18 => ynqb PG y8f0 4 [(0, v9), (1, v12), (2, v15), (3, v18)] h fun v19 h => yx4h yoj6 1 1 v7 v19 h fun v20 h => Kr v20 h
theorem yqdd (Kn : K1) (Kr : K1) (t : T) (h : H) (H0 : yvgt (t 0) (t 1) h Kn Kr) : Wp PG 21 (ygjk Tryz.f224.body) (mkQ (q1 Kn 4) (q1 Kr 4) ke0) t h :=
  wpEqC E5_ok H0 (by kernel_rfl)
def y3hh (x0 x1 : Value) (h : H) (Q : K1) : Prop := yvgt x0 x1 h Q Q
theorem y4po (x0 x1 : Value) (h : H) (Q : K1) (H0 : y3hh x0 x1 h Q) : AM.Spec PG yfwh [x0, x1] h Q :=
  yqxt mixed (fn := Tryz.f224) Tryz.func224 (c := ygjk Tryz.f224.body) (rs := [4]) (N := 21) (by kernel_rfl) (by kernel_rfl) (by kernel_rfl) (by kernel_rfl) (by kernel_rfl) (Nat.le_of_ble_eq_true rfl) (yqdd Q Q (tinit [x0, x1]) h H0) (by kernel_rfl)
def y19o (x0 x6 x7 x8 : Value) (h : H) (Kn : K4) (Kr : K4) (Ke0 : K3) : Prop :=
  ywmm x0 fun v20 => u_bin PG .lss T_int x8 v20 fun v21 => u_if v21 (ydv6 x7 false (fun k6 => u_ix false 1 none x0 x8 h fun v29 => yjdf PG yz8b [v29] h fun v30 h => k6 v30 h) (fun v30 h => y9rg x7 (.bool true) v30 fun v31 => u_bin PG .leq T_int x6 (.int .i64 3000) fun v33 => u_if v33 (u_ix false 1 none x0 x8 h fun v38 => y5hj v38 fun v39 => u_bin PG .add T_int x6 v39 fun v40 => u_bin PG .add T_int v40 (.int .i64 1) fun v41 => u_bin PG .add T_int x8 (.int .i64 1) fun v23 => Kn x0 v41 v31 v23 h) (u_bin PG .add T_int x8 (.int .i64 1) fun v23 => Kn x0 x6 v31 v23 h)) h) (Ke0 x0 x6 x7 h)
theorem yb80 (Kn : K4) (Kr : K4) (Ke0 : K3) (t : T) (h : H) (H0 : y19o (t 0) (t 6) (t 7) (t 8) h Kn Kr Ke0) : Wp PG 109 (lopC (blkC (rest 1 (seqL (rest 3 (ygjk Tryz.f151.body)))))) (mkQ (q4 Kn 0 6 7 8) (q4 Kr 2 3 4 5) (keAdd 0 (q3 Ke0 0 6 7) ke0)) t h :=
  wpEqC E5_ok H0 (by kernel_rfl)
def yfef (x0 x6 x7 x8 : Value) (h : H) (Kn : K3) (Kr : K4) (Ke0 : K3) : Prop :=
  sloop (S := Value × Value × Value × Value) (fun s h K => y19o s.1 s.2.1 s.2.2.1 s.2.2.2 h (fun y0 y6 y7 y8 h => K (y0, y6, y7, y8) h) Kr Ke0) (x0, x6, x7, x8) h
theorem yzem (Kn : K3) (Kr : K4) (Ke0 : K3) (t : T) (h : H) (H0 : yfef (t 0) (t 6) (t 7) (t 8) h Kn Kr Ke0) : Wp PG 109 (blkC (rest 1 (seqL (rest 3 (ygjk Tryz.f151.body))))) (mkQ (q3 Kn 0 6 7) (q4 Kr 2 3 4 5) (keAdd 0 (q3 Ke0 0 6 7) ke0)) t h :=
  yv0a (fun t => (t 0, t 6, t 7, t 8)) (by kernel_rfl) (fun t h K H1 => yb80 (fun y0 y6 y7 y8 h => K (y0, y6, y7, y8) h) Kr Ke0 t h H1) H0
def ywwt (x0 x6 x7 x8 : Value) (h : H) (Kn : K3) (Kr : K4) : Prop :=
  yfef x0 x6 x7 x8 h Kn Kr Kn
theorem ythn (Kn : K3) (Kr : K4) (t : T) (h : H) (H0 : ywwt (t 0) (t 6) (t 7) (t 8) h Kn Kr) : Wp PG 109 (rest 1 (seqL (rest 3 (ygjk Tryz.f151.body)))) (mkQ (q3 Kn 0 6 7) (q4 Kr 2 3 4 5) ke0) t h :=
  y6tu 0 (by kernel_rfl) (by kernel_rfl) (yzem Kn Kr Kn t h H0)
def yq1v (x0 x6 x7 : Value) (h : H) (Kn : K3) (Kr : K4) : Prop :=
  ywwt x0 x6 x7 (.int .i64 0) h Kn Kr
theorem y1hw (Kn : K3) (Kr : K4) (t : T) (h : H) (H0 : yq1v (t 0) (t 6) (t 7) h Kn Kr) : Wp PG 109 (seqL (rest 3 (ygjk Tryz.f151.body))) (mkQ (q3 Kn 0 6 7) (q4 Kr 2 3 4 5) ke0) t h :=
  yvnp E5_ok 1 H0 (by kernel_rfl) (fun t h (H1 : ywwt (t 0) (t 6) (t 7) (t 8) h Kn Kr) => ythn Kn Kr t h H1) (by kernel_rfl)
def yh5u (x0 x9 x10 x11 x12 x13 x14 : Value) (h : H) (Kn : K7) (Kr : K4) (Ke2 : K4) : Prop :=
  False
theorem y5vr (Kn : K7) (Kr : K4) (Ke2 : K4) (t : T) (h : H) (H0 : yh5u (t 0) (t 9) (t 10) (t 11) (t 12) (t 13) (t 14) h Kn Kr Ke2) : Wp PG 109 (rest 1 (lopC (blkC (rest 1 (seqL (rest 7 (seqR (rest 3 (ygjk Tryz.f151.body))))))))) (mkQ (fun t h => Kn (t 0) (t 9) (t 10) (t 11) (t 12) (t 13) (t 14) h) (q4 Kr 2 3 4 5) (keAdd 2 (q4 Ke2 9 11 12 13) ke0)) t h :=
  H0.elim
def yd1i (x0 x9 x10 x11 x12 x13 x14 : Value) (h : H) (Kn : K7) (Kr : K4) (Ke2 : K4) : Prop :=
  ywmm x0 fun v62 => u_bin PG .lss T_int x14 v62 fun v63 => u_if v63 (yh5u x0 x9 x10 x11 x12 x13 x14 h Kn Kr Ke2) (Ke2 x9 x11 x12 x13 h)
theorem yl1j (Kn : K7) (Kr : K4) (Ke2 : K4) (t : T) (h : H) (H0 : yd1i (t 0) (t 9) (t 10) (t 11) (t 12) (t 13) (t 14) h Kn Kr Ke2) : Wp PG 109 (lopC (blkC (rest 1 (seqL (rest 7 (seqR (rest 3 (ygjk Tryz.f151.body)))))))) (mkQ (fun t h => Kn (t 0) (t 9) (t 10) (t 11) (t 12) (t 13) (t 14) h) (q4 Kr 2 3 4 5) (keAdd 2 (q4 Ke2 9 11 12 13) ke0)) t h :=
  yvnp E5_ok 1 H0 (by kernel_rfl) (fun t h (H1 : yh5u (t 0) (t 9) (t 10) (t 11) (t 12) (t 13) (t 14) h Kn Kr Ke2) => y5vr Kn Kr Ke2 t h H1) (by kernel_rfl)
def ytbe (x0 x9 x10 x11 x12 x13 x14 : Value) (h : H) (Kn : K4) (Kr : K4) (Ke2 : K4) : Prop :=
  sloop (S := Value × Value × Value × Value × Value × Value × Value) (fun s h K => yd1i s.1 s.2.1 s.2.2.1 s.2.2.2.1 s.2.2.2.2.1 s.2.2.2.2.2.1 s.2.2.2.2.2.2 h (fun y0 y9 y10 y11 y12 y13 y14 h => K (y0, y9, y10, y11, y12, y13, y14) h) Kr Ke2) (x0, x9, x10, x11, x12, x13, x14) h
theorem y17p (Kn : K4) (Kr : K4) (Ke2 : K4) (t : T) (h : H) (H0 : ytbe (t 0) (t 9) (t 10) (t 11) (t 12) (t 13) (t 14) h Kn Kr Ke2) : Wp PG 109 (blkC (rest 1 (seqL (rest 7 (seqR (rest 3 (ygjk Tryz.f151.body))))))) (mkQ (q4 Kn 9 11 12 13) (q4 Kr 2 3 4 5) (keAdd 2 (q4 Ke2 9 11 12 13) ke0)) t h :=
  yv0a (fun t => (t 0, t 9, t 10, t 11, t 12, t 13, t 14)) (by kernel_rfl) (fun t h K H1 => yl1j (fun y0 y9 y10 y11 y12 y13 y14 h => K (y0, y9, y10, y11, y12, y13, y14) h) Kr Ke2 t h H1) H0
def ybpq (x0 x9 x10 x11 x12 x13 x14 : Value) (h : H) (Kn : K4) (Kr : K4) : Prop :=
  ytbe x0 x9 x10 x11 x12 x13 x14 h Kn Kr Kn
theorem yjng (Kn : K4) (Kr : K4) (t : T) (h : H) (H0 : ybpq (t 0) (t 9) (t 10) (t 11) (t 12) (t 13) (t 14) h Kn Kr) : Wp PG 109 (rest 1 (seqL (rest 7 (seqR (rest 3 (ygjk Tryz.f151.body)))))) (mkQ (q4 Kn 9 11 12 13) (q4 Kr 2 3 4 5) ke0) t h :=
  y6tu 2 (by kernel_rfl) (by kernel_rfl) (y17p Kn Kr Kn t h H0)
def yo7x (x0 x9 x10 x11 x12 x13 : Value) (h : H) (Kn : K4) (Kr : K4) : Prop :=
  ybpq x0 x9 x10 x11 x12 x13 (.int .i64 0) h Kn Kr
theorem yp2f (Kn : K4) (Kr : K4) (t : T) (h : H) (H0 : yo7x (t 0) (t 9) (t 10) (t 11) (t 12) (t 13) h Kn Kr) : Wp PG 109 (seqL (rest 7 (seqR (rest 3 (ygjk Tryz.f151.body))))) (mkQ (q4 Kn 9 11 12 13) (q4 Kr 2 3 4 5) ke0) t h :=
  yvnp E5_ok 1 H0 (by kernel_rfl) (fun t h (H1 : ybpq (t 0) (t 9) (t 10) (t 11) (t 12) (t 13) (t 14) h Kn Kr) => yjng Kn Kr t h H1) (by kernel_rfl)
def yvdo (x9 x11 x12 x13 : Value) (h : H) (Kn : K4) (Kr : K4) : Prop :=
  y4a7 1 x9 (some x11) none none fun v101 => yyhb 1 v101 x13 h fun v103 h => u_bin PG .add T_int (.int .i64 2147475456) x11 fun v106 => y2x6 .u32 v106 fun v107 => Kr x9 v107 x12 (.int .i64 0) h
theorem ye7i (Kn : K4) (Kr : K4) (t : T) (h : H) (H0 : yvdo (t 9) (t 11) (t 12) (t 13) h Kn Kr) : Wp PG 109 (seqR (rest 7 (seqR (rest 3 (ygjk Tryz.f151.body))))) (mkQ (q4 Kn 2 3 4 5) (q4 Kr 2 3 4 5) ke0) t h :=
  wpEqC E5_ok H0 (by kernel_rfl)
def ylwr (x0 x9 x10 x11 x12 x13 : Value) (h : H) (Kn : K4) (Kr : K4) : Prop :=
  yo7x x0 x9 x10 x11 x12 x13 h (fun y9 y11 y12 y13 h => yvdo y9 y11 y12 y13 h Kn Kr) Kr
theorem yvgo (Kn : K4) (Kr : K4) (t : T) (h : H) (H0 : ylwr (t 0) (t 9) (t 10) (t 11) (t 12) (t 13) h Kn Kr) : Wp PG 109 (rest 7 (seqR (rest 3 (ygjk Tryz.f151.body)))) (mkQ (q4 Kn 2 3 4 5) (q4 Kr 2 3 4 5) ke0) t h :=
  ykv2 (by kernel_rfl) (fun t h H1 => ye7i Kn Kr t h H1) (yp2f (fun y9 y11 y12 y13 h => yvdo y9 y11 y12 y13 h Kn Kr) Kr t h H0)
def ys2n (x0 x6 x7 : Value) (h : H) (Kn : K4) (Kr : K4) : Prop :=
  u_if x7 (Kr (.slice none 0 0) (.int .u32 0) (.slice none 0 0) (.int .i64 1) h) (u_bin PG .gtr T_int x6 (.int .i64 3000) fun v44 => u_if v44 (Kr (.slice none 0 0) (.int .u32 0) (.slice none 0 0) (.int .i64 2) h) (y9kb [.int .u8 0] 1 1 5 (.int .i64 4096) (.int .i64 4096) h fun v45 h => u_bin PG .sub T_int (.int .i64 4096) x6 fun v47 => ywmm x0 fun v50 => u_bin PG .add T_int v50 (.int .i64 3) fun v51 => u_bin PG .mul T_int (.int .i64 4) v51 fun v52 => u_bin PG .sub T_int v47 v52 fun v53 => u_bin PG .quo T_int v53 (.int .i64 16) fun v54 => u_bin PG .mul T_int v54 (.int .i64 16) fun v55 => ywmm x0 fun v57 => y2x6 .u32 v57 fun v58 => yjdf PG yfwh [(.slice none 0 0), v58] h fun v59 h => ylwr x0 v45 v47 v55 (.slice none 0 0) v59 h Kn Kr))
theorem ytfz (Kn : K4) (Kr : K4) (t : T) (h : H) (H0 : ys2n (t 0) (t 6) (t 7) h Kn Kr) : Wp PG 109 (seqR (rest 3 (ygjk Tryz.f151.body))) (mkQ (q4 Kn 2 3 4 5) (q4 Kr 2 3 4 5) ke0) t h :=
  yvnp E5_ok 7 H0 (by kernel_rfl) (fun t h (H1 : ylwr (t 0) (t 9) (t 10) (t 11) (t 12) (t 13) h Kn Kr) => yvgo Kn Kr t h H1) (by kernel_rfl)
def y0my (x0 x6 x7 : Value) (h : H) (Kn : K4) (Kr : K4) : Prop :=
  yq1v x0 x6 x7 h (fun y0 y6 y7 h => ys2n y0 y6 y7 h Kn Kr) Kr
theorem yduj (Kn : K4) (Kr : K4) (t : T) (h : H) (H0 : y0my (t 0) (t 6) (t 7) h Kn Kr) : Wp PG 109 (rest 3 (ygjk Tryz.f151.body)) (mkQ (q4 Kn 2 3 4 5) (q4 Kr 2 3 4 5) ke0) t h :=
  ykv2 (by kernel_rfl) (fun t h H1 => ytfz Kn Kr t h H1) (y1hw (fun y0 y6 y7 h => ys2n y0 y6 y7 h Kn Kr) Kr t h H0)
def y6bz (x0 : Value) (h : H) (Kn : K4) (Kr : K4) : Prop :=
  ywmm x0 fun v16 => u_bin PG .gtr T_int v16 (.int .i64 16) fun v17 => y0my x0 (.int .i64 0) v17 h Kn Kr
theorem yyjr (Kn : K4) (Kr : K4) (t : T) (h : H) (H0 : y6bz (t 0) h Kn Kr) : Wp PG 109 (ygjk Tryz.f151.body) (mkQ (q4 Kn 2 3 4 5) (q4 Kr 2 3 4 5) ke0) t h :=
  yvnp E5_ok 3 H0 (by kernel_rfl) (fun t h (H1 : y0my (t 0) (t 6) (t 7) h Kn Kr) => yduj Kn Kr t h H1) (by kernel_rfl)
def yy9w (x0 : Value) (h : H) (Q : K1) : Prop := y6bz x0 h (fun y2 y3 y4 y5 h => bif [y2, y3, y4, y5].all boxV then Q (.tuple #[y2, y3, y4, y5]) h else False) (fun y2 y3 y4 y5 h => bif [y2, y3, y4, y5].all boxV then Q (.tuple #[y2, y3, y4, y5]) h else False)
theorem y8kb (x0 : Value) (h : H) (Q : K1) (H0 : yy9w x0 h Q) : AM.Spec PG yujl [x0] h Q :=
  yqxt mixed (fn := Tryz.f151) Tryz.func151 (c := ygjk Tryz.f151.body) (rs := [2, 3, 4, 5]) (N := 109) (by kernel_rfl) (by kernel_rfl) (by kernel_rfl) (by kernel_rfl) (by kernel_rfl) (Nat.le_of_ble_eq_true rfl) (yyjr (fun y2 y3 y4 y5 h => bif [y2, y3, y4, y5].all boxV then Q (.tuple #[y2, y3, y4, y5]) h else False) (fun y2 y3 y4 y5 h => bif [y2, y3, y4, y5].all boxV then Q (.tuple #[y2, y3, y4, y5]) h else False) (tinit [x0]) h H0) (by kernel_rfl)
def y2pf (x1 x2 x3 x4 x36 : Value) (h : H) (Kn : K5) (Kr : K2) (Ke0 : K3) : Prop :=
  u_bf false 1 1 x1 h fun v11 => ywmm v11 fun v12 => u_bin PG .lss T_int x4 v12 fun v13 => u_if v13 (u_bf false 1 1 x1 h fun v17 => u_ix true 4 none v17 x4 h fun v20 => u_new [.int .u32 0, .int .u32 0, .int .i64 0, .slice none 0 0] ym0k .exact h fun b5 h => ylel 4 (.pointer (some ⟨b5, 0, none⟩)) v20 h fun h => u_bf false 1 1 x3 h fun v22 => u_bf false 1 0 (.pointer (some ⟨b5, 0, none⟩)) h fun v24 => u_bf false 1 1 (.pointer (some ⟨b5, 0, none⟩)) h fun v26 => u_bf false 1 2 (.pointer (some ⟨b5, 0, none⟩)) h fun v28 => u_bf false 1 3 (.pointer (some ⟨b5, 0, none⟩)) h fun v30 => ysnr PG yhas [(0, v24), (1, v26), (2, v28), (3, v30)] fun v31 => ynqb PG y1cj 1 [(0, v31)] h fun v32 h => yx4h yhas 4 40 v22 v32 h fun v33 h => u_st 1 1 x3 v33 h fun h => u_bin PG .add T_int x4 (.int .i64 1) fun v15 => Kn x1 x2 x3 v15 x36 h) (Ke0 x2 x3 x36 h)
theorem yrg9 (Kn : K5) (Kr : K2) (Ke0 : K3) (t : T) (h : H) (H0 : y2pf (t 1) (t 2) (t 3) (t 4) (t 36) h Kn Kr Ke0) : Wp PG 36 (lopC (blkC (rest 1 (seqL (rest 2 (ygjk Tryz.f45.body)))))) (mkQ (q5 Kn 1 2 3 4 36) (q2 Kr 2 36) (keAdd 0 (q3 Ke0 2 3 36) ke0)) t h :=
  wpEqC E5_ok H0 (by kernel_rfl)
def ynh0 (x1 x2 x3 x4 x36 : Value) (h : H) (Kn : K3) (Kr : K2) (Ke0 : K3) : Prop :=
  sloop (S := Value × Value × Value × Value × Value) (fun s h K => y2pf s.1 s.2.1 s.2.2.1 s.2.2.2.1 s.2.2.2.2 h (fun y1 y2 y3 y4 y36 h => K (y1, y2, y3, y4, y36) h) Kr Ke0) (x1, x2, x3, x4, x36) h
theorem y9we (Kn : K3) (Kr : K2) (Ke0 : K3) (t : T) (h : H) (H0 : ynh0 (t 1) (t 2) (t 3) (t 4) (t 36) h Kn Kr Ke0) : Wp PG 36 (blkC (rest 1 (seqL (rest 2 (ygjk Tryz.f45.body))))) (mkQ (q3 Kn 2 3 36) (q2 Kr 2 36) (keAdd 0 (q3 Ke0 2 3 36) ke0)) t h :=
  yv0a (fun t => (t 1, t 2, t 3, t 4, t 36)) (by kernel_rfl) (fun t h K H1 => yrg9 (fun y1 y2 y3 y4 y36 h => K (y1, y2, y3, y4, y36) h) Kr Ke0 t h H1) H0
def ya6q (x1 x2 x3 x4 x36 : Value) (h : H) (Kn : K3) (Kr : K2) : Prop :=
  ynh0 x1 x2 x3 x4 x36 h Kn Kr Kn
theorem ytwk (Kn : K3) (Kr : K2) (t : T) (h : H) (H0 : ya6q (t 1) (t 2) (t 3) (t 4) (t 36) h Kn Kr) : Wp PG 36 (rest 1 (seqL (rest 2 (ygjk Tryz.f45.body)))) (mkQ (q3 Kn 2 3 36) (q2 Kr 2 36) ke0) t h :=
  y6tu 0 (by kernel_rfl) (by kernel_rfl) (y9we Kn Kr Kn t h H0)
def y8ys (x1 x2 x3 x36 : Value) (h : H) (Kn : K3) (Kr : K2) : Prop :=
  ya6q x1 x2 x3 (.int .i64 0) x36 h Kn Kr
theorem ywkj (Kn : K3) (Kr : K2) (t : T) (h : H) (H0 : y8ys (t 1) (t 2) (t 3) (t 36) h Kn Kr) : Wp PG 36 (seqL (rest 2 (ygjk Tryz.f45.body))) (mkQ (q3 Kn 2 3 36) (q2 Kr 2 36) ke0) t h :=
  yvnp E5_ok 1 H0 (by kernel_rfl) (fun t h (H1 : ya6q (t 1) (t 2) (t 3) (t 4) (t 36) h Kn Kr) => ytwk Kn Kr t h H1) (by kernel_rfl)
def ygvm (x2 x3 x36 : Value) (h : H) (Kn : K2) (Kr : K2) : Prop :=
  ybqh true 2 x3 h fun v35 => ylel 2 x2 v35 h fun h => Kr x2 x36 h
theorem yih8 (Kn : K2) (Kr : K2) (t : T) (h : H) (H0 : ygvm (t 2) (t 3) (t 36) h Kn Kr) : Wp PG 36 (seqR (rest 2 (ygjk Tryz.f45.body))) (mkQ (q2 Kn 2 36) (q2 Kr 2 36) ke0) t h :=
  wpEqC E5_ok H0 (by kernel_rfl)
def yh4f (x1 x2 x3 x36 : Value) (h : H) (Kn : K2) (Kr : K2) : Prop :=
  y8ys x1 x2 x3 x36 h (fun y2 y3 y36 h => ygvm y2 y3 y36 h Kn Kr) Kr
theorem y3tu (Kn : K2) (Kr : K2) (t : T) (h : H) (H0 : yh4f (t 1) (t 2) (t 3) (t 36) h Kn Kr) : Wp PG 36 (rest 2 (ygjk Tryz.f45.body)) (mkQ (q2 Kn 2 36) (q2 Kr 2 36) ke0) t h :=
  ykv2 (by kernel_rfl) (fun t h H1 => yih8 Kn Kr t h H1) (ywkj (fun y2 y3 y36 h => ygvm y2 y3 y36 h Kn Kr) Kr t h H0)
def ys00 (x0 x36 : Value) (h : H) (Kn : K2) (Kr : K2) : Prop :=
  boxV x0 = true ∧ u_new (Value.cells x0).toList y33u .exact h fun b1 h => u_new [.int .u32 0, .slice none 0 0] yr7r .exact h fun b2 h => u_bf false 1 0 (.pointer (some ⟨b1, 0, none⟩)) h fun v7 => ysnr PG yr7r [(0, v7)] fun v8 => u_new [.int .u32 0, .slice none 0 0] yr7r .exact h fun b3 h => ylel 2 (.pointer (some ⟨b3, 0, none⟩)) v8 h fun h => yh4f (.pointer (some ⟨b1, 0, none⟩)) (.pointer (some ⟨b2, 0, none⟩)) (.pointer (some ⟨b3, 0, none⟩)) x36 h Kn Kr
theorem yuzr (Kn : K2) (Kr : K2) (t : T) (h : H) (H0 : ys00 (t 0) (t 36) h Kn Kr) : Wp PG 36 (ygjk Tryz.f45.body) (mkQ (q2 Kn 2 36) (q2 Kr 2 36) ke0) t h :=
  yvnp E5_ok 2 H0 (by kernel_rfl) (fun t h (H1 : yh4f (t 1) (t 2) (t 3) (t 36) h Kn Kr) => y3tu Kn Kr t h H1) (by kernel_rfl)
def yelf (x0 : Value) (h : H) (Q : K1) : Prop := ys00 x0 undef h (fun y2 y36 h => o_ret y36 h (fun h => ybqh true 2 y2 h fun v => Q v h)) (fun y2 y36 h => o_ret y36 h (fun h => ybqh true 2 y2 h fun v => Q v h))
theorem ye68 (x0 : Value) (h : H) (Q : K1) (H0 : yelf x0 h Q) : AM.Spec PG yp9s [x0] h Q :=
  ysgf mixed (fn := Tryz.f45) Tryz.func45 (c := ygjk Tryz.f45.body) (a := 2) (ty := 110) (ag := true) (n := 2) (N := 36) (by kernel_rfl) (by kernel_rfl) (by kernel_rfl) (by kernel_rfl) (by kernel_rfl) (by kernel_rfl) (Nat.le_of_ble_eq_true rfl) (yuzr (fun y2 y36 h => o_ret y36 h (fun h => ybqh true 2 y2 h fun v => Q v h)) (fun y2 y36 h => o_ret y36 h (fun h => ybqh true 2 y2 h fun v => Q v h)) (tinit [x0]) h H0) (by kernel_rfl)
def ya2q (x1 x2 x3 x4 x68 : Value) (h : H) (Kn : K5) (Kr : K2) (Ke0 : K4) : Prop :=
  u_bf false 1 1 x1 h fun v12 => ywmm v12 fun v13 => u_bin PG .lss T_int x4 v13 fun v14 => u_if v14 (u_bf false 1 1 x1 h fun v18 => u_ix true 4 none v18 x4 h fun v21 => u_new [.int .i64 0, .int .u32 0, .int .u32 0, .int .u8 0] yqxz .exact h fun b5 h => ylel 4 (.pointer (some ⟨b5, 0, none⟩)) v21 h fun h => u_bf false 1 1 x3 h fun v23 => u_bf false 1 0 (.pointer (some ⟨b5, 0, none⟩)) h fun v25 => u_bf false 1 1 (.pointer (some ⟨b5, 0, none⟩)) h fun v27 => u_bf false 1 2 (.pointer (some ⟨b5, 0, none⟩)) h fun v29 => u_bf false 1 3 (.pointer (some ⟨b5, 0, none⟩)) h fun v31 => ysnr PG ybsk [(0, v25), (1, v27), (2, v29), (3, v31)] fun v32 => ynqb PG yoxq 1 [(0, v32)] h fun v33 h => yx4h ybsk 4 24 v23 v33 h fun v34 h => u_st 1 1 x3 v34 h fun h => u_bin PG .add T_int x4 (.int .i64 1) fun v16 => Kn x1 x2 x3 v16 x68 h) (Ke0 x1 x2 x3 x68 h)
theorem yi1j (Kn : K5) (Kr : K2) (Ke0 : K4) (t : T) (h : H) (H0 : ya2q (t 1) (t 2) (t 3) (t 4) (t 68) h Kn Kr Ke0) : Wp PG 68 (lopC (blkC (rest 1 (seqL (rest 2 (ygjk Tryz.f46.body)))))) (mkQ (q5 Kn 1 2 3 4 68) (q2 Kr 2 68) (keAdd 0 (q4 Ke0 1 2 3 68) ke0)) t h :=
  wpEqC E5_ok H0 (by kernel_rfl)
def yw92 (x1 x2 x3 x4 x68 : Value) (h : H) (Kn : K4) (Kr : K2) (Ke0 : K4) : Prop :=
  sloop (S := Value × Value × Value × Value × Value) (fun s h K => ya2q s.1 s.2.1 s.2.2.1 s.2.2.2.1 s.2.2.2.2 h (fun y1 y2 y3 y4 y68 h => K (y1, y2, y3, y4, y68) h) Kr Ke0) (x1, x2, x3, x4, x68) h
theorem ymu3 (Kn : K4) (Kr : K2) (Ke0 : K4) (t : T) (h : H) (H0 : yw92 (t 1) (t 2) (t 3) (t 4) (t 68) h Kn Kr Ke0) : Wp PG 68 (blkC (rest 1 (seqL (rest 2 (ygjk Tryz.f46.body))))) (mkQ (q4 Kn 1 2 3 68) (q2 Kr 2 68) (keAdd 0 (q4 Ke0 1 2 3 68) ke0)) t h :=
  yv0a (fun t => (t 1, t 2, t 3, t 4, t 68)) (by kernel_rfl) (fun t h K H1 => yi1j (fun y1 y2 y3 y4 y68 h => K (y1, y2, y3, y4, y68) h) Kr Ke0 t h H1) H0
def ynm9 (x1 x2 x3 x4 x68 : Value) (h : H) (Kn : K4) (Kr : K2) : Prop :=
  yw92 x1 x2 x3 x4 x68 h Kn Kr Kn
theorem yodj (Kn : K4) (Kr : K2) (t : T) (h : H) (H0 : ynm9 (t 1) (t 2) (t 3) (t 4) (t 68) h Kn Kr) : Wp PG 68 (rest 1 (seqL (rest 2 (ygjk Tryz.f46.body)))) (mkQ (q4 Kn 1 2 3 68) (q2 Kr 2 68) ke0) t h :=
  y6tu 0 (by kernel_rfl) (by kernel_rfl) (ymu3 Kn Kr Kn t h H0)
def yoip (x1 x2 x3 x68 : Value) (h : H) (Kn : K4) (Kr : K2) : Prop :=
  ynm9 x1 x2 x3 (.int .i64 0) x68 h Kn Kr
theorem y2e3 (Kn : K4) (Kr : K2) (t : T) (h : H) (H0 : yoip (t 1) (t 2) (t 3) (t 68) h Kn Kr) : Wp PG 68 (seqL (rest 2 (ygjk Tryz.f46.body))) (mkQ (q4 Kn 1 2 3 68) (q2 Kr 2 68) ke0) t h :=
  yvnp E5_ok 1 H0 (by kernel_rfl) (fun t h (H1 : ynm9 (t 1) (t 2) (t 3) (t 4) (t 68) h Kn Kr) => yodj Kn Kr t h H1) (by kernel_rfl)
def yu6y (x1 x2 x3 x6 x68 : Value) (h : H) (Kn : K5) (Kr : K2) (Ke2 : K3) : Prop :=
  False
theorem yk0g (Kn : K5) (Kr : K2) (Ke2 : K3) (t : T) (h : H) (H0 : yu6y (t 1) (t 2) (t 3) (t 6) (t 68) h Kn Kr Ke2) : Wp PG 68 (rest 1 (lopC (blkC (rest 1 (seqL (seqR (rest 2 (ygjk Tryz.f46.body)))))))) (mkQ (q5 Kn 1 2 3 6 68) (q2 Kr 2 68) (keAdd 2 (q3 Ke2 2 3 68) ke0)) t h :=
  H0.elim
def y9aj (x1 x2 x3 x6 x68 : Value) (h : H) (Kn : K5) (Kr : K2) (Ke2 : K3) : Prop :=
  u_bf false 1 2 x1 h fun v38 => ywmm v38 fun v39 => u_bin PG .lss T_int x6 v39 fun v40 => u_if v40 (yu6y x1 x2 x3 x6 x68 h Kn Kr Ke2) (Ke2 x2 x3 x68 h)
theorem yj90 (Kn : K5) (Kr : K2) (Ke2 : K3) (t : T) (h : H) (H0 : y9aj (t 1) (t 2) (t 3) (t 6) (t 68) h Kn Kr Ke2) : Wp PG 68 (lopC (blkC (rest 1 (seqL (seqR (rest 2 (ygjk Tryz.f46.body))))))) (mkQ (q5 Kn 1 2 3 6 68) (q2 Kr 2 68) (keAdd 2 (q3 Ke2 2 3 68) ke0)) t h :=
  yvnp E5_ok 1 H0 (by kernel_rfl) (fun t h (H1 : yu6y (t 1) (t 2) (t 3) (t 6) (t 68) h Kn Kr Ke2) => yk0g Kn Kr Ke2 t h H1) (by kernel_rfl)
def yko8 (x1 x2 x3 x6 x68 : Value) (h : H) (Kn : K3) (Kr : K2) (Ke2 : K3) : Prop :=
  sloop (S := Value × Value × Value × Value × Value) (fun s h K => y9aj s.1 s.2.1 s.2.2.1 s.2.2.2.1 s.2.2.2.2 h (fun y1 y2 y3 y6 y68 h => K (y1, y2, y3, y6, y68) h) Kr Ke2) (x1, x2, x3, x6, x68) h
theorem ym9c (Kn : K3) (Kr : K2) (Ke2 : K3) (t : T) (h : H) (H0 : yko8 (t 1) (t 2) (t 3) (t 6) (t 68) h Kn Kr Ke2) : Wp PG 68 (blkC (rest 1 (seqL (seqR (rest 2 (ygjk Tryz.f46.body)))))) (mkQ (q3 Kn 2 3 68) (q2 Kr 2 68) (keAdd 2 (q3 Ke2 2 3 68) ke0)) t h :=
  yv0a (fun t => (t 1, t 2, t 3, t 6, t 68)) (by kernel_rfl) (fun t h K H1 => yj90 (fun y1 y2 y3 y6 y68 h => K (y1, y2, y3, y6, y68) h) Kr Ke2 t h H1) H0
def yocg (x1 x2 x3 x6 x68 : Value) (h : H) (Kn : K3) (Kr : K2) : Prop :=
  yko8 x1 x2 x3 x6 x68 h Kn Kr Kn
theorem ypji (Kn : K3) (Kr : K2) (t : T) (h : H) (H0 : yocg (t 1) (t 2) (t 3) (t 6) (t 68) h Kn Kr) : Wp PG 68 (rest 1 (seqL (seqR (rest 2 (ygjk Tryz.f46.body))))) (mkQ (q3 Kn 2 3 68) (q2 Kr 2 68) ke0) t h :=
  y6tu 2 (by kernel_rfl) (by kernel_rfl) (ym9c Kn Kr Kn t h H0)
def ys67 (x1 x2 x3 x68 : Value) (h : H) (Kn : K3) (Kr : K2) : Prop :=
  yocg x1 x2 x3 (.int .i64 0) x68 h Kn Kr
theorem ye8b (Kn : K3) (Kr : K2) (t : T) (h : H) (H0 : ys67 (t 1) (t 2) (t 3) (t 68) h Kn Kr) : Wp PG 68 (seqL (seqR (rest 2 (ygjk Tryz.f46.body)))) (mkQ (q3 Kn 2 3 68) (q2 Kr 2 68) ke0) t h :=
  yvnp E5_ok 1 H0 (by kernel_rfl) (fun t h (H1 : yocg (t 1) (t 2) (t 3) (t 6) (t 68) h Kn Kr) => ypji Kn Kr t h H1) (by kernel_rfl)
def yiaz (x2 x3 x68 : Value) (h : H) (Kn : K2) (Kr : K2) : Prop :=
  ybqh true 3 x3 h fun v67 => ylel 3 x2 v67 h fun h => Kr x2 x68 h
theorem yk1c (Kn : K2) (Kr : K2) (t : T) (h : H) (H0 : yiaz (t 2) (t 3) (t 68) h Kn Kr) : Wp PG 68 (seqR (seqR (rest 2 (ygjk Tryz.f46.body)))) (mkQ (q2 Kn 2 68) (q2 Kr 2 68) ke0) t h :=
  wpEqC E5_ok H0 (by kernel_rfl)
def y35i (x1 x2 x3 x68 : Value) (h : H) (Kn : K2) (Kr : K2) : Prop :=
  ys67 x1 x2 x3 x68 h (fun y2 y3 y68 h => yiaz y2 y3 y68 h Kn Kr) Kr
theorem yqpk (Kn : K2) (Kr : K2) (t : T) (h : H) (H0 : y35i (t 1) (t 2) (t 3) (t 68) h Kn Kr) : Wp PG 68 (seqR (rest 2 (ygjk Tryz.f46.body))) (mkQ (q2 Kn 2 68) (q2 Kr 2 68) ke0) t h :=
  ykv2 (by kernel_rfl) (fun t h H1 => yk1c Kn Kr t h H1) (ye8b (fun y2 y3 y68 h => yiaz y2 y3 y68 h Kn Kr) Kr t h H0)
def ys94 (x1 x2 x3 x68 : Value) (h : H) (Kn : K2) (Kr : K2) : Prop :=
  yoip x1 x2 x3 x68 h (fun y1 y2 y3 y68 h => y35i y1 y2 y3 y68 h Kn Kr) Kr
theorem ysc3 (Kn : K2) (Kr : K2) (t : T) (h : H) (H0 : ys94 (t 1) (t 2) (t 3) (t 68) h Kn Kr) : Wp PG 68 (rest 2 (ygjk Tryz.f46.body)) (mkQ (q2 Kn 2 68) (q2 Kr 2 68) ke0) t h :=
  ykv2 (by kernel_rfl) (fun t h H1 => yqpk Kn Kr t h H1) (y2e3 (fun y1 y2 y3 y68 h => y35i y1 y2 y3 y68 h Kn Kr) Kr t h H0)
def yyml (x0 x68 : Value) (h : H) (Kn : K2) (Kr : K2) : Prop :=
  boxV x0 = true ∧ u_new (Value.cells x0).toList y4pp .exact h fun b1 h => u_new [.bool false, .slice none 0 0, .slice none 0 0] ysrv .exact h fun b2 h => u_bf false 1 0 (.pointer (some ⟨b1, 0, none⟩)) h fun v8 => ysnr PG ysrv [(0, v8)] fun v9 => u_new [.bool false, .slice none 0 0, .slice none 0 0] ysrv .exact h fun b3 h => ylel 3 (.pointer (some ⟨b3, 0, none⟩)) v9 h fun h => ys94 (.pointer (some ⟨b1, 0, none⟩)) (.pointer (some ⟨b2, 0, none⟩)) (.pointer (some ⟨b3, 0, none⟩)) x68 h Kn Kr
theorem yehq (Kn : K2) (Kr : K2) (t : T) (h : H) (H0 : yyml (t 0) (t 68) h Kn Kr) : Wp PG 68 (ygjk Tryz.f46.body) (mkQ (q2 Kn 2 68) (q2 Kr 2 68) ke0) t h :=
  yvnp E5_ok 2 H0 (by kernel_rfl) (fun t h (H1 : ys94 (t 1) (t 2) (t 3) (t 68) h Kn Kr) => ysc3 Kn Kr t h H1) (by kernel_rfl)
def ymdu (x0 : Value) (h : H) (Q : K1) : Prop := yyml x0 undef h (fun y2 y68 h => o_ret y68 h (fun h => ybqh true 3 y2 h fun v => Q v h)) (fun y2 y68 h => o_ret y68 h (fun h => ybqh true 3 y2 h fun v => Q v h))
theorem yfys (x0 : Value) (h : H) (Q : K1) (H0 : ymdu x0 h Q) : AM.Spec PG y1vs [x0] h Q :=
  ysgf mixed (fn := Tryz.f46) Tryz.func46 (c := ygjk Tryz.f46.body) (a := 2) (ty := 78) (ag := true) (n := 3) (N := 68) (by kernel_rfl) (by kernel_rfl) (by kernel_rfl) (by kernel_rfl) (by kernel_rfl) (by kernel_rfl) (Nat.le_of_ble_eq_true rfl) (yehq (fun y2 y68 h => o_ret y68 h (fun h => ybqh true 3 y2 h fun v => Q v h)) (fun y2 y68 h => o_ret y68 h (fun h => ybqh true 3 y2 h fun v => Q v h)) (tinit [x0]) h H0) (by kernel_rfl)
def yy1y (x1 x2 x3 x4 x42 : Value) (h : H) (Kn : K5) (Kr : K2) (Ke0 : K3) : Prop :=
  False
theorem yw69 (Kn : K5) (Kr : K2) (Ke0 : K3) (t : T) (h : H) (H0 : yy1y (t 1) (t 2) (t 3) (t 4) (t 42) h Kn Kr Ke0) : Wp PG 42 (rest 1 (lopC (blkC (rest 1 (seqL (rest 2 (ygjk Tryz.f47.body))))))) (mkQ (q5 Kn 1 2 3 4 42) (q2 Kr 2 42) (keAdd 0 (q3 Ke0 2 3 42) ke0)) t h :=
  H0.elim
def ym67 (x1 x2 x3 x4 x42 : Value) (h : H) (Kn : K5) (Kr : K2) (Ke0 : K3) : Prop :=
  u_bf false 1 5 x1 h fun v18 => ywmm v18 fun v19 => u_bin PG .lss T_int x4 v19 fun v20 => u_if v20 (yy1y x1 x2 x3 x4 x42 h Kn Kr Ke0) (Ke0 x2 x3 x42 h)
theorem yo00 (Kn : K5) (Kr : K2) (Ke0 : K3) (t : T) (h : H) (H0 : ym67 (t 1) (t 2) (t 3) (t 4) (t 42) h Kn Kr Ke0) : Wp PG 42 (lopC (blkC (rest 1 (seqL (rest 2 (ygjk Tryz.f47.body)))))) (mkQ (q5 Kn 1 2 3 4 42) (q2 Kr 2 42) (keAdd 0 (q3 Ke0 2 3 42) ke0)) t h :=
  yvnp E5_ok 1 H0 (by kernel_rfl) (fun t h (H1 : yy1y (t 1) (t 2) (t 3) (t 4) (t 42) h Kn Kr Ke0) => yw69 Kn Kr Ke0 t h H1) (by kernel_rfl)
def y50u (x1 x2 x3 x4 x42 : Value) (h : H) (Kn : K3) (Kr : K2) (Ke0 : K3) : Prop :=
  sloop (S := Value × Value × Value × Value × Value) (fun s h K => ym67 s.1 s.2.1 s.2.2.1 s.2.2.2.1 s.2.2.2.2 h (fun y1 y2 y3 y4 y42 h => K (y1, y2, y3, y4, y42) h) Kr Ke0) (x1, x2, x3, x4, x42) h
theorem yob5 (Kn : K3) (Kr : K2) (Ke0 : K3) (t : T) (h : H) (H0 : y50u (t 1) (t 2) (t 3) (t 4) (t 42) h Kn Kr Ke0) : Wp PG 42 (blkC (rest 1 (seqL (rest 2 (ygjk Tryz.f47.body))))) (mkQ (q3 Kn 2 3 42) (q2 Kr 2 42) (keAdd 0 (q3 Ke0 2 3 42) ke0)) t h :=
  yv0a (fun t => (t 1, t 2, t 3, t 4, t 42)) (by kernel_rfl) (fun t h K H1 => yo00 (fun y1 y2 y3 y4 y42 h => K (y1, y2, y3, y4, y42) h) Kr Ke0 t h H1) H0
def yell (x1 x2 x3 x4 x42 : Value) (h : H) (Kn : K3) (Kr : K2) : Prop :=
  y50u x1 x2 x3 x4 x42 h Kn Kr Kn
theorem yc8p (Kn : K3) (Kr : K2) (t : T) (h : H) (H0 : yell (t 1) (t 2) (t 3) (t 4) (t 42) h Kn Kr) : Wp PG 42 (rest 1 (seqL (rest 2 (ygjk Tryz.f47.body)))) (mkQ (q3 Kn 2 3 42) (q2 Kr 2 42) ke0) t h :=
  y6tu 0 (by kernel_rfl) (by kernel_rfl) (yob5 Kn Kr Kn t h H0)
def ykvt (x1 x2 x3 x42 : Value) (h : H) (Kn : K3) (Kr : K2) : Prop :=
  yell x1 x2 x3 (.int .i64 0) x42 h Kn Kr
theorem yyvm (Kn : K3) (Kr : K2) (t : T) (h : H) (H0 : ykvt (t 1) (t 2) (t 3) (t 42) h Kn Kr) : Wp PG 42 (seqL (rest 2 (ygjk Tryz.f47.body))) (mkQ (q3 Kn 2 3 42) (q2 Kr 2 42) ke0) t h :=
  yvnp E5_ok 1 H0 (by kernel_rfl) (fun t h (H1 : yell (t 1) (t 2) (t 3) (t 4) (t 42) h Kn Kr) => yc8p Kn Kr t h H1) (by kernel_rfl)
def yvan (x2 x3 x42 : Value) (h : H) (Kn : K2) (Kr : K2) : Prop :=
  ybqh true 6 x3 h fun v41 => ylel 6 x2 v41 h fun h => Kr x2 x42 h
theorem y35j (Kn : K2) (Kr : K2) (t : T) (h : H) (H0 : yvan (t 2) (t 3) (t 42) h Kn Kr) : Wp PG 42 (seqR (rest 2 (ygjk Tryz.f47.body))) (mkQ (q2 Kn 2 42) (q2 Kr 2 42) ke0) t h :=
  wpEqC E5_ok H0 (by kernel_rfl)
def y2ns (x1 x2 x3 x42 : Value) (h : H) (Kn : K2) (Kr : K2) : Prop :=
  ykvt x1 x2 x3 x42 h (fun y2 y3 y42 h => yvan y2 y3 y42 h Kn Kr) Kr
theorem ymzn (Kn : K2) (Kr : K2) (t : T) (h : H) (H0 : y2ns (t 1) (t 2) (t 3) (t 42) h Kn Kr) : Wp PG 42 (rest 2 (ygjk Tryz.f47.body)) (mkQ (q2 Kn 2 42) (q2 Kr 2 42) ke0) t h :=
  ykv2 (by kernel_rfl) (fun t h H1 => y35j Kn Kr t h H1) (yyvm (fun y2 y3 y42 h => yvan y2 y3 y42 h Kn Kr) Kr t h H0)
def ymhx (x0 x42 : Value) (h : H) (Kn : K2) (Kr : K2) : Prop :=
  boxV x0 = true ∧ u_new (Value.cells x0).toList ylzr .exact h fun b1 h => u_new [.slice none 0 0, .slice none 0 0, .slice none 0 0, .slice none 0 0, .slice none 0 0, .slice none 0 0] y5c0 .exact h fun b2 h => u_bf false 1 0 (.pointer (some ⟨b1, 0, none⟩)) h fun v6 => u_bf false 1 1 (.pointer (some ⟨b1, 0, none⟩)) h fun v8 => u_bf false 1 2 (.pointer (some ⟨b1, 0, none⟩)) h fun v10 => u_bf false 1 3 (.pointer (some ⟨b1, 0, none⟩)) h fun v12 => u_bf false 1 4 (.pointer (some ⟨b1, 0, none⟩)) h fun v14 => ysnr PG y5c0 [(0, v6), (1, v8), (2, v10), (3, v12), (4, v14)] fun v15 => u_new [.slice none 0 0, .slice none 0 0, .slice none 0 0, .slice none 0 0, .slice none 0 0, .slice none 0 0] y5c0 .exact h fun b3 h => ylel 6 (.pointer (some ⟨b3, 0, none⟩)) v15 h fun h => y2ns (.pointer (some ⟨b1, 0, none⟩)) (.pointer (some ⟨b2, 0, none⟩)) (.pointer (some ⟨b3, 0, none⟩)) x42 h Kn Kr
theorem yy1p (Kn : K2) (Kr : K2) (t : T) (h : H) (H0 : ymhx (t 0) (t 42) h Kn Kr) : Wp PG 42 (ygjk Tryz.f47.body) (mkQ (q2 Kn 2 42) (q2 Kr 2 42) ke0) t h :=
  yvnp E5_ok 2 H0 (by kernel_rfl) (fun t h (H1 : y2ns (t 1) (t 2) (t 3) (t 42) h Kn Kr) => ymzn Kn Kr t h H1) (by kernel_rfl)
def yoy8 (x0 : Value) (h : H) (Q : K1) : Prop := ymhx x0 undef h (fun y2 y42 h => o_ret y42 h (fun h => ybqh true 6 y2 h fun v => Q v h)) (fun y2 y42 h => o_ret y42 h (fun h => ybqh true 6 y2 h fun v => Q v h))
theorem y9nm (x0 : Value) (h : H) (Q : K1) (H0 : yoy8 x0 h Q) : AM.Spec PG y2xr [x0] h Q :=
  ysgf mixed (fn := Tryz.f47) Tryz.func47 (c := ygjk Tryz.f47.body) (a := 2) (ty := 115) (ag := true) (n := 6) (N := 42) (by kernel_rfl) (by kernel_rfl) (by kernel_rfl) (by kernel_rfl) (by kernel_rfl) (by kernel_rfl) (Nat.le_of_ble_eq_true rfl) (yy1p (fun y2 y42 h => o_ret y42 h (fun h => ybqh true 6 y2 h fun v => Q v h)) (fun y2 y42 h => o_ret y42 h (fun h => ybqh true 6 y2 h fun v => Q v h)) (tinit [x0]) h H0) (by kernel_rfl)
end Go.Proofs.YtnckimioabkheaaGreat

set_option linter.unusedVariables false
set_option maxRecDepth 100000
namespace Go.Proofs.YtnckimioabkheaaGreat
open Go.Proofs.YtnckimioabkheaaGreat.AM
@[simp] theorem ybj8 {a1 : Option Addr} {a2 : Option Nat} {a3 : Option Nat} {K : Value → Prop} {u : Dm K} : ysnr PG yxbe [(1, .pointer a1), (2, .map a2), (3, .map a3)] K u = K (.agg #[.slice none 0 0, .pointer a1, .map a2, .map a3]) := by kernel_rfl
@[simp] theorem y7mj {K : Value → Prop} {u : Dm K} : ysnr PG y1og [] K u = K (.agg #[.slice none 0 0, .slice none 0 0, .slice none 0 0, .int .i64 0, .int .i64 0, .int .i64 0]) := by kernel_rfl
@[simp] theorem y10h {a0a : Option Addr} {a0n : Nat} {a0c : Nat} {a1a : Option Addr} {a1n : Nat} {a1c : Nat} {a2a : Option Addr} {a2n : Nat} {a2c : Nat} {K : Value → Prop} {u : Dm K} : ysnr PG y1og [(0, .slice a0a a0n a0c), (1, .slice a1a a1n a1c), (2, .slice a2a a2n a2c)] K u = K (.agg #[.slice a0a a0n a0c, .slice a1a a1n a1c, .slice a2a a2n a2c, .int .i64 0, .int .i64 0, .int .i64 0]) := by kernel_rfl
@[simp] theorem yico {a0a : Option Addr} {a0n : Nat} {a0c : Nat} {K : Value → Prop} {u : Dm K} : ysnr PG ydlg [(0, .slice a0a a0n a0c)] K u = K (.agg #[.slice a0a a0n a0c, .int .i64 0, .bool false]) := by kernel_rfl
@[simp] theorem ycft {a2 : Bool} {K : Value → Prop} {u : Dm K} : ysnr PG ydlg [(2, .bool a2)] K u = K (.agg #[.slice none 0 0, .int .i64 0, .bool a2]) := by kernel_rfl
@[simp] theorem yb8q {a0 : Int} {a1 : Int} {K : Value → Prop} {u : Dm K} : ysnr PG yfwk [(0, .int .u32 a0), (1, .int .i64 a1)] K u = K (.agg #[.int .u32 a0, .int .i64 a1]) := by kernel_rfl
@[simp] theorem yeo4 {a5_0 : Bool} {a5_1a : Option Addr} {a5_1n : Nat} {a5_1c : Nat} {a5_2a : Option Addr} {a5_2n : Nat} {a5_2c : Nat} {a4 : Option Addr} {a6 : Int} {a7 : Int} {K : Value → Prop} {u : Dm K} : ysnr PG ynne [(5, .agg #[.bool a5_0, .slice a5_1a a5_1n a5_1c, .slice a5_2a a5_2n a5_2c]), (4, .pointer a4), (6, .int .u32 a6), (7, .int .u32 a7)] K u = K (.agg #[.pointer none, .pointer none, .int .u32 0, .int .u32 0, .int .u32 0, .int .u32 0, .int .u32 0, .int .u32 0, .int .u32 0, .int .u32 0, .int .u32 0, .int .u32 0, .int .u32 0, .int .u32 0, .int .u32 0, .int .u32 0, .int .u32 0, .int .u32 0, .int .u32 0, .int .u32 0, .int .u32 0, .int .u32 0, .int .u32 0, .int .u32 0, .int .u32 0, .int .u32 0, .int .u32 0, .int .u32 0, .int .u32 0, .int .u32 0, .int .u32 0, .int .u32 0, .int .u32 0, .int .u32 0, .int .u32 0, .int .i64 0, .int .u8 0, .int .u8 0, .int .u8 0, .int .u8 0, .int .u8 0, .int .u8 0, .int .u8 0, .int .u8 0, .int .u8 0, .int .u8 0, .int .u8 0, .int .u8 0, .int .u8 0, .int .u8 0, .int .u8 0, .int .u8 0, .int .u8 0, .int .u8 0, .int .u8 0, .int .u8 0, .int .u8 0, .int .u8 0, .int .u8 0, .int .u8 0, .int .u8 0, .int .u8 0, .int .u8 0, .int .u8 0, .int .u8 0, .int .u8 0, .int .u8 0, .int .u8 0, .int .u8 0, .int .u8 0, .int .u8 0, .int .u8 0, .int .u8 0, .int .u8 0, .int .u8 0, .int .u8 0, .int .u8 0, .int .u8 0, .int .u8 0, .int .u8 0, .int .u8 0, .int .u8 0, .int .u8 0, .int .u8 0, .int .u8 0, .int .u8 0, .int .u8 0, .int .u8 0, .int .u8 0, .int .u8 0, .int .u8 0, .int .u8 0, .int .u8 0, .int .u8 0, .int .u8 0, .int .u8 0, .int .u8 0, .int .u8 0, .int .u8 0, .int .u8 0, .int .u8 0, .int .u8 0, .int .u8 0, .int .u8 0, .int .u8 0, .int .u8 0, .int .u8 0, .int .u8 0, .int .u8 0, .int .u8 0, .int .u8 0, .int .u8 0, .int .u8 0, .int .u8 0, .int .u8 0, .int .u8 0, .int .u8 0, .int .u8 0, .int .u8 0, .int .u8 0, .int .u8 0, .int .u8 0, .int .u8 0, .int .u8 0, .int .u8 0, .int .u8 0, .int .u8 0, .int .u8 0, .int .u8 0, .int .u8 0, .int .u8 0, .int .u8 0, .int .u8 0, .int .u8 0, .int .u8 0, .int .u8 0, .int .u8 0, .int .u8 0, .int .u8 0, .int .u8 0, .int .u8 0, .int .u8 0, .int .u8 0, .int .u8 0, .int .u8 0, .int .u8 0, .int .u8 0, .int .u8 0, .int .u8 0, .int .u8 0, .int .u8 0, .int .u8 0, .int .u8 0, .int .u8 0, .int .u8 0, .int .u8 0, .int .u8 0, .int .u8 0, .int .u8 0, .int .u8 0, .int .u8 0, .int .u8 0, .int .u8 0, .int .u8 0, .pointer a4, .bool a5_0, .slice a5_1a a5_1n a5_1c, .slice a5_2a a5_2n a5_2c, .int .u32 a6, .int .u32 a7, .slice none 0 0]) := by kernel_rfl
@[simp] theorem y1vq {a0 : ByteArray} {a1a : Option Addr} {a1n : Nat} {a1c : Nat} {K : Value → Prop} {u : Dm K} : ysnr PG yavq [(0, .string a0), (1, .slice a1a a1n a1c)] K u = K (.agg #[.string a0, .slice a1a a1n a1c]) := by kernel_rfl
@[simp] theorem ywaf {a0_0 : Int} {a0_1 : Int} {h : H} {K : K1} {u : Dm K} : ynqb PG yfwd 1 [(0, .agg #[.int .u32 a0_0, .int .i64 a0_1])] h K u = u_new [.int .u32 a0_0, .int .i64 a0_1] yfwk .exact h fun b h => K (.slice (some ⟨b, 0, none⟩) 1 1) h := by kernel_rfl
@[simp] theorem y4xc {h : H} {K : K1} {u : Dm K} : ynqb PG yoi5 0 [] h K u = u_new [] ycpa .exact h fun b h => K (.slice (some ⟨b, 0, none⟩) 0 0) h := by kernel_rfl
@[simp] theorem y81m {h : H} {K : K1} {u : Dm K} : ynqb PG y8f0 0 [] h K u = u_new [] yoj6 .exact h fun b h => K (.slice (some ⟨b, 0, none⟩) 0 0) h := by kernel_rfl
@[simp] theorem yhnl {a0 : Int} {h : H} {K : K1} {u : Dm K} : ynqb PG y8f0 1 [(0, .int .u8 a0)] h K u = u_new [.int .u8 a0] yoj6 .exact h fun b h => K (.slice (some ⟨b, 0, none⟩) 1 1) h := by kernel_rfl
@[simp] theorem yvwc {a0 : Int} {a1 : Int} {a2 : Int} {h : H} {K : K1} {u : Dm K} : ynqb PG y8f0 3 [(0, .int .u8 a0), (1, .int .u8 a1), (2, .int .u8 a2)] h K u = u_new [.int .u8 a0, .int .u8 a1, .int .u8 a2] yoj6 .exact h fun b h => K (.slice (some ⟨b, 0, none⟩) 3 3) h := by kernel_rfl
@[simp] theorem yqbk {h : H} {K : K1} {u : Dm K} : ynqb PG y7as 0 [] h K u = u_new [] T_int .exact h fun b h => K (.slice (some ⟨b, 0, none⟩) 0 0) h := by kernel_rfl
@[simp] theorem y63j {a0_0 : ByteArray} {a0_1a : Option Addr} {a0_1n : Nat} {a0_1c : Nat} {h : H} {K : K1} {u : Dm K} : ynqb PG yiva 1 [(0, .agg #[.string a0_0, .slice a0_1a a0_1n a0_1c])] h K u = u_new [.string a0_0, .slice a0_1a a0_1n a0_1c] yavq .exact h fun b h => K (.slice (some ⟨b, 0, none⟩) 1 1) h := by kernel_rfl
def ylzg (x1 x4 : Value) (h : H) (Kn : K2) (Kr : K2) : Prop :=
  u_bf false 1 0 x1 h fun v15 => u_if v15 (ynqb PG y8f0 1 [(0, (.int .u8 1))] h fun v17 h => yx4h yoj6 1 1 x4 v17 h fun v18 h => Kn x1 v18 h) (ynqb PG y8f0 1 [(0, (.int .u8 0))] h fun v20 h => yx4h yoj6 1 1 x4 v20 h fun v21 h => Kn x1 v21 h)
theorem yt5s (Kn : K2) (Kr : K2) (t : T) (h : H) (H0 : ylzg (t 1) (t 4) h Kn Kr) : Wp PG 80 (seqL (rest 3 (ygjk Tryz.f209.body))) (mkQ (q2 Kn 1 4) (q2 Kr 2 3) ke0) t h :=
  wpEqC E5_ok H0 (by kernel_rfl)
def yqgh (x1 x4 x30 x31 x32 : Value) (h : H) (Kn : K5) (Kr : K2) (Ke0 : K2) : Prop :=
  False
theorem ybsv (Kn : K5) (Kr : K2) (Ke0 : K2) (t : T) (h : H) (H0 : yqgh (t 1) (t 4) (t 30) (t 31) (t 32) h Kn Kr Ke0) : Wp PG 80 (rest 2 (lopC (blkC (rest 1 (seqL (rest 1 (seqR (rest 3 (ygjk Tryz.f209.body))))))))) (mkQ (q5 Kn 1 4 30 31 32) (q2 Kr 2 3) (keAdd 0 (q2 Ke0 1 4) ke0)) t h :=
  H0.elim
def ytw3 (x1 x4 x30 x31 x32 : Value) (h : H) (Kn : K5) (Kr : K2) (Ke0 : K2) : Prop :=
  u_bin PG .lss T_int x32 x31 fun v33 => u_if v33 (yqgh x1 x4 x30 x31 x32 h Kn Kr Ke0) (Ke0 x1 x4 h)
theorem yvxr (Kn : K5) (Kr : K2) (Ke0 : K2) (t : T) (h : H) (H0 : ytw3 (t 1) (t 4) (t 30) (t 31) (t 32) h Kn Kr Ke0) : Wp PG 80 (lopC (blkC (rest 1 (seqL (rest 1 (seqR (rest 3 (ygjk Tryz.f209.body)))))))) (mkQ (q5 Kn 1 4 30 31 32) (q2 Kr 2 3) (keAdd 0 (q2 Ke0 1 4) ke0)) t h :=
  yvnp E5_ok 2 H0 (by kernel_rfl) (fun t h (H1 : yqgh (t 1) (t 4) (t 30) (t 31) (t 32) h Kn Kr Ke0) => ybsv Kn Kr Ke0 t h H1) (by kernel_rfl)
def yx32 (x1 x4 x30 x31 x32 : Value) (h : H) (Kn : K2) (Kr : K2) (Ke0 : K2) : Prop :=
  sloop (S := Value × Value × Value × Value × Value) (fun s h K => ytw3 s.1 s.2.1 s.2.2.1 s.2.2.2.1 s.2.2.2.2 h (fun y1 y4 y30 y31 y32 h => K (y1, y4, y30, y31, y32) h) Kr Ke0) (x1, x4, x30, x31, x32) h
theorem yan5 (Kn : K2) (Kr : K2) (Ke0 : K2) (t : T) (h : H) (H0 : yx32 (t 1) (t 4) (t 30) (t 31) (t 32) h Kn Kr Ke0) : Wp PG 80 (blkC (rest 1 (seqL (rest 1 (seqR (rest 3 (ygjk Tryz.f209.body))))))) (mkQ (q2 Kn 1 4) (q2 Kr 2 3) (keAdd 0 (q2 Ke0 1 4) ke0)) t h :=
  yv0a (fun t => (t 1, t 4, t 30, t 31, t 32)) (by kernel_rfl) (fun t h K H1 => yvxr (fun y1 y4 y30 y31 y32 h => K (y1, y4, y30, y31, y32) h) Kr Ke0 t h H1) H0
def y63m (x1 x4 x30 x31 x32 : Value) (h : H) (Kn : K2) (Kr : K2) : Prop :=
  yx32 x1 x4 x30 x31 x32 h Kn Kr Kn
theorem yyl6 (Kn : K2) (Kr : K2) (t : T) (h : H) (H0 : y63m (t 1) (t 4) (t 30) (t 31) (t 32) h Kn Kr) : Wp PG 80 (rest 1 (seqL (rest 1 (seqR (rest 3 (ygjk Tryz.f209.body)))))) (mkQ (q2 Kn 1 4) (q2 Kr 2 3) ke0) t h :=
  y6tu 0 (by kernel_rfl) (by kernel_rfl) (yan5 Kn Kr Kn t h H0)
def y6t1 (x1 x4 : Value) (h : H) (Kn : K2) (Kr : K2) : Prop :=
  u_bf false 1 1 x1 h fun v30 => ywmm v30 fun v31 => y63m x1 x4 v30 v31 (.int .i64 0) h Kn Kr
theorem ybsd (Kn : K2) (Kr : K2) (t : T) (h : H) (H0 : y6t1 (t 1) (t 4) h Kn Kr) : Wp PG 80 (seqL (rest 1 (seqR (rest 3 (ygjk Tryz.f209.body))))) (mkQ (q2 Kn 1 4) (q2 Kr 2 3) ke0) t h :=
  yvnp E5_ok 1 H0 (by kernel_rfl) (fun t h (H1 : y63m (t 1) (t 4) (t 30) (t 31) (t 32) h Kn Kr) => yyl6 Kn Kr t h H1) (by kernel_rfl)
def yv99 (x4 x61 x62 x63 : Value) (h : H) (Kn : K4) (Kr : K2) (Ke2 : K1) : Prop :=
  u_bin PG .lss T_int x63 x62 fun v64 => u_if v64 (u_ix true 3 none x61 x63 h fun v66 => u_new [.int .i64 0, .int .i64 0, .int .u8 0] yti5 .exact h fun b8 h => ylel 3 (.pointer (some ⟨b8, 0, none⟩)) v66 h fun h => u_bf false 1 0 (.pointer (some ⟨b8, 0, none⟩)) h fun v69 => y2x6 .u8 v69 fun v70 => u_bf false 1 1 (.pointer (some ⟨b8, 0, none⟩)) h fun v72 => y2x6 .u8 v72 fun v73 => u_bf false 1 2 (.pointer (some ⟨b8, 0, none⟩)) h fun v75 => ynqb PG y8f0 3 [(0, v70), (1, v73), (2, v75)] h fun v76 h => yx4h yoj6 1 1 x4 v76 h fun v77 h => u_bin PG .add T_int x63 (.int .i64 1) fun v78 => Kn v77 x61 x62 v78 h) (Ke2 x4 h)
theorem yvu0 (Kn : K4) (Kr : K2) (Ke2 : K1) (t : T) (h : H) (H0 : yv99 (t 4) (t 61) (t 62) (t 63) h Kn Kr Ke2) : Wp PG 80 (lopC (blkC (rest 1 (seqL (rest 1 (seqR (rest 1 (seqR (rest 3 (ygjk Tryz.f209.body)))))))))) (mkQ (q4 Kn 4 61 62 63) (q2 Kr 2 3) (keAdd 2 (q1 Ke2 4) ke0)) t h :=
  wpEqC E5_ok H0 (by kernel_rfl)
def yk8a (x4 x61 x62 x63 : Value) (h : H) (Kn : K1) (Kr : K2) (Ke2 : K1) : Prop :=
  sloop (S := Value × Value × Value × Value) (fun s h K => yv99 s.1 s.2.1 s.2.2.1 s.2.2.2 h (fun y4 y61 y62 y63 h => K (y4, y61, y62, y63) h) Kr Ke2) (x4, x61, x62, x63) h
theorem yd5x (Kn : K1) (Kr : K2) (Ke2 : K1) (t : T) (h : H) (H0 : yk8a (t 4) (t 61) (t 62) (t 63) h Kn Kr Ke2) : Wp PG 80 (blkC (rest 1 (seqL (rest 1 (seqR (rest 1 (seqR (rest 3 (ygjk Tryz.f209.body))))))))) (mkQ (q1 Kn 4) (q2 Kr 2 3) (keAdd 2 (q1 Ke2 4) ke0)) t h :=
  yv0a (fun t => (t 4, t 61, t 62, t 63)) (by kernel_rfl) (fun t h K H1 => yvu0 (fun y4 y61 y62 y63 h => K (y4, y61, y62, y63) h) Kr Ke2 t h H1) H0
def yzs2 (x4 x61 x62 x63 : Value) (h : H) (Kn : K1) (Kr : K2) : Prop :=
  yk8a x4 x61 x62 x63 h Kn Kr Kn
theorem y4gz (Kn : K1) (Kr : K2) (t : T) (h : H) (H0 : yzs2 (t 4) (t 61) (t 62) (t 63) h Kn Kr) : Wp PG 80 (rest 1 (seqL (rest 1 (seqR (rest 1 (seqR (rest 3 (ygjk Tryz.f209.body)))))))) (mkQ (q1 Kn 4) (q2 Kr 2 3) ke0) t h :=
  y6tu 2 (by kernel_rfl) (by kernel_rfl) (yd5x Kn Kr Kn t h H0)
def yin7 (x1 x4 : Value) (h : H) (Kn : K1) (Kr : K2) : Prop :=
  u_bf false 1 2 x1 h fun v61 => ywmm v61 fun v62 => yzs2 x4 v61 v62 (.int .i64 0) h Kn Kr
theorem yden (Kn : K1) (Kr : K2) (t : T) (h : H) (H0 : yin7 (t 1) (t 4) h Kn Kr) : Wp PG 80 (seqL (rest 1 (seqR (rest 1 (seqR (rest 3 (ygjk Tryz.f209.body))))))) (mkQ (q1 Kn 4) (q2 Kr 2 3) ke0) t h :=
  yvnp E5_ok 1 H0 (by kernel_rfl) (fun t h (H1 : yzs2 (t 4) (t 61) (t 62) (t 63) h Kn Kr) => y4gz Kn Kr t h H1) (by kernel_rfl)
def ytwq (x4 : Value) (h : H) (Kn : K2) (Kr : K2) : Prop :=
  Kr x4 (.int .i64 0) h
theorem yttv (Kn : K2) (Kr : K2) (t : T) (h : H) (H0 : ytwq (t 4) h Kn Kr) : Wp PG 80 (seqR (rest 1 (seqR (rest 1 (seqR (rest 3 (ygjk Tryz.f209.body))))))) (mkQ (q2 Kn 2 3) (q2 Kr 2 3) ke0) t h :=
  wpEqC E5_ok H0 (by kernel_rfl)
def yahi (x1 x4 : Value) (h : H) (Kn : K2) (Kr : K2) : Prop :=
  yin7 x1 x4 h (fun y4 h => ytwq y4 h Kn Kr) Kr
theorem y5vg (Kn : K2) (Kr : K2) (t : T) (h : H) (H0 : yahi (t 1) (t 4) h Kn Kr) : Wp PG 80 (rest 1 (seqR (rest 1 (seqR (rest 3 (ygjk Tryz.f209.body)))))) (mkQ (q2 Kn 2 3) (q2 Kr 2 3) ke0) t h :=
  ykv2 (by kernel_rfl) (fun t h H1 => yttv Kn Kr t h H1) (yden (fun y4 h => ytwq y4 h Kn Kr) Kr t h H0)
def ywvm (x1 x4 : Value) (h : H) (Kn : K2) (Kr : K2) : Prop :=
  u_bf false 1 2 x1 h fun v55 => ywmm v55 fun v56 => y2x6 .u8 v56 fun v57 => ynqb PG y8f0 1 [(0, v57)] h fun v58 h => yx4h yoj6 1 1 x4 v58 h fun v59 h => yahi x1 v59 h Kn Kr
theorem yqax (Kn : K2) (Kr : K2) (t : T) (h : H) (H0 : ywvm (t 1) (t 4) h Kn Kr) : Wp PG 80 (seqR (rest 1 (seqR (rest 3 (ygjk Tryz.f209.body))))) (mkQ (q2 Kn 2 3) (q2 Kr 2 3) ke0) t h :=
  yvnp E5_ok 1 H0 (by kernel_rfl) (fun t h (H1 : yahi (t 1) (t 4) h Kn Kr) => y5vg Kn Kr t h H1) (by kernel_rfl)
def y575 (x1 x4 : Value) (h : H) (Kn : K2) (Kr : K2) : Prop :=
  y6t1 x1 x4 h (fun y1 y4 h => ywvm y1 y4 h Kn Kr) Kr
theorem ynea (Kn : K2) (Kr : K2) (t : T) (h : H) (H0 : y575 (t 1) (t 4) h Kn Kr) : Wp PG 80 (rest 1 (seqR (rest 3 (ygjk Tryz.f209.body)))) (mkQ (q2 Kn 2 3) (q2 Kr 2 3) ke0) t h :=
  ykv2 (by kernel_rfl) (fun t h H1 => yqax Kn Kr t h H1) (ybsd (fun y1 y4 h => ywvm y1 y4 h Kn Kr) Kr t h H0)
def yjfw (x1 x4 : Value) (h : H) (Kn : K2) (Kr : K2) : Prop :=
  u_bf false 1 1 x1 h fun v24 => ywmm v24 fun v25 => y2x6 .u8 v25 fun v26 => ynqb PG y8f0 1 [(0, v26)] h fun v27 h => yx4h yoj6 1 1 x4 v27 h fun v28 h => y575 x1 v28 h Kn Kr
theorem yvsr (Kn : K2) (Kr : K2) (t : T) (h : H) (H0 : yjfw (t 1) (t 4) h Kn Kr) : Wp PG 80 (seqR (rest 3 (ygjk Tryz.f209.body))) (mkQ (q2 Kn 2 3) (q2 Kr 2 3) ke0) t h :=
  yvnp E5_ok 1 H0 (by kernel_rfl) (fun t h (H1 : y575 (t 1) (t 4) h Kn Kr) => ynea Kn Kr t h H1) (by kernel_rfl)
def y89z (x1 x4 : Value) (h : H) (Kn : K2) (Kr : K2) : Prop :=
  ylzg x1 x4 h (fun y1 y4 h => yjfw y1 y4 h Kn Kr) Kr
theorem y7q8 (Kn : K2) (Kr : K2) (t : T) (h : H) (H0 : y89z (t 1) (t 4) h Kn Kr) : Wp PG 80 (rest 3 (ygjk Tryz.f209.body)) (mkQ (q2 Kn 2 3) (q2 Kr 2 3) ke0) t h :=
  ykv2 (by kernel_rfl) (fun t h H1 => yvsr Kn Kr t h H1) (yt5s (fun y1 y4 h => yjfw y1 y4 h Kn Kr) Kr t h H0)
def yzcv (x0 : Value) (h : H) (Kn : K2) (Kr : K2) : Prop :=
  boxV x0 = true ∧ u_new (Value.cells x0).toList y4pp .exact h fun b1 h => ybqh true 3 (.pointer (some ⟨b1, 0, none⟩)) h fun v9 => yjdf PG ygvc [v9] h fun v10 h => u_un PG .not v10 fun v11 => u_if v11 (Kr (.slice none 0 0) (.int .i64 1) h) (ynqb PG y8f0 3 [(0, (.int .u8 84)), (1, (.int .u8 80)), (2, (.int .u8 49))] h fun v12 h => yplo v12 h fun v13 => y89z (.pointer (some ⟨b1, 0, none⟩)) v13 h Kn Kr)
theorem ybqj (Kn : K2) (Kr : K2) (t : T) (h : H) (H0 : yzcv (t 0) h Kn Kr) : Wp PG 80 (ygjk Tryz.f209.body) (mkQ (q2 Kn 2 3) (q2 Kr 2 3) ke0) t h :=
  yvnp E5_ok 3 H0 (by kernel_rfl) (fun t h (H1 : y89z (t 1) (t 4) h Kn Kr) => y7q8 Kn Kr t h H1) (by kernel_rfl)
def yiif (x0 : Value) (h : H) (Q : K1) : Prop := yzcv x0 h (fun y2 y3 h => bif [y2, y3].all boxV then Q (.tuple #[y2, y3]) h else False) (fun y2 y3 h => bif [y2, y3].all boxV then Q (.tuple #[y2, y3]) h else False)
theorem y1r0 (x0 : Value) (h : H) (Q : K1) (H0 : yiif x0 h Q) : AM.Spec PG y8kn [x0] h Q :=
  yqxt mixed (fn := Tryz.f209) Tryz.func209 (c := ygjk Tryz.f209.body) (rs := [2, 3]) (N := 80) (by kernel_rfl) (by kernel_rfl) (by kernel_rfl) (by kernel_rfl) (by kernel_rfl) (Nat.le_of_ble_eq_true rfl) (ybqj (fun y2 y3 h => bif [y2, y3].all boxV then Q (.tuple #[y2, y3]) h else False) (fun y2 y3 h => bif [y2, y3].all boxV then Q (.tuple #[y2, y3]) h else False) (tinit [x0]) h H0) (by kernel_rfl)
def yqfw (x0 : Value) (h : H) (Kn : K1) (Kr : K1) : Prop :=
  u_bin PG .eql y8f0 x0 (.slice none 0 0) fun v4 => u_if v4 (Kr (.slice none 0 0) h) (ynqb PG y8f0 0 [] h fun v5 h => yx4h yoj6 1 1 v5 x0 h fun v7 h => Kr v7 h)
theorem ydgs (Kn : K1) (Kr : K1) (t : T) (h : H) (H0 : yqfw (t 0) h Kn Kr) : Wp PG 8 (ygjk Tryz.f195.body) (mkQ (q1 Kn 2) (q1 Kr 2) ke0) t h :=
  wpEqC E5_ok H0 (by kernel_rfl)
def yg0z (x0 : Value) (h : H) (Q : K1) : Prop := yqfw x0 h Q Q
theorem ylcn (x0 : Value) (h : H) (Q : K1) (H0 : yg0z x0 h Q) : AM.Spec PG y7ie [x0] h Q :=
  yqxt mixed (fn := Tryz.f195) Tryz.func195 (c := ygjk Tryz.f195.body) (rs := [2]) (N := 8) (by kernel_rfl) (by kernel_rfl) (by kernel_rfl) (by kernel_rfl) (by kernel_rfl) (Nat.le_of_ble_eq_true rfl) (ydgs Q Q (tinit [x0]) h H0) (by kernel_rfl)
def yzgu (x0 : Value) (h : H) (Kn : K1) (Kr : K1) : Prop :=
  u_bin PG .eql y7as x0 (.slice none 0 0) fun v4 => u_if v4 (Kr (.slice none 0 0) h) (ynqb PG y7as 0 [] h fun v5 h => yx4h T_int 1 8 v5 x0 h fun v7 h => Kr v7 h)
theorem y5e4 (Kn : K1) (Kr : K1) (t : T) (h : H) (H0 : yzgu (t 0) h Kn Kr) : Wp PG 8 (ygjk Tryz.f272.body) (mkQ (q1 Kn 2) (q1 Kr 2) ke0) t h :=
  wpEqC E5_ok H0 (by kernel_rfl)
def yw05 (x0 : Value) (h : H) (Q : K1) : Prop := yzgu x0 h Q Q
theorem yc3d (x0 : Value) (h : H) (Q : K1) (H0 : yw05 x0 h Q) : AM.Spec PG ynjv [x0] h Q :=
  yqxt mixed (fn := Tryz.f272) Tryz.func272 (c := ygjk Tryz.f272.body) (rs := [2]) (N := 8) (by kernel_rfl) (by kernel_rfl) (by kernel_rfl) (by kernel_rfl) (by kernel_rfl) (Nat.le_of_ble_eq_true rfl) (y5e4 Q Q (tinit [x0]) h H0) (by kernel_rfl)
def ynh2 (x0 : Value) (h : H) (Kn : K1) (Kr : K1) : Prop :=
  u_bin PG .eql yoi5 x0 (.slice none 0 0) fun v4 => u_if v4 (Kr (.slice none 0 0) h) (ynqb PG yoi5 0 [] h fun v5 h => yx4h ycpa 1 4 v5 x0 h fun v7 h => Kr v7 h)
theorem yl83 (Kn : K1) (Kr : K1) (t : T) (h : H) (H0 : ynh2 (t 0) h Kn Kr) : Wp PG 8 (ygjk Tryz.f273.body) (mkQ (q1 Kn 2) (q1 Kr 2) ke0) t h :=
  wpEqC E5_ok H0 (by kernel_rfl)
def yw4b (x0 : Value) (h : H) (Q : K1) : Prop := ynh2 x0 h Q Q
theorem yc5z (x0 : Value) (h : H) (Q : K1) (H0 : yw4b x0 h Q) : AM.Spec PG ydmm [x0] h Q :=
  yqxt mixed (fn := Tryz.f273) Tryz.func273 (c := ygjk Tryz.f273.body) (rs := [2]) (N := 8) (by kernel_rfl) (by kernel_rfl) (by kernel_rfl) (by kernel_rfl) (by kernel_rfl) (Nat.le_of_ble_eq_true rfl) (yl83 Q Q (tinit [x0]) h H0) (by kernel_rfl)
def yab4 (x1 : Value) (h : H) (Kn : K1) (Kr : K1) : Prop :=
  y0wt 2 x1 fun v8 => ybqh false 1 v8 h fun v9 => y0wt 3 x1 fun v11 => ybqh false 1 v11 h fun v12 => y0wt 4 x1 fun v14 => ybqh false 1 v14 h fun v15 => yjdf PG ynjv [v9] h fun v10 h => (ybqh false 1 v11 h fun w12 => w12 = v12) ∧ (ybqh false 1 v14 h fun w15 => w15 = v15) ∧ yjdf PG y7ie [v12] h fun v13 h => (ybqh false 1 v14 h fun w15 => w15 = v15) ∧ yjdf PG ydmm [v15] h fun v16 h => ysnr PG y1og [(0, v10), (1, v13), (2, v16)] fun v17 => boxV v17 = true ∧ u_new (Value.cells v17).toList y1og .exact h fun b18 h => Kn (.pointer (some ⟨b18, 0, none⟩)) h
theorem yyx0 (Kn : K1) (Kr : K1) (t : T) (h : H) (H0 : yab4 (t 1) h Kn Kr) : Wp PG 19 (seqL (rest 2 (ygjk Tryz.f211.body))) (mkQ (q1 Kn 2) (q1 Kr 2) ke0) t h :=
  ynwd E5_ok [(0, [], []), (1, [], []), (3, [], []), (4, [], []), (6, [], []), (7, [], []), (2, [4, 7], []), (5, [7], []), (8, [], []), (9, [], []), (10, [], []), (11, [], [])] (by kernel_rfl) (by kernel_rfl) H0 (by kernel_rfl)
def y3wn (x2 : Value) (h : H) (Kn : K1) (Kr : K1) : Prop :=
  Kr x2 h
theorem ytte (Kn : K1) (Kr : K1) (t : T) (h : H) (H0 : y3wn (t 2) h Kn Kr) : Wp PG 19 (seqR (rest 2 (ygjk Tryz.f211.body))) (mkQ (q1 Kn 2) (q1 Kr 2) ke0) t h :=
  wpEqC E5_ok H0 (by kernel_rfl)
def y5p5 (x1 : Value) (h : H) (Kn : K1) (Kr : K1) : Prop :=
  yab4 x1 h (fun y2 h => y3wn y2 h Kn Kr) Kr
theorem ycc2 (Kn : K1) (Kr : K1) (t : T) (h : H) (H0 : y5p5 (t 1) h Kn Kr) : Wp PG 19 (rest 2 (ygjk Tryz.f211.body)) (mkQ (q1 Kn 2) (q1 Kr 2) ke0) t h :=
  ykv2 (by kernel_rfl) (fun t h H1 => ytte Kn Kr t h H1) (yyx0 (fun y2 h => y3wn y2 h Kn Kr) Kr t h H0)
def yzbs (x0 : Value) (h : H) (Kn : K1) (Kr : K1) : Prop :=
  boxV x0 = true ∧ u_new (Value.cells x0).toList ylzr .exact h fun b1 h => ybqh true 6 (.pointer (some ⟨b1, 0, none⟩)) h fun v3 => yjdf PG yz9h [v3] h fun v4 h => u_un PG .not v4 fun v5 => u_if v5 (ysnr PG y1og [] fun v6 => boxV v6 = true ∧ u_new (Value.cells v6).toList y1og .exact h fun b7 h => Kr (.pointer (some ⟨b7, 0, none⟩)) h) (y5p5 (.pointer (some ⟨b1, 0, none⟩)) h Kn Kr)
theorem ysce (Kn : K1) (Kr : K1) (t : T) (h : H) (H0 : yzbs (t 0) h Kn Kr) : Wp PG 19 (ygjk Tryz.f211.body) (mkQ (q1 Kn 2) (q1 Kr 2) ke0) t h :=
  yvnp E5_ok 2 H0 (by kernel_rfl) (fun t h (H1 : y5p5 (t 1) h Kn Kr) => ycc2 Kn Kr t h H1) (by kernel_rfl)
def ylot (x0 : Value) (h : H) (Q : K1) : Prop := yzbs x0 h Q Q
theorem ymih (x0 : Value) (h : H) (Q : K1) (H0 : ylot x0 h Q) : AM.Spec PG yxfw [x0] h Q :=
  yqxt mixed (fn := Tryz.f211) Tryz.func211 (c := ygjk Tryz.f211.body) (rs := [2]) (N := 19) (by kernel_rfl) (by kernel_rfl) (by kernel_rfl) (by kernel_rfl) (by kernel_rfl) (Nat.le_of_ble_eq_true rfl) (ysce Q Q (tinit [x0]) h H0) (by kernel_rfl)
def ya7z (x3 x4 x19 x20 x21 : Value) (h : H) (Kn : K5) (Kr : K1) (Ke0 : K2) : Prop :=
  False
theorem yk7d (Kn : K5) (Kr : K1) (Ke0 : K2) (t : T) (h : H) (H0 : ya7z (t 3) (t 4) (t 19) (t 20) (t 21) h Kn Kr Ke0) : Wp PG 58 (rest 2 (lopC (blkC (rest 2 (cndX (rest 1 (seqL (rest 3 (ygjk Tryz.f138.body))))))))) (mkQ (q5 Kn 3 4 19 20 21) (q1 Kr 2) (keAdd 0 (q2 Ke0 3 4) ke0)) t h :=
  H0.elim
def yvun (x3 x4 x19 x20 x21 : Value) (h : H) (Kn : K5) (Kr : K1) (Ke0 : K2) : Prop :=
  u_bin PG .lss T_int x21 x20 fun v22 => u_if v22 (ya7z x3 x4 x19 x20 x21 h Kn Kr Ke0) (Ke0 x3 x4 h)
theorem y4un (Kn : K5) (Kr : K1) (Ke0 : K2) (t : T) (h : H) (H0 : yvun (t 3) (t 4) (t 19) (t 20) (t 21) h Kn Kr Ke0) : Wp PG 58 (lopC (blkC (rest 2 (cndX (rest 1 (seqL (rest 3 (ygjk Tryz.f138.body)))))))) (mkQ (q5 Kn 3 4 19 20 21) (q1 Kr 2) (keAdd 0 (q2 Ke0 3 4) ke0)) t h :=
  yvnp E5_ok 2 H0 (by kernel_rfl) (fun t h (H1 : ya7z (t 3) (t 4) (t 19) (t 20) (t 21) h Kn Kr Ke0) => yk7d Kn Kr Ke0 t h H1) (by kernel_rfl)
def y81e (x3 x4 x19 x20 x21 : Value) (h : H) (Kn : K2) (Kr : K1) (Ke0 : K2) : Prop :=
  sloop (S := Value × Value × Value × Value × Value) (fun s h K => yvun s.1 s.2.1 s.2.2.1 s.2.2.2.1 s.2.2.2.2 h (fun y3 y4 y19 y20 y21 h => K (y3, y4, y19, y20, y21) h) Kr Ke0) (x3, x4, x19, x20, x21) h
theorem yvqt (Kn : K2) (Kr : K1) (Ke0 : K2) (t : T) (h : H) (H0 : y81e (t 3) (t 4) (t 19) (t 20) (t 21) h Kn Kr Ke0) : Wp PG 58 (blkC (rest 2 (cndX (rest 1 (seqL (rest 3 (ygjk Tryz.f138.body))))))) (mkQ (q2 Kn 3 4) (q1 Kr 2) (keAdd 0 (q2 Ke0 3 4) ke0)) t h :=
  yv0a (fun t => (t 3, t 4, t 19, t 20, t 21)) (by kernel_rfl) (fun t h K H1 => y4un (fun y3 y4 y19 y20 y21 h => K (y3, y4, y19, y20, y21) h) Kr Ke0 t h H1) H0
def yhsi (x3 x4 x19 x20 x21 : Value) (h : H) (Kn : K2) (Kr : K1) : Prop :=
  y81e x3 x4 x19 x20 x21 h Kn Kr Kn
theorem yuet (Kn : K2) (Kr : K1) (t : T) (h : H) (H0 : yhsi (t 3) (t 4) (t 19) (t 20) (t 21) h Kn Kr) : Wp PG 58 (rest 2 (cndX (rest 1 (seqL (rest 3 (ygjk Tryz.f138.body)))))) (mkQ (q2 Kn 3 4) (q1 Kr 2) ke0) t h :=
  y6tu 0 (by kernel_rfl) (by kernel_rfl) (yvqt Kn Kr Kn t h H0)
def yh08 (x1 x3 : Value) (h : H) (Kn : K2) (Kr : K1) : Prop :=
  u_bf false 1 1 x1 h fun v16 => yjdf PG y7ie [v16] h fun v17 h => u_bf false 1 5 x1 h fun v19 => ywmm v19 fun v20 => yhsi x3 v17 v19 v20 (.int .i64 0) h Kn Kr
theorem y3ap (Kn : K2) (Kr : K1) (t : T) (h : H) (H0 : yh08 (t 1) (t 3) h Kn Kr) : Wp PG 58 (cndX (rest 1 (seqL (rest 3 (ygjk Tryz.f138.body))))) (mkQ (q2 Kn 3 4) (q1 Kr 2) ke0) t h :=
  yvnp E5_ok 2 H0 (by kernel_rfl) (fun t h (H1 : yhsi (t 3) (t 4) (t 19) (t 20) (t 21) h Kn Kr) => yuet Kn Kr t h H1) (by kernel_rfl)
def yoaf (x3 x4 : Value) (h : H) (Kn : K2) (Kr : K1) : Prop :=
  False
theorem yfer (Kn : K2) (Kr : K1) (t : T) (h : H) (H0 : yoaf (t 3) (t 4) h Kn Kr) : Wp PG 58 (cndY (rest 1 (seqL (rest 3 (ygjk Tryz.f138.body))))) (mkQ (q2 Kn 3 4) (q1 Kr 2) ke0) t h :=
  H0.elim
def y3jh (x1 x3 x4 x14 : Value) (h : H) (Kn : K2) (Kr : K1) : Prop :=
  u_if x14 (yh08 x1 x3 h Kn Kr) (yoaf x3 x4 h Kn Kr)
theorem ymj1 (Kn : K2) (Kr : K1) (t : T) (h : H) (H0 : y3jh (t 1) (t 3) (t 4) (t 14) h Kn Kr) : Wp PG 58 (rest 1 (seqL (rest 3 (ygjk Tryz.f138.body)))) (mkQ (q2 Kn 3 4) (q1 Kr 2) ke0) t h :=
  yh47 H0 (by kernel_rfl) (y3ap Kn Kr t h) (yfer Kn Kr t h) (by kernel_rfl)
def yp7r (x1 x3 x4 : Value) (h : H) (Kn : K2) (Kr : K1) : Prop :=
  ybqh true 6 x1 h fun v13 => yjdf PG yz9h [v13] h fun v14 h => y3jh x1 x3 x4 v14 h Kn Kr
theorem ymvl (Kn : K2) (Kr : K1) (t : T) (h : H) (H0 : yp7r (t 1) (t 3) (t 4) h Kn Kr) : Wp PG 58 (seqL (rest 3 (ygjk Tryz.f138.body))) (mkQ (q2 Kn 3 4) (q1 Kr 2) ke0) t h :=
  yvnp E5_ok 1 H0 (by kernel_rfl) (fun t h (H1 : y3jh (t 1) (t 3) (t 4) (t 14) h Kn Kr) => ymj1 Kn Kr t h H1) (by kernel_rfl)
def ygke (x3 x4 : Value) (h : H) (Kn : K1) (Kr : K1) : Prop :=
  u_pf false 1 2 x3 h fun v44 => ysnr PG ydlg [(0, x4)] fun v46 => yw4g (.int .i64) v44 (.int .i64 0) v46 h fun h => u_pf false 1 2 x3 h fun v50 => ysnr PG ydlg [(2, (.bool true))] fun v51 => yw4g (.int .i64) v50 (.int .i64 1) v51 h fun h => u_pf false 1 2 x3 h fun v55 => ysnr PG ydlg [(2, (.bool true))] fun v56 => yw4g (.int .i64) v55 (.int .i64 2) v56 h fun h => Kr x3 h
theorem ydgn (Kn : K1) (Kr : K1) (t : T) (h : H) (H0 : ygke (t 3) (t 4) h Kn Kr) : Wp PG 58 (seqR (rest 3 (ygjk Tryz.f138.body))) (mkQ (q1 Kn 2) (q1 Kr 2) ke0) t h :=
  wpEqC E5_ok H0 (by kernel_rfl)
def y9pm (x1 x3 x4 : Value) (h : H) (Kn : K1) (Kr : K1) : Prop :=
  yp7r x1 x3 x4 h (fun y3 y4 h => ygke y3 y4 h Kn Kr) Kr
theorem y6hv (Kn : K1) (Kr : K1) (t : T) (h : H) (H0 : y9pm (t 1) (t 3) (t 4) h Kn Kr) : Wp PG 58 (rest 3 (ygjk Tryz.f138.body)) (mkQ (q1 Kn 2) (q1 Kr 2) ke0) t h :=
  ykv2 (by kernel_rfl) (fun t h H1 => ydgn Kn Kr t h H1) (ymvl (fun y3 y4 h => ygke y3 y4 h Kn Kr) Kr t h H0)
def yg0c (x0 : Value) (h : H) (Kn : K1) (Kr : K1) : Prop :=
  boxV x0 = true ∧ u_new (Value.cells x0).toList ylzr .exact h fun b1 h => ybqh true 6 (.pointer (some ⟨b1, 0, none⟩)) h fun v7 => yjdf PG yxfw [v7] h fun v8 h => yaj8 (.map (.int .i64) [] 0) h fun b9 h => yaj8 (.map (.int .i64) [] 0) h fun b10 h => ysnr PG yxbe [(1, v8), (2, (.map (some b9))), (3, (.map (some b10)))] fun v11 => boxV v11 = true ∧ u_new (Value.cells v11).toList yxbe .exact h fun b12 h => y9pm (.pointer (some ⟨b1, 0, none⟩)) (.pointer (some ⟨b12, 0, none⟩)) (.slice none 0 0) h Kn Kr
theorem yuyd (Kn : K1) (Kr : K1) (t : T) (h : H) (H0 : yg0c (t 0) h Kn Kr) : Wp PG 58 (ygjk Tryz.f138.body) (mkQ (q1 Kn 2) (q1 Kr 2) ke0) t h :=
  yvnp E5_ok 3 H0 (by kernel_rfl) (fun t h (H1 : y9pm (t 1) (t 3) (t 4) h Kn Kr) => y6hv Kn Kr t h H1) (by kernel_rfl)
def y9r2 (x0 : Value) (h : H) (Q : K1) : Prop := yg0c x0 h Q Q
theorem yab1 (x0 : Value) (h : H) (Q : K1) (H0 : y9r2 x0 h Q) : AM.Spec PG yrso [x0] h Q :=
  yqxt mixed (fn := Tryz.f138) Tryz.func138 (c := ygjk Tryz.f138.body) (rs := [2]) (N := 58) (by kernel_rfl) (by kernel_rfl) (by kernel_rfl) (by kernel_rfl) (by kernel_rfl) (Nat.le_of_ble_eq_true rfl) (yuyd Q Q (tinit [x0]) h H0) (by kernel_rfl)
def yn0m (x0 x1 x2 : Value) (h : H) (Kn : K1) (Kr : K1) : Prop :=
  boxV x0 = true ∧ u_new (Value.cells x0).toList y33u .exact h fun b3 h => boxV x1 = true ∧ u_new (Value.cells x1).toList y4pp .exact h fun b4 h => boxV x2 = true ∧ u_new (Value.cells x2).toList ylzr .exact h fun b5 h => ybqh true 2 (.pointer (some ⟨b3, 0, none⟩)) h fun v10 => yjdf PG y45l [v10] h fun v11 h => u_bin PG .neq ya0f v11 (.int .i64 0) fun v13 => u_if v13 (Kr v11 h) (ybqh true 3 (.pointer (some ⟨b4, 0, none⟩)) h fun v16 => yjdf PG y8kn [v16] h fun v17 h => yvu8 v17 0 fun v18 => yvu8 v17 1 fun v19 => u_bin PG .neq ya0f v19 (.int .i64 0) fun v21 => u_if v21 (Kr v19 h) (ybqh true 6 (.pointer (some ⟨b5, 0, none⟩)) h fun v23 => yjdf PG yz9h [v23] h fun v24 h => u_un PG .not v24 fun v25 => u_if v25 (Kr (.int .i64 1) h) (Kr (.int .i64 0) h)))
theorem y98i (Kn : K1) (Kr : K1) (t : T) (h : H) (H0 : yn0m (t 0) (t 1) (t 2) h Kn Kr) : Wp PG 26 (ygjk Tryz.f137.body) (mkQ (q1 Kn 6) (q1 Kr 6) ke0) t h :=
  wpEqC E5_ok H0 (by kernel_rfl)
def ywbb (x0 x1 x2 : Value) (h : H) (Q : K1) : Prop := yn0m x0 x1 x2 h Q Q
theorem yljz (x0 x1 x2 : Value) (h : H) (Q : K1) (H0 : ywbb x0 x1 x2 h Q) : AM.Spec PG y4nn [x0, x1, x2] h Q :=
  yqxt mixed (fn := Tryz.f137) Tryz.func137 (c := ygjk Tryz.f137.body) (rs := [6]) (N := 26) (by kernel_rfl) (by kernel_rfl) (by kernel_rfl) (by kernel_rfl) (by kernel_rfl) (Nat.le_of_ble_eq_true rfl) (y98i Q Q (tinit [x0, x1, x2]) h H0) (by kernel_rfl)
def ys8i (x0 x5 x6 x7 : Value) (h : H) (Kn : K4) (Kr : K1) (Ke0 : K1) : Prop :=
  u_bin PG .lss T_int x7 x6 fun v8 => u_if v8 (u_ix false 1 none x5 x7 h fun v10 => yjdf PG y533 [v10, (.int .u8 0)] h fun v12 h => u_bin PG .geq T_int v12 (.int .i64 0) fun v13 => u_if v13 (Kr (.bool false) h) (u_bin PG .add T_int x7 (.int .i64 1) fun v14 => Kn x0 x5 x6 v14 h)) (Ke0 x0 h)
theorem yas4 (Kn : K4) (Kr : K1) (Ke0 : K1) (t : T) (h : H) (H0 : ys8i (t 0) (t 5) (t 6) (t 7) h Kn Kr Ke0) : Wp PG 18 (lopC (blkC (rest 1 (seqL (rest 1 (ygjk Tryz.f277.body)))))) (mkQ (q4 Kn 0 5 6 7) (q1 Kr 2) (keAdd 0 (q1 Ke0 0) ke0)) t h :=
  wpEqC E5_ok H0 (by kernel_rfl)
def y5o2 (x0 x5 x6 x7 : Value) (h : H) (Kn : K1) (Kr : K1) (Ke0 : K1) : Prop :=
  sloop (S := Value × Value × Value × Value) (fun s h K => ys8i s.1 s.2.1 s.2.2.1 s.2.2.2 h (fun y0 y5 y6 y7 h => K (y0, y5, y6, y7) h) Kr Ke0) (x0, x5, x6, x7) h
theorem yxma (Kn : K1) (Kr : K1) (Ke0 : K1) (t : T) (h : H) (H0 : y5o2 (t 0) (t 5) (t 6) (t 7) h Kn Kr Ke0) : Wp PG 18 (blkC (rest 1 (seqL (rest 1 (ygjk Tryz.f277.body))))) (mkQ (q1 Kn 0) (q1 Kr 2) (keAdd 0 (q1 Ke0 0) ke0)) t h :=
  yv0a (fun t => (t 0, t 5, t 6, t 7)) (by kernel_rfl) (fun t h K H1 => yas4 (fun y0 y5 y6 y7 h => K (y0, y5, y6, y7) h) Kr Ke0 t h H1) H0
def yoq9 (x0 x5 x6 x7 : Value) (h : H) (Kn : K1) (Kr : K1) : Prop :=
  y5o2 x0 x5 x6 x7 h Kn Kr Kn
theorem yfdj (Kn : K1) (Kr : K1) (t : T) (h : H) (H0 : yoq9 (t 0) (t 5) (t 6) (t 7) h Kn Kr) : Wp PG 18 (rest 1 (seqL (rest 1 (ygjk Tryz.f277.body)))) (mkQ (q1 Kn 0) (q1 Kr 2) ke0) t h :=
  y6tu 0 (by kernel_rfl) (by kernel_rfl) (yxma Kn Kr Kn t h H0)
def yh7p (x0 : Value) (h : H) (Kn : K1) (Kr : K1) : Prop :=
  ywmm x0 fun v6 => yoq9 x0 x0 v6 (.int .i64 0) h Kn Kr
theorem y2dj (Kn : K1) (Kr : K1) (t : T) (h : H) (H0 : yh7p (t 0) h Kn Kr) : Wp PG 18 (seqL (rest 1 (ygjk Tryz.f277.body))) (mkQ (q1 Kn 0) (q1 Kr 2) ke0) t h :=
  yvnp E5_ok 1 H0 (by kernel_rfl) (fun t h (H1 : yoq9 (t 0) (t 5) (t 6) (t 7) h Kn Kr) => yfdj Kn Kr t h H1) (by kernel_rfl)
def yovo (x0 : Value) (h : H) (Kn : K1) (Kr : K1) : Prop :=
  ywmm x0 fun v16 => u_bin PG .leq T_int v16 (.int .i64 16) fun v17 => Kr v17 h
theorem y3y5 (Kn : K1) (Kr : K1) (t : T) (h : H) (H0 : yovo (t 0) h Kn Kr) : Wp PG 18 (seqR (rest 1 (ygjk Tryz.f277.body))) (mkQ (q1 Kn 2) (q1 Kr 2) ke0) t h :=
  wpEqC E5_ok H0 (by kernel_rfl)
def yf8n (x0 : Value) (h : H) (Kn : K1) (Kr : K1) : Prop :=
  yh7p x0 h (fun y0 h => yovo y0 h Kn Kr) Kr
theorem yomz (Kn : K1) (Kr : K1) (t : T) (h : H) (H0 : yf8n (t 0) h Kn Kr) : Wp PG 18 (rest 1 (ygjk Tryz.f277.body)) (mkQ (q1 Kn 2) (q1 Kr 2) ke0) t h :=
  ykv2 (by kernel_rfl) (fun t h H1 => y3y5 Kn Kr t h H1) (y2dj (fun y0 h => yovo y0 h Kn Kr) Kr t h H0)
def ygpf (x0 : Value) (h : H) (Kn : K1) (Kr : K1) : Prop :=
  yf8n x0 h Kn Kr
theorem yi8l (Kn : K1) (Kr : K1) (t : T) (h : H) (H0 : ygpf (t 0) h Kn Kr) : Wp PG 18 (ygjk Tryz.f277.body) (mkQ (q1 Kn 2) (q1 Kr 2) ke0) t h :=
  yvnp E5_ok 1 H0 (by kernel_rfl) (fun t h (H1 : yf8n (t 0) h Kn Kr) => yomz Kn Kr t h H1) (by kernel_rfl)
def ymcy (x0 : Value) (h : H) (Q : K1) : Prop := ygpf x0 h Q Q
theorem ypqv (x0 : Value) (h : H) (Q : K1) (H0 : ymcy x0 h Q) : AM.Spec PG ygag [x0] h Q :=
  yqxt mixed (fn := Tryz.f277) Tryz.func277 (c := ygjk Tryz.f277.body) (rs := [2]) (N := 18) (by kernel_rfl) (by kernel_rfl) (by kernel_rfl) (by kernel_rfl) (by kernel_rfl) (Nat.le_of_ble_eq_true rfl) (yi8l Q Q (tinit [x0]) h H0) (by kernel_rfl)
def ybq4 (x0 x1 x2 x7 : Value) (h : H) (Kn : K4) (Kr : K0) (Ke0 : K0) : Prop :=
  u_bin PG .lss T_int x7 (.int .i64 4) fun v8 => u_if v8 (u_bin PG .add T_int x1 x7 fun v13 => u_bin PG .mul T_int (.int .i64 8) x7 fun v16 => u_bin PG .shr ycpa x2 v16 fun v17 => y2x6 .u8 v17 fun v18 => yji6 none 1 x0 v13 fun v19 => ylel 1 v19 v18 h fun h => u_bin PG .add T_int x7 (.int .i64 1) fun v20 => Kn x0 x1 x2 v20 h) (Ke0 h)
theorem yyc5 (Kn : K4) (Kr : K0) (Ke0 : K0) (t : T) (h : H) (H0 : ybq4 (t 0) (t 1) (t 2) (t 7) h Kn Kr Ke0) : Wp PG 21 (lopC (blkC (rest 1 (ygjk Tryz.f278.body)))) (mkQ (q4 Kn 0 1 2 7) (q0 Kr) (keAdd 0 (q0 Ke0) ke0)) t h :=
  wpEqC E5_ok H0 (by kernel_rfl)
def ypfd (x0 x1 x2 x7 : Value) (h : H) (Kn : K0) (Kr : K0) (Ke0 : K0) : Prop :=
  sloop (S := Value × Value × Value × Value) (fun s h K => ybq4 s.1 s.2.1 s.2.2.1 s.2.2.2 h (fun y0 y1 y2 y7 h => K (y0, y1, y2, y7) h) Kr Ke0) (x0, x1, x2, x7) h
theorem yudy (Kn : K0) (Kr : K0) (Ke0 : K0) (t : T) (h : H) (H0 : ypfd (t 0) (t 1) (t 2) (t 7) h Kn Kr Ke0) : Wp PG 21 (blkC (rest 1 (ygjk Tryz.f278.body))) (mkQ (q0 Kn) (q0 Kr) (keAdd 0 (q0 Ke0) ke0)) t h :=
  yv0a (fun t => (t 0, t 1, t 2, t 7)) (by kernel_rfl) (fun t h K H1 => yyc5 (fun y0 y1 y2 y7 h => K (y0, y1, y2, y7) h) Kr Ke0 t h H1) H0
def yhj6 (x0 x1 x2 x7 : Value) (h : H) (Kn : K0) (Kr : K0) : Prop :=
  ypfd x0 x1 x2 x7 h Kn Kr Kn
theorem y70b (Kn : K0) (Kr : K0) (t : T) (h : H) (H0 : yhj6 (t 0) (t 1) (t 2) (t 7) h Kn Kr) : Wp PG 21 (rest 1 (ygjk Tryz.f278.body)) (mkQ (q0 Kn) (q0 Kr) ke0) t h :=
  y6tu 0 (by kernel_rfl) (by kernel_rfl) (yudy Kn Kr Kn t h H0)
def yqvc (x0 x1 x2 : Value) (h : H) (Kn : K0) (Kr : K0) : Prop :=
  yhj6 x0 x1 x2 (.int .i64 0) h Kn Kr
theorem yisd (Kn : K0) (Kr : K0) (t : T) (h : H) (H0 : yqvc (t 0) (t 1) (t 2) h Kn Kr) : Wp PG 21 (ygjk Tryz.f278.body) (mkQ (q0 Kn) (q0 Kr) ke0) t h :=
  yvnp E5_ok 1 H0 (by kernel_rfl) (fun t h (H1 : yhj6 (t 0) (t 1) (t 2) (t 7) h Kn Kr) => y70b Kn Kr t h H1) (by kernel_rfl)
def y5cc (x0 x1 x2 : Value) (h : H) (Q : K1) : Prop := yqvc x0 x1 x2 h (fun h => bif [].all boxV then Q (.tuple #[]) h else False) (fun h => bif [].all boxV then Q (.tuple #[]) h else False)
theorem y8pi (x0 x1 x2 : Value) (h : H) (Q : K1) (H0 : y5cc x0 x1 x2 h Q) : AM.Spec PG y3rk [x0, x1, x2] h Q :=
  yqxt mixed (fn := Tryz.f278) Tryz.func278 (c := ygjk Tryz.f278.body) (rs := []) (N := 21) (by kernel_rfl) (by kernel_rfl) (by kernel_rfl) (by kernel_rfl) (by kernel_rfl) (Nat.le_of_ble_eq_true rfl) (yisd (fun h => bif [].all boxV then Q (.tuple #[]) h else False) (fun h => bif [].all boxV then Q (.tuple #[]) h else False) (tinit [x0, x1, x2]) h H0) (by kernel_rfl)
def ypsh (x0 x6 x19 x20 x21 : Value) (h : H) (Kn : K5) (Kr : K4) (Ke0 : K2) : Prop :=
  u_bin PG .lss T_int x21 x20 fun v22 => u_if v22 (u_ix false 1 none x19 x21 h fun v24 => u_bin PG .add yomn v24 (.string { data := #[0] }) fun v27 => u_bin PG .add yomn x6 v27 fun v28 => u_bin PG .add T_int x21 (.int .i64 1) fun v29 => Kn x0 v28 x19 x20 v29 h) (Ke0 x0 x6 h)
theorem yfqv (Kn : K5) (Kr : K4) (Ke0 : K2) (t : T) (h : H) (H0 : ypsh (t 0) (t 6) (t 19) (t 20) (t 21) h Kn Kr Ke0) : Wp PG 93 (lopC (blkC (rest 1 (seqL (rest 3 (ygjk Tryz.f214.body)))))) (mkQ (q5 Kn 0 6 19 20 21) (q4 Kr 2 3 4 5) (keAdd 0 (q2 Ke0 0 6) ke0)) t h :=
  wpEqC E5_ok H0 (by kernel_rfl)
def yusv (x0 x6 x19 x20 x21 : Value) (h : H) (Kn : K2) (Kr : K4) (Ke0 : K2) : Prop :=
  sloop (S := Value × Value × Value × Value × Value) (fun s h K => ypsh s.1 s.2.1 s.2.2.1 s.2.2.2.1 s.2.2.2.2 h (fun y0 y6 y19 y20 y21 h => K (y0, y6, y19, y20, y21) h) Kr Ke0) (x0, x6, x19, x20, x21) h
theorem yrka (Kn : K2) (Kr : K4) (Ke0 : K2) (t : T) (h : H) (H0 : yusv (t 0) (t 6) (t 19) (t 20) (t 21) h Kn Kr Ke0) : Wp PG 93 (blkC (rest 1 (seqL (rest 3 (ygjk Tryz.f214.body))))) (mkQ (q2 Kn 0 6) (q4 Kr 2 3 4 5) (keAdd 0 (q2 Ke0 0 6) ke0)) t h :=
  yv0a (fun t => (t 0, t 6, t 19, t 20, t 21)) (by kernel_rfl) (fun t h K H1 => yfqv (fun y0 y6 y19 y20 y21 h => K (y0, y6, y19, y20, y21) h) Kr Ke0 t h H1) H0
def y6te (x0 x6 x19 x20 x21 : Value) (h : H) (Kn : K2) (Kr : K4) : Prop :=
  yusv x0 x6 x19 x20 x21 h Kn Kr Kn
theorem y562 (Kn : K2) (Kr : K4) (t : T) (h : H) (H0 : y6te (t 0) (t 6) (t 19) (t 20) (t 21) h Kn Kr) : Wp PG 93 (rest 1 (seqL (rest 3 (ygjk Tryz.f214.body)))) (mkQ (q2 Kn 0 6) (q4 Kr 2 3 4 5) ke0) t h :=
  y6tu 0 (by kernel_rfl) (by kernel_rfl) (yrka Kn Kr Kn t h H0)
def ygdq (x0 x6 : Value) (h : H) (Kn : K2) (Kr : K4) : Prop :=
  ywmm x0 fun v20 => y6te x0 x6 x0 v20 (.int .i64 0) h Kn Kr
theorem yi4c (Kn : K2) (Kr : K4) (t : T) (h : H) (H0 : ygdq (t 0) (t 6) h Kn Kr) : Wp PG 93 (seqL (rest 3 (ygjk Tryz.f214.body))) (mkQ (q2 Kn 0 6) (q4 Kr 2 3 4 5) ke0) t h :=
  yvnp E5_ok 1 H0 (by kernel_rfl) (fun t h (H1 : y6te (t 0) (t 6) (t 19) (t 20) (t 21) h Kn Kr) => y562 Kn Kr t h H1) (by kernel_rfl)
def y8g9 (x9 x10 x11 x12 x56 x57 x58 : Value) (h : H) (Kn : K7) (Kr : K4) (Ke2 : K3) : Prop :=
  u_bin PG .lss T_int x58 x57 fun v59 => u_if v59 (u_ix false 1 none x56 x58 h fun v62 => y2x6 .u32 x10 fun v64 => u_bin PG .add ycpa (.int .u32 2147475456) v64 fun v65 => y5hj v62 fun v67 => ysnr PG yfwk [(0, v65), (1, v67)] fun v68 => u_new [.int .u32 0, .int .i64 0] yfwk .exact h fun b15 h => ylel 2 (.pointer (some ⟨b15, 0, none⟩)) v68 h fun h => u_bin PG .add T_int x58 (.int .i64 1) fun v72 => u_bin PG .mul T_int (.int .i64 4) v72 fun v73 => u_bin PG .add T_int x11 v73 fun v74 => u_bf false 1 0 (.pointer (some ⟨b15, 0, none⟩)) h fun v76 => yjdf PG y3rk [x9, v74, v76] h fun v77 h => ybqh true 2 (.pointer (some ⟨b15, 0, none⟩)) h fun v79 => ynqb PG yfwd 1 [(0, v79)] h fun v80 h => yx4h yfwk 2 16 x12 v80 h fun v81 h => y5hj v62 fun v84 => u_bin PG .add T_int v84 (.int .i64 1) fun v85 => u_bin PG .add T_int x10 v85 fun v86 => u_bin PG .add T_int x58 (.int .i64 1) fun v87 => Kn x9 v86 x11 v81 x56 x57 v87 h) (Ke2 x9 x11 x12 h)
theorem y9mg (Kn : K7) (Kr : K4) (Ke2 : K3) (t : T) (h : H) (H0 : y8g9 (t 9) (t 10) (t 11) (t 12) (t 56) (t 57) (t 58) h Kn Kr Ke2) : Wp PG 93 (lopC (blkC (rest 1 (seqL (rest 7 (seqR (rest 3 (ygjk Tryz.f214.body)))))))) (mkQ (fun t h => Kn (t 9) (t 10) (t 11) (t 12) (t 56) (t 57) (t 58) h) (q4 Kr 2 3 4 5) (keAdd 2 (q3 Ke2 9 11 12) ke0)) t h :=
  wpEqC E5_ok H0 (by kernel_rfl)
def yh44 (x9 x10 x11 x12 x56 x57 x58 : Value) (h : H) (Kn : K3) (Kr : K4) (Ke2 : K3) : Prop :=
  sloop (S := Value × Value × Value × Value × Value × Value × Value) (fun s h K => y8g9 s.1 s.2.1 s.2.2.1 s.2.2.2.1 s.2.2.2.2.1 s.2.2.2.2.2.1 s.2.2.2.2.2.2 h (fun y9 y10 y11 y12 y56 y57 y58 h => K (y9, y10, y11, y12, y56, y57, y58) h) Kr Ke2) (x9, x10, x11, x12, x56, x57, x58) h
theorem y989 (Kn : K3) (Kr : K4) (Ke2 : K3) (t : T) (h : H) (H0 : yh44 (t 9) (t 10) (t 11) (t 12) (t 56) (t 57) (t 58) h Kn Kr Ke2) : Wp PG 93 (blkC (rest 1 (seqL (rest 7 (seqR (rest 3 (ygjk Tryz.f214.body))))))) (mkQ (q3 Kn 9 11 12) (q4 Kr 2 3 4 5) (keAdd 2 (q3 Ke2 9 11 12) ke0)) t h :=
  yv0a (fun t => (t 9, t 10, t 11, t 12, t 56, t 57, t 58)) (by kernel_rfl) (fun t h K H1 => y9mg (fun y9 y10 y11 y12 y56 y57 y58 h => K (y9, y10, y11, y12, y56, y57, y58) h) Kr Ke2 t h H1) H0
def yxzz (x9 x10 x11 x12 x56 x57 x58 : Value) (h : H) (Kn : K3) (Kr : K4) : Prop :=
  yh44 x9 x10 x11 x12 x56 x57 x58 h Kn Kr Kn
theorem y8ey (Kn : K3) (Kr : K4) (t : T) (h : H) (H0 : yxzz (t 9) (t 10) (t 11) (t 12) (t 56) (t 57) (t 58) h Kn Kr) : Wp PG 93 (rest 1 (seqL (rest 7 (seqR (rest 3 (ygjk Tryz.f214.body)))))) (mkQ (q3 Kn 9 11 12) (q4 Kr 2 3 4 5) ke0) t h :=
  y6tu 2 (by kernel_rfl) (by kernel_rfl) (y989 Kn Kr Kn t h H0)
def y38p (x0 x9 x10 x11 x12 : Value) (h : H) (Kn : K3) (Kr : K4) : Prop :=
  ywmm x0 fun v57 => yxzz x9 x10 x11 x12 x0 v57 (.int .i64 0) h Kn Kr
theorem yek8 (Kn : K3) (Kr : K4) (t : T) (h : H) (H0 : y38p (t 0) (t 9) (t 10) (t 11) (t 12) h Kn Kr) : Wp PG 93 (seqL (rest 7 (seqR (rest 3 (ygjk Tryz.f214.body))))) (mkQ (q3 Kn 9 11 12) (q4 Kr 2 3 4 5) ke0) t h :=
  yvnp E5_ok 1 H0 (by kernel_rfl) (fun t h (H1 : yxzz (t 9) (t 10) (t 11) (t 12) (t 56) (t 57) (t 58) h Kn Kr) => y8ey Kn Kr t h H1) (by kernel_rfl)
def yh6i (x9 x11 x12 : Value) (h : H) (Kn : K4) (Kr : K4) : Prop :=
  y2x6 .u32 x11 fun v90 => u_bin PG .add ycpa (.int .u32 2147475456) v90 fun v91 => Kr x9 v91 x12 (.int .i64 0) h
theorem y4qd (Kn : K4) (Kr : K4) (t : T) (h : H) (H0 : yh6i (t 9) (t 11) (t 12) h Kn Kr) : Wp PG 93 (seqR (rest 7 (seqR (rest 3 (ygjk Tryz.f214.body))))) (mkQ (q4 Kn 2 3 4 5) (q4 Kr 2 3 4 5) ke0) t h :=
  wpEqC E5_ok H0 (by kernel_rfl)
def yt2s (x0 x9 x10 x11 x12 : Value) (h : H) (Kn : K4) (Kr : K4) : Prop :=
  y38p x0 x9 x10 x11 x12 h (fun y9 y11 y12 h => yh6i y9 y11 y12 h Kn Kr) Kr
theorem y8vt (Kn : K4) (Kr : K4) (t : T) (h : H) (H0 : yt2s (t 0) (t 9) (t 10) (t 11) (t 12) h Kn Kr) : Wp PG 93 (rest 7 (seqR (rest 3 (ygjk Tryz.f214.body)))) (mkQ (q4 Kn 2 3 4 5) (q4 Kr 2 3 4 5) ke0) t h :=
  ykv2 (by kernel_rfl) (fun t h H1 => y4qd Kn Kr t h H1) (yek8 (fun y9 y11 y12 h => yh6i y9 y11 y12 h Kn Kr) Kr t h H0)
def ysxt (x0 x6 : Value) (h : H) (Kn : K4) (Kr : K4) : Prop :=
  y5hj x6 fun v31 => u_bin PG .gtr T_int v31 (.int .i64 3000) fun v32 => u_if v32 (Kr (.slice none 0 0) (.int .u32 0) (.slice none 0 0) (.int .i64 2) h) (y9kb [.int .u8 0] 1 1 5 (.int .i64 4096) (.int .i64 4096) h fun v33 h => y5hj x6 fun v35 => u_bin PG .sub T_int (.int .i64 4096) v35 fun v36 => y4a7 1 v33 (some v36) none none fun v39 => yyhb 1 v39 x6 h fun v41 h => ywmm x0 fun v44 => u_bin PG .add T_int v44 (.int .i64 3) fun v45 => u_bin PG .mul T_int (.int .i64 4) v45 fun v46 => u_bin PG .sub T_int v36 v46 fun v47 => u_bin PG .quo T_int v47 (.int .i64 16) fun v48 => u_bin PG .mul T_int v48 (.int .i64 16) fun v49 => ywmm x0 fun v53 => y2x6 .u32 v53 fun v54 => yjdf PG y3rk [v33, v49, v54] h fun v55 h => yt2s x0 v33 v36 v49 (.slice none 0 0) h Kn Kr)
theorem yj7o (Kn : K4) (Kr : K4) (t : T) (h : H) (H0 : ysxt (t 0) (t 6) h Kn Kr) : Wp PG 93 (seqR (rest 3 (ygjk Tryz.f214.body))) (mkQ (q4 Kn 2 3 4 5) (q4 Kr 2 3 4 5) ke0) t h :=
  yvnp E5_ok 7 H0 (by kernel_rfl) (fun t h (H1 : yt2s (t 0) (t 9) (t 10) (t 11) (t 12) h Kn Kr) => y8vt Kn Kr t h H1) (by kernel_rfl)
def yfbt (x0 x6 : Value) (h : H) (Kn : K4) (Kr : K4) : Prop :=
  ygdq x0 x6 h (fun y0 y6 h => ysxt y0 y6 h Kn Kr) Kr
theorem yfkq (Kn : K4) (Kr : K4) (t : T) (h : H) (H0 : yfbt (t 0) (t 6) h Kn Kr) : Wp PG 93 (rest 3 (ygjk Tryz.f214.body)) (mkQ (q4 Kn 2 3 4 5) (q4 Kr 2 3 4 5) ke0) t h :=
  ykv2 (by kernel_rfl) (fun t h H1 => yj7o Kn Kr t h H1) (yi4c (fun y0 y6 h => ysxt y0 y6 h Kn Kr) Kr t h H0)
def y44k (x0 : Value) (h : H) (Kn : K4) (Kr : K4) : Prop :=
  yjdf PG ygag [x0] h fun v17 h => u_un PG .not v17 fun v18 => u_if v18 (Kr (.slice none 0 0) (.int .u32 0) (.slice none 0 0) (.int .i64 1) h) (yfbt x0 (.string { data := #[] }) h Kn Kr)
theorem yqan (Kn : K4) (Kr : K4) (t : T) (h : H) (H0 : y44k (t 0) h Kn Kr) : Wp PG 93 (ygjk Tryz.f214.body) (mkQ (q4 Kn 2 3 4 5) (q4 Kr 2 3 4 5) ke0) t h :=
  yvnp E5_ok 3 H0 (by kernel_rfl) (fun t h (H1 : yfbt (t 0) (t 6) h Kn Kr) => yfkq Kn Kr t h H1) (by kernel_rfl)
def y2v2 (x0 : Value) (h : H) (Q : K1) : Prop := y44k x0 h (fun y2 y3 y4 y5 h => bif [y2, y3, y4, y5].all boxV then Q (.tuple #[y2, y3, y4, y5]) h else False) (fun y2 y3 y4 y5 h => bif [y2, y3, y4, y5].all boxV then Q (.tuple #[y2, y3, y4, y5]) h else False)
theorem ybpt (x0 : Value) (h : H) (Q : K1) (H0 : y2v2 x0 h Q) : AM.Spec PG ybm3 [x0] h Q :=
  yqxt mixed (fn := Tryz.f214) Tryz.func214 (c := ygjk Tryz.f214.body) (rs := [2, 3, 4, 5]) (N := 93) (by kernel_rfl) (by kernel_rfl) (by kernel_rfl) (by kernel_rfl) (by kernel_rfl) (Nat.le_of_ble_eq_true rfl) (yqan (fun y2 y3 y4 y5 h => bif [y2, y3, y4, y5].all boxV then Q (.tuple #[y2, y3, y4, y5]) h else False) (fun y2 y3 y4 y5 h => bif [y2, y3, y4, y5].all boxV then Q (.tuple #[y2, y3, y4, y5]) h else False) (tinit [x0]) h H0) (by kernel_rfl)
def yppp (x0 x1 : Value) (h : H) (Kn : K3) (Kr : K3) : Prop :=
  yjdf PG ybm3 [x1] h fun v15 h => yvu8 v15 0 fun v16 => yvu8 v15 1 fun v17 => yvu8 v15 2 fun v18 => yvu8 v15 3 fun v19 => u_bin PG .neq ya0f v19 (.int .i64 0) fun v21 => u_if v21 (Kr (.int .u32 0) (.slice none 0 0) v19 h) (yjdf PG yhif [x0, (.int .u32 2147475456), (.int .u32 4096), (.int .i64 3)] h fun v24 h => u_bin PG .neq ya0f v24 (.int .i64 0) fun v26 => u_if v26 (Kr (.int .u32 0) (.slice none 0 0) v24 h) (yjdf PG ylv9 [x0, (.int .u32 2147475456), v16] h fun v30 h => u_bin PG .neq ya0f v30 (.int .i64 0) fun v32 => u_if v32 (Kr (.int .u32 0) (.slice none 0 0) v30 h) (Kr v17 v18 (.int .i64 0) h)))
theorem ytou (Kn : K3) (Kr : K3) (t : T) (h : H) (H0 : yppp (t 0) (t 1) h Kn Kr) : Wp PG 36 (ygjk Tryz.f143.body) (mkQ (q3 Kn 4 5 6) (q3 Kr 4 5 6) ke0) t h :=
  wpEqC E5_ok H0 (by kernel_rfl)
def yd9e (x0 x1 : Value) (h : H) (Q : K1) : Prop := yppp x0 x1 h (fun y4 y5 y6 h => bif [y4, y5, y6].all boxV then Q (.tuple #[y4, y5, y6]) h else False) (fun y4 y5 y6 h => bif [y4, y5, y6].all boxV then Q (.tuple #[y4, y5, y6]) h else False)
theorem y3ry (x0 x1 : Value) (h : H) (Q : K1) (H0 : yd9e x0 x1 h Q) : AM.Spec PG yhhb [x0, x1] h Q :=
  yqxt mixed (fn := Tryz.f143) Tryz.func143 (c := ygjk Tryz.f143.body) (rs := [4, 5, 6]) (N := 36) (by kernel_rfl) (by kernel_rfl) (by kernel_rfl) (by kernel_rfl) (by kernel_rfl) (Nat.le_of_ble_eq_true rfl) (ytou (fun y4 y5 y6 h => bif [y4, y5, y6].all boxV then Q (.tuple #[y4, y5, y6]) h else False) (fun y4 y5 y6 h => bif [y4, y5, y6].all boxV then Q (.tuple #[y4, y5, y6]) h else False) (tinit [x0, x1]) h H0) (by kernel_rfl)
def yhrb (x3 x4 x5 x6 x7 : Value) (h : H) (Kn : K5) (Kr : K2) : Prop :=
  ybqh true 3 x6 h fun v28 => ybqh true 6 x7 h fun v30 => ybqh true 2 x5 h fun v32 => ybqh true 2 x5 h fun v34 => yjdf PG y4s5 [v28] h fun v29 h => (ybqh true 6 x7 h fun w30 => w30 = v30) ∧ (ybqh true 2 x5 h fun w32 => w32 = v32) ∧ (ybqh true 2 x5 h fun w34 => w34 = v34) ∧ yjdf PG yrso [v30] h fun v31 h => (ybqh true 2 x5 h fun w32 => w32 = v32) ∧ (ybqh true 2 x5 h fun w34 => w34 = v34) ∧ yjdf PG yl1q [v32] h fun v33 h => (ybqh true 2 x5 h fun w34 => w34 = v34) ∧ yjdf PG yl1q [v34] h fun v35 h => ysnr PG ynne [(5, v29), (4, v31), (6, v33), (7, v35)] fun v36 => boxV v36 = true ∧ u_new (Value.cells v36).toList ynne .exact h fun b37 h => Kn x3 x4 x5 x7 (.pointer (some ⟨b37, 0, none⟩)) h
theorem yzjr (Kn : K5) (Kr : K2) (t : T) (h : H) (H0 : yhrb (t 3) (t 4) (t 5) (t 6) (t 7) h Kn Kr) : Wp PG 112 (seqL (rest 2 (ygjk Tryz.f43.body))) (mkQ (q5 Kn 3 4 5 7 13) (q2 Kr 10 11) ke0) t h :=
  ynwd E5_ok [(0, [], []), (2, [], []), (4, [], []), (6, [], []), (1, [2, 4, 6], []), (3, [4, 6], []), (5, [6], []), (7, [], []), (8, [], []), (9, [], []), (10, [], [])] (by kernel_rfl) (by kernel_rfl) H0 (by kernel_rfl)
def yd7u (x5 x7 x13 : Value) (h : H) (Kn : K5) (Kr : K2) : Prop :=
  u_pf false 1 0 x13 h fun v71 => u_bf false 1 0 x7 h fun v73 => yjdf PG yhhb [v71, v73] h fun v74 h => yvu8 v74 0 fun v75 => yvu8 v74 1 fun v76 => yvu8 v74 2 fun v77 => Kn x5 x13 v77 v75 v76 h
theorem yn6k (Kn : K5) (Kr : K2) (t : T) (h : H) (H0 : yd7u (t 5) (t 7) (t 13) h Kn Kr) : Wp PG 112 (seqL (rest 4 (seqR (rest 2 (ygjk Tryz.f43.body))))) (mkQ (q5 Kn 5 13 14 16 17) (q2 Kr 10 11) ke0) t h :=
  ybop E5_ok [0, 1, 2, 3, 4, 5, 6, 7, 8, 9, 10, 11, 12, 13] (by kernel_rfl) (by kernel_rfl) H0 (by kernel_rfl)
def ybse (x5 x13 x16 x17 x85 x86 x87 : Value) (h : H) (Kn : K7) (Kr : K2) (Ke0 : K3) : Prop :=
  u_bin PG .lss T_int x87 x86 fun v88 => u_if v88 (u_ix true 4 none x85 x87 h fun v90 => u_new [.int .i64 0, .int .u32 0, .int .u32 0, .int .u8 0] yqxz .exact h fun b19 h => ylel 4 (.pointer (some ⟨b19, 0, none⟩)) v90 h fun h => ybqh true 4 (.pointer (some ⟨b19, 0, none⟩)) h fun v92 => yjdf PG yxz6 [x13, v92, x17] h fun v94 h => u_bin PG .neq ya0f v94 (.int .i64 0) fun v96 => u_if v96 (Kr (.pointer none) v94 h) (u_bin PG .add T_int x87 (.int .i64 1) fun v98 => Kn x5 x13 x16 x17 x85 x86 v98 h)) (Ke0 x5 x13 x16 h)
theorem yt03 (Kn : K7) (Kr : K2) (Ke0 : K3) (t : T) (h : H) (H0 : ybse (t 5) (t 13) (t 16) (t 17) (t 85) (t 86) (t 87) h Kn Kr Ke0) : Wp PG 112 (lopC (blkC (rest 1 (seqL (rest 1 (seqR (rest 4 (seqR (rest 2 (ygjk Tryz.f43.body)))))))))) (mkQ (fun t h => Kn (t 5) (t 13) (t 16) (t 17) (t 85) (t 86) (t 87) h) (q2 Kr 10 11) (keAdd 0 (q3 Ke0 5 13 16) ke0)) t h :=
  wpEqC E5_ok H0 (by kernel_rfl)
def yw31 (x5 x13 x16 x17 x85 x86 x87 : Value) (h : H) (Kn : K3) (Kr : K2) (Ke0 : K3) : Prop :=
  sloop (S := Value × Value × Value × Value × Value × Value × Value) (fun s h K => ybse s.1 s.2.1 s.2.2.1 s.2.2.2.1 s.2.2.2.2.1 s.2.2.2.2.2.1 s.2.2.2.2.2.2 h (fun y5 y13 y16 y17 y85 y86 y87 h => K (y5, y13, y16, y17, y85, y86, y87) h) Kr Ke0) (x5, x13, x16, x17, x85, x86, x87) h
theorem yupr (Kn : K3) (Kr : K2) (Ke0 : K3) (t : T) (h : H) (H0 : yw31 (t 5) (t 13) (t 16) (t 17) (t 85) (t 86) (t 87) h Kn Kr Ke0) : Wp PG 112 (blkC (rest 1 (seqL (rest 1 (seqR (rest 4 (seqR (rest 2 (ygjk Tryz.f43.body))))))))) (mkQ (q3 Kn 5 13 16) (q2 Kr 10 11) (keAdd 0 (q3 Ke0 5 13 16) ke0)) t h :=
  yv0a (fun t => (t 5, t 13, t 16, t 17, t 85, t 86, t 87)) (by kernel_rfl) (fun t h K H1 => yt03 (fun y5 y13 y16 y17 y85 y86 y87 h => K (y5, y13, y16, y17, y85, y86, y87) h) Kr Ke0 t h H1) H0
def yqgx (x5 x13 x16 x17 x85 x86 x87 : Value) (h : H) (Kn : K3) (Kr : K2) : Prop :=
  yw31 x5 x13 x16 x17 x85 x86 x87 h Kn Kr Kn
theorem y8rm (Kn : K3) (Kr : K2) (t : T) (h : H) (H0 : yqgx (t 5) (t 13) (t 16) (t 17) (t 85) (t 86) (t 87) h Kn Kr) : Wp PG 112 (rest 1 (seqL (rest 1 (seqR (rest 4 (seqR (rest 2 (ygjk Tryz.f43.body)))))))) (mkQ (q3 Kn 5 13 16) (q2 Kr 10 11) ke0) t h :=
  y6tu 0 (by kernel_rfl) (by kernel_rfl) (yupr Kn Kr Kn t h H0)
def yoba (x5 x13 x16 x17 : Value) (h : H) (Kn : K3) (Kr : K2) : Prop :=
  y394 x13 fun v82 => y0wt 165 v82 fun v83 => u_bf false 1 1 v83 h fun v85 => ywmm v85 fun v86 => yqgx x5 x13 x16 x17 v85 v86 (.int .i64 0) h Kn Kr
theorem ymm0 (Kn : K3) (Kr : K2) (t : T) (h : H) (H0 : yoba (t 5) (t 13) (t 16) (t 17) h Kn Kr) : Wp PG 112 (seqL (rest 1 (seqR (rest 4 (seqR (rest 2 (ygjk Tryz.f43.body))))))) (mkQ (q3 Kn 5 13 16) (q2 Kr 10 11) ke0) t h :=
  yvnp E5_ok 1 H0 (by kernel_rfl) (fun t h (H1 : yqgx (t 5) (t 13) (t 16) (t 17) (t 85) (t 86) (t 87) h Kn Kr) => y8rm Kn Kr t h H1) (by kernel_rfl)
def y4zr (x5 x13 x16 : Value) (h : H) (Kn : K2) (Kr : K2) : Prop :=
  u_bf false 1 0 x5 h fun v101 => y394 x13 fun v102 => y0wt 2 v102 fun v103 => u_st 1 32 v103 v101 h fun h => y394 x13 fun v107 => y0wt 2 v107 fun v108 => y0wt 0 v108 fun v109 => yji6 (some 32) 1 v109 (.int .i64 2) fun v110 => ylel 1 v110 x16 h fun h => Kr x13 (.int .i64 0) h
theorem yi61 (Kn : K2) (Kr : K2) (t : T) (h : H) (H0 : y4zr (t 5) (t 13) (t 16) h Kn Kr) : Wp PG 112 (seqR (rest 1 (seqR (rest 4 (seqR (rest 2 (ygjk Tryz.f43.body))))))) (mkQ (q2 Kn 10 11) (q2 Kr 10 11) ke0) t h :=
  wpEqC E5_ok H0 (by kernel_rfl)
def ybf2 (x5 x13 x16 x17 : Value) (h : H) (Kn : K2) (Kr : K2) : Prop :=
  yoba x5 x13 x16 x17 h (fun y5 y13 y16 h => y4zr y5 y13 y16 h Kn Kr) Kr
theorem yt1j (Kn : K2) (Kr : K2) (t : T) (h : H) (H0 : ybf2 (t 5) (t 13) (t 16) (t 17) h Kn Kr) : Wp PG 112 (rest 1 (seqR (rest 4 (seqR (rest 2 (ygjk Tryz.f43.body)))))) (mkQ (q2 Kn 10 11) (q2 Kr 10 11) ke0) t h :=
  ykv2 (by kernel_rfl) (fun t h H1 => yi61 Kn Kr t h H1) (ymm0 (fun y5 y13 y16 h => y4zr y5 y13 y16 h Kn Kr) Kr t h H0)
def yfc7 (x5 x13 x14 x16 x17 : Value) (h : H) (Kn : K2) (Kr : K2) : Prop :=
  u_bin PG .neq ya0f x14 (.int .i64 0) fun v79 => u_if v79 (Kr (.pointer none) x14 h) (ybf2 x5 x13 x16 x17 h Kn Kr)
theorem ygrx (Kn : K2) (Kr : K2) (t : T) (h : H) (H0 : yfc7 (t 5) (t 13) (t 14) (t 16) (t 17) h Kn Kr) : Wp PG 112 (seqR (rest 4 (seqR (rest 2 (ygjk Tryz.f43.body))))) (mkQ (q2 Kn 10 11) (q2 Kr 10 11) ke0) t h :=
  yvnp E5_ok 1 H0 (by kernel_rfl) (fun t h (H1 : ybf2 (t 5) (t 13) (t 16) (t 17) h Kn Kr) => yt1j Kn Kr t h H1) (by kernel_rfl)
def y6nv (x5 x7 x13 : Value) (h : H) (Kn : K2) (Kr : K2) : Prop :=
  yd7u x5 x7 x13 h (fun y5 y13 y14 y16 y17 h => yfc7 y5 y13 y14 y16 y17 h Kn Kr) Kr
theorem ygyg (Kn : K2) (Kr : K2) (t : T) (h : H) (H0 : y6nv (t 5) (t 7) (t 13) h Kn Kr) : Wp PG 112 (rest 4 (seqR (rest 2 (ygjk Tryz.f43.body)))) (mkQ (q2 Kn 10 11) (q2 Kr 10 11) ke0) t h :=
  ykv2 (by kernel_rfl) (fun t h H1 => ygrx Kn Kr t h H1) (yn6k (fun y5 y13 y14 y16 y17 h => yfc7 y5 y13 y14 y16 y17 h Kn Kr) Kr t h H0)
def yrnp (x3 x4 x5 x7 x13 : Value) (h : H) (Kn : K2) (Kr : K2) : Prop :=
  yjdf PG ynsj [x3] h fun v41 h => yvu8 v41 0 fun v42 => yvu8 v41 1 fun v43 => y394 x13 fun v44 => u_st 1 0 v44 v42 h fun h => u_bin PG .neq ya0f v43 (.int .i64 0) fun v47 => u_if v47 (Kr (.pointer none) v43 h) (yjdf PG yge9 [x4] h fun v52 h => yvu8 v52 0 fun v53 => yvu8 v52 1 fun v54 => y394 x13 fun v55 => u_st 1 1 v55 v53 h fun h => u_bin PG .neq ya0f v54 (.int .i64 0) fun v58 => u_if v58 (Kr (.pointer none) v54 h) (u_bf false 1 1 x5 h fun v62 => yjdf PG ysm3 [x13, v62] h fun v63 h => u_bin PG .neq ya0f v63 (.int .i64 0) fun v65 => u_if v65 (Kr (.pointer none) v63 h) (y6nv x5 x7 x13 h Kn Kr)))
theorem ym5b (Kn : K2) (Kr : K2) (t : T) (h : H) (H0 : yrnp (t 3) (t 4) (t 5) (t 7) (t 13) h Kn Kr) : Wp PG 112 (seqR (rest 2 (ygjk Tryz.f43.body))) (mkQ (q2 Kn 10 11) (q2 Kr 10 11) ke0) t h :=
  yvnp E5_ok 4 H0 (by kernel_rfl) (fun t h (H1 : y6nv (t 5) (t 7) (t 13) h Kn Kr) => ygyg Kn Kr t h H1) (by kernel_rfl)
def yb6e (x3 x4 x5 x6 x7 : Value) (h : H) (Kn : K2) (Kr : K2) : Prop :=
  yhrb x3 x4 x5 x6 x7 h (fun y3 y4 y5 y7 y13 h => yrnp y3 y4 y5 y7 y13 h Kn Kr) Kr
theorem yuk3 (Kn : K2) (Kr : K2) (t : T) (h : H) (H0 : yb6e (t 3) (t 4) (t 5) (t 6) (t 7) h Kn Kr) : Wp PG 112 (rest 2 (ygjk Tryz.f43.body)) (mkQ (q2 Kn 10 11) (q2 Kr 10 11) ke0) t h :=
  ykv2 (by kernel_rfl) (fun t h H1 => ym5b Kn Kr t h H1) (yzjr (fun y3 y4 y5 y7 y13 h => yrnp y3 y4 y5 y7 y13 h Kn Kr) Kr t h H0)
def yw9r (x0 x1 x2 x3 x4 : Value) (h : H) (Kn : K2) (Kr : K2) : Prop :=
  boxV x0 = true ∧ u_new (Value.cells x0).toList y33u .exact h fun b5 h => boxV x1 = true ∧ u_new (Value.cells x1).toList y4pp .exact h fun b6 h => boxV x2 = true ∧ u_new (Value.cells x2).toList ylzr .exact h fun b7 h => ybqh true 2 (.pointer (some ⟨b5, 0, none⟩)) h fun v21 => ybqh true 3 (.pointer (some ⟨b6, 0, none⟩)) h fun v22 => ybqh true 6 (.pointer (some ⟨b7, 0, none⟩)) h fun v23 => yjdf PG y4nn [v21, v22, v23] h fun v24 h => u_bin PG .neq ya0f v24 (.int .i64 0) fun v26 => u_if v26 (Kr (.pointer none) v24 h) (yb6e x3 x4 (.pointer (some ⟨b5, 0, none⟩)) (.pointer (some ⟨b6, 0, none⟩)) (.pointer (some ⟨b7, 0, none⟩)) h Kn Kr)
theorem yiqu (Kn : K2) (Kr : K2) (t : T) (h : H) (H0 : yw9r (t 0) (t 1) (t 2) (t 3) (t 4) h Kn Kr) : Wp PG 112 (ygjk Tryz.f43.body) (mkQ (q2 Kn 10 11) (q2 Kr 10 11) ke0) t h :=
  yvnp E5_ok 2 H0 (by kernel_rfl) (fun t h (H1 : yb6e (t 3) (t 4) (t 5) (t 6) (t 7) h Kn Kr) => yuk3 Kn Kr t h H1) (by kernel_rfl)
def y3x1 (x0 x1 x2 x3 x4 : Value) (h : H) (Q : K1) : Prop := yw9r x0 x1 x2 x3 x4 h (fun y10 y11 h => bif [y10, y11].all boxV then Q (.tuple #[y10, y11]) h else False) (fun y10 y11 h => bif [y10, y11].all boxV then Q (.tuple #[y10, y11]) h else False)
theorem y2up (x0 x1 x2 x3 x4 : Value) (h : H) (Q : K1) (H0 : y3x1 x0 x1 x2 x3 x4 h Q) : AM.Spec PG yuxz [x0, x1, x2, x3, x4] h Q :=
  yqxt mixed (fn := Tryz.f43) Tryz.func43 (c := ygjk Tryz.f43.body) (rs := [10, 11]) (N := 112) (by kernel_rfl) (by kernel_rfl) (by kernel_rfl) (by kernel_rfl) (by kernel_rfl) (Nat.le_of_ble_eq_true rfl) (yiqu (fun y10 y11 h => bif [y10, y11].all boxV then Q (.tuple #[y10, y11]) h else False) (fun y10 y11 h => bif [y10, y11].all boxV then Q (.tuple #[y10, y11]) h else False) (tinit [x0, x1, x2, x3, x4]) h H0) (by kernel_rfl)
end Go.Proofs.YtnckimioabkheaaGreat

set_option linter.unusedVariables false
set_option maxRecDepth 100000
namespace Go.Proofs.YtnckimioabkheaaGreat
open Go.Proofs.YtnckimioabkheaaGreat.AM
@[simp] theorem yqsi {h : H} {K : K1} {u : Dm K} : ynqb PG yvtk 0 [] h K u = u_new [] yqxz .exact h fun b h => K (.slice (some ⟨b, 0, none⟩) 0 0) h := by kernel_rfl
@[simp] theorem y99n {h : H} {K : K1} {u : Dm K} : ynqb PG yhm9 0 [] h K u = u_new [] yti5 .exact h fun b h => K (.slice (some ⟨b, 0, none⟩) 0 0) h := by kernel_rfl
def yoqf (x0 x1 x7 x8 : Value) (h : H) (Kn : K4) (Kr : K1) (Ke0 : K0) : Prop :=
  u_bin PG .lss T_int x8 x7 fun v9 => u_if v9 (u_ix false 1 none x0 x8 h fun v15 => u_dyn PG x1 [v15] h fun v16 h => u_if v16 (Kr x8 h) (u_bin PG .add T_int x8 (.int .i64 1) fun v18 => Kn x0 x1 x7 v18 h)) (Ke0 h)
theorem ykxa (Kn : K4) (Kr : K1) (Ke0 : K0) (t : T) (h : H) (H0 : yoqf (t 0) (t 1) (t 7) (t 8) h Kn Kr Ke0) : Wp PG 19 (lopC (blkC (rest 1 (seqL (rest 1 (ygjk Tryz.f166.body)))))) (mkQ (q4 Kn 0 1 7 8) (q1 Kr 4) (keAdd 0 (q0 Ke0) ke0)) t h :=
  wpEqC E5_ok H0 (by kernel_rfl)
def y0zs (x0 x1 x7 x8 : Value) (h : H) (Kn : K0) (Kr : K1) (Ke0 : K0) : Prop :=
  sloop (S := Value × Value × Value × Value) (fun s h K => yoqf s.1 s.2.1 s.2.2.1 s.2.2.2 h (fun y0 y1 y7 y8 h => K (y0, y1, y7, y8) h) Kr Ke0) (x0, x1, x7, x8) h
theorem ygbr (Kn : K0) (Kr : K1) (Ke0 : K0) (t : T) (h : H) (H0 : y0zs (t 0) (t 1) (t 7) (t 8) h Kn Kr Ke0) : Wp PG 19 (blkC (rest 1 (seqL (rest 1 (ygjk Tryz.f166.body))))) (mkQ (q0 Kn) (q1 Kr 4) (keAdd 0 (q0 Ke0) ke0)) t h :=
  yv0a (fun t => (t 0, t 1, t 7, t 8)) (by kernel_rfl) (fun t h K H1 => ykxa (fun y0 y1 y7 y8 h => K (y0, y1, y7, y8) h) Kr Ke0 t h H1) H0
def ykwi (x0 x1 x7 x8 : Value) (h : H) (Kn : K0) (Kr : K1) : Prop :=
  y0zs x0 x1 x7 x8 h Kn Kr Kn
theorem yu6v (Kn : K0) (Kr : K1) (t : T) (h : H) (H0 : ykwi (t 0) (t 1) (t 7) (t 8) h Kn Kr) : Wp PG 19 (rest 1 (seqL (rest 1 (ygjk Tryz.f166.body)))) (mkQ (q0 Kn) (q1 Kr 4) ke0) t h :=
  y6tu 0 (by kernel_rfl) (by kernel_rfl) (ygbr Kn Kr Kn t h H0)
def ylud (x0 x1 : Value) (h : H) (Kn : K0) (Kr : K1) : Prop :=
  ywmm x0 fun v7 => ykwi x0 x1 v7 (.int .i64 0) h Kn Kr
theorem yhpi (Kn : K0) (Kr : K1) (t : T) (h : H) (H0 : ylud (t 0) (t 1) h Kn Kr) : Wp PG 19 (seqL (rest 1 (ygjk Tryz.f166.body))) (mkQ (q0 Kn) (q1 Kr 4) ke0) t h :=
  yvnp E5_ok 1 H0 (by kernel_rfl) (fun t h (H1 : ykwi (t 0) (t 1) (t 7) (t 8) h Kn Kr) => yu6v Kn Kr t h H1) (by kernel_rfl)
def yzwg (h : H) (Kn : K1) (Kr : K1) : Prop :=
  Kr (.int .i64 (-1)) h
theorem yojl (Kn : K1) (Kr : K1) (t : T) (h : H) (H0 : yzwg  h Kn Kr) : Wp PG 19 (seqR (rest 1 (ygjk Tryz.f166.body))) (mkQ (q1 Kn 4) (q1 Kr 4) ke0) t h :=
  wpEqC E5_ok H0 (by kernel_rfl)
def yvzc (x0 x1 : Value) (h : H) (Kn : K1) (Kr : K1) : Prop :=
  ylud x0 x1 h (fun  h => yzwg  h Kn Kr) Kr
theorem ywmi (Kn : K1) (Kr : K1) (t : T) (h : H) (H0 : yvzc (t 0) (t 1) h Kn Kr) : Wp PG 19 (rest 1 (ygjk Tryz.f166.body)) (mkQ (q1 Kn 4) (q1 Kr 4) ke0) t h :=
  ykv2 (by kernel_rfl) (fun t h H1 => yojl Kn Kr t h H1) (yhpi (fun  h => yzwg  h Kn Kr) Kr t h H0)
def ye2u (x0 x1 : Value) (h : H) (Kn : K1) (Kr : K1) : Prop :=
  yvzc x0 x1 h Kn Kr
theorem yu27 (Kn : K1) (Kr : K1) (t : T) (h : H) (H0 : ye2u (t 0) (t 1) h Kn Kr) : Wp PG 19 (ygjk Tryz.f166.body) (mkQ (q1 Kn 4) (q1 Kr 4) ke0) t h :=
  yvnp E5_ok 1 H0 (by kernel_rfl) (fun t h (H1 : yvzc (t 0) (t 1) h Kn Kr) => ywmi Kn Kr t h H1) (by kernel_rfl)
def yivv (x0 x1 : Value) (h : H) (Q : K1) : Prop := ye2u x0 x1 h Q Q
theorem yvc0 (x0 x1 : Value) (h : H) (Q : K1) (H0 : yivv x0 x1 h Q) : AM.Spec PG ypb6 [x0, x1] h Q :=
  yqxt mixed (fn := Tryz.f166) Tryz.func166 (c := ygjk Tryz.f166.body) (rs := [4]) (N := 19) (by kernel_rfl) (by kernel_rfl) (by kernel_rfl) (by kernel_rfl) (by kernel_rfl) (Nat.le_of_ble_eq_true rfl) (yu27 Q Q (tinit [x0, x1]) h H0) (by kernel_rfl)
def yb8b (x0 x1 : Value) (h : H) (Kn : K1) (Kr : K1) : Prop :=
  yjdf PG ypb6 [x0, x1] h fun v7 h => u_bin PG .geq T_int v7 (.int .i64 0) fun v8 => Kr v8 h
theorem y1ha (Kn : K1) (Kr : K1) (t : T) (h : H) (H0 : yb8b (t 0) (t 1) h Kn Kr) : Wp PG 9 (ygjk Tryz.f55.body) (mkQ (q1 Kn 4) (q1 Kr 4) ke0) t h :=
  wpEqC E5_ok H0 (by kernel_rfl)
def yz4o (x0 x1 : Value) (h : H) (Q : K1) : Prop := yb8b x0 x1 h Q Q
theorem yn0p (x0 x1 : Value) (h : H) (Q : K1) (H0 : yz4o x0 x1 h Q) : AM.Spec PG ysqm [x0, x1] h Q :=
  yqxt mixed (fn := Tryz.f55) Tryz.func55 (c := ygjk Tryz.f55.body) (rs := [4]) (N := 9) (by kernel_rfl) (by kernel_rfl) (by kernel_rfl) (by kernel_rfl) (by kernel_rfl) (Nat.le_of_ble_eq_true rfl) (y1ha Q Q (tinit [x0, x1]) h H0) (by kernel_rfl)
def yw94 (x0 x5 x6 x7 : Value) (h : H) (Kn : K4) (Kr : K1) (Ke0 : K1) : Prop :=
  u_bin PG .lss T_int x7 x6 fun v8 => u_if v8 (u_ix false 1 none x5 x7 h fun v10 => y5hj v10 fun v12 => u_bin PG .gtr T_int v12 (.int .i64 200) fun v13 => ydv6 v13 false (fun k6 => yjdf PG y533 [v10, (.int .u8 0)] h fun v16 h => u_bin PG .geq T_int v16 (.int .i64 0) fun v17 => k6 v17 h) (fun v17 h => y9rg v13 (.bool true) v17 fun v18 => u_if v18 (Kr (.bool false) h) (u_bin PG .add T_int x7 (.int .i64 1) fun v19 => Kn x0 x5 x6 v19 h)) h) (Ke0 x0 h)
theorem y7oq (Kn : K4) (Kr : K1) (Ke0 : K1) (t : T) (h : H) (H0 : yw94 (t 0) (t 5) (t 6) (t 7) h Kn Kr Ke0) : Wp PG 23 (lopC (blkC (rest 1 (seqL (rest 1 (ygjk Tryz.f270.body)))))) (mkQ (q4 Kn 0 5 6 7) (q1 Kr 2) (keAdd 0 (q1 Ke0 0) ke0)) t h :=
  wpEqC E5_ok H0 (by kernel_rfl)
def y4z7 (x0 x5 x6 x7 : Value) (h : H) (Kn : K1) (Kr : K1) (Ke0 : K1) : Prop :=
  sloop (S := Value × Value × Value × Value) (fun s h K => yw94 s.1 s.2.1 s.2.2.1 s.2.2.2 h (fun y0 y5 y6 y7 h => K (y0, y5, y6, y7) h) Kr Ke0) (x0, x5, x6, x7) h
theorem y75o (Kn : K1) (Kr : K1) (Ke0 : K1) (t : T) (h : H) (H0 : y4z7 (t 0) (t 5) (t 6) (t 7) h Kn Kr Ke0) : Wp PG 23 (blkC (rest 1 (seqL (rest 1 (ygjk Tryz.f270.body))))) (mkQ (q1 Kn 0) (q1 Kr 2) (keAdd 0 (q1 Ke0 0) ke0)) t h :=
  yv0a (fun t => (t 0, t 5, t 6, t 7)) (by kernel_rfl) (fun t h K H1 => y7oq (fun y0 y5 y6 y7 h => K (y0, y5, y6, y7) h) Kr Ke0 t h H1) H0
def y5be (x0 x5 x6 x7 : Value) (h : H) (Kn : K1) (Kr : K1) : Prop :=
  y4z7 x0 x5 x6 x7 h Kn Kr Kn
theorem yvey (Kn : K1) (Kr : K1) (t : T) (h : H) (H0 : y5be (t 0) (t 5) (t 6) (t 7) h Kn Kr) : Wp PG 23 (rest 1 (seqL (rest 1 (ygjk Tryz.f270.body)))) (mkQ (q1 Kn 0) (q1 Kr 2) ke0) t h :=
  y6tu 0 (by kernel_rfl) (by kernel_rfl) (y75o Kn Kr Kn t h H0)
def yc63 (x0 : Value) (h : H) (Kn : K1) (Kr : K1) : Prop :=
  ywmm x0 fun v6 => y5be x0 x0 v6 (.int .i64 0) h Kn Kr
theorem yht3 (Kn : K1) (Kr : K1) (t : T) (h : H) (H0 : yc63 (t 0) h Kn Kr) : Wp PG 23 (seqL (rest 1 (ygjk Tryz.f270.body))) (mkQ (q1 Kn 0) (q1 Kr 2) ke0) t h :=
  yvnp E5_ok 1 H0 (by kernel_rfl) (fun t h (H1 : y5be (t 0) (t 5) (t 6) (t 7) h Kn Kr) => yvey Kn Kr t h H1) (by kernel_rfl)
def yc74 (x0 : Value) (h : H) (Kn : K1) (Kr : K1) : Prop :=
  ywmm x0 fun v21 => u_bin PG .leq T_int v21 (.int .i64 16) fun v22 => Kr v22 h
theorem yh97 (Kn : K1) (Kr : K1) (t : T) (h : H) (H0 : yc74 (t 0) h Kn Kr) : Wp PG 23 (seqR (rest 1 (ygjk Tryz.f270.body))) (mkQ (q1 Kn 2) (q1 Kr 2) ke0) t h :=
  wpEqC E5_ok H0 (by kernel_rfl)
def ya7k (x0 : Value) (h : H) (Kn : K1) (Kr : K1) : Prop :=
  yc63 x0 h (fun y0 h => yc74 y0 h Kn Kr) Kr
theorem y1sw (Kn : K1) (Kr : K1) (t : T) (h : H) (H0 : ya7k (t 0) h Kn Kr) : Wp PG 23 (rest 1 (ygjk Tryz.f270.body)) (mkQ (q1 Kn 2) (q1 Kr 2) ke0) t h :=
  ykv2 (by kernel_rfl) (fun t h H1 => yh97 Kn Kr t h H1) (yht3 (fun y0 h => yc74 y0 h Kn Kr) Kr t h H0)
def ydjn (x0 : Value) (h : H) (Kn : K1) (Kr : K1) : Prop :=
  ya7k x0 h Kn Kr
theorem yl8i (Kn : K1) (Kr : K1) (t : T) (h : H) (H0 : ydjn (t 0) h Kn Kr) : Wp PG 23 (ygjk Tryz.f270.body) (mkQ (q1 Kn 2) (q1 Kr 2) ke0) t h :=
  yvnp E5_ok 1 H0 (by kernel_rfl) (fun t h (H1 : ya7k (t 0) h Kn Kr) => y1sw Kn Kr t h H1) (by kernel_rfl)
def yfnm (x0 : Value) (h : H) (Q : K1) : Prop := ydjn x0 h Q Q
theorem yg0t (x0 : Value) (h : H) (Q : K1) (H0 : yfnm x0 h Q) : AM.Spec PG yne3 [x0] h Q :=
  yqxt mixed (fn := Tryz.f270) Tryz.func270 (c := ygjk Tryz.f270.body) (rs := [2]) (N := 23) (by kernel_rfl) (by kernel_rfl) (by kernel_rfl) (by kernel_rfl) (by kernel_rfl) (Nat.le_of_ble_eq_true rfl) (yl8i Q Q (tinit [x0]) h H0) (by kernel_rfl)
def ynyk (x0 x5 x6 x7 : Value) (h : H) (Kn : K4) (Kr : K1) (Ke0 : K1) : Prop :=
  u_bin PG .lss T_int x7 x6 fun v8 => u_if v8 (u_ix true 2 none x5 x7 h fun v11 => u_new [.string .empty, .slice none 0 0] yavq .exact h fun b4 h => ylel 2 (.pointer (some ⟨b4, 0, none⟩)) v11 h fun h => u_bf false 1 0 (.pointer (some ⟨b4, 0, none⟩)) h fun v13 => u_bin PG .eql yomn v13 (.string { data := #[] }) fun v14 => ydv6 v14 false (fun k7 => u_bf false 1 0 (.pointer (some ⟨b4, 0, none⟩)) h fun v17 => y5hj v17 fun v18 => u_bin PG .gtr T_int v18 (.int .i64 40) fun v19 => k7 v19 h) (fun v19 h => y9rg v14 (.bool true) v19 fun v20 => ydv6 v20 false (fun k13 => u_bf false 1 0 (.pointer (some ⟨b4, 0, none⟩)) h fun v23 => yjdf PG y533 [v23, (.int .u8 0)] h fun v24 h => u_bin PG .geq T_int v24 (.int .i64 0) fun v25 => k13 v25 h) (fun v25 h => y9rg v20 (.bool true) v25 fun v26 => ydv6 v26 false (fun k19 => u_bf false 1 1 (.pointer (some ⟨b4, 0, none⟩)) h fun v29 => ywmm v29 fun v30 => u_bin PG .gtr T_int v30 (.int .i64 4096) fun v31 => k19 v31 h) (fun v31 h => y9rg v26 (.bool true) v31 fun v32 => u_if v32 (Kr (.bool false) h) (y4a7 2 x0 none (some x7) none fun v35 => List.all [] ysqa = true ∧ List.all [(.pointer (some ⟨b4, 0, none⟩))] ysqa = true ∧ yjdf PG yvbs [v35, (.func (.func ysh9) #[] #[(.pointer (some ⟨b4, 0, none⟩))])] h fun v37 h => u_if v37 (Kr (.bool false) h) (u_bin PG .add T_int x7 (.int .i64 1) fun v38 => Kn x0 x5 x6 v38 h))) h) h) h) (Ke0 x0 h)
theorem y12c (Kn : K4) (Kr : K1) (Ke0 : K1) (t : T) (h : H) (H0 : ynyk (t 0) (t 5) (t 6) (t 7) h Kn Kr Ke0) : Wp PG 42 (lopC (blkC (rest 1 (seqL (rest 1 (ygjk Tryz.f271.body)))))) (mkQ (q4 Kn 0 5 6 7) (q1 Kr 2) (keAdd 0 (q1 Ke0 0) ke0)) t h :=
  wpEqC E5_ok H0 (by kernel_rfl)
def y2yr (x0 x5 x6 x7 : Value) (h : H) (Kn : K1) (Kr : K1) (Ke0 : K1) : Prop :=
  sloop (S := Value × Value × Value × Value) (fun s h K => ynyk s.1 s.2.1 s.2.2.1 s.2.2.2 h (fun y0 y5 y6 y7 h => K (y0, y5, y6, y7) h) Kr Ke0) (x0, x5, x6, x7) h
theorem ywfz (Kn : K1) (Kr : K1) (Ke0 : K1) (t : T) (h : H) (H0 : y2yr (t 0) (t 5) (t 6) (t 7) h Kn Kr Ke0) : Wp PG 42 (blkC (rest 1 (seqL (rest 1 (ygjk Tryz.f271.body))))) (mkQ (q1 Kn 0) (q1 Kr 2) (keAdd 0 (q1 Ke0 0) ke0)) t h :=
  yv0a (fun t => (t 0, t 5, t 6, t 7)) (by kernel_rfl) (fun t h K H1 => y12c (fun y0 y5 y6 y7 h => K (y0, y5, y6, y7) h) Kr Ke0 t h H1) H0
def ydmq (x0 x5 x6 x7 : Value) (h : H) (Kn : K1) (Kr : K1) : Prop :=
  y2yr x0 x5 x6 x7 h Kn Kr Kn
theorem yn7m (Kn : K1) (Kr : K1) (t : T) (h : H) (H0 : ydmq (t 0) (t 5) (t 6) (t 7) h Kn Kr) : Wp PG 42 (rest 1 (seqL (rest 1 (ygjk Tryz.f271.body)))) (mkQ (q1 Kn 0) (q1 Kr 2) ke0) t h :=
  y6tu 0 (by kernel_rfl) (by kernel_rfl) (ywfz Kn Kr Kn t h H0)
def y0g4 (x0 : Value) (h : H) (Kn : K1) (Kr : K1) : Prop :=
  ywmm x0 fun v6 => ydmq x0 x0 v6 (.int .i64 0) h Kn Kr
theorem yi2h (Kn : K1) (Kr : K1) (t : T) (h : H) (H0 : y0g4 (t 0) h Kn Kr) : Wp PG 42 (seqL (rest 1 (ygjk Tryz.f271.body))) (mkQ (q1 Kn 0) (q1 Kr 2) ke0) t h :=
  yvnp E5_ok 1 H0 (by kernel_rfl) (fun t h (H1 : ydmq (t 0) (t 5) (t 6) (t 7) h Kn Kr) => yn7m Kn Kr t h H1) (by kernel_rfl)
def yrid (x0 : Value) (h : H) (Kn : K1) (Kr : K1) : Prop :=
  ywmm x0 fun v40 => u_bin PG .leq T_int v40 (.int .i64 8) fun v41 => Kr v41 h
theorem y85v (Kn : K1) (Kr : K1) (t : T) (h : H) (H0 : yrid (t 0) h Kn Kr) : Wp PG 42 (seqR (rest 1 (ygjk Tryz.f271.body))) (mkQ (q1 Kn 2) (q1 Kr 2) ke0) t h :=
  wpEqC E5_ok H0 (by kernel_rfl)
def y10k (x0 : Value) (h : H) (Kn : K1) (Kr : K1) : Prop :=
  y0g4 x0 h (fun y0 h => yrid y0 h Kn Kr) Kr
theorem yx9s (Kn : K1) (Kr : K1) (t : T) (h : H) (H0 : y10k (t 0) h Kn Kr) : Wp PG 42 (rest 1 (ygjk Tryz.f271.body)) (mkQ (q1 Kn 2) (q1 Kr 2) ke0) t h :=
  ykv2 (by kernel_rfl) (fun t h H1 => y85v Kn Kr t h H1) (yi2h (fun y0 h => yrid y0 h Kn Kr) Kr t h H0)
def yuzy (x0 : Value) (h : H) (Kn : K1) (Kr : K1) : Prop :=
  y10k x0 h Kn Kr
theorem y95y (Kn : K1) (Kr : K1) (t : T) (h : H) (H0 : yuzy (t 0) h Kn Kr) : Wp PG 42 (ygjk Tryz.f271.body) (mkQ (q1 Kn 2) (q1 Kr 2) ke0) t h :=
  yvnp E5_ok 1 H0 (by kernel_rfl) (fun t h (H1 : y10k (t 0) h Kn Kr) => yx9s Kn Kr t h H1) (by kernel_rfl)
def y27c (x0 : Value) (h : H) (Q : K1) : Prop := yuzy x0 h Q Q
theorem y7n2 (x0 : Value) (h : H) (Q : K1) (H0 : y27c x0 h Q) : AM.Spec PG yob1 [x0] h Q :=
  yqxt mixed (fn := Tryz.f271) Tryz.func271 (c := ygjk Tryz.f271.body) (rs := [2]) (N := 42) (by kernel_rfl) (by kernel_rfl) (by kernel_rfl) (by kernel_rfl) (by kernel_rfl) (Nat.le_of_ble_eq_true rfl) (y95y Q Q (tinit [x0]) h H0) (by kernel_rfl)
def ybd8 (x0 : Value) (h : H) (Kn : K1) (Kr : K1) : Prop :=
  boxV x0 = true ∧ u_new (Value.cells x0).toList ylzr .exact h fun b1 h => u_bf false 1 2 (.pointer (some ⟨b1, 0, none⟩)) h fun v5 => yjdf PG ysqm [v5, (.func (.func yeif) #[] #[])] h fun v6 h => ydv6 v6 false (fun k5 => u_bf false 1 2 (.pointer (some ⟨b1, 0, none⟩)) h fun v10 => ywmm v10 fun v11 => u_bin PG .gtr T_int v11 (.int .i64 64) fun v12 => k5 v12 h) (fun v12 h => y9rg v6 (.bool true) v12 fun v13 => ydv6 v13 false (fun k11 => u_bf false 1 4 (.pointer (some ⟨b1, 0, none⟩)) h fun v16 => ywmm v16 fun v17 => u_bin PG .gtr T_int v17 (.int .i64 64) fun v18 => k11 v18 h) (fun v18 h => y9rg v13 (.bool true) v18 fun v19 => ydv6 v19 false (fun k17 => u_bf false 1 1 (.pointer (some ⟨b1, 0, none⟩)) h fun v22 => ywmm v22 fun v23 => u_bin PG .gtr T_int v23 (.int .i64 4096) fun v24 => k17 v24 h) (fun v24 h => y9rg v19 (.bool true) v24 fun v25 => ydv6 v25 false (fun k23 => u_bf false 1 3 (.pointer (some ⟨b1, 0, none⟩)) h fun v28 => ywmm v28 fun v29 => u_bin PG .gtr T_int v29 (.int .i64 4096) fun v30 => k23 v30 h) (fun v30 h => y9rg v25 (.bool true) v30 fun v31 => u_if v31 (Kr (.bool false) h) (u_bf false 1 0 (.pointer (some ⟨b1, 0, none⟩)) h fun v33 => yjdf PG yne3 [v33] h fun v34 h => ydv6 v34 true (fun k6 => u_bf false 1 5 (.pointer (some ⟨b1, 0, none⟩)) h fun v37 => yjdf PG yob1 [v37] h fun v38 h => k6 v38 h) (fun v38 h => y9rg v34 v38 (.bool false) fun v39 => Kr v39 h) h)) h) h) h) h
theorem y2mr (Kn : K1) (Kr : K1) (t : T) (h : H) (H0 : ybd8 (t 0) h Kn Kr) : Wp PG 40 (ygjk Tryz.f210.body) (mkQ (q1 Kn 2) (q1 Kr 2) ke0) t h :=
  wpEqC E5_ok H0 (by kernel_rfl)
def ypj2 (x0 : Value) (h : H) (Q : K1) : Prop := ybd8 x0 h Q Q
theorem yona (x0 : Value) (h : H) (Q : K1) (H0 : ypj2 x0 h Q) : AM.Spec PG yz9h [x0] h Q :=
  yqxt mixed (fn := Tryz.f210) Tryz.func210 (c := ygjk Tryz.f210.body) (rs := [2]) (N := 40) (by kernel_rfl) (by kernel_rfl) (by kernel_rfl) (by kernel_rfl) (by kernel_rfl) (Nat.le_of_ble_eq_true rfl) (y2mr Q Q (tinit [x0]) h H0) (by kernel_rfl)
def y7x2 (x1 x8 x9 x10 : Value) (h : H) (Kn : K4) (Kr : K1) (Ke0 : K1) : Prop :=
  u_bin PG .lss T_int x10 x9 fun v11 => u_if v11 (u_ix true 4 none x8 x10 h fun v13 => u_new [.int .i64 0, .int .u32 0, .int .u32 0, .int .u8 0] yqxz .exact h fun b4 h => ylel 4 (.pointer (some ⟨b4, 0, none⟩)) v13 h fun h => ybqh true 4 (.pointer (some ⟨b4, 0, none⟩)) h fun v14 => u_ct y2dd [v14] h fun v15 h => u_un PG .not v15 fun v16 => u_if v16 (Kr (.bool false) h) (u_bin PG .add T_int x10 (.int .i64 1) fun v17 => Kn x1 x8 x9 v17 h)) (Ke0 x1 h)
theorem yzo0 (Kn : K4) (Kr : K1) (Ke0 : K1) (t : T) (h : H) (H0 : y7x2 (t 1) (t 8) (t 9) (t 10) h Kn Kr Ke0) : Wp PG 39 (lopC (blkC (rest 1 (seqL (rest 1 (ygjk Tryz.f267.body)))))) (mkQ (q4 Kn 1 8 9 10) (q1 Kr 2) (keAdd 0 (q1 Ke0 1) ke0)) t h :=
  wpEqC E5_ok H0 (by kernel_rfl)
def ymtv (x1 x8 x9 x10 : Value) (h : H) (Kn : K1) (Kr : K1) (Ke0 : K1) : Prop :=
  sloop (S := Value × Value × Value × Value) (fun s h K => y7x2 s.1 s.2.1 s.2.2.1 s.2.2.2 h (fun y1 y8 y9 y10 h => K (y1, y8, y9, y10) h) Kr Ke0) (x1, x8, x9, x10) h
theorem yxn6 (Kn : K1) (Kr : K1) (Ke0 : K1) (t : T) (h : H) (H0 : ymtv (t 1) (t 8) (t 9) (t 10) h Kn Kr Ke0) : Wp PG 39 (blkC (rest 1 (seqL (rest 1 (ygjk Tryz.f267.body))))) (mkQ (q1 Kn 1) (q1 Kr 2) (keAdd 0 (q1 Ke0 1) ke0)) t h :=
  yv0a (fun t => (t 1, t 8, t 9, t 10)) (by kernel_rfl) (fun t h K H1 => yzo0 (fun y1 y8 y9 y10 h => K (y1, y8, y9, y10) h) Kr Ke0 t h H1) H0
def yn27 (x1 x8 x9 x10 : Value) (h : H) (Kn : K1) (Kr : K1) : Prop :=
  ymtv x1 x8 x9 x10 h Kn Kr Kn
theorem y7jo (Kn : K1) (Kr : K1) (t : T) (h : H) (H0 : yn27 (t 1) (t 8) (t 9) (t 10) h Kn Kr) : Wp PG 39 (rest 1 (seqL (rest 1 (ygjk Tryz.f267.body)))) (mkQ (q1 Kn 1) (q1 Kr 2) ke0) t h :=
  y6tu 0 (by kernel_rfl) (by kernel_rfl) (yxn6 Kn Kr Kn t h H0)
def ywzw (x1 : Value) (h : H) (Kn : K1) (Kr : K1) : Prop :=
  u_bf false 1 1 x1 h fun v8 => ywmm v8 fun v9 => yn27 x1 v8 v9 (.int .i64 0) h Kn Kr
theorem y7z0 (Kn : K1) (Kr : K1) (t : T) (h : H) (H0 : ywzw (t 1) h Kn Kr) : Wp PG 39 (seqL (rest 1 (ygjk Tryz.f267.body))) (mkQ (q1 Kn 1) (q1 Kr 2) ke0) t h :=
  yvnp E5_ok 1 H0 (by kernel_rfl) (fun t h (H1 : yn27 (t 1) (t 8) (t 9) (t 10) h Kn Kr) => y7jo Kn Kr t h H1) (by kernel_rfl)
def y7j7 (x1 x19 x20 x21 : Value) (h : H) (Kn : K4) (Kr : K1) (Ke2 : K1) : Prop :=
  u_bin PG .lss T_int x21 x20 fun v22 => u_if v22 (u_ix true 3 none x19 x21 h fun v24 => u_new [.int .i64 0, .int .i64 0, .int .u8 0] yti5 .exact h fun b6 h => ylel 3 (.pointer (some ⟨b6, 0, none⟩)) v24 h fun h => ybqh true 3 (.pointer (some ⟨b6, 0, none⟩)) h fun v25 => u_ct yabu [v25] h fun v26 h => u_un PG .not v26 fun v27 => u_if v27 (Kr (.bool false) h) (u_bin PG .add T_int x21 (.int .i64 1) fun v28 => Kn x1 x19 x20 v28 h)) (Ke2 x1 h)
theorem yt8l (Kn : K4) (Kr : K1) (Ke2 : K1) (t : T) (h : H) (H0 : y7j7 (t 1) (t 19) (t 20) (t 21) h Kn Kr Ke2) : Wp PG 39 (lopC (blkC (rest 1 (seqL (seqR (rest 1 (ygjk Tryz.f267.body))))))) (mkQ (q4 Kn 1 19 20 21) (q1 Kr 2) (keAdd 2 (q1 Ke2 1) ke0)) t h :=
  wpEqC E5_ok H0 (by kernel_rfl)
def ybsy (x1 x19 x20 x21 : Value) (h : H) (Kn : K1) (Kr : K1) (Ke2 : K1) : Prop :=
  sloop (S := Value × Value × Value × Value) (fun s h K => y7j7 s.1 s.2.1 s.2.2.1 s.2.2.2 h (fun y1 y19 y20 y21 h => K (y1, y19, y20, y21) h) Kr Ke2) (x1, x19, x20, x21) h
theorem y6ke (Kn : K1) (Kr : K1) (Ke2 : K1) (t : T) (h : H) (H0 : ybsy (t 1) (t 19) (t 20) (t 21) h Kn Kr Ke2) : Wp PG 39 (blkC (rest 1 (seqL (seqR (rest 1 (ygjk Tryz.f267.body)))))) (mkQ (q1 Kn 1) (q1 Kr 2) (keAdd 2 (q1 Ke2 1) ke0)) t h :=
  yv0a (fun t => (t 1, t 19, t 20, t 21)) (by kernel_rfl) (fun t h K H1 => yt8l (fun y1 y19 y20 y21 h => K (y1, y19, y20, y21) h) Kr Ke2 t h H1) H0
def y7oe (x1 x19 x20 x21 : Value) (h : H) (Kn : K1) (Kr : K1) : Prop :=
  ybsy x1 x19 x20 x21 h Kn Kr Kn
theorem yra5 (Kn : K1) (Kr : K1) (t : T) (h : H) (H0 : y7oe (t 1) (t 19) (t 20) (t 21) h Kn Kr) : Wp PG 39 (rest 1 (seqL (seqR (rest 1 (ygjk Tryz.f267.body))))) (mkQ (q1 Kn 1) (q1 Kr 2) ke0) t h :=
  y6tu 2 (by kernel_rfl) (by kernel_rfl) (y6ke Kn Kr Kn t h H0)
def y5sh (x1 : Value) (h : H) (Kn : K1) (Kr : K1) : Prop :=
  u_bf false 1 2 x1 h fun v19 => ywmm v19 fun v20 => y7oe x1 v19 v20 (.int .i64 0) h Kn Kr
theorem y99o (Kn : K1) (Kr : K1) (t : T) (h : H) (H0 : y5sh (t 1) h Kn Kr) : Wp PG 39 (seqL (seqR (rest 1 (ygjk Tryz.f267.body)))) (mkQ (q1 Kn 1) (q1 Kr 2) ke0) t h :=
  yvnp E5_ok 1 H0 (by kernel_rfl) (fun t h (H1 : y7oe (t 1) (t 19) (t 20) (t 21) h Kn Kr) => yra5 Kn Kr t h H1) (by kernel_rfl)
def yjfb (x1 : Value) (h : H) (Kn : K1) (Kr : K1) : Prop :=
  u_bf false 1 1 x1 h fun v30 => ywmm v30 fun v31 => u_bin PG .leq T_int v31 (.int .i64 32) fun v32 => ydv6 v32 true (fun k8 => u_bf false 1 2 x1 h fun v35 => ywmm v35 fun v36 => u_bin PG .leq T_int v36 (.int .i64 32) fun v37 => k8 v37 h) (fun v37 h => y9rg v32 v37 (.bool false) fun v38 => Kr v38 h) h
theorem yp50 (Kn : K1) (Kr : K1) (t : T) (h : H) (H0 : yjfb (t 1) h Kn Kr) : Wp PG 39 (seqR (seqR (rest 1 (ygjk Tryz.f267.body)))) (mkQ (q1 Kn 2) (q1 Kr 2) ke0) t h :=
  wpEqC E5_ok H0 (by kernel_rfl)
def y1q4 (x1 : Value) (h : H) (Kn : K1) (Kr : K1) : Prop :=
  y5sh x1 h (fun y1 h => yjfb y1 h Kn Kr) Kr
theorem yj9l (Kn : K1) (Kr : K1) (t : T) (h : H) (H0 : y1q4 (t 1) h Kn Kr) : Wp PG 39 (seqR (rest 1 (ygjk Tryz.f267.body))) (mkQ (q1 Kn 2) (q1 Kr 2) ke0) t h :=
  ykv2 (by kernel_rfl) (fun t h H1 => yp50 Kn Kr t h H1) (y99o (fun y1 h => yjfb y1 h Kn Kr) Kr t h H0)
def y8ht (x1 : Value) (h : H) (Kn : K1) (Kr : K1) : Prop :=
  ywzw x1 h (fun y1 h => y1q4 y1 h Kn Kr) Kr
theorem y67g (Kn : K1) (Kr : K1) (t : T) (h : H) (H0 : y8ht (t 1) h Kn Kr) : Wp PG 39 (rest 1 (ygjk Tryz.f267.body)) (mkQ (q1 Kn 2) (q1 Kr 2) ke0) t h :=
  ykv2 (by kernel_rfl) (fun t h H1 => yj9l Kn Kr t h H1) (y7z0 (fun y1 h => y1q4 y1 h Kn Kr) Kr t h H0)
def ymc9 (x0 : Value) (h : H) (Kn : K1) (Kr : K1) : Prop :=
  boxV x0 = true ∧ u_new (Value.cells x0).toList y4pp .exact h fun b1 h => y8ht (.pointer (some ⟨b1, 0, none⟩)) h Kn Kr
theorem y5am (Kn : K1) (Kr : K1) (t : T) (h : H) (H0 : ymc9 (t 0) h Kn Kr) : Wp PG 39 (ygjk Tryz.f267.body) (mkQ (q1 Kn 2) (q1 Kr 2) ke0) t h :=
  yvnp E5_ok 1 H0 (by kernel_rfl) (fun t h (H1 : y8ht (t 1) h Kn Kr) => y67g Kn Kr t h H1) (by kernel_rfl)
def yly3 (x0 : Value) (h : H) (Q : K1) : Prop := ymc9 x0 h Q Q
theorem y5tv (x0 : Value) (h : H) (Q : K1) (H0 : yly3 x0 h Q) : AM.Spec PG ygvc [x0] h Q :=
  yqxt mixed (fn := Tryz.f267) Tryz.func267 (c := ygjk Tryz.f267.body) (rs := [2]) (N := 39) (by kernel_rfl) (by kernel_rfl) (by kernel_rfl) (by kernel_rfl) (by kernel_rfl) (Nat.le_of_ble_eq_true rfl) (y5am Q Q (tinit [x0]) h H0) (by kernel_rfl)
def yzt0 (x1 x2 x12 : Value) (h : H) (Kn : K3) (Kr : K2) : Prop :=
  u_bf false 1 1 x1 h fun v4 => y0wt 2 x1 fun v6 => (ybqh false 1 v6 h fun v7 => yjdf PG y402 [v4] h fun v5 h => y0wt 1 x1 fun v9 => yjdf PG ydu8 [v7] h fun v8 h => ylel 1 v9 v5 h fun h => u_st 1 2 x1 v8 h fun h => Kn x1 x2 x12 h) ∧ (yjdf PG y402 [v4] h fun v5 h => ybqh false 1 v6 h fun v7 => y0wt 1 x1 fun v9 => yjdf PG ydu8 [v7] h fun v8 h => ylel 1 v9 v5 h fun h => u_st 1 2 x1 v8 h fun h => Kn x1 x2 x12 h)
theorem yxjg (Kn : K3) (Kr : K2) (t : T) (h : H) (H0 : yzt0 (t 1) (t 2) (t 12) h Kn Kr) : Wp PG 12 (seqL (rest 1 (ygjk Tryz.f134.body))) (mkQ (q3 Kn 1 2 12) (q2 Kr 2 12) ke0) t h :=
  ya9i E5_ok [0, 1, 3] 4 2 [6, 5, 7, 8, 9] (by kernel_rfl) (by kernel_rfl) H0 (by kernel_rfl)
def ypw0 (x1 x2 x12 : Value) (h : H) (Kn : K2) (Kr : K2) : Prop :=
  ybqh true 3 x1 h fun v11 => ylel 3 x2 v11 h fun h => Kr x2 x12 h
theorem ytsl (Kn : K2) (Kr : K2) (t : T) (h : H) (H0 : ypw0 (t 1) (t 2) (t 12) h Kn Kr) : Wp PG 12 (seqR (rest 1 (ygjk Tryz.f134.body))) (mkQ (q2 Kn 2 12) (q2 Kr 2 12) ke0) t h :=
  wpEqC E5_ok H0 (by kernel_rfl)
def y8as (x1 x2 x12 : Value) (h : H) (Kn : K2) (Kr : K2) : Prop :=
  yzt0 x1 x2 x12 h (fun y1 y2 y12 h => ypw0 y1 y2 y12 h Kn Kr) Kr
theorem yoei (Kn : K2) (Kr : K2) (t : T) (h : H) (H0 : y8as (t 1) (t 2) (t 12) h Kn Kr) : Wp PG 12 (rest 1 (ygjk Tryz.f134.body)) (mkQ (q2 Kn 2 12) (q2 Kr 2 12) ke0) t h :=
  ykv2 (by kernel_rfl) (fun t h H1 => ytsl Kn Kr t h H1) (yxjg (fun y1 y2 y12 h => ypw0 y1 y2 y12 h Kn Kr) Kr t h H0)
def y08q (x0 x12 : Value) (h : H) (Kn : K2) (Kr : K2) : Prop :=
  boxV x0 = true ∧ u_new (Value.cells x0).toList y4pp .exact h fun b1 h => u_new [.bool false, .slice none 0 0, .slice none 0 0] y4pp .exact h fun b2 h => y8as (.pointer (some ⟨b1, 0, none⟩)) (.pointer (some ⟨b2, 0, none⟩)) x12 h Kn Kr
theorem yrc6 (Kn : K2) (Kr : K2) (t : T) (h : H) (H0 : y08q (t 0) (t 12) h Kn Kr) : Wp PG 12 (ygjk Tryz.f134.body) (mkQ (q2 Kn 2 12) (q2 Kr 2 12) ke0) t h :=
  yvnp E5_ok 1 H0 (by kernel_rfl) (fun t h (H1 : y8as (t 1) (t 2) (t 12) h Kn Kr) => yoei Kn Kr t h H1) (by kernel_rfl)
def yxdy (x0 : Value) (h : H) (Q : K1) : Prop := y08q x0 undef h (fun y2 y12 h => o_ret y12 h (fun h => ybqh true 3 y2 h fun v => Q v h)) (fun y2 y12 h => o_ret y12 h (fun h => ybqh true 3 y2 h fun v => Q v h))
theorem yfj3 (x0 : Value) (h : H) (Q : K1) (H0 : yxdy x0 h Q) : AM.Spec PG y4s5 [x0] h Q :=
  ysgf mixed (fn := Tryz.f134) Tryz.func134 (c := ygjk Tryz.f134.body) (a := 2) (ty := 35) (ag := true) (n := 3) (N := 12) (by kernel_rfl) (by kernel_rfl) (by kernel_rfl) (by kernel_rfl) (by kernel_rfl) (by kernel_rfl) (Nat.le_of_ble_eq_true rfl) (yrc6 (fun y2 y12 h => o_ret y12 h (fun h => ybqh true 3 y2 h fun v => Q v h)) (fun y2 y12 h => o_ret y12 h (fun h => ybqh true 3 y2 h fun v => Q v h)) (tinit [x0]) h H0) (by kernel_rfl)
def y7kq (x0 : Value) (h : H) (Kn : K1) (Kr : K1) : Prop :=
  u_bin PG .eql yvtk x0 (.slice none 0 0) fun v4 => u_if v4 (Kr (.slice none 0 0) h) (ynqb PG yvtk 0 [] h fun v5 h => yx4h yqxz 4 24 v5 x0 h fun v7 h => Kr v7 h)
theorem yeh0 (Kn : K1) (Kr : K1) (t : T) (h : H) (H0 : y7kq (t 0) h Kn Kr) : Wp PG 8 (ygjk Tryz.f206.body) (mkQ (q1 Kn 2) (q1 Kr 2) ke0) t h :=
  wpEqC E5_ok H0 (by kernel_rfl)
def ymww (x0 : Value) (h : H) (Q : K1) : Prop := y7kq x0 h Q Q
theorem yhjz (x0 : Value) (h : H) (Q : K1) (H0 : ymww x0 h Q) : AM.Spec PG y402 [x0] h Q :=
  yqxt mixed (fn := Tryz.f206) Tryz.func206 (c := ygjk Tryz.f206.body) (rs := [2]) (N := 8) (by kernel_rfl) (by kernel_rfl) (by kernel_rfl) (by kernel_rfl) (by kernel_rfl) (Nat.le_of_ble_eq_true rfl) (yeh0 Q Q (tinit [x0]) h H0) (by kernel_rfl)
def yvr7 (x0 : Value) (h : H) (Kn : K1) (Kr : K1) : Prop :=
  u_bin PG .eql yhm9 x0 (.slice none 0 0) fun v4 => u_if v4 (Kr (.slice none 0 0) h) (ynqb PG yhm9 0 [] h fun v5 h => yx4h yti5 3 24 v5 x0 h fun v7 h => Kr v7 h)
theorem yiy9 (Kn : K1) (Kr : K1) (t : T) (h : H) (H0 : yvr7 (t 0) h Kn Kr) : Wp PG 8 (ygjk Tryz.f207.body) (mkQ (q1 Kn 2) (q1 Kr 2) ke0) t h :=
  wpEqC E5_ok H0 (by kernel_rfl)
def yssw (x0 : Value) (h : H) (Q : K1) : Prop := yvr7 x0 h Q Q
theorem y53r (x0 : Value) (h : H) (Q : K1) (H0 : yssw x0 h Q) : AM.Spec PG ydu8 [x0] h Q :=
  yqxt mixed (fn := Tryz.f207) Tryz.func207 (c := ygjk Tryz.f207.body) (rs := [2]) (N := 8) (by kernel_rfl) (by kernel_rfl) (by kernel_rfl) (by kernel_rfl) (by kernel_rfl) (Nat.le_of_ble_eq_true rfl) (yiy9 Q Q (tinit [x0]) h H0) (by kernel_rfl)
end Go.Proofs.YtnckimioabkheaaGreat

set_option linter.unusedSimpArgs false
set_option linter.unusedVariables false
namespace Go.Proofs.YtnckimioabkheaaGreat.AM
section
variable {α : Type} {enc : α → List Value} {sz : Nat} {h : H} {v : Value} {l : List α} {K : Value → Prop} {k : IntKind} {P : Program}
theorem Sl.ixA (hs : Sl enc sz h v l) {i : Nat} (hi : i < l.length) {u : Dm K} : u_ix true sz none v (.int k i) h K u = K (.agg (enc l[i]).toArray) := by
  obtain ⟨b, o, h1, h2⟩ := hs.at hi
  show ys75 none sz v (.int k i) (fun a => ysm8 true sz a h K) = _
  rw [h1, yw71 h2]
theorem Sl.ix1 {e : α → Value} (hs : Sl (fun x => [e x]) 1 h v l) {i : Nat} (hi : i < l.length) {u : Dm K} : u_ix false 1 none v (.int k i) h K u = K (e l[i]) := by
  obtain ⟨b, o, h1, h2⟩ := hs.at hi
  show ys75 none 1 v (.int k i) (fun a => ysm8 false 1 a h K) = _
  have : AM.cellAt h b o = some (e l[i]) := by
    have := yg2r (m := 0) h2 (by omega)
    simpa using this
  rw [h1, ycro this]
theorem Sl.ixf (hs : Sl enc sz h v l) {i off : Nat} (hi : i < l.length) {w : Value} (hw : (enc l[i])[off]? = some w) {u : Dm K} : u_ixf false 1 off none sz v (.int k i) h K u = K w := by
  obtain ⟨b, o, h1, h2⟩ := hs.at hi
  show ys75 none sz v (.int k i) (fun a => yokc off a fun a => ysm8 false 1 a h K) = _
  have hlt : off < (enc l[i]).length := (List.getElem?_eq_some_iff.1 hw).1
  have hz : (enc l[i]).length = sz := hs.1 _ (List.getElem_mem hi)
  have : AM.cellAt h b (o + off) = some w := by rw [yg2r h2 (by omega)]; exact hw
  rw [h1, y2i1, ycro this]
theorem Sl.ulen (hs : Sl enc sz h v l) {u : Dm K} : ywmm v K u = K (.int .i64 l.length) := hs.len
end
section
variable {β : Type}
def fnd (a : Int) : List (Int × β) → Option β
  | [] => none
  | e :: r => if a = e.1 then some e.2 else fnd a r
theorem y6z5 {k : IntKind} {f : β → Value} {a : Int} : ∀ {l : List (Int × β)}, mfind (l.map fun p => (.int k p.1, f p.2)) (.int k a) = (fnd a l).map f
  | [] => rfl
  | e :: r => by
    simp only [List.map_cons, mfind, fnd]
    by_cases h : a = e.1
    · have : keyEq (.int k a) (.int k e.1) = true := by simp [keyEq, h]
      rw [this, if_pos h]; rfl
    · have : keyEq (.int k a) (.int k e.1) = false := by simp [keyEq, h]
      rw [this, if_neg h]; exact y6z5
theorem ywya {k : IntKind} {f : Int × β → Value} {a : Int} : ∀ {l : List (Int × β)}, mfind (l.map fun p => (.int k p.1, f p)) (.int k a) = (fnd a l).map fun b => f (a, b)
  | [] => rfl
  | e :: r => by
    simp only [List.map_cons, mfind, fnd]
    by_cases h : a = e.1
    · have : keyEq (.int k a) (.int k e.1) = true := by simp [keyEq, h]
      rw [this, if_pos h, h]; rfl
    · have : keyEq (.int k a) (.int k e.1) = false := by simp [keyEq, h]
      rw [this, if_neg h]; exact ywya
theorem y5ut {a : Int} {b : β} : ∀ {l : List (Int × β)}, fnd a l = some b → (a, b) ∈ l
  | [], h => by cases h
  | e :: r, h => by
    simp only [fnd] at h
    split at h
    · rename_i he; cases h; subst he; exact List.mem_cons_self ..
    · exact List.mem_cons_of_mem _ (y5ut h)
end
section
variable {h : H} {K : Value → Prop} {kk : KK} {z : Value} {m : Nat} {es : List (Value × Value)} {ck : Nat} {x : Value}
theorem y69s {w : Value} (hm : h m = some (.map kk es ck)) (hk : kkHas kk x = true) (hf : mfind es x = some w) {okk : Bool} {u : Dm K} : ylsp kk z (.map (some m)) x okk h K u = K (bif okk then .tuple #[w, .bool true] else w) := by
  show (_ ∧ _) = _
  simp [hk, hm, hf]
theorem y2ml (hm : h m = some (.map kk es ck)) (hk : kkHas kk x = true) (hf : mfind es x = none) {okk : Bool} {u : Dm K} : ylsp kk z (.map (some m)) x okk h K u = K (bif okk then .tuple #[z, .bool false] else z) := by
  show (_ ∧ _) = _
  simp [hk, hm, hf]
end
section
variable {α : Type} {enc : α → List Value} {sz : Nat}
theorem yw9z {e : TypeId} {bytes : Nat} {h0 h : H} {v : Value} {l : List α} {x : α} {K : K1} (hg : Gr enc sz e h0 h v l) (hsub : Sub h0 h) (hx : (enc x).length = sz) (h0z : 0 < sz)
    (hb : (l.length + 1) * bytes ≤ 140737488355328) (hn : l.length + 1 < 9223372036854775808)
    (hk : ∀ v' h', Gr enc sz e h0 h' v' (l ++ [x]) → Sub h0 h' → (∀ c o, h c = some o → yc20 v ≠ some c → h' c = some o) → (∀ c, yc20 v' = some c → h c = none) → K v' h') {cs : List Value} (hcs : cs = enc x) :
    u_new cs e .exact h (fun b h => yx4h e sz bytes v (.slice (some ⟨b, 0, none⟩) 1 1) h K) := by
  subst hcs
  intro b hb2 hbn
  have hg' : Gr enc sz e h0 (upd h b (.cells (enc x) e .exact)) v l := hg.keep fun c hc => yrkk _ _ fun he => by
    rw [he] at hc; exact hg.there hc hbn
  refine Gr.append (m := [x]) hg' (Sl.of_block (b := b) (o := 0) (l := [x]) (c := 1) (by simpa using hx) (yy0e _ _ _) (by simp [← hx]) (by simp [hx])) (by simp) h0z (by simpa using hb) (by simpa using hn) (hsub.upd (hsub.none hbn)) fun v' h' g1 g2 g3 g4 => ?_
  refine hk v' h' g1 g2 (fun c o hc hv => g3 c o ?_ hv) fun c hc => ?_
  · rw [yrkk _ _ fun he => by rw [he, hbn] at hc; cases hc]; exact hc
  · have := g4 c hc
    rw [ynej] at this
    exact this.2.2
theorem Gr.exact_ne {e E : TypeId} {h0 h : H} {v : Value} {l : List α} (hg : Gr enc sz e h0 h v l) {c : Nat} {cs : List Value} (hc : h c = some (.cells cs E .exact)) : yc20 v ≠ some c := fun hb => by
  have := hg.isOpen hb
  rw [hc] at this
  cases this
end
theorem yb3e {h : H} {b : Nat} {cs : List Value} {E : TypeId} {m : Own} (hb : h b = some (.cells cs E m)) {i : Nat} : cellAt h b i = cs[i]? := by simp [cellAt, hb]
theorem yzql {h : H} {b : Nat} {cs : List Value} {E : TypeId} {m : Own} (hb : h b = some (.cells cs E m)) {i n : Nat} : cellsAt h b i n = if i + n ≤ cs.length then some ((cs.drop i).take n) else none := by simp [cellsAt, hb]
end Go.Proofs.YtnckimioabkheaaGreat.AM

set_option linter.unusedSimpArgs false
set_option linter.unusedVariables false
set_option maxRecDepth 100000
namespace Go.Proofs.YtnckimioabkheaaGreat
open AM
theorem yq9z {S : Type} {body : S → H → (S → H → Prop) → Prop} {s : S} {h : H} (hb : ∀ K, body s h K) : sloop body s h :=
  yo1k 0 (fun _ s' h' => s' = s ∧ h' = h) ⟨rfl, rfl⟩ fun i s' h' K _ e _ => by obtain ⟨rfl, rfl⟩ := e; exact hb K
abbrev nilV : Value := .slice none 0 0
section
variable {h : H} {K : K1}
theorem ync7 {f : Value} (hf : boxV f = true) (hk : K (.bool false) h) : AM.Spec PG ysqm [nilV, f] h K := by
  refine yn0p _ _ _ _ ?_
  unfold yz4o yb8b
  refine ⟨by simp [hf], yvc0 _ _ _ _ ?_⟩
  simp (config := {dsimp := false}) [↓yivv, ↓ye2u, ↓yvzc, ↓ylud]
  unfold ykwi y0zs
  refine yq9z fun K' => ?_
  simp (config := {dsimp := false}) [↓yoqf, ↓yzwg]
  exact hk
theorem ytib (hk : K (.bool true) h) : AM.Spec PG yne3 [nilV] h K := by
  refine yg0t _ _ _ ?_
  simp (config := {dsimp := false}) [↓yfnm, ↓ydjn, ↓ya7k, ↓yc63]
  unfold y5be y4z7
  refine yq9z fun K' => ?_
  simp (config := {dsimp := false}) [↓yw94, ↓yc74]
  exact hk
theorem yca5 (hk : K (.bool true) h) : AM.Spec PG yob1 [nilV] h K := by
  refine y7n2 _ _ _ ?_
  simp (config := {dsimp := false}) [↓y27c, ↓yuzy, ↓y10k, ↓y0g4]
  unfold ydmq y2yr
  refine yq9z fun K' => ?_
  simp (config := {dsimp := false}) [↓ynyk, ↓yrid]
  exact hk
abbrev yh6o : Value := .agg #[nilV, nilV, nilV, nilV, nilV, nilV]
theorem ynul (hk : K (.bool true) h) : AM.Spec PG yz9h [yh6o] h K := by
  refine yz7m (fun K hk => ?_) hk
  refine yona _ _ _ ?_
  simp (config := {dsimp := false}) [↓ypj2, ↓ybd8]
  intro b _ hb
  have hc := yy0e h b (.cells [nilV, nilV, nilV, nilV, nilV, nilV] ylzr .exact)
  have hs : Sub h (upd h b (.cells [nilV, nilV, nilV, nilV, nilV, nilV] ylzr .exact)) := Sub.new hb
  generalize upd h b _ = h1 at *
  refine ⟨rfl, ync7 rfl ?_⟩
  simp (config := {dsimp := false}) [yb3e hc]
  refine ⟨rfl, ytib ?_⟩
  simp (config := {dsimp := false}) [yb3e hc]
  show yjdf PG yob1 [nilV] h1 _
  exact ⟨rfl, yca5 (hk _ hs)⟩
abbrev noPol : Value := .agg #[.bool false, nilV, nilV]
theorem yvhg (hk : K (.bool true) h) : AM.Spec PG ygvc [noPol] h K := by
  refine yz7m (fun K hk => ?_) hk
  refine y5tv _ _ _ ?_
  simp (config := {dsimp := false}) [↓yly3, ↓ymc9]
  intro b _ hb
  have hc := yy0e h b (.cells [.bool false, nilV, nilV] y4pp .exact)
  have hs : Sub h (upd h b (.cells [.bool false, nilV, nilV] y4pp .exact)) := Sub.new hb
  generalize upd h b _ = h1 at *
  simp (config := {dsimp := false}) [↓y8ht, ↓ywzw, yb3e hc]
  unfold yn27 ymtv
  refine yq9z fun K' => ?_
  simp (config := {dsimp := false}) [↓y7x2, ↓y1q4, ↓y5sh, yb3e hc]
  unfold y7oe ybsy
  refine yq9z fun K' => ?_
  simp (config := {dsimp := false}) [↓y7j7, ↓yjfb, yb3e hc]
  exact hk _ hs
theorem yygv {K : Value → Prop} {u : Dm K} : u_bin PG .eql yvtk nilV nilV K u = K (.bool true) := by kernel_rfl
theorem ygqz {K : Value → Prop} {u : Dm K} : u_bin PG .eql yhm9 nilV nilV K u = K (.bool true) := by kernel_rfl
theorem yv8n (hk : K nilV h) : AM.Spec PG y402 [nilV] h K := by
  refine yhjz _ _ _ ?_
  simp (config := {dsimp := false}) [↓ymww, ↓y7kq, yygv]
  exact hk
theorem yplh (hk : K nilV h) : AM.Spec PG ydu8 [nilV] h K := by
  refine y53r _ _ _ ?_
  simp (config := {dsimp := false}) [↓yssw, ↓yvr7, ygqz]
  exact hk
theorem y6tp (hk : ∀ h', Sub h h' → K noPol h') : AM.Spec PG y4s5 [noPol] h K := by
  refine yfj3 _ _ _ ?_
  simp (config := {dsimp := false}) [↓yxdy, ↓y08q, ↓y8as]
  intro b _ hb b1 _ n1 n2 hb1
  have hs : Sub h (upd (upd h b (.cells [.bool false, nilV, nilV] y4pp .exact)) b1 (.cells [.bool false, nilV, nilV] y4pp .exact)) := Sub.upd (Sub.new hb) hb1
  have hc1 := yy0e (upd h b (.cells [.bool false, nilV, nilV] y4pp .exact)) b1 (.cells [.bool false, nilV, nilV] y4pp .exact)
  have hc : upd (upd h b (.cells [.bool false, nilV, nilV] y4pp .exact)) b1 (.cells [.bool false, nilV, nilV] y4pp .exact) b = some (.cells [.bool false, nilV, nilV] y4pp .exact) := (yrkk _ _ n2).trans (yy0e _ _ _)
  generalize upd (upd h b _) b1 _ = h1 at *
  have key : ∀ q q', K noPol (upd (upd h1 b q) b1 q') := fun q q' => hk _ (Sub.upd (Sub.upd hs hb) hb1)
  simp (config := {dsimp := false}) [↓yzt0, yb3e hc]
  constructor
  · refine ⟨rfl, yv8n ?_⟩
    simp (config := {dsimp := false})
    refine ⟨rfl, yplh ?_⟩
    simp (config := {dsimp := false}) [hc, hc1, n1, n2, ↓ypw0]
    exact key _ _
  · refine ⟨rfl, yv8n ?_⟩
    simp (config := {dsimp := false}) [yb3e hc]
    refine ⟨rfl, yplh ?_⟩
    simp (config := {dsimp := false}) [hc, hc1, n1, n2, ↓ypw0]
    exact key _ _
end
end Go.Proofs.YtnckimioabkheaaGreat

set_option linter.unusedVariables false
set_option maxRecDepth 100000
namespace Go.Proofs.YtnckimioabkheaaGreat
open Go.Proofs.YtnckimioabkheaaGreat.AM
@[simp] theorem ywkh {a0 : Int} {a1a : Option Addr} {a1n : Nat} {a1c : Nat} {K : Value → Prop} {u : Dm K} : ysnr PG y33u [(0, .int .u32 a0), (1, .slice a1a a1n a1c)] K u = K (.agg #[.int .u32 a0, .slice a1a a1n a1c]) := by kernel_rfl
@[simp] theorem yg3d {a0 : Int} {a1 : Int} {a2 : Int} {a3a : Option Addr} {a3n : Nat} {a3c : Nat} {K : Value → Prop} {u : Dm K} : ysnr PG ym0k [(0, .int .u32 a0), (1, .int .u32 a1), (2, .int .i64 a2), (3, .slice a3a a3n a3c)] K u = K (.agg #[.int .u32 a0, .int .u32 a1, .int .i64 a2, .slice a3a a3n a3c]) := by kernel_rfl
@[simp] theorem ydmx {a0_0 : Int} {a0_1 : Int} {a0_2 : Int} {a0_3a : Option Addr} {a0_3n : Nat} {a0_3c : Nat} {a1_0 : Int} {a1_1 : Int} {a1_2 : Int} {a1_3a : Option Addr} {a1_3n : Nat} {a1_3c : Nat} {h : H} {K : K1} {u : Dm K} : ynqb PG yeu3 2 [(0, .agg #[.int .u32 a0_0, .int .u32 a0_1, .int .i64 a0_2, .slice a0_3a a0_3n a0_3c]), (1, .agg #[.int .u32 a1_0, .int .u32 a1_1, .int .i64 a1_2, .slice a1_3a a1_3n a1_3c])] h K u = u_new [.int .u32 a0_0, .int .u32 a0_1, .int .i64 a0_2, .slice a0_3a a0_3n a0_3c, .int .u32 a1_0, .int .u32 a1_1, .int .i64 a1_2, .slice a1_3a a1_3n a1_3c] ym0k .exact h fun b h => K (.slice (some ⟨b, 0, none⟩) 2 2) h := by kernel_rfl
@[simp] theorem y2i5 {a0 : Int} {a1 : Int} {a2 : Int} {a3 : Int} {h : H} {K : K1} {u : Dm K} : ynqb PG y8f0 4 [(0, .int .u8 a0), (1, .int .u8 a1), (2, .int .u8 a2), (3, .int .u8 a3)] h K u = u_new [.int .u8 a0, .int .u8 a1, .int .u8 a2, .int .u8 a3] yoj6 .exact h fun b h => K (.slice (some ⟨b, 0, none⟩) 4 4) h := by kernel_rfl
def ykuu (x0 x3 x4 : Value) (h : H) (Kn : K3) (Kr : K1) (Ke0 : K1) : Prop :=
  ywmm x0 fun v8 => u_bin PG .lss T_int x4 v8 fun v9 => u_if v9 (u_ix false 1 none x0 x4 h fun v15 => y2x6 .u8 v15 fun v18 => u_bin PG .shr ycpa v15 (.int .u64 8) fun v20 => y2x6 .u8 v20 fun v21 => u_bin PG .shr ycpa v15 (.int .u64 16) fun v23 => y2x6 .u8 v23 fun v24 => u_bin PG .shr ycpa v15 (.int .u64 24) fun v26 => y2x6 .u8 v26 fun v27 => ynqb PG y8f0 4 [(0, v18), (1, v21), (2, v24), (3, v27)] h fun v28 h => yx4h yoj6 1 1 x3 v28 h fun v29 h => u_bin PG .add T_int x4 (.int .i64 1) fun v11 => Kn x0 v29 v11 h) (Ke0 x3 h)
theorem y26w (Kn : K3) (Kr : K1) (Ke0 : K1) (t : T) (h : H) (H0 : ykuu (t 0) (t 3) (t 4) h Kn Kr Ke0) : Wp PG 31 (lopC (blkC (rest 1 (seqL (rest 2 (ygjk Tryz.f136.body)))))) (mkQ (q3 Kn 0 3 4) (q1 Kr 2) (keAdd 0 (q1 Ke0 3) ke0)) t h :=
  wpEqC E5_ok H0 (by kernel_rfl)
def y38d (x0 x3 x4 : Value) (h : H) (Kn : K1) (Kr : K1) (Ke0 : K1) : Prop :=
  sloop (S := Value × Value × Value) (fun s h K => ykuu s.1 s.2.1 s.2.2 h (fun y0 y3 y4 h => K (y0, y3, y4) h) Kr Ke0) (x0, x3, x4) h
theorem ys29 (Kn : K1) (Kr : K1) (Ke0 : K1) (t : T) (h : H) (H0 : y38d (t 0) (t 3) (t 4) h Kn Kr Ke0) : Wp PG 31 (blkC (rest 1 (seqL (rest 2 (ygjk Tryz.f136.body))))) (mkQ (q1 Kn 3) (q1 Kr 2) (keAdd 0 (q1 Ke0 3) ke0)) t h :=
  yv0a (fun t => (t 0, t 3, t 4)) (by kernel_rfl) (fun t h K H1 => y26w (fun y0 y3 y4 h => K (y0, y3, y4) h) Kr Ke0 t h H1) H0
def yaaf (x0 x3 x4 : Value) (h : H) (Kn : K1) (Kr : K1) : Prop :=
  y38d x0 x3 x4 h Kn Kr Kn
theorem y310 (Kn : K1) (Kr : K1) (t : T) (h : H) (H0 : yaaf (t 0) (t 3) (t 4) h Kn Kr) : Wp PG 31 (rest 1 (seqL (rest 2 (ygjk Tryz.f136.body)))) (mkQ (q1 Kn 3) (q1 Kr 2) ke0) t h :=
  y6tu 0 (by kernel_rfl) (by kernel_rfl) (ys29 Kn Kr Kn t h H0)
def ynst (x0 x3 : Value) (h : H) (Kn : K1) (Kr : K1) : Prop :=
  yaaf x0 x3 (.int .i64 0) h Kn Kr
theorem ycfg (Kn : K1) (Kr : K1) (t : T) (h : H) (H0 : ynst (t 0) (t 3) h Kn Kr) : Wp PG 31 (seqL (rest 2 (ygjk Tryz.f136.body))) (mkQ (q1 Kn 3) (q1 Kr 2) ke0) t h :=
  yvnp E5_ok 1 H0 (by kernel_rfl) (fun t h (H1 : yaaf (t 0) (t 3) (t 4) h Kn Kr) => y310 Kn Kr t h H1) (by kernel_rfl)
def yqt0 (x3 : Value) (h : H) (Kn : K1) (Kr : K1) : Prop :=
  Kr x3 h
theorem yhft (Kn : K1) (Kr : K1) (t : T) (h : H) (H0 : yqt0 (t 3) h Kn Kr) : Wp PG 31 (seqR (rest 2 (ygjk Tryz.f136.body))) (mkQ (q1 Kn 2) (q1 Kr 2) ke0) t h :=
  wpEqC E5_ok H0 (by kernel_rfl)
def yd6n (x0 x3 : Value) (h : H) (Kn : K1) (Kr : K1) : Prop :=
  ynst x0 x3 h (fun y3 h => yqt0 y3 h Kn Kr) Kr
theorem yqjm (Kn : K1) (Kr : K1) (t : T) (h : H) (H0 : yd6n (t 0) (t 3) h Kn Kr) : Wp PG 31 (rest 2 (ygjk Tryz.f136.body)) (mkQ (q1 Kn 2) (q1 Kr 2) ke0) t h :=
  ykv2 (by kernel_rfl) (fun t h H1 => yhft Kn Kr t h H1) (ycfg (fun y3 h => yqt0 y3 h Kn Kr) Kr t h H0)
def yf7f (x0 : Value) (h : H) (Kn : K1) (Kr : K1) : Prop :=
  yd6n x0 (.slice none 0 0) h Kn Kr
theorem yj65 (Kn : K1) (Kr : K1) (t : T) (h : H) (H0 : yf7f (t 0) h Kn Kr) : Wp PG 31 (ygjk Tryz.f136.body) (mkQ (q1 Kn 2) (q1 Kr 2) ke0) t h :=
  yvnp E5_ok 2 H0 (by kernel_rfl) (fun t h (H1 : yd6n (t 0) (t 3) h Kn Kr) => yqjm Kn Kr t h H1) (by kernel_rfl)
def ymuy (x0 : Value) (h : H) (Q : K1) : Prop := yf7f x0 h Q Q
theorem yoqc (x0 : Value) (h : H) (Q : K1) (H0 : ymuy x0 h Q) : AM.Spec PG yqrg [x0] h Q :=
  yqxt mixed (fn := Tryz.f136) Tryz.func136 (c := ygjk Tryz.f136.body) (rs := [2]) (N := 31) (by kernel_rfl) (by kernel_rfl) (by kernel_rfl) (by kernel_rfl) (by kernel_rfl) (Nat.le_of_ble_eq_true rfl) (yj65 Q Q (tinit [x0]) h H0) (by kernel_rfl)
def yql2 (x0 x1 x2 x21 : Value) (h : H) (Kn : K2) (Kr : K2) : Prop :=
  u_new [.int .u32 0, .slice none 0 0] y33u .exact h fun b6 h => yjdf PG yqrg [x0] h fun v9 h => ysnr PG ym0k [(0, (.int .u32 4096)), (1, (.int .u32 1024)), (2, (.int .i64 5)), (3, v9)] fun v10 => ysnr PG ym0k [(0, (.int .u32 65536)), (1, (.int .u32 512)), (2, (.int .i64 3)), (3, x1)] fun v12 => ynqb PG yeu3 2 [(0, v10), (1, v12)] h fun v13 h => ysnr PG y33u [(0, (.int .u32 4096)), (1, v13)] fun v14 => u_new [.int .u32 0, .slice none 0 0] y33u .exact h fun b7 h => ylel 2 (.pointer (some ⟨b7, 0, none⟩)) v14 h fun h => u_if x2 (u_bf false 1 1 (.pointer (some ⟨b7, 0, none⟩)) h fun v17 => yji6 none 4 v17 (.int .i64 0) fun v18 => u_st 1 2 v18 (.int .i64 7) h fun h => ybqh true 2 (.pointer (some ⟨b7, 0, none⟩)) h fun v20 => ylel 2 (.pointer (some ⟨b6, 0, none⟩)) v20 h fun h => Kr (.pointer (some ⟨b6, 0, none⟩)) x21 h) (ybqh true 2 (.pointer (some ⟨b7, 0, none⟩)) h fun v20 => ylel 2 (.pointer (some ⟨b6, 0, none⟩)) v20 h fun h => Kr (.pointer (some ⟨b6, 0, none⟩)) x21 h)
theorem yw3j (Kn : K2) (Kr : K2) (t : T) (h : H) (H0 : yql2 (t 0) (t 1) (t 2) (t 21) h Kn Kr) : Wp PG 21 (ygjk Tryz.f42.body) (mkQ (q2 Kn 6 21) (q2 Kr 6 21) ke0) t h :=
  wpEqC E5_ok H0 (by kernel_rfl)
def ybgv (x0 x1 x2 : Value) (h : H) (Q : K1) : Prop := yql2 x0 x1 x2 undef h (fun y6 y21 h => o_ret y21 h (fun h => ybqh true 2 y6 h fun v => Q v h)) (fun y6 y21 h => o_ret y21 h (fun h => ybqh true 2 y6 h fun v => Q v h))
theorem ymx3 (x0 x1 x2 : Value) (h : H) (Q : K1) (H0 : ybgv x0 x1 x2 h Q) : AM.Spec PG y1z6 [x0, x1, x2] h Q :=
  ysgf mixed (fn := Tryz.f42) Tryz.func42 (c := ygjk Tryz.f42.body) (a := 6) (ty := 102) (ag := true) (n := 2) (N := 21) (by kernel_rfl) (by kernel_rfl) (by kernel_rfl) (by kernel_rfl) (by kernel_rfl) (by kernel_rfl) (Nat.le_of_ble_eq_true rfl) (yw3j (fun y6 y21 h => o_ret y21 h (fun h => ybqh true 2 y6 h fun v => Q v h)) (fun y6 y21 h => o_ret y21 h (fun h => ybqh true 2 y6 h fun v => Q v h)) (tinit [x0, x1, x2]) h H0) (by kernel_rfl)
def yzuv (x0 x6 x9 x10 x11 : Value) (h : H) (Kn : K6) (Kr : K1) (Ke1 : K4) (Ke0 : K0) : Prop :=
  u_pf false 1 0 x0 h fun v18 => u_bf false 1 0 x6 h fun v20 => u_bf false 1 1 x6 h fun v22 => u_bf false 1 2 x6 h fun v24 => yjdf PG yhif [v18, v20, v22, v24] h fun v25 h => Kn x0 x6 v25 x9 x10 x11 h
theorem yx8z (Kn : K6) (Kr : K1) (Ke1 : K4) (Ke0 : K0) (t : T) (h : H) (H0 : yzuv (t 0) (t 6) (t 9) (t 10) (t 11) h Kn Kr Ke1 Ke0) : Wp PG 42 (seqL (seqL (rest 1 (blkC (seqL (rest 2 (lopC (blkC (rest 1 (seqL (rest 1 (ygjk Tryz.f142.body)))))))))))) (mkQ (q6 Kn 0 6 7 9 10 11) (q1 Kr 4) (keAdd 1 (q4 Ke1 0 9 10 11) (keAdd 0 (q0 Ke0) ke0))) t h :=
  ybop E5_ok [0, 1, 2, 3, 4, 5, 6, 7, 8, 9, 10, 11] (by kernel_rfl) (by kernel_rfl) H0 (by kernel_rfl)
def y79q (x0 x6 x7 x9 x10 x11 : Value) (h : H) (Kn : K5) (Kr : K1) (Ke1 : K4) (Ke0 : K0) : Prop :=
  u_bin PG .neq ya0f x7 (.int .i64 0) fun v27 => u_if v27 (Kr x7 h) (Kn x0 x6 x9 x10 x11 h)
theorem ymai (Kn : K5) (Kr : K1) (Ke1 : K4) (Ke0 : K0) (t : T) (h : H) (H0 : y79q (t 0) (t 6) (t 7) (t 9) (t 10) (t 11) h Kn Kr Ke1 Ke0) : Wp PG 42 (seqR (seqL (rest 1 (blkC (seqL (rest 2 (lopC (blkC (rest 1 (seqL (rest 1 (ygjk Tryz.f142.body)))))))))))) (mkQ (q5 Kn 0 6 9 10 11) (q1 Kr 4) (keAdd 1 (q4 Ke1 0 9 10 11) (keAdd 0 (q0 Ke0) ke0))) t h :=
  wpEqC E5_ok H0 (by kernel_rfl)
def y02s (x0 x6 x9 x10 x11 : Value) (h : H) (Kn : K5) (Kr : K1) (Ke1 : K4) (Ke0 : K0) : Prop :=
  yzuv x0 x6 x9 x10 x11 h (fun y0 y6 y7 y9 y10 y11 h => y79q y0 y6 y7 y9 y10 y11 h Kn Kr Ke1 Ke0) Kr Ke1 Ke0
theorem yjm3 (Kn : K5) (Kr : K1) (Ke1 : K4) (Ke0 : K0) (t : T) (h : H) (H0 : y02s (t 0) (t 6) (t 9) (t 10) (t 11) h Kn Kr Ke1 Ke0) : Wp PG 42 (seqL (rest 1 (blkC (seqL (rest 2 (lopC (blkC (rest 1 (seqL (rest 1 (ygjk Tryz.f142.body))))))))))) (mkQ (q5 Kn 0 6 9 10 11) (q1 Kr 4) (keAdd 1 (q4 Ke1 0 9 10 11) (keAdd 0 (q0 Ke0) ke0))) t h :=
  ykv2 (by kernel_rfl) (fun t h H1 => ymai Kn Kr Ke1 Ke0 t h H1) (yx8z (fun y0 y6 y7 y9 y10 y11 h => y79q y0 y6 y7 y9 y10 y11 h Kn Kr Ke1 Ke0) Kr Ke1 Ke0 t h H0)
def ym52 (x0 x6 x9 x10 x11 : Value) (h : H) (Kn : K5) (Kr : K1) (Ke1 : K4) (Ke0 : K0) : Prop :=
  u_pf false 1 0 x0 h fun v32 => u_bf false 1 0 x6 h fun v34 => u_bf false 1 3 x6 h fun v36 => yjdf PG ylv9 [v32, v34, v36] h fun v37 h => Kn x0 v37 x9 x10 x11 h
theorem yey1 (Kn : K5) (Kr : K1) (Ke1 : K4) (Ke0 : K0) (t : T) (h : H) (H0 : ym52 (t 0) (t 6) (t 9) (t 10) (t 11) h Kn Kr Ke1 Ke0) : Wp PG 42 (seqL (seqR (rest 1 (blkC (seqL (rest 2 (lopC (blkC (rest 1 (seqL (rest 1 (ygjk Tryz.f142.body)))))))))))) (mkQ (q5 Kn 0 8 9 10 11) (q1 Kr 4) (keAdd 1 (q4 Ke1 0 9 10 11) (keAdd 0 (q0 Ke0) ke0))) t h :=
  ybop E5_ok [0, 1, 2, 3, 4, 5, 6, 7, 8, 9] (by kernel_rfl) (by kernel_rfl) H0 (by kernel_rfl)
def yp6m (x0 x8 x9 x10 x11 : Value) (h : H) (Kn : K4) (Kr : K1) (Ke1 : K4) (Ke0 : K0) : Prop :=
  u_bin PG .neq ya0f x8 (.int .i64 0) fun v39 => u_if v39 (Kr x8 h) (Kn x0 x9 x10 x11 h)
theorem yyrx (Kn : K4) (Kr : K1) (Ke1 : K4) (Ke0 : K0) (t : T) (h : H) (H0 : yp6m (t 0) (t 8) (t 9) (t 10) (t 11) h Kn Kr Ke1 Ke0) : Wp PG 42 (seqR (seqR (rest 1 (blkC (seqL (rest 2 (lopC (blkC (rest 1 (seqL (rest 1 (ygjk Tryz.f142.body)))))))))))) (mkQ (q4 Kn 0 9 10 11) (q1 Kr 4) (keAdd 1 (q4 Ke1 0 9 10 11) (keAdd 0 (q0 Ke0) ke0))) t h :=
  wpEqC E5_ok H0 (by kernel_rfl)
def ya6l (x0 x6 x9 x10 x11 : Value) (h : H) (Kn : K4) (Kr : K1) (Ke1 : K4) (Ke0 : K0) : Prop :=
  ym52 x0 x6 x9 x10 x11 h (fun y0 y8 y9 y10 y11 h => yp6m y0 y8 y9 y10 y11 h Kn Kr Ke1 Ke0) Kr Ke1 Ke0
theorem yaq3 (Kn : K4) (Kr : K1) (Ke1 : K4) (Ke0 : K0) (t : T) (h : H) (H0 : ya6l (t 0) (t 6) (t 9) (t 10) (t 11) h Kn Kr Ke1 Ke0) : Wp PG 42 (seqR (rest 1 (blkC (seqL (rest 2 (lopC (blkC (rest 1 (seqL (rest 1 (ygjk Tryz.f142.body))))))))))) (mkQ (q4 Kn 0 9 10 11) (q1 Kr 4) (keAdd 1 (q4 Ke1 0 9 10 11) (keAdd 0 (q0 Ke0) ke0))) t h :=
  ykv2 (by kernel_rfl) (fun t h H1 => yyrx Kn Kr Ke1 Ke0 t h H1) (yey1 (fun y0 y8 y9 y10 y11 h => yp6m y0 y8 y9 y10 y11 h Kn Kr Ke1 Ke0) Kr Ke1 Ke0 t h H0)
def yxcb (x0 x6 x9 x10 x11 : Value) (h : H) (Kn : K4) (Kr : K1) (Ke1 : K4) (Ke0 : K0) : Prop :=
  y02s x0 x6 x9 x10 x11 h (fun y0 y6 y9 y10 y11 h => ya6l y0 y6 y9 y10 y11 h Kn Kr Ke1 Ke0) Kr Ke1 Ke0
theorem yf6h (Kn : K4) (Kr : K1) (Ke1 : K4) (Ke0 : K0) (t : T) (h : H) (H0 : yxcb (t 0) (t 6) (t 9) (t 10) (t 11) h Kn Kr Ke1 Ke0) : Wp PG 42 (rest 1 (blkC (seqL (rest 2 (lopC (blkC (rest 1 (seqL (rest 1 (ygjk Tryz.f142.body)))))))))) (mkQ (q4 Kn 0 9 10 11) (q1 Kr 4) (keAdd 1 (q4 Ke1 0 9 10 11) (keAdd 0 (q0 Ke0) ke0))) t h :=
  ykv2 (by kernel_rfl) (fun t h H1 => yaq3 Kn Kr Ke1 Ke0 t h H1) (yjm3 (fun y0 y6 y9 y10 y11 h => ya6l y0 y6 y9 y10 y11 h Kn Kr Ke1 Ke0) Kr Ke1 Ke0 t h H0)
def ytdv (x0 x9 x10 x11 : Value) (h : H) (Kn : K4) (Kr : K1) (Ke1 : K4) (Ke0 : K0) : Prop :=
  u_ix true 4 none x9 x11 h fun v14 => u_new [.int .u32 0, .int .u32 0, .int .i64 0, .slice none 0 0] ym0k .exact h fun b6 h => ylel 4 (.pointer (some ⟨b6, 0, none⟩)) v14 h fun h => yxcb x0 (.pointer (some ⟨b6, 0, none⟩)) x9 x10 x11 h Kn Kr Ke1 Ke0
theorem y7r2 (Kn : K4) (Kr : K1) (Ke1 : K4) (Ke0 : K0) (t : T) (h : H) (H0 : ytdv (t 0) (t 9) (t 10) (t 11) h Kn Kr Ke1 Ke0) : Wp PG 42 (blkC (seqL (rest 2 (lopC (blkC (rest 1 (seqL (rest 1 (ygjk Tryz.f142.body))))))))) (mkQ (q4 Kn 0 9 10 11) (q1 Kr 4) (keAdd 1 (q4 Ke1 0 9 10 11) (keAdd 0 (q0 Ke0) ke0))) t h :=
  yvnp E5_ok 1 H0 (by kernel_rfl) (fun t h (H1 : yxcb (t 0) (t 6) (t 9) (t 10) (t 11) h Kn Kr Ke1 Ke0) => yf6h Kn Kr Ke1 Ke0 t h H1) (by kernel_rfl)
def y85b (x0 x9 x10 x11 : Value) (h : H) (Kn : K4) (Kr : K1) (Ke0 : K0) : Prop :=
  ytdv x0 x9 x10 x11 h Kn Kr Kn Ke0
theorem ydj2 (Kn : K4) (Kr : K1) (Ke0 : K0) (t : T) (h : H) (H0 : y85b (t 0) (t 9) (t 10) (t 11) h Kn Kr Ke0) : Wp PG 42 (seqL (rest 2 (lopC (blkC (rest 1 (seqL (rest 1 (ygjk Tryz.f142.body)))))))) (mkQ (q4 Kn 0 9 10 11) (q1 Kr 4) (keAdd 0 (q0 Ke0) ke0)) t h :=
  y6tu 1 (by kernel_rfl) (by kernel_rfl) (y7r2 Kn Kr Kn Ke0 t h H0)
def ycl4 (x0 x9 x10 x11 : Value) (h : H) (Kn : K4) (Kr : K1) (Ke0 : K0) : Prop :=
  u_bin PG .add T_int x11 (.int .i64 1) fun v41 => Kn x0 x9 x10 v41 h
theorem y7vq (Kn : K4) (Kr : K1) (Ke0 : K0) (t : T) (h : H) (H0 : ycl4 (t 0) (t 9) (t 10) (t 11) h Kn Kr Ke0) : Wp PG 42 (seqR (rest 2 (lopC (blkC (rest 1 (seqL (rest 1 (ygjk Tryz.f142.body)))))))) (mkQ (q4 Kn 0 9 10 11) (q1 Kr 4) (keAdd 0 (q0 Ke0) ke0)) t h :=
  wpEqC E5_ok H0 (by kernel_rfl)
def yoek (x0 x9 x10 x11 : Value) (h : H) (Kn : K4) (Kr : K1) (Ke0 : K0) : Prop :=
  y85b x0 x9 x10 x11 h (fun y0 y9 y10 y11 h => ycl4 y0 y9 y10 y11 h Kn Kr Ke0) Kr Ke0
theorem yeff (Kn : K4) (Kr : K1) (Ke0 : K0) (t : T) (h : H) (H0 : yoek (t 0) (t 9) (t 10) (t 11) h Kn Kr Ke0) : Wp PG 42 (rest 2 (lopC (blkC (rest 1 (seqL (rest 1 (ygjk Tryz.f142.body))))))) (mkQ (q4 Kn 0 9 10 11) (q1 Kr 4) (keAdd 0 (q0 Ke0) ke0)) t h :=
  ykv2 (by kernel_rfl) (fun t h H1 => y7vq Kn Kr Ke0 t h H1) (ydj2 (fun y0 y9 y10 y11 h => ycl4 y0 y9 y10 y11 h Kn Kr Ke0) Kr Ke0 t h H0)
def yxhl (x0 x9 x10 x11 : Value) (h : H) (Kn : K4) (Kr : K1) (Ke0 : K0) : Prop :=
  u_bin PG .lss T_int x11 x10 fun v12 => u_if v12 (yoek x0 x9 x10 x11 h Kn Kr Ke0) (Ke0 h)
theorem yqi6 (Kn : K4) (Kr : K1) (Ke0 : K0) (t : T) (h : H) (H0 : yxhl (t 0) (t 9) (t 10) (t 11) h Kn Kr Ke0) : Wp PG 42 (lopC (blkC (rest 1 (seqL (rest 1 (ygjk Tryz.f142.body)))))) (mkQ (q4 Kn 0 9 10 11) (q1 Kr 4) (keAdd 0 (q0 Ke0) ke0)) t h :=
  yvnp E5_ok 2 H0 (by kernel_rfl) (fun t h (H1 : yoek (t 0) (t 9) (t 10) (t 11) h Kn Kr Ke0) => yeff Kn Kr Ke0 t h H1) (by kernel_rfl)
def yff1 (x0 x9 x10 x11 : Value) (h : H) (Kn : K0) (Kr : K1) (Ke0 : K0) : Prop :=
  sloop (S := Value × Value × Value × Value) (fun s h K => yxhl s.1 s.2.1 s.2.2.1 s.2.2.2 h (fun y0 y9 y10 y11 h => K (y0, y9, y10, y11) h) Kr Ke0) (x0, x9, x10, x11) h
theorem y1ww (Kn : K0) (Kr : K1) (Ke0 : K0) (t : T) (h : H) (H0 : yff1 (t 0) (t 9) (t 10) (t 11) h Kn Kr Ke0) : Wp PG 42 (blkC (rest 1 (seqL (rest 1 (ygjk Tryz.f142.body))))) (mkQ (q0 Kn) (q1 Kr 4) (keAdd 0 (q0 Ke0) ke0)) t h :=
  yv0a (fun t => (t 0, t 9, t 10, t 11)) (by kernel_rfl) (fun t h K H1 => yqi6 (fun y0 y9 y10 y11 h => K (y0, y9, y10, y11) h) Kr Ke0 t h H1) H0
def y5my (x0 x9 x10 x11 : Value) (h : H) (Kn : K0) (Kr : K1) : Prop :=
  yff1 x0 x9 x10 x11 h Kn Kr Kn
theorem yvzd (Kn : K0) (Kr : K1) (t : T) (h : H) (H0 : y5my (t 0) (t 9) (t 10) (t 11) h Kn Kr) : Wp PG 42 (rest 1 (seqL (rest 1 (ygjk Tryz.f142.body)))) (mkQ (q0 Kn) (q1 Kr 4) ke0) t h :=
  y6tu 0 (by kernel_rfl) (by kernel_rfl) (y1ww Kn Kr Kn t h H0)
def yml8 (x0 x1 : Value) (h : H) (Kn : K0) (Kr : K1) : Prop :=
  ywmm x1 fun v10 => y5my x0 x1 v10 (.int .i64 0) h Kn Kr
theorem yzm8 (Kn : K0) (Kr : K1) (t : T) (h : H) (H0 : yml8 (t 0) (t 1) h Kn Kr) : Wp PG 42 (seqL (rest 1 (ygjk Tryz.f142.body))) (mkQ (q0 Kn) (q1 Kr 4) ke0) t h :=
  yvnp E5_ok 1 H0 (by kernel_rfl) (fun t h (H1 : y5my (t 0) (t 9) (t 10) (t 11) h Kn Kr) => yvzd Kn Kr t h H1) (by kernel_rfl)
def ysa5 (h : H) (Kn : K1) (Kr : K1) : Prop :=
  Kr (.int .i64 0) h
theorem yo3a (Kn : K1) (Kr : K1) (t : T) (h : H) (H0 : ysa5  h Kn Kr) : Wp PG 42 (seqR (rest 1 (ygjk Tryz.f142.body))) (mkQ (q1 Kn 4) (q1 Kr 4) ke0) t h :=
  wpEqC E5_ok H0 (by kernel_rfl)
def yub3 (x0 x1 : Value) (h : H) (Kn : K1) (Kr : K1) : Prop :=
  yml8 x0 x1 h (fun  h => ysa5  h Kn Kr) Kr
theorem yjzj (Kn : K1) (Kr : K1) (t : T) (h : H) (H0 : yub3 (t 0) (t 1) h Kn Kr) : Wp PG 42 (rest 1 (ygjk Tryz.f142.body)) (mkQ (q1 Kn 4) (q1 Kr 4) ke0) t h :=
  ykv2 (by kernel_rfl) (fun t h H1 => yo3a Kn Kr t h H1) (yzm8 (fun  h => ysa5  h Kn Kr) Kr t h H0)
def yubh (x0 x1 : Value) (h : H) (Kn : K1) (Kr : K1) : Prop :=
  yub3 x0 x1 h Kn Kr
theorem y46j (Kn : K1) (Kr : K1) (t : T) (h : H) (H0 : yubh (t 0) (t 1) h Kn Kr) : Wp PG 42 (ygjk Tryz.f142.body) (mkQ (q1 Kn 4) (q1 Kr 4) ke0) t h :=
  yvnp E5_ok 1 H0 (by kernel_rfl) (fun t h (H1 : yub3 (t 0) (t 1) h Kn Kr) => yjzj Kn Kr t h H1) (by kernel_rfl)
def ypkn (x0 x1 : Value) (h : H) (Q : K1) : Prop := yubh x0 x1 h Q Q
theorem yvg9 (x0 x1 : Value) (h : H) (Q : K1) (H0 : ypkn x0 x1 h Q) : AM.Spec PG ysm3 [x0, x1] h Q :=
  yqxt mixed (fn := Tryz.f142) Tryz.func142 (c := ygjk Tryz.f142.body) (rs := [4]) (N := 42) (by kernel_rfl) (by kernel_rfl) (by kernel_rfl) (by kernel_rfl) (by kernel_rfl) (Nat.le_of_ble_eq_true rfl) (y46j Q Q (tinit [x0, x1]) h H0) (by kernel_rfl)
end Go.Proofs.YtnckimioabkheaaGreat

set_option linter.unusedVariables false
set_option maxRecDepth 100000
namespace Go.Proofs.YtnckimioabkheaaGreat
open Go.Proofs.YtnckimioabkheaaGreat.AM
@[simp] theorem yf5n {a0 : Int} {a1 : Option Nat} {a2 : Option Nat} {K : Value → Prop} {u : Dm K} : ysnr PG y7k4 [(0, .int .i64 a0), (1, .map a1), (2, .map a2)] K u = K (.agg #[.int .i64 a0, .map a1, .map a2]) := by kernel_rfl
@[simp] theorem y49q {a0 : Int} {a1 : Option Nat} {K : Value → Prop} {u : Dm K} : ysnr PG y2um [(0, .int .i64 a0), (1, .map a1)] K u = K (.agg #[.int .i64 a0, .map a1]) := by kernel_rfl
@[simp] theorem ygys {a1 : Int} {K : Value → Prop} {u : Dm K} : ysnr PG ynw2 [(1, .int .i64 a1)] K u = K (.agg #[.int .u8 0, .int .u8 0, .int .u8 0, .int .u8 0, .int .u8 0, .int .u8 0, .int .u8 0, .int .u8 0, .int .u8 0, .int .u8 0, .int .u8 0, .int .u8 0, .int .u8 0, .int .u8 0, .int .u8 0, .int .u8 0, .int .u8 0, .int .u8 0, .int .u8 0, .int .u8 0, .int .u8 0, .int .u8 0, .int .u8 0, .int .u8 0, .int .u8 0, .int .u8 0, .int .u8 0, .int .u8 0, .int .u8 0, .int .u8 0, .int .u8 0, .int .u8 0, .int .u8 0, .int .u8 0, .int .u8 0, .int .u8 0, .int .u8 0, .int .u8 0, .int .u8 0, .int .u8 0, .int .u8 0, .int .u8 0, .int .u8 0, .int .u8 0, .int .u8 0, .int .u8 0, .int .u8 0, .int .u8 0, .int .u8 0, .int .u8 0, .int .u8 0, .int .u8 0, .int .u8 0, .int .u8 0, .int .u8 0, .int .u8 0, .int .u8 0, .int .u8 0, .int .u8 0, .int .u8 0, .int .u8 0, .int .u8 0, .int .u8 0, .int .u8 0, .int .u8 0, .int .u8 0, .int .u8 0, .int .u8 0, .int .u8 0, .int .u8 0, .int .u8 0, .int .u8 0, .int .u8 0, .int .u8 0, .int .u8 0, .int .u8 0, .int .u8 0, .int .u8 0, .int .u8 0, .int .u8 0, .int .u8 0, .int .u8 0, .int .u8 0, .int .u8 0, .int .u8 0, .int .u8 0, .int .u8 0, .int .u8 0, .int .u8 0, .int .u8 0, .int .u8 0, .int .u8 0, .int .u8 0, .int .u8 0, .int .u8 0, .int .u8 0, .int .u8 0, .int .u8 0, .int .u8 0, .int .u8 0, .int .u8 0, .int .u8 0, .int .u8 0, .int .u8 0, .int .u8 0, .int .u8 0, .int .u8 0, .int .u8 0, .int .u8 0, .int .u8 0, .int .u8 0, .int .u8 0, .int .u8 0, .int .u8 0, .int .u8 0, .int .u8 0, .int .u8 0, .int .u8 0, .int .u8 0, .int .u8 0, .int .u8 0, .int .u8 0, .int .u8 0, .int .u8 0, .int .u8 0, .int .u8 0, .int .u8 0, .int .u8 0, .int .u8 0, .int .u8 0, .int .u8 0, .int .u8 0, .int .u8 0, .int .u8 0, .int .u8 0, .int .u8 0, .int .u8 0, .int .u8 0, .int .u8 0, .int .u8 0, .int .u8 0, .int .u8 0, .int .u8 0, .int .u8 0, .int .u8 0, .int .u8 0, .int .u8 0, .int .u8 0, .int .u8 0, .int .u8 0, .int .u8 0, .int .u8 0, .int .u8 0, .int .u8 0, .int .u8 0, .int .u8 0, .int .u8 0, .int .u8 0, .int .u8 0, .int .u8 0, .int .u8 0, .int .u8 0, .int .u8 0, .int .u8 0, .int .u8 0, .int .u8 0, .int .u8 0, .int .u8 0, .int .u8 0, .int .u8 0, .int .u8 0, .int .u8 0, .int .u8 0, .int .u8 0, .int .u8 0, .int .u8 0, .int .u8 0, .int .u8 0, .int .u8 0, .int .u8 0, .int .u8 0, .int .u8 0, .int .u8 0, .int .u8 0, .int .u8 0, .int .u8 0, .int .u8 0, .int .u8 0, .int .u8 0, .int .u8 0, .int .u8 0, .int .u8 0, .int .u8 0, .int .u8 0, .int .u8 0, .int .u8 0, .int .u8 0, .int .u8 0, .int .u8 0, .int .u8 0, .int .u8 0, .int .u8 0, .int .u8 0, .int .u8 0, .int .u8 0, .int .u8 0, .int .u8 0, .int .u8 0, .int .u8 0, .int .u8 0, .int .u8 0, .int .u8 0, .int .u8 0, .int .u8 0, .int .u8 0, .int .u8 0, .int .u8 0, .int .u8 0, .int .u8 0, .int .u8 0, .int .u8 0, .int .u8 0, .int .u8 0, .int .u8 0, .int .u8 0, .int .u8 0, .int .u8 0, .int .u8 0, .int .u8 0, .int .u8 0, .int .u8 0, .int .u8 0, .int .u8 0, .int .u8 0, .int .u8 0, .int .u8 0, .int .u8 0, .int .u8 0, .int .u8 0, .int .u8 0, .int .u8 0, .int .u8 0, .int .u8 0, .int .u8 0, .int .u8 0, .int .u8 0, .int .u8 0, .int .u8 0, .int .u8 0, .int .u8 0, .int .u8 0, .int .u8 0, .int .u8 0, .int .u8 0, .int .u8 0, .int .u8 0, .int .i64 a1]) := by kernel_rfl
@[simp] theorem ys8h {a0 : Int} {h : H} {K : K1} {u : Dm K} : ynqb PG yoi5 1 [(0, .int .u32 a0)] h K u = u_new [.int .u32 a0] ycpa .exact h fun b h => K (.slice (some ⟨b, 0, none⟩) 1 1) h := by kernel_rfl
def yw17 (x0 : Value) (h : H) (Kn : K2) (Kr : K2) : Prop :=
  u_bin PG .lss T_int x0 (.int .i64 1) fun v5 => ydv6 v5 false (fun k4 => u_bin PG .gtr T_int x0 (.int .i64 4096) fun v8 => k4 v8 h) (fun v8 h => y9rg v5 (.bool true) v8 fun v9 => u_if v9 (Kr (.pointer none) (.int .i64 1) h) (yaj8 (.map (.int .u32) [] 0) h fun b11 h => yaj8 (.map (.int .u32) [] 0) h fun b12 h => ysnr PG y7k4 [(0, x0), (1, (.map (some b11))), (2, (.map (some b12)))] fun v13 => boxV v13 = true ∧ u_new (Value.cells v13).toList y7k4 .exact h fun b14 h => Kr (.pointer (some ⟨b14, 0, none⟩)) (.int .i64 0) h)) h
theorem yj2i (Kn : K2) (Kr : K2) (t : T) (h : H) (H0 : yw17 (t 0) h Kn Kr) : Wp PG 15 (ygjk Tryz.f140.body) (mkQ (q2 Kn 2 3) (q2 Kr 2 3) ke0) t h :=
  wpEqC E5_ok H0 (by kernel_rfl)
def y91g (x0 : Value) (h : H) (Q : K1) : Prop := yw17 x0 h (fun y2 y3 h => bif [y2, y3].all boxV then Q (.tuple #[y2, y3]) h else False) (fun y2 y3 h => bif [y2, y3].all boxV then Q (.tuple #[y2, y3]) h else False)
theorem y4wx (x0 : Value) (h : H) (Q : K1) (H0 : y91g x0 h Q) : AM.Spec PG ynsj [x0] h Q :=
  yqxt mixed (fn := Tryz.f140) Tryz.func140 (c := ygjk Tryz.f140.body) (rs := [2, 3]) (N := 15) (by kernel_rfl) (by kernel_rfl) (by kernel_rfl) (by kernel_rfl) (by kernel_rfl) (Nat.le_of_ble_eq_true rfl) (yj2i (fun y2 y3 h => bif [y2, y3].all boxV then Q (.tuple #[y2, y3]) h else False) (fun y2 y3 h => bif [y2, y3].all boxV then Q (.tuple #[y2, y3]) h else False) (tinit [x0]) h H0) (by kernel_rfl)
def yomw (x0 : Value) (h : H) (Kn : K2) (Kr : K2) : Prop :=
  u_bin PG .lss T_int x0 (.int .i64 0) fun v5 => ydv6 v5 false (fun k4 => u_bin PG .gtr T_int x0 (.int .i64 4096) fun v8 => k4 v8 h) (fun v8 h => y9rg v5 (.bool true) v8 fun v9 => u_if v9 (Kr (.pointer none) (.int .i64 1) h) (yaj8 (.map (.int .u32) [] 0) h fun b11 h => ysnr PG y2um [(0, x0), (1, (.map (some b11)))] fun v12 => boxV v12 = true ∧ u_new (Value.cells v12).toList y2um .exact h fun b13 h => Kr (.pointer (some ⟨b13, 0, none⟩)) (.int .i64 0) h)) h
theorem yvc5 (Kn : K2) (Kr : K2) (t : T) (h : H) (H0 : yomw (t 0) h Kn Kr) : Wp PG 14 (ygjk Tryz.f141.body) (mkQ (q2 Kn 2 3) (q2 Kr 2 3) ke0) t h :=
  wpEqC E5_ok H0 (by kernel_rfl)
def ysj8 (x0 : Value) (h : H) (Q : K1) : Prop := yomw x0 h (fun y2 y3 h => bif [y2, y3].all boxV then Q (.tuple #[y2, y3]) h else False) (fun y2 y3 h => bif [y2, y3].all boxV then Q (.tuple #[y2, y3]) h else False)
theorem yx0m (x0 : Value) (h : H) (Q : K1) (H0 : ysj8 x0 h Q) : AM.Spec PG yge9 [x0] h Q :=
  yqxt mixed (fn := Tryz.f141) Tryz.func141 (c := ygjk Tryz.f141.body) (rs := [2, 3]) (N := 14) (by kernel_rfl) (by kernel_rfl) (by kernel_rfl) (by kernel_rfl) (by kernel_rfl) (Nat.le_of_ble_eq_true rfl) (yvc5 (fun y2 y3 h => bif [y2, y3].all boxV then Q (.tuple #[y2, y3]) h else False) (fun y2 y3 h => bif [y2, y3].all boxV then Q (.tuple #[y2, y3]) h else False) (tinit [x0]) h H0) (by kernel_rfl)
def ymz0 (x1 x2 x7 x13 : Value) (h : H) (Kn : K4) (Kr : K1) (Ke0 : K1) : Prop :=
  y70k x13 h fun v14 h => yvu8 v14 0 fun v15 => u_if v15 (ynu1 x13 h fun v16 => yvu8 v16 0 fun v17 => u_bin PG .geq ycpa v17 x1 fun v20 => ydv6 v20 true (fun k11 => y2x6 .u64 v17 fun v23 => y2x6 .u64 x1 fun v25 => u_bin PG .mul yxjj x2 (.int .u64 256) fun v27 => u_bin PG .add yxjj v25 v27 fun v28 => u_bin PG .lss yxjj v23 v28 fun v29 => k11 v29 h) (fun v29 h => y9rg v20 v29 (.bool false) fun v30 => u_if v30 (ynqb PG yoi5 1 [(0, v17)] h fun v33 h => yx4h ycpa 1 4 x7 v33 h fun v34 h => Kn x1 x2 v34 x13 h) (Kn x1 x2 x7 x13 h)) h) (Ke0 x7 h)
theorem ygi5 (Kn : K4) (Kr : K1) (Ke0 : K1) (t : T) (h : H) (H0 : ymz0 (t 1) (t 2) (t 7) (t 13) h Kn Kr Ke0) : Wp PG 36 (lopC (blkC (rest 1 (seqL (rest 2 (ygjk Tryz.f275.body)))))) (mkQ (q4 Kn 1 2 7 13) (q1 Kr 6) (keAdd 0 (q1 Ke0 7) ke0)) t h :=
  wpEqC E5_ok H0 (by kernel_rfl)
def ypvj (x1 x2 x7 x13 : Value) (h : H) (Kn : K1) (Kr : K1) (Ke0 : K1) : Prop :=
  sloop (S := Value × Value × Value × Value) (fun s h K => ymz0 s.1 s.2.1 s.2.2.1 s.2.2.2 h (fun y1 y2 y7 y13 h => K (y1, y2, y7, y13) h) Kr Ke0) (x1, x2, x7, x13) h
theorem ys08 (Kn : K1) (Kr : K1) (Ke0 : K1) (t : T) (h : H) (H0 : ypvj (t 1) (t 2) (t 7) (t 13) h Kn Kr Ke0) : Wp PG 36 (blkC (rest 1 (seqL (rest 2 (ygjk Tryz.f275.body))))) (mkQ (q1 Kn 7) (q1 Kr 6) (keAdd 0 (q1 Ke0 7) ke0)) t h :=
  yv0a (fun t => (t 1, t 2, t 7, t 13)) (by kernel_rfl) (fun t h K H1 => ygi5 (fun y1 y2 y7 y13 h => K (y1, y2, y7, y13) h) Kr Ke0 t h H1) H0
def yw6s (x1 x2 x7 x13 : Value) (h : H) (Kn : K1) (Kr : K1) : Prop :=
  ypvj x1 x2 x7 x13 h Kn Kr Kn
theorem ysn3 (Kn : K1) (Kr : K1) (t : T) (h : H) (H0 : yw6s (t 1) (t 2) (t 7) (t 13) h Kn Kr) : Wp PG 36 (rest 1 (seqL (rest 2 (ygjk Tryz.f275.body)))) (mkQ (q1 Kn 7) (q1 Kr 6) ke0) t h :=
  y6tu 0 (by kernel_rfl) (by kernel_rfl) (ys08 Kn Kr Kn t h H0)
def yw9j (x0 x1 x2 x7 : Value) (h : H) (Kn : K1) (Kr : K1) : Prop :=
  u_pf false 1 1 x0 h fun v12 => y4fz v12 h fun v13 h => yw6s x1 x2 x7 v13 h Kn Kr
theorem yy7w (Kn : K1) (Kr : K1) (t : T) (h : H) (H0 : yw9j (t 0) (t 1) (t 2) (t 7) h Kn Kr) : Wp PG 36 (seqL (rest 2 (ygjk Tryz.f275.body))) (mkQ (q1 Kn 7) (q1 Kr 6) ke0) t h :=
  yvnp E5_ok 1 H0 (by kernel_rfl) (fun t h (H1 : yw6s (t 1) (t 2) (t 7) (t 13) h Kn Kr) => ysn3 Kn Kr t h H1) (by kernel_rfl)
def ychg (x7 : Value) (h : H) (Kn : K1) (Kr : K1) : Prop :=
  Kr x7 h
theorem ycak (Kn : K1) (Kr : K1) (t : T) (h : H) (H0 : ychg (t 7) h Kn Kr) : Wp PG 36 (seqR (rest 2 (ygjk Tryz.f275.body))) (mkQ (q1 Kn 6) (q1 Kr 6) ke0) t h :=
  wpEqC E5_ok H0 (by kernel_rfl)
def yk0t (x0 x1 x2 x7 : Value) (h : H) (Kn : K1) (Kr : K1) : Prop :=
  yw9j x0 x1 x2 x7 h (fun y7 h => ychg y7 h Kn Kr) Kr
theorem y1bs (Kn : K1) (Kr : K1) (t : T) (h : H) (H0 : yk0t (t 0) (t 1) (t 2) (t 7) h Kn Kr) : Wp PG 36 (rest 2 (ygjk Tryz.f275.body)) (mkQ (q1 Kn 6) (q1 Kr 6) ke0) t h :=
  ykv2 (by kernel_rfl) (fun t h H1 => ycak Kn Kr t h H1) (yy7w (fun y7 h => ychg y7 h Kn Kr) Kr t h H0)
def ypo0 (x0 x1 x2 : Value) (h : H) (Kn : K1) (Kr : K1) : Prop :=
  yk0t x0 x1 x2 (.slice none 0 0) h Kn Kr
theorem yqd4 (Kn : K1) (Kr : K1) (t : T) (h : H) (H0 : ypo0 (t 0) (t 1) (t 2) h Kn Kr) : Wp PG 36 (ygjk Tryz.f275.body) (mkQ (q1 Kn 6) (q1 Kr 6) ke0) t h :=
  yvnp E5_ok 2 H0 (by kernel_rfl) (fun t h (H1 : yk0t (t 0) (t 1) (t 2) (t 7) h Kn Kr) => y1bs Kn Kr t h H1) (by kernel_rfl)
def y2c4 (x0 x1 x2 : Value) (h : H) (Q : K1) : Prop := ypo0 x0 x1 x2 h Q Q
theorem yrnn (x0 x1 x2 : Value) (h : H) (Q : K1) (H0 : y2c4 x0 x1 x2 h Q) : AM.Spec PG yoaz [x0, x1, x2] h Q :=
  yqxt mixed (fn := Tryz.f275) Tryz.func275 (c := ygjk Tryz.f275.body) (rs := [6]) (N := 36) (by kernel_rfl) (by kernel_rfl) (by kernel_rfl) (by kernel_rfl) (by kernel_rfl) (Nat.le_of_ble_eq_true rfl) (yqd4 Q Q (tinit [x0, x1, x2]) h H0) (by kernel_rfl)
def yqtw (h : H) (Kn : K4) (Kr : K1) (Ke0 : K4) : Prop :=
  Kr (.int .i64 1) h
theorem y2gc (Kn : K4) (Kr : K1) (Ke0 : K4) (t : T) (h : H) (H0 : yqtw  h Kn Kr Ke0) : Wp PG 76 (cndX (rest 1 (blkC (seqL (rest 2 (ygjk Tryz.f212.body)))))) (mkQ (q4 Kn 0 1 3 9) (q1 Kr 8) (keAdd 0 (q4 Ke0 0 1 3 9) ke0)) t h :=
  wpEqC E5_ok H0 (by kernel_rfl)
def yicm (h : H) (Kn : K4) (Kr : K1) (Ke0 : K4) : Prop :=
  Kr (.int .i64 5) h
theorem y9qr (Kn : K4) (Kr : K1) (Ke0 : K4) (t : T) (h : H) (H0 : yicm  h Kn Kr Ke0) : Wp PG 76 (cndX (rest 1 (cndY (rest 1 (blkC (seqL (rest 2 (ygjk Tryz.f212.body)))))))) (mkQ (q4 Kn 0 1 3 9) (q1 Kr 8) (keAdd 0 (q4 Ke0 0 1 3 9) ke0)) t h :=
  wpEqC E5_ok H0 (by kernel_rfl)
def y9zl (x0 x1 x3 x9 : Value) (h : H) (Kn : K5) (Kr : K1) (Ke0 : K4) : Prop :=
  y394 x0 fun v40 => y0wt 0 v40 fun v41 => u_pf false 1 1 x0 h fun v46 => (ybqh false 1 v41 h fun v42 => y9gb v46 h fun v47 => u_bin PG .sub T_int v42 v47 fun v48 => y2x6 .u64 v48 fun v49 => u_bin PG .gtr yxjj x9 v49 fun v50 => Kn x0 x1 x3 x9 v50 h) ∧ (y9gb v46 h fun v47 => ybqh false 1 v41 h fun v42 => u_bin PG .sub T_int v42 v47 fun v48 => y2x6 .u64 v48 fun v49 => u_bin PG .gtr yxjj x9 v49 fun v50 => Kn x0 x1 x3 x9 v50 h)
theorem ygji (Kn : K5) (Kr : K1) (Ke0 : K4) (t : T) (h : H) (H0 : y9zl (t 0) (t 1) (t 3) (t 9) h Kn Kr Ke0) : Wp PG 76 (seqL (cndY (rest 1 (cndY (rest 1 (blkC (seqL (rest 2 (ygjk Tryz.f212.body))))))))) (mkQ (q5 Kn 0 1 3 9 37) (q1 Kr 8) (keAdd 0 (q4 Ke0 0 1 3 9) ke0)) t h :=
  ya9i E5_ok [0, 1, 2, 3, 5, 6, 7, 8] 4 9 [10, 11, 12, 13] (by kernel_rfl) (by kernel_rfl) H0 (by kernel_rfl)
def yqq2 (x0 x1 x3 x9 x37 : Value) (h : H) (Kn : K4) (Kr : K1) (Ke0 : K4) : Prop :=
  u_if x37 (Kr (.int .i64 6) h) (Kn x0 x1 x3 x9 h)
theorem yf4i (Kn : K4) (Kr : K1) (Ke0 : K4) (t : T) (h : H) (H0 : yqq2 (t 0) (t 1) (t 3) (t 9) (t 37) h Kn Kr Ke0) : Wp PG 76 (seqR (cndY (rest 1 (cndY (rest 1 (blkC (seqL (rest 2 (ygjk Tryz.f212.body))))))))) (mkQ (q4 Kn 0 1 3 9) (q1 Kr 8) (keAdd 0 (q4 Ke0 0 1 3 9) ke0)) t h :=
  wpEqC E5_ok H0 (by kernel_rfl)
def y8u0 (x0 x1 x3 x9 : Value) (h : H) (Kn : K4) (Kr : K1) (Ke0 : K4) : Prop :=
  y9zl x0 x1 x3 x9 h (fun y0 y1 y3 y9 y37 h => yqq2 y0 y1 y3 y9 y37 h Kn Kr Ke0) Kr Ke0
theorem yl7d (Kn : K4) (Kr : K1) (Ke0 : K4) (t : T) (h : H) (H0 : y8u0 (t 0) (t 1) (t 3) (t 9) h Kn Kr Ke0) : Wp PG 76 (cndY (rest 1 (cndY (rest 1 (blkC (seqL (rest 2 (ygjk Tryz.f212.body)))))))) (mkQ (q4 Kn 0 1 3 9) (q1 Kr 8) (keAdd 0 (q4 Ke0 0 1 3 9) ke0)) t h :=
  ykv2 (by kernel_rfl) (fun t h H1 => yf4i Kn Kr Ke0 t h H1) (ygji (fun y0 y1 y3 y9 y37 h => yqq2 y0 y1 y3 y9 y37 h Kn Kr Ke0) Kr Ke0 t h H0)
def yix9 (x0 x1 x3 x9 x30 : Value) (h : H) (Kn : K4) (Kr : K1) (Ke0 : K4) : Prop :=
  u_if x30 (yicm  h Kn Kr Ke0) (y8u0 x0 x1 x3 x9 h Kn Kr Ke0)
theorem yzqo (Kn : K4) (Kr : K1) (Ke0 : K4) (t : T) (h : H) (H0 : yix9 (t 0) (t 1) (t 3) (t 9) (t 30) h Kn Kr Ke0) : Wp PG 76 (rest 1 (cndY (rest 1 (blkC (seqL (rest 2 (ygjk Tryz.f212.body))))))) (mkQ (q4 Kn 0 1 3 9) (q1 Kr 8) (keAdd 0 (q4 Ke0 0 1 3 9) ke0)) t h :=
  yh47 H0 (by kernel_rfl) (y9qr Kn Kr Ke0 t h) (yl7d Kn Kr Ke0 t h) (by kernel_rfl)
def ybav (x0 x1 x3 x9 : Value) (h : H) (Kn : K4) (Kr : K1) (Ke0 : K4) : Prop :=
  yjdf PG yoaz [x0, x1, x9] h fun v34 h => ywmm v34 fun v35 => u_bin PG .gtr T_int v35 (.int .i64 0) fun v36 => yix9 x0 x1 x3 x9 v36 h Kn Kr Ke0
theorem ych7 (Kn : K4) (Kr : K1) (Ke0 : K4) (t : T) (h : H) (H0 : ybav (t 0) (t 1) (t 3) (t 9) h Kn Kr Ke0) : Wp PG 76 (cndY (rest 1 (blkC (seqL (rest 2 (ygjk Tryz.f212.body)))))) (mkQ (q4 Kn 0 1 3 9) (q1 Kr 8) (keAdd 0 (q4 Ke0 0 1 3 9) ke0)) t h :=
  yvnp E5_ok 1 H0 (by kernel_rfl) (fun t h (H1 : yix9 (t 0) (t 1) (t 3) (t 9) (t 30) h Kn Kr Ke0) => yzqo Kn Kr Ke0 t h H1) (by kernel_rfl)
def y7dc (x0 x1 x3 x9 x19 : Value) (h : H) (Kn : K4) (Kr : K1) (Ke0 : K4) : Prop :=
  u_if x19 (yqtw  h Kn Kr Ke0) (ybav x0 x1 x3 x9 h Kn Kr Ke0)
theorem ybsx (Kn : K4) (Kr : K1) (Ke0 : K4) (t : T) (h : H) (H0 : y7dc (t 0) (t 1) (t 3) (t 9) (t 19) h Kn Kr Ke0) : Wp PG 76 (rest 1 (blkC (seqL (rest 2 (ygjk Tryz.f212.body))))) (mkQ (q4 Kn 0 1 3 9) (q1 Kr 8) (keAdd 0 (q4 Ke0 0 1 3 9) ke0)) t h :=
  yh47 H0 (by kernel_rfl) (y2gc Kn Kr Ke0 t h) (ych7 Kn Kr Ke0 t h) (by kernel_rfl)
def ymln (x0 x1 x3 x9 x10 : Value) (h : H) (Kn : K4) (Kr : K1) (Ke0 : K4) : Prop :=
  u_un PG .not x10 fun v21 => ydv6 v21 false (fun k4 => u_bin PG .lss T_int x3 (.int .i64 0) fun v24 => k4 v24 h) (fun v24 h => y9rg v21 (.bool true) v24 fun v25 => ydv6 v25 false (fun k8 => u_bin PG .gtr T_int x3 (.int .i64 7) fun v28 => k8 v28 h) (fun v28 h => y9rg v25 (.bool true) v28 fun v29 => y7dc x0 x1 x3 x9 v29 h Kn Kr Ke0) h) h
theorem y0il (Kn : K4) (Kr : K1) (Ke0 : K4) (t : T) (h : H) (H0 : ymln (t 0) (t 1) (t 3) (t 9) (t 10) h Kn Kr Ke0) : Wp PG 76 (blkC (seqL (rest 2 (ygjk Tryz.f212.body)))) (mkQ (q4 Kn 0 1 3 9) (q1 Kr 8) (keAdd 0 (q4 Ke0 0 1 3 9) ke0)) t h :=
  yvnp E5_ok 1 H0 (by kernel_rfl) (fun t h (H1 : y7dc (t 0) (t 1) (t 3) (t 9) (t 19) h Kn Kr Ke0) => ybsx Kn Kr Ke0 t h H1) (by kernel_rfl)
def yfsm (x0 x1 x3 x9 x10 : Value) (h : H) (Kn : K4) (Kr : K1) : Prop :=
  ymln x0 x1 x3 x9 x10 h Kn Kr Kn
theorem y2bv (Kn : K4) (Kr : K1) (t : T) (h : H) (H0 : yfsm (t 0) (t 1) (t 3) (t 9) (t 10) h Kn Kr) : Wp PG 76 (seqL (rest 2 (ygjk Tryz.f212.body))) (mkQ (q4 Kn 0 1 3 9) (q1 Kr 8) ke0) t h :=
  y6tu 0 (by kernel_rfl) (by kernel_rfl) (y0il Kn Kr Kn t h H0)
def ywdw (x0 x1 x3 x52 x53 : Value) (h : H) (Kn : K5) (Kr : K1) (Ke1 : K0) : Prop :=
  u_bin PG .lss ycpa x53 x52 fun v54 => u_if v54 (u_bin PG .mul ycpa x53 (.int .u32 256) fun v58 => u_bin PG .add ycpa x1 v58 fun v59 => u_pf false 1 1 x0 h fun v63 => ysnr PG ynw2 [(1, x3)] fun v66 => boxV v66 = true ∧ u_new (Value.cells v66).toList ynw2 .exact h fun b67 h => yw4g (.int .u32) v63 v59 (.pointer (some ⟨b67, 0, none⟩)) h fun h => u_pf false 1 2 x0 h fun v71 => ylsp (.int .u32) (.int .u32 0) v71 v59 false h fun v73 => u_bin PG .add ycpa v73 (.int .u32 1) fun v74 => yw4g (.int .u32) v71 v59 v74 h fun h => u_bin PG .add ycpa x53 (.int .u32 1) fun v75 => Kn x0 x1 x3 x52 v75 h) (Ke1 h)
theorem yiiz (Kn : K5) (Kr : K1) (Ke1 : K0) (t : T) (h : H) (H0 : ywdw (t 0) (t 1) (t 3) (t 52) (t 53) h Kn Kr Ke1) : Wp PG 76 (lopC (blkC (rest 1 (seqL (seqR (rest 2 (ygjk Tryz.f212.body))))))) (mkQ (q5 Kn 0 1 3 52 53) (q1 Kr 8) (keAdd 1 (q0 Ke1) ke0)) t h :=
  wpEqC E5_ok H0 (by kernel_rfl)
def y9h0 (x0 x1 x3 x52 x53 : Value) (h : H) (Kn : K0) (Kr : K1) (Ke1 : K0) : Prop :=
  sloop (S := Value × Value × Value × Value × Value) (fun s h K => ywdw s.1 s.2.1 s.2.2.1 s.2.2.2.1 s.2.2.2.2 h (fun y0 y1 y3 y52 y53 h => K (y0, y1, y3, y52, y53) h) Kr Ke1) (x0, x1, x3, x52, x53) h
theorem yn6z (Kn : K0) (Kr : K1) (Ke1 : K0) (t : T) (h : H) (H0 : y9h0 (t 0) (t 1) (t 3) (t 52) (t 53) h Kn Kr Ke1) : Wp PG 76 (blkC (rest 1 (seqL (seqR (rest 2 (ygjk Tryz.f212.body)))))) (mkQ (q0 Kn) (q1 Kr 8) (keAdd 1 (q0 Ke1) ke0)) t h :=
  yv0a (fun t => (t 0, t 1, t 3, t 52, t 53)) (by kernel_rfl) (fun t h K H1 => yiiz (fun y0 y1 y3 y52 y53 h => K (y0, y1, y3, y52, y53) h) Kr Ke1 t h H1) H0
def yw9c (x0 x1 x3 x52 x53 : Value) (h : H) (Kn : K0) (Kr : K1) : Prop :=
  y9h0 x0 x1 x3 x52 x53 h Kn Kr Kn
theorem yiki (Kn : K0) (Kr : K1) (t : T) (h : H) (H0 : yw9c (t 0) (t 1) (t 3) (t 52) (t 53) h Kn Kr) : Wp PG 76 (rest 1 (seqL (seqR (rest 2 (ygjk Tryz.f212.body))))) (mkQ (q0 Kn) (q1 Kr 8) ke0) t h :=
  y6tu 1 (by kernel_rfl) (by kernel_rfl) (yn6z Kn Kr Kn t h H0)
def ymna (x0 x1 x3 x9 : Value) (h : H) (Kn : K0) (Kr : K1) : Prop :=
  y2x6 .u32 x9 fun v52 => yw9c x0 x1 x3 v52 (.int .u32 0) h Kn Kr
theorem yxkp (Kn : K0) (Kr : K1) (t : T) (h : H) (H0 : ymna (t 0) (t 1) (t 3) (t 9) h Kn Kr) : Wp PG 76 (seqL (seqR (rest 2 (ygjk Tryz.f212.body)))) (mkQ (q0 Kn) (q1 Kr 8) ke0) t h :=
  yvnp E5_ok 1 H0 (by kernel_rfl) (fun t h (H1 : yw9c (t 0) (t 1) (t 3) (t 52) (t 53) h Kn Kr) => yiki Kn Kr t h H1) (by kernel_rfl)
def yfl6 (h : H) (Kn : K1) (Kr : K1) : Prop :=
  Kr (.int .i64 0) h
theorem yvel (Kn : K1) (Kr : K1) (t : T) (h : H) (H0 : yfl6  h Kn Kr) : Wp PG 76 (seqR (seqR (rest 2 (ygjk Tryz.f212.body)))) (mkQ (q1 Kn 8) (q1 Kr 8) ke0) t h :=
  wpEqC E5_ok H0 (by kernel_rfl)
def yye4 (x0 x1 x3 x9 : Value) (h : H) (Kn : K1) (Kr : K1) : Prop :=
  ymna x0 x1 x3 x9 h (fun  h => yfl6  h Kn Kr) Kr
theorem yf9a (Kn : K1) (Kr : K1) (t : T) (h : H) (H0 : yye4 (t 0) (t 1) (t 3) (t 9) h Kn Kr) : Wp PG 76 (seqR (rest 2 (ygjk Tryz.f212.body))) (mkQ (q1 Kn 8) (q1 Kr 8) ke0) t h :=
  ykv2 (by kernel_rfl) (fun t h H1 => yvel Kn Kr t h H1) (yxkp (fun  h => yfl6  h Kn Kr) Kr t h H0)
def ym1z (x0 x1 x3 x9 x10 : Value) (h : H) (Kn : K1) (Kr : K1) : Prop :=
  yfsm x0 x1 x3 x9 x10 h (fun y0 y1 y3 y9 h => yye4 y0 y1 y3 y9 h Kn Kr) Kr
theorem yuh2 (Kn : K1) (Kr : K1) (t : T) (h : H) (H0 : ym1z (t 0) (t 1) (t 3) (t 9) (t 10) h Kn Kr) : Wp PG 76 (rest 2 (ygjk Tryz.f212.body)) (mkQ (q1 Kn 8) (q1 Kr 8) ke0) t h :=
  ykv2 (by kernel_rfl) (fun t h H1 => yf9a Kn Kr t h H1) (y2bv (fun y0 y1 y3 y9 h => yye4 y0 y1 y3 y9 h Kn Kr) Kr t h H0)
def yldz (x0 x1 x2 x3 : Value) (h : H) (Kn : K1) (Kr : K1) : Prop :=
  u_ct yhwx [x1, x2] h fun v16 h => yvu8 v16 0 fun v17 => yvu8 v16 1 fun v18 => ym1z x0 x1 x3 v17 v18 h Kn Kr
theorem y0tw (Kn : K1) (Kr : K1) (t : T) (h : H) (H0 : yldz (t 0) (t 1) (t 2) (t 3) h Kn Kr) : Wp PG 76 (ygjk Tryz.f212.body) (mkQ (q1 Kn 8) (q1 Kr 8) ke0) t h :=
  yvnp E5_ok 2 H0 (by kernel_rfl) (fun t h (H1 : ym1z (t 0) (t 1) (t 3) (t 9) (t 10) h Kn Kr) => yuh2 Kn Kr t h H1) (by kernel_rfl)
def yet8 (x0 x1 x2 x3 : Value) (h : H) (Q : K1) : Prop := yldz x0 x1 x2 x3 h Q Q
theorem yxz0 (x0 x1 x2 x3 : Value) (h : H) (Q : K1) (H0 : yet8 x0 x1 x2 x3 h Q) : AM.Spec PG yhif [x0, x1, x2, x3] h Q :=
  yqxt mixed (fn := Tryz.f212) Tryz.func212 (c := ygjk Tryz.f212.body) (rs := [8]) (N := 76) (by kernel_rfl) (by kernel_rfl) (by kernel_rfl) (by kernel_rfl) (by kernel_rfl) (Nat.le_of_ble_eq_true rfl) (y0tw Q Q (tinit [x0, x1, x2, x3]) h H0) (by kernel_rfl)
def ykx0 (x0 x3 x9 x10 : Value) (h : H) (Kn : K4) (Kr : K1) (Ke0 : K1) : Prop :=
  u_pf false 1 1 x0 h fun v33 => ylsp (.int .u32) (.pointer none) v33 x10 false h fun v35 => u_bin PG .eql y14o v35 (.pointer none) fun v37 => ydv6 v37 false (fun k10 => u_pf false 1 256 v35 h fun v42 => u_bin PG .and T_int v42 x3 fun v44 => u_bin PG .neq T_int v44 x3 fun v46 => k10 v46 h) (fun v46 h => y9rg v37 (.bool true) v46 fun v47 => u_if v47 (Kr (.bool false) h) (u_bin PG .eql ycpa x10 x9 fun v50 => u_if v50 (Kr (.bool true) h) (u_bin PG .add ycpa x10 (.int .u32 256) fun v29 => Kn x0 x3 x9 v29 h))) h
theorem yjnw (Kn : K4) (Kr : K1) (Ke0 : K1) (t : T) (h : H) (H0 : ykx0 (t 0) (t 3) (t 9) (t 10) h Kn Kr Ke0) : Wp PG 51 (lopC (blkC (rest 5 (ygjk Tryz.f318.body)))) (mkQ (q4 Kn 0 3 9 10) (q1 Kr 8) (keAdd 0 (q1 Ke0 8) ke0)) t h :=
  wpEqC E5_ok H0 (by kernel_rfl)
def yein (x0 x3 x9 x10 : Value) (h : H) (Kn : K1) (Kr : K1) (Ke0 : K1) : Prop :=
  sloop (S := Value × Value × Value × Value) (fun s h K => ykx0 s.1 s.2.1 s.2.2.1 s.2.2.2 h (fun y0 y3 y9 y10 h => K (y0, y3, y9, y10) h) Kr Ke0) (x0, x3, x9, x10) h
theorem y2sb (Kn : K1) (Kr : K1) (Ke0 : K1) (t : T) (h : H) (H0 : yein (t 0) (t 3) (t 9) (t 10) h Kn Kr Ke0) : Wp PG 51 (blkC (rest 5 (ygjk Tryz.f318.body))) (mkQ (q1 Kn 8) (q1 Kr 8) (keAdd 0 (q1 Ke0 8) ke0)) t h :=
  yv0a (fun t => (t 0, t 3, t 9, t 10)) (by kernel_rfl) (fun t h K H1 => yjnw (fun y0 y3 y9 y10 h => K (y0, y3, y9, y10) h) Kr Ke0 t h H1) H0
def yyrp (x0 x3 x9 x10 : Value) (h : H) (Kn : K1) (Kr : K1) : Prop :=
  yein x0 x3 x9 x10 h Kn Kr Kn
theorem y1n6 (Kn : K1) (Kr : K1) (t : T) (h : H) (H0 : yyrp (t 0) (t 3) (t 9) (t 10) h Kn Kr) : Wp PG 51 (rest 5 (ygjk Tryz.f318.body)) (mkQ (q1 Kn 8) (q1 Kr 8) ke0) t h :=
  y6tu 0 (by kernel_rfl) (by kernel_rfl) (y2sb Kn Kr Kn t h H0)
def ymee (x0 x1 x2 x3 : Value) (h : H) (Kn : K1) (Kr : K1) : Prop :=
  u_bin PG .eql T_int x2 (.int .i64 0) fun v13 => u_if v13 (Kr (.bool true) h) (y2x6 .u64 x1 fun v15 => y2x6 .u64 x2 fun v17 => u_bin PG .add yxjj v15 v17 fun v18 => u_bin PG .gtr yxjj v18 (.int .u64 4294967296) fun v19 => u_if v19 (Kr (.bool false) h) (u_bin PG .sub T_int x2 (.int .i64 1) fun v22 => y2x6 .u32 v22 fun v23 => u_bin PG .add ycpa x1 v23 fun v24 => u_ct ya8v [v24] h fun v25 h => u_ct ya8v [x1] h fun v27 h => yyrp x0 x3 v25 v27 h Kn Kr))
theorem ys2r (Kn : K1) (Kr : K1) (t : T) (h : H) (H0 : ymee (t 0) (t 1) (t 2) (t 3) h Kn Kr) : Wp PG 51 (ygjk Tryz.f318.body) (mkQ (q1 Kn 8) (q1 Kr 8) ke0) t h :=
  yvnp E5_ok 5 H0 (by kernel_rfl) (fun t h (H1 : yyrp (t 0) (t 3) (t 9) (t 10) h Kn Kr) => y1n6 Kn Kr t h H1) (by kernel_rfl)
def ys7u (x0 x1 x2 x3 : Value) (h : H) (Q : K1) : Prop := ymee x0 x1 x2 x3 h Q Q
theorem y4nd (x0 x1 x2 x3 : Value) (h : H) (Q : K1) (H0 : ys7u x0 x1 x2 x3 h Q) : AM.Spec PG y5ga [x0, x1, x2, x3] h Q :=
  yqxt mixed (fn := Tryz.f318) Tryz.func318 (c := ygjk Tryz.f318.body) (rs := [8]) (N := 51) (by kernel_rfl) (by kernel_rfl) (by kernel_rfl) (by kernel_rfl) (by kernel_rfl) (Nat.le_of_ble_eq_true rfl) (ys2r Q Q (tinit [x0, x1, x2, x3]) h H0) (by kernel_rfl)
def yfgr (x0 x1 x11 x12 x13 x27 x28 x29 : Value) (h : H) (Kn : K7) (Kr : K1) (Ke2 : K5) (Ke1 : K0) : Prop :=
  u_pf false 1 1 x0 h fun v41 => u_ct ya8v [x13] h fun v43 h => ylsp (.int .u32) (.pointer none) v41 v43 false h fun v44 => u_bin PG .rem ycpa x13 (.int .u32 256) fun v46 => y394 v44 fun v48 => y0wt 0 v48 fun v49 => yji6 (some 256) 1 v49 v46 fun v50 => ylel 1 v50 x12 h fun h => Kn x0 x1 x11 x13 x27 x28 x29 h
theorem ya80 (Kn : K7) (Kr : K1) (Ke2 : K5) (Ke1 : K0) (t : T) (h : H) (H0 : yfgr (t 0) (t 1) (t 11) (t 12) (t 13) (t 27) (t 28) (t 29) h Kn Kr Ke2 Ke1) : Wp PG 67 (seqL (rest 2 (blkC (seqL (rest 2 (lopC (blkC (rest 1 (seqL (rest 2 (ygjk Tryz.f276.body))))))))))) (mkQ (fun t h => Kn (t 0) (t 1) (t 11) (t 13) (t 27) (t 28) (t 29) h) (q1 Kr 10) (keAdd 2 (q5 Ke2 0 1 27 28 29) (keAdd 1 (q0 Ke1) ke0))) t h :=
  ybop E5_ok [0, 1, 2, 3, 4, 5, 6, 7, 8, 9, 10, 11, 12, 13] (by kernel_rfl) (by kernel_rfl) H0 (by kernel_rfl)
def yxcz (x0 x1 x13 x27 x28 x29 : Value) (h : H) (Kn : K5) (Kr : K1) (Ke2 : K5) (Ke1 : K0) : Prop :=
  u_pf false 1 2 x0 h fun v61 => u_ct ya8v [x13] h fun v63 h => ylsp (.int .u32) (.int .u32 0) v61 v63 false h fun v64 => u_bin PG .add ycpa v64 (.int .u32 1) fun v65 => yw4g (.int .u32) v61 v63 v65 h fun h => Kn x0 x1 x27 x28 x29 h
theorem y9ev (Kn : K5) (Kr : K1) (Ke2 : K5) (Ke1 : K0) (t : T) (h : H) (H0 : yxcz (t 0) (t 1) (t 13) (t 27) (t 28) (t 29) h Kn Kr Ke2 Ke1) : Wp PG 67 (cndX (rest 1 (seqR (rest 2 (blkC (seqL (rest 2 (lopC (blkC (rest 1 (seqL (rest 2 (ygjk Tryz.f276.body))))))))))))) (mkQ (q5 Kn 0 1 27 28 29) (q1 Kr 10) (keAdd 2 (q5 Ke2 0 1 27 28 29) (keAdd 1 (q0 Ke1) ke0))) t h :=
  ybop E5_ok [0, 1, 2, 3, 4, 5, 6, 7, 8] (by kernel_rfl) (by kernel_rfl) H0 (by kernel_rfl)
def ynls (x0 x1 x27 x28 x29 : Value) (h : H) (Kn : K5) (Kr : K1) (Ke2 : K5) (Ke1 : K0) : Prop :=
  Kn x0 x1 x27 x28 x29 h
theorem ypxv (Kn : K5) (Kr : K1) (Ke2 : K5) (Ke1 : K0) (t : T) (h : H) (H0 : ynls (t 0) (t 1) (t 27) (t 28) (t 29) h Kn Kr Ke2 Ke1) : Wp PG 67 (cndY (rest 1 (seqR (rest 2 (blkC (seqL (rest 2 (lopC (blkC (rest 1 (seqL (rest 2 (ygjk Tryz.f276.body))))))))))))) (mkQ (q5 Kn 0 1 27 28 29) (q1 Kr 10) (keAdd 2 (q5 Ke2 0 1 27 28 29) (keAdd 1 (q0 Ke1) ke0))) t h :=
  wpEqC E5_ok H0 (by kernel_rfl)
def ykez (x0 x1 x13 x27 x28 x29 x57 : Value) (h : H) (Kn : K5) (Kr : K1) (Ke2 : K5) (Ke1 : K0) : Prop :=
  u_if x57 (yxcz x0 x1 x13 x27 x28 x29 h Kn Kr Ke2 Ke1) (ynls x0 x1 x27 x28 x29 h Kn Kr Ke2 Ke1)
theorem yfnj (Kn : K5) (Kr : K1) (Ke2 : K5) (Ke1 : K0) (t : T) (h : H) (H0 : ykez (t 0) (t 1) (t 13) (t 27) (t 28) (t 29) (t 57) h Kn Kr Ke2 Ke1) : Wp PG 67 (rest 1 (seqR (rest 2 (blkC (seqL (rest 2 (lopC (blkC (rest 1 (seqL (rest 2 (ygjk Tryz.f276.body)))))))))))) (mkQ (q5 Kn 0 1 27 28 29) (q1 Kr 10) (keAdd 2 (q5 Ke2 0 1 27 28 29) (keAdd 1 (q0 Ke1) ke0))) t h :=
  yh47 H0 (by kernel_rfl) (y9ev Kn Kr Ke2 Ke1 t h) (ypxv Kn Kr Ke2 Ke1 t h) (by kernel_rfl)
def y5yv (x0 x1 x11 x13 x27 x28 x29 : Value) (h : H) (Kn : K5) (Kr : K1) (Ke2 : K5) (Ke1 : K0) : Prop :=
  u_bin PG .eql T_int x11 (.int .i64 0) fun v52 => ydv6 v52 false (fun k5 => u_bin PG .rem ycpa x13 (.int .u32 256) fun v55 => u_bin PG .eql ycpa v55 (.int .u32 0) fun v56 => k5 v56 h) (fun v56 h => y9rg v52 (.bool true) v56 fun v57 => ykez x0 x1 x13 x27 x28 x29 v57 h Kn Kr Ke2 Ke1) h
theorem yago (Kn : K5) (Kr : K1) (Ke2 : K5) (Ke1 : K0) (t : T) (h : H) (H0 : y5yv (t 0) (t 1) (t 11) (t 13) (t 27) (t 28) (t 29) h Kn Kr Ke2 Ke1) : Wp PG 67 (seqR (rest 2 (blkC (seqL (rest 2 (lopC (blkC (rest 1 (seqL (rest 2 (ygjk Tryz.f276.body))))))))))) (mkQ (q5 Kn 0 1 27 28 29) (q1 Kr 10) (keAdd 2 (q5 Ke2 0 1 27 28 29) (keAdd 1 (q0 Ke1) ke0))) t h :=
  yvnp E5_ok 1 H0 (by kernel_rfl) (fun t h (H1 : ykez (t 0) (t 1) (t 13) (t 27) (t 28) (t 29) (t 57) h Kn Kr Ke2 Ke1) => yfnj Kn Kr Ke2 Ke1 t h H1) (by kernel_rfl)
def yspp (x0 x1 x11 x12 x13 x27 x28 x29 : Value) (h : H) (Kn : K5) (Kr : K1) (Ke2 : K5) (Ke1 : K0) : Prop :=
  yfgr x0 x1 x11 x12 x13 x27 x28 x29 h (fun y0 y1 y11 y13 y27 y28 y29 h => y5yv y0 y1 y11 y13 y27 y28 y29 h Kn Kr Ke2 Ke1) Kr Ke2 Ke1
theorem yyp5 (Kn : K5) (Kr : K1) (Ke2 : K5) (Ke1 : K0) (t : T) (h : H) (H0 : yspp (t 0) (t 1) (t 11) (t 12) (t 13) (t 27) (t 28) (t 29) h Kn Kr Ke2 Ke1) : Wp PG 67 (rest 2 (blkC (seqL (rest 2 (lopC (blkC (rest 1 (seqL (rest 2 (ygjk Tryz.f276.body)))))))))) (mkQ (q5 Kn 0 1 27 28 29) (q1 Kr 10) (keAdd 2 (q5 Ke2 0 1 27 28 29) (keAdd 1 (q0 Ke1) ke0))) t h :=
  ykv2 (by kernel_rfl) (fun t h H1 => yago Kn Kr Ke2 Ke1 t h H1) (ya80 (fun y0 y1 y11 y13 y27 y28 y29 h => y5yv y0 y1 y11 y13 y27 y28 y29 h Kn Kr Ke2 Ke1) Kr Ke2 Ke1 t h H0)
def yk5g (x0 x1 x27 x28 x29 : Value) (h : H) (Kn : K5) (Kr : K1) (Ke2 : K5) (Ke1 : K0) : Prop :=
  u_ix false 1 none x27 x29 h fun v33 => y2x6 .u32 x29 fun v36 => u_bin PG .add ycpa x1 v36 fun v37 => yspp x0 x1 x29 v33 v37 x27 x28 x29 h Kn Kr Ke2 Ke1
theorem yzvn (Kn : K5) (Kr : K1) (Ke2 : K5) (Ke1 : K0) (t : T) (h : H) (H0 : yk5g (t 0) (t 1) (t 27) (t 28) (t 29) h Kn Kr Ke2 Ke1) : Wp PG 67 (blkC (seqL (rest 2 (lopC (blkC (rest 1 (seqL (rest 2 (ygjk Tryz.f276.body))))))))) (mkQ (q5 Kn 0 1 27 28 29) (q1 Kr 10) (keAdd 2 (q5 Ke2 0 1 27 28 29) (keAdd 1 (q0 Ke1) ke0))) t h :=
  yvnp E5_ok 2 H0 (by kernel_rfl) (fun t h (H1 : yspp (t 0) (t 1) (t 11) (t 12) (t 13) (t 27) (t 28) (t 29) h Kn Kr Ke2 Ke1) => yyp5 Kn Kr Ke2 Ke1 t h H1) (by kernel_rfl)
def yciq (x0 x1 x27 x28 x29 : Value) (h : H) (Kn : K5) (Kr : K1) (Ke1 : K0) : Prop :=
  yk5g x0 x1 x27 x28 x29 h Kn Kr Kn Ke1
theorem yzkz (Kn : K5) (Kr : K1) (Ke1 : K0) (t : T) (h : H) (H0 : yciq (t 0) (t 1) (t 27) (t 28) (t 29) h Kn Kr Ke1) : Wp PG 67 (seqL (rest 2 (lopC (blkC (rest 1 (seqL (rest 2 (ygjk Tryz.f276.body)))))))) (mkQ (q5 Kn 0 1 27 28 29) (q1 Kr 10) (keAdd 1 (q0 Ke1) ke0)) t h :=
  y6tu 2 (by kernel_rfl) (by kernel_rfl) (yzvn Kn Kr Kn Ke1 t h H0)
def yrlv (x0 x1 x27 x28 x29 : Value) (h : H) (Kn : K5) (Kr : K1) (Ke1 : K0) : Prop :=
  u_bin PG .add T_int x29 (.int .i64 1) fun v66 => Kn x0 x1 x27 x28 v66 h
theorem yw5s (Kn : K5) (Kr : K1) (Ke1 : K0) (t : T) (h : H) (H0 : yrlv (t 0) (t 1) (t 27) (t 28) (t 29) h Kn Kr Ke1) : Wp PG 67 (seqR (rest 2 (lopC (blkC (rest 1 (seqL (rest 2 (ygjk Tryz.f276.body)))))))) (mkQ (q5 Kn 0 1 27 28 29) (q1 Kr 10) (keAdd 1 (q0 Ke1) ke0)) t h :=
  wpEqC E5_ok H0 (by kernel_rfl)
def yy9m (x0 x1 x27 x28 x29 : Value) (h : H) (Kn : K5) (Kr : K1) (Ke1 : K0) : Prop :=
  yciq x0 x1 x27 x28 x29 h (fun y0 y1 y27 y28 y29 h => yrlv y0 y1 y27 y28 y29 h Kn Kr Ke1) Kr Ke1
theorem yln6 (Kn : K5) (Kr : K1) (Ke1 : K0) (t : T) (h : H) (H0 : yy9m (t 0) (t 1) (t 27) (t 28) (t 29) h Kn Kr Ke1) : Wp PG 67 (rest 2 (lopC (blkC (rest 1 (seqL (rest 2 (ygjk Tryz.f276.body))))))) (mkQ (q5 Kn 0 1 27 28 29) (q1 Kr 10) (keAdd 1 (q0 Ke1) ke0)) t h :=
  ykv2 (by kernel_rfl) (fun t h H1 => yw5s Kn Kr Ke1 t h H1) (yzkz (fun y0 y1 y27 y28 y29 h => yrlv y0 y1 y27 y28 y29 h Kn Kr Ke1) Kr Ke1 t h H0)
def ygfq (x0 x1 x27 x28 x29 : Value) (h : H) (Kn : K5) (Kr : K1) (Ke1 : K0) : Prop :=
  u_bin PG .lss T_int x29 x28 fun v30 => u_if v30 (yy9m x0 x1 x27 x28 x29 h Kn Kr Ke1) (Ke1 h)
theorem yitl (Kn : K5) (Kr : K1) (Ke1 : K0) (t : T) (h : H) (H0 : ygfq (t 0) (t 1) (t 27) (t 28) (t 29) h Kn Kr Ke1) : Wp PG 67 (lopC (blkC (rest 1 (seqL (rest 2 (ygjk Tryz.f276.body)))))) (mkQ (q5 Kn 0 1 27 28 29) (q1 Kr 10) (keAdd 1 (q0 Ke1) ke0)) t h :=
  yvnp E5_ok 2 H0 (by kernel_rfl) (fun t h (H1 : yy9m (t 0) (t 1) (t 27) (t 28) (t 29) h Kn Kr Ke1) => yln6 Kn Kr Ke1 t h H1) (by kernel_rfl)
def ynbe (x0 x1 x27 x28 x29 : Value) (h : H) (Kn : K0) (Kr : K1) (Ke1 : K0) : Prop :=
  sloop (S := Value × Value × Value × Value × Value) (fun s h K => ygfq s.1 s.2.1 s.2.2.1 s.2.2.2.1 s.2.2.2.2 h (fun y0 y1 y27 y28 y29 h => K (y0, y1, y27, y28, y29) h) Kr Ke1) (x0, x1, x27, x28, x29) h
theorem yom5 (Kn : K0) (Kr : K1) (Ke1 : K0) (t : T) (h : H) (H0 : ynbe (t 0) (t 1) (t 27) (t 28) (t 29) h Kn Kr Ke1) : Wp PG 67 (blkC (rest 1 (seqL (rest 2 (ygjk Tryz.f276.body))))) (mkQ (q0 Kn) (q1 Kr 10) (keAdd 1 (q0 Ke1) ke0)) t h :=
  yv0a (fun t => (t 0, t 1, t 27, t 28, t 29)) (by kernel_rfl) (fun t h K H1 => yitl (fun y0 y1 y27 y28 y29 h => K (y0, y1, y27, y28, y29) h) Kr Ke1 t h H1) H0
def ypn0 (x0 x1 x27 x28 x29 : Value) (h : H) (Kn : K0) (Kr : K1) : Prop :=
  ynbe x0 x1 x27 x28 x29 h Kn Kr Kn
theorem yimj (Kn : K0) (Kr : K1) (t : T) (h : H) (H0 : ypn0 (t 0) (t 1) (t 27) (t 28) (t 29) h Kn Kr) : Wp PG 67 (rest 1 (seqL (rest 2 (ygjk Tryz.f276.body)))) (mkQ (q0 Kn) (q1 Kr 10) ke0) t h :=
  y6tu 1 (by kernel_rfl) (by kernel_rfl) (yom5 Kn Kr Kn t h H0)
def ylg6 (x0 x1 x2 : Value) (h : H) (Kn : K0) (Kr : K1) : Prop :=
  ywmm x2 fun v28 => ypn0 x0 x1 x2 v28 (.int .i64 0) h Kn Kr
theorem y1ov (Kn : K0) (Kr : K1) (t : T) (h : H) (H0 : ylg6 (t 0) (t 1) (t 2) h Kn Kr) : Wp PG 67 (seqL (rest 2 (ygjk Tryz.f276.body))) (mkQ (q0 Kn) (q1 Kr 10) ke0) t h :=
  yvnp E5_ok 1 H0 (by kernel_rfl) (fun t h (H1 : ypn0 (t 0) (t 1) (t 27) (t 28) (t 29) h Kn Kr) => yimj Kn Kr t h H1) (by kernel_rfl)
def yn0i (h : H) (Kn : K1) (Kr : K1) : Prop :=
  Kr (.int .i64 0) h
theorem yqcc (Kn : K1) (Kr : K1) (t : T) (h : H) (H0 : yn0i  h Kn Kr) : Wp PG 67 (seqR (rest 2 (ygjk Tryz.f276.body))) (mkQ (q1 Kn 10) (q1 Kr 10) ke0) t h :=
  wpEqC E5_ok H0 (by kernel_rfl)
def y3i9 (x0 x1 x2 : Value) (h : H) (Kn : K1) (Kr : K1) : Prop :=
  ylg6 x0 x1 x2 h (fun  h => yn0i  h Kn Kr) Kr
theorem ykiu (Kn : K1) (Kr : K1) (t : T) (h : H) (H0 : y3i9 (t 0) (t 1) (t 2) h Kn Kr) : Wp PG 67 (rest 2 (ygjk Tryz.f276.body)) (mkQ (q1 Kn 10) (q1 Kr 10) ke0) t h :=
  ykv2 (by kernel_rfl) (fun t h H1 => yqcc Kn Kr t h H1) (y1ov (fun  h => yn0i  h Kn Kr) Kr t h H0)
def ys96 (x0 x1 x2 x3 x4 : Value) (h : H) (Kn : K1) (Kr : K1) : Prop :=
  ywmm x2 fun v16 => u_bin PG .gtr T_int v16 x3 fun v18 => u_if v18 (Kr (.int .i64 1) h) (ywmm x2 fun v23 => yjdf PG y5ga [x0, x1, v23, x4] h fun v25 h => u_un PG .not v25 fun v26 => u_if v26 (Kr (.int .i64 8) h) (y3i9 x0 x1 x2 h Kn Kr))
theorem ys9p (Kn : K1) (Kr : K1) (t : T) (h : H) (H0 : ys96 (t 0) (t 1) (t 2) (t 3) (t 4) h Kn Kr) : Wp PG 67 (ygjk Tryz.f276.body) (mkQ (q1 Kn 10) (q1 Kr 10) ke0) t h :=
  yvnp E5_ok 2 H0 (by kernel_rfl) (fun t h (H1 : y3i9 (t 0) (t 1) (t 2) h Kn Kr) => ykiu Kn Kr t h H1) (by kernel_rfl)
def yzwx (x0 x1 x2 x3 x4 : Value) (h : H) (Q : K1) : Prop := ys96 x0 x1 x2 x3 x4 h Q Q
theorem yeyj (x0 x1 x2 x3 x4 : Value) (h : H) (Q : K1) (H0 : yzwx x0 x1 x2 x3 x4 h Q) : AM.Spec PG yuzq [x0, x1, x2, x3, x4] h Q :=
  yqxt mixed (fn := Tryz.f276) Tryz.func276 (c := ygjk Tryz.f276.body) (rs := [10]) (N := 67) (by kernel_rfl) (by kernel_rfl) (by kernel_rfl) (by kernel_rfl) (by kernel_rfl) (Nat.le_of_ble_eq_true rfl) (ys9p Q Q (tinit [x0, x1, x2, x3, x4]) h H0) (by kernel_rfl)
def yex1 (x0 x1 x2 : Value) (h : H) (Kn : K1) (Kr : K1) : Prop :=
  yjdf PG yuzq [x0, x1, x2, (.int .i64 65536), (.int .i64 0)] h fun v10 h => Kr v10 h
theorem ychf (Kn : K1) (Kr : K1) (t : T) (h : H) (H0 : yex1 (t 0) (t 1) (t 2) h Kn Kr) : Wp PG 11 (ygjk Tryz.f213.body) (mkQ (q1 Kn 6) (q1 Kr 6) ke0) t h :=
  wpEqC E5_ok H0 (by kernel_rfl)
def y9oh (x0 x1 x2 : Value) (h : H) (Q : K1) : Prop := yex1 x0 x1 x2 h Q Q
theorem ygwh (x0 x1 x2 : Value) (h : H) (Q : K1) (H0 : y9oh x0 x1 x2 h Q) : AM.Spec PG ylv9 [x0, x1, x2] h Q :=
  yqxt mixed (fn := Tryz.f213) Tryz.func213 (c := ygjk Tryz.f213.body) (rs := [6]) (N := 11) (by kernel_rfl) (by kernel_rfl) (by kernel_rfl) (by kernel_rfl) (by kernel_rfl) (Nat.le_of_ble_eq_true rfl) (ychf Q Q (tinit [x0, x1, x2]) h H0) (by kernel_rfl)
end Go.Proofs.YtnckimioabkheaaGreat

