/-
  Part of a proof: several texts put together, long names shortened.
-/
import Derived.Test.YtnckimioabkheaaGreatZ3
import Derived.Test.YtnckimioabkheaaGreatZ2
import Derived.KernelRfl
set_option linter.unusedVariables false
set_option maxRecDepth 100000
namespace Go.Proofs.YtnckimioabkheaaGreat
open Go.Proofs.YtnckimioabkheaaGreat.AM
@[simp] theorem yvo6 {a0:Int} {K:Value→Prop} {u:Dm K}:ysnr PG yr7r [(0,.int .u32 a0)] K u=K (.agg #[.int .u32 a0,.slice none 0 0]):=by kernel_rfl
@[simp] theorem ycx6 {K:Value→Prop} {u:Dm K}:ysnr PG y5c0 [] K u=K (.agg #[.slice none 0 0,.slice none 0 0,.slice none 0 0,.slice none 0 0,.slice none 0 0,.slice none 0 0]):=by kernel_rfl
@[simp] theorem y60u {a0a:Option Addr} {a0n:Nat} {a0c:Nat} {a1a:Option Addr} {a1n:Nat} {a1c:Nat} {a2a:Option Addr} {a2n:Nat} {a2c:Nat} {a3a:Option Addr} {a3n:Nat} {a3c:Nat} {a4a:Option Addr} {a4n:Nat} {a4c:Nat} {K:Value→Prop} {u:Dm K}:ysnr PG y5c0 [(0,.slice a0a a0n a0c),(1,.slice a1a a1n a1c),(2,.slice a2a a2n a2c),(3,.slice a3a a3n a3c),(4,.slice a4a a4n a4c)] K u=K (.agg #[.slice a0a a0n a0c,.slice a1a a1n a1c,.slice a2a a2n a2c,.slice a3a a3n a3c,.slice a4a a4n a4c,.slice none 0 0]):=by kernel_rfl
@[simp] theorem y3v3 {a0_0a:Option Addr} {a0_0n:Nat} {a0_0c:Nat} {a0_1a:Option Addr} {a0_1n:Nat} {a0_1c:Nat} {a0_2a:Option Addr} {a0_2n:Nat} {a0_2c:Nat} {a0_3a:Option Addr} {a0_3n:Nat} {a0_3c:Nat} {a0_4a:Option Addr} {a0_4n:Nat} {a0_4c:Nat} {a0_5a:Option Addr} {a0_5n:Nat} {a0_5c:Nat} {K:Value→Prop} {u:Dm K}:ysnr PG yxsr [(0,.agg #[.slice a0_0a a0_0n a0_0c,.slice a0_1a a0_1n a0_1c,.slice a0_2a a0_2n a0_2c,.slice a0_3a a0_3n a0_3c,.slice a0_4a a0_4n a0_4c,.slice a0_5a a0_5n a0_5c])] K u=K (.agg #[.slice a0_0a a0_0n a0_0c,.slice a0_1a a0_1n a0_1c,.slice a0_2a a0_2n a0_2c,.slice a0_3a a0_3n a0_3c,.slice a0_4a a0_4n a0_4c,.slice a0_5a a0_5n a0_5c,.int .i64 0,.int .i64 0,.int .i64 0]):=by kernel_rfl
@[simp] theorem y36x {a0:Option Addr} {a1a:Option Addr} {a1n:Nat} {a1c:Nat} {K:Value→Prop} {u:Dm K}:ysnr PG ydrn [(0,.pointer a0),(1,.slice a1a a1n a1c)] K u=K (.agg #[.pointer a0,.slice a1a a1n a1c,.slice none 0 0,.slice none 0 0]):=by kernel_rfl
@[simp] theorem y2pz {a0:Int} {a1:Int} {a2:Int} {a3a:Option Addr} {a3n:Nat} {a3c:Nat} {K:Value→Prop} {u:Dm K}:ysnr PG yhas [(0,.int .u32 a0),(1,.int .u32 a1),(2,.int .i64 a2),(3,.slice a3a a3n a3c)] K u=K (.agg #[.int .u32 a0,.int .u32 a1,.int .i64 a2,.slice a3a a3n a3c]):=by kernel_rfl
@[simp] theorem ywcg {a0:Int} {a1:Int} {a2:Int} {a3:Int} {K:Value→Prop} {u:Dm K}:ysnr PG ybsk [(0,.int .i64 a0),(1,.int .u32 a1),(2,.int .u32 a2),(3,.int .u8 a3)] K u=K (.agg #[.int .i64 a0,.int .u32 a1,.int .u32 a2,.int .u8 a3]):=by kernel_rfl
@[simp] theorem y3u5 {a0:Int} {a1:Int} {K:Value→Prop} {u:Dm K}:ysnr PG yogz [(0,.int .u32 a0),(1,.int .i64 a1)] K u=K (.agg #[.int .u32 a0,.int .i64 a1]):=by kernel_rfl
@[simp] theorem ydfk {a0:Int} {a1:Int} {a2:Int} {K:Value→Prop} {u:Dm K}:ysnr PG ytfh [(0,.int .i64 a0),(1,.int .i64 a1),(2,.int .u8 a2)] K u=K (.agg #[.int .i64 a0,.int .i64 a1,.int .u8 a2]):=by kernel_rfl
@[simp] theorem y9fj {a0:ByteArray} {a1a:Option Addr} {a1n:Nat} {a1c:Nat} {K:Value→Prop} {u:Dm K}:ysnr PG ymzi [(0,.string a0),(1,.slice a1a a1n a1c)] K u=K (.agg #[.string a0,.slice a1a a1n a1c]):=by kernel_rfl
@[simp] theorem ymvb {a0:Int} {a1:Int} {a2:Int} {K:Value→Prop} {u:Dm K}:ysnr PG yukk [(0,.int .i64 a0),(1,.int .i64 a1),(2,.int .i64 a2)] K u=K (.agg #[.int .i64 a0,.int .i64 a1,.int .i64 a2]):=by kernel_rfl
@[simp] theorem yzqx {a0:Bool} {K:Value→Prop} {u:Dm K}:ysnr PG ysrv [(0,.bool a0)] K u=K (.agg #[.bool a0,.slice none 0 0,.slice none 0 0]):=by kernel_rfl
@[simp] theorem yj0p {a0_0:Int} {a0_1:Int} {a0_2:Int} {a0_3a:Option Addr} {a0_3n:Nat} {a0_3c:Nat} {h:H} {K:K1} {u:Dm K}:ynqb PG y1cj 1 [(0,.agg #[.int .u32 a0_0,.int .u32 a0_1,.int .i64 a0_2,.slice a0_3a a0_3n a0_3c])] h K u=u_new [.int .u32 a0_0,.int .u32 a0_1,.int .i64 a0_2,.slice a0_3a a0_3n a0_3c] yhas .exact h fun b h=>K (.slice (some ⟨b,0,none⟩) 1 1) h:=by kernel_rfl
@[simp] theorem yxvn {a0_0:ByteArray} {a0_1a:Option Addr} {a0_1n:Nat} {a0_1c:Nat} {h:H} {K:K1} {u:Dm K}:ynqb PG y6pz 1 [(0,.agg #[.string a0_0,.slice a0_1a a0_1n a0_1c])] h K u=u_new [.string a0_0,.slice a0_1a a0_1n a0_1c] ymzi .exact h fun b h=>K (.slice (some ⟨b,0,none⟩) 1 1) h:=by kernel_rfl
@[simp] theorem y6lq {a0_0:Int} {a0_1:Int} {a0_2:Int} {a1_0:Int} {a1_1:Int} {a1_2:Int} {a2_0:Int} {a2_1:Int} {a2_2:Int} {h:H} {K:K1} {u:Dm K}:ynqb PG yxrw 3 [(0,.agg #[.int .i64 a0_0,.int .i64 a0_1,.int .i64 a0_2]),(1,.agg #[.int .i64 a1_0,.int .i64 a1_1,.int .i64 a1_2]),(2,.agg #[.int .i64 a2_0,.int .i64 a2_1,.int .i64 a2_2])] h K u=u_new [.int .i64 a0_0,.int .i64 a0_1,.int .i64 a0_2,.int .i64 a1_0,.int .i64 a1_1,.int .i64 a1_2,.int .i64 a2_0,.int .i64 a2_1,.int .i64 a2_2] yukk .exact h fun b h=>K (.slice (some ⟨b,0,none⟩) 3 3) h:=by kernel_rfl
@[simp] theorem ysal {a0_0:Int} {a0_1:Int} {h:H} {K:K1} {u:Dm K}:ynqb PG yzw0 1 [(0,.agg #[.int .u32 a0_0,.int .i64 a0_1])] h K u=u_new [.int .u32 a0_0,.int .i64 a0_1] yogz .exact h fun b h=>K (.slice (some ⟨b,0,none⟩) 1 1) h:=by kernel_rfl
@[simp] theorem yqrw {h:H} {K:K1} {u:Dm K}:ynqb PG y8f0 0 [] h K u=u_new [] yoj6 .exact h fun b h=>K (.slice (some ⟨b,0,none⟩) 0 0) h:=by kernel_rfl
@[simp] theorem ym03 {a0:Int} {a1:Int} {a2:Int} {a3:Int} {h:H} {K:K1} {u:Dm K}:ynqb PG y8f0 4 [(0,.int .u8 a0),(1,.int .u8 a1),(2,.int .u8 a2),(3,.int .u8 a3)] h K u=u_new [.int .u8 a0,.int .u8 a1,.int .u8 a2,.int .u8 a3] yoj6 .exact h fun b h=>K (.slice (some ⟨b,0,none⟩) 4 4) h:=by kernel_rfl
@[simp] theorem ywzm {a0_0:Int} {a0_1:Int} {a0_2:Int} {a0_3:Int} {h:H} {K:K1} {u:Dm K}:ynqb PG yoxq 1 [(0,.agg #[.int .i64 a0_0,.int .u32 a0_1,.int .u32 a0_2,.int .u8 a0_3])] h K u=u_new [.int .i64 a0_0,.int .u32 a0_1,.int .u32 a0_2,.int .u8 a0_3] ybsk .exact h fun b h=>K (.slice (some ⟨b,0,none⟩) 1 1) h:=by kernel_rfl
@[simp] theorem yfpg {a0_0:Int} {a0_1:Int} {a0_2:Int} {h:H} {K:K1} {u:Dm K}:ynqb PG y3uw 1 [(0,.agg #[.int .i64 a0_0,.int .i64 a0_1,.int .u8 a0_2])] h K u=u_new [.int .i64 a0_0,.int .i64 a0_1,.int .u8 a0_2] ytfh .exact h fun b h=>K (.slice (some ⟨b,0,none⟩) 1 1) h:=by kernel_rfl
def yfec (x1 x3 x4 x5:Value) (h:H) (Kn:K4) (Kr:K1) (Ke0:K3):Prop :=
 u_bf false 1 1 x1 h fun v22=>ywmm v22 fun v23=>u_bin PG .lss T_int x5 v23 fun v24=>u_if v24 (u_bf false 1 1 x1 h fun v28=>u_ix true 4 none v28 x5 h fun v31=>u_new [.int .u32 0,.int .u32 0,.int .i64 0,.slice none 0 0] yhas .exact h fun b6 h=>ylel 4 (.pointer (some ⟨b6,0,none⟩)) v31 h fun h=>u_bf false 1 0 (.pointer (some ⟨b6,0,none⟩)) h fun v33=>u_bin PG .rem ycpa v33 (.int .u32 256) fun v34=>u_bin PG .neq ycpa v34 (.int .u32 0) fun v35=>ydv6 v35 false (fun k7=>u_bf false 1 1 (.pointer (some ⟨b6,0,none⟩)) h fun v38=>u_bin PG .eql ycpa v38 (.int .u32 0) fun v39=>k7 v39 h) (fun v39 h=>y9rg v35 (.bool true) v39 fun v40=>ydv6 v40 false (fun k16=>u_bf false 1 1 (.pointer (some ⟨b6,0,none⟩)) h fun v43=>y2x6 .i64 v43 fun v44=>u_bf false 1 3 (.pointer (some ⟨b6,0,none⟩)) h fun v46=>ywmm v46 fun v47=>u_bin PG .lss yeb5 v44 v47 fun v48=>k16 v48 h) (fun v48 h=>y9rg v40 (.bool true) v48 fun v49=>ydv6 v49 false (fun k26=>u_bf false 1 0 (.pointer (some ⟨b6,0,none⟩)) h fun v52=>y2x6 .i64 v52 fun v53=>u_bf false 1 1 (.pointer (some ⟨b6,0,none⟩)) h fun v55=>y2x6 .i64 v55 fun v56=>u_bin PG .add yeb5 v53 v56 fun v57=>u_bin PG .gtr yeb5 v57 (.int .i64 4294967296) fun v58=>k26 v58 h) (fun v58 h=>y9rg v49 (.bool true) v58 fun v59=>ydv6 v59 false (fun k31=>u_bf false 1 2 (.pointer (some ⟨b6,0,none⟩)) h fun v62=>u_bin PG .lss T_int v62 (.int .i64 0) fun v63=>k31 v63 h) (fun v63 h=>y9rg v59 (.bool true) v63 fun v64=>ydv6 v64 false (fun k36=>u_bf false 1 2 (.pointer (some ⟨b6,0,none⟩)) h fun v67=>u_bin PG .gtr T_int v67 (.int .i64 7) fun v68=>k36 v68 h) (fun v68 h=>y9rg v64 (.bool true) v68 fun v69=>u_if v69 (Kr (.int .i64 1) h) (u_bf false 1 3 (.pointer (some ⟨b6,0,none⟩)) h fun v72=>ywmm v72 fun v73=>u_bin PG .add yeb5 x3 v73 fun v74=>u_bf false 1 1 (.pointer (some ⟨b6,0,none⟩)) h fun v77=>y2x6 .i64 v77 fun v78=>u_bin PG .add yeb5 x4 v78 fun v79=>u_bin PG .add T_int x5 (.int .i64 1) fun v26=>Kn x1 v74 v79 v26 h)) h) h) h) h) h) (Ke0 x1 x3 x4 h)
def y48c (x1 x3 x4 x5:Value) (h:H) (Kn:K3) (Kr:K1) (Ke0:K3):Prop :=
 sloop (S:=Value×Value×Value×Value) (fun s h K=>yfec s.1 s.2.1 s.2.2.1 s.2.2.2 h (fun y1 y3 y4 y5 h=>K (y1,y3,y4,y5) h) Kr Ke0) (x1,x3,x4,x5) h
def y8ix (x1 x3 x4 x5:Value) (h:H) (Kn:K3) (Kr:K1):Prop :=
 y48c x1 x3 x4 x5 h Kn Kr Kn
def ycly (x1 x3 x4:Value) (h:H) (Kn:K3) (Kr:K1):Prop :=
 y8ix x1 x3 x4 (.int .i64 0) h Kn Kr
def yns0 (x1 x7 x8 x9 x10 x11:Value) (h:H) (Kn:K6) (Kr:K1) (Ke5:K5) (Ke4:K4) (Ke3:K3) (Ke2:K2):Prop :=
 u_bf false 1 0 x9 h fun v109=>y2x6 .i64 v109 fun v110=>u_bf false 1 0 x11 h fun v112=>y2x6 .i64 v112 fun v113=>u_bf false 1 1 x11 h fun v115=>y2x6 .i64 v115 fun v116=>u_ct yx7l [v116] h fun v117 h=>u_bin PG .add yeb5 v113 v117 fun v118=>u_bin PG .lss yeb5 v110 v118 fun v119=>ydv6 v119 true (fun k24=>u_bf false 1 0 x11 h fun v122=>y2x6 .i64 v122 fun v123=>u_bf false 1 0 x9 h fun v125=>y2x6 .i64 v125 fun v126=>u_bf false 1 1 x9 h fun v128=>y2x6 .i64 v128 fun v129=>u_ct yx7l [v129] h fun v130 h=>u_bin PG .add yeb5 v126 v130 fun v131=>u_bin PG .lss yeb5 v123 v131 fun v132=>k24 v132 h) (fun v132 h=>y9rg v119 v132 (.bool false) fun v133=>Kn x1 x7 x8 x9 x10 v133 h) h
def y6b3 (x1 x7 x8 x9 x10 x133:Value) (h:H) (Kn:K5) (Kr:K1) (Ke5:K5) (Ke4:K4) (Ke3:K3) (Ke2:K2):Prop :=
 u_if x133 (Kr (.int .i64 1) h) (Kn x1 x7 x8 x9 x10 h)
def y494 (x1 x7 x8 x9 x10 x11:Value) (h:H) (Kn:K5) (Kr:K1) (Ke5:K5) (Ke4:K4) (Ke3:K3) (Ke2:K2):Prop :=
 yns0 x1 x7 x8 x9 x10 x11 h (fun y1 y7 y8 y9 y10 y133 h=>y6b3 y1 y7 y8 y9 y10 y133 h Kn Kr Ke5 Ke4 Ke3 Ke2) Kr Ke5 Ke4 Ke3 Ke2
def ydsc (x1 x7 x8 x9 x10:Value) (h:H) (Kn:K5) (Kr:K1) (Ke5:K5) (Ke4:K4) (Ke3:K3) (Ke2:K2):Prop :=
 u_bf false 1 1 x1 h fun v104=>u_ix true 4 none v104 x10 h fun v107=>u_new [.int .u32 0,.int .u32 0,.int .i64 0,.slice none 0 0] yhas .exact h fun b11 h=>ylel 4 (.pointer (some ⟨b11,0,none⟩)) v107 h fun h=>y494 x1 x7 x8 x9 x10 (.pointer (some ⟨b11,0,none⟩)) h Kn Kr Ke5 Ke4 Ke3 Ke2
def yf2o (x1 x7 x8 x9 x10:Value) (h:H) (Kn:K5) (Kr:K1) (Ke4:K4) (Ke3:K3) (Ke2:K2):Prop :=
 ydsc x1 x7 x8 x9 x10 h Kn Kr Kn Ke4 Ke3 Ke2
def ywfn (x1 x7 x8 x9 x10:Value) (h:H) (Kn:K5) (Kr:K1) (Ke4:K4) (Ke3:K3) (Ke2:K2):Prop :=
 u_bin PG .add T_int x10 (.int .i64 1) fun v102=>Kn x1 x7 x8 x9 v102 h
def yt29 (x1 x7 x8 x9 x10:Value) (h:H) (Kn:K5) (Kr:K1) (Ke4:K4) (Ke3:K3) (Ke2:K2):Prop :=
 yf2o x1 x7 x8 x9 x10 h (fun y1 y7 y8 y9 y10 h=>ywfn y1 y7 y8 y9 y10 h Kn Kr Ke4 Ke3 Ke2) Kr Ke4 Ke3 Ke2
def yl0b (x1 x7 x8 x9 x10:Value) (h:H) (Kn:K5) (Kr:K1) (Ke4:K4) (Ke3:K3) (Ke2:K2):Prop :=
 u_bin PG .lss T_int x10 x8 fun v100=>u_if v100 (yt29 x1 x7 x8 x9 x10 h Kn Kr Ke4 Ke3 Ke2) (Ke4 x1 x7 x8 x9 h)
def y8ev (x1 x7 x8 x9 x10:Value) (h:H) (Kn:K4) (Kr:K1) (Ke4:K4) (Ke3:K3) (Ke2:K2):Prop :=
 sloop (S:=Value×Value×Value×Value×Value) (fun s h K=>yl0b s.1 s.2.1 s.2.2.1 s.2.2.2.1 s.2.2.2.2 h (fun y1 y7 y8 y9 y10 h=>K (y1,y7,y8,y9,y10) h) Kr Ke4 Ke3 Ke2) (x1,x7,x8,x9,x10) h
def y43f (x1 x7 x8 x9 x10:Value) (h:H) (Kn:K4) (Kr:K1) (Ke3:K3) (Ke2:K2):Prop :=
 y8ev x1 x7 x8 x9 x10 h Kn Kr Kn Ke3 Ke2
def y09h (x1 x7 x8 x9:Value) (h:H) (Kn:K4) (Kr:K1) (Ke3:K3) (Ke2:K2):Prop :=
 y43f x1 x7 x8 x9 (.int .i64 0) h Kn Kr Ke3 Ke2
def yx28 (x1 x7 x8 x9:Value) (h:H) (Kn:K3) (Kr:K1) (Ke3:K3) (Ke2:K2):Prop :=
 ydv6 x7 false (fun k25=>u_bf false 1 2 x9 h fun v137=>u_bin PG .and T_int v137 (.int .i64 4) fun v138=>u_bin PG .neq T_int v138 (.int .i64 0) fun v139=>ydv6 v139 true (fun k11=>u_bf false 1 0 x1 h fun v142=>u_bf false 1 0 x9 h fun v144=>u_bin PG .geq ycpa v142 v144 fun v145=>k11 v145 h) (fun v145 h=>y9rg v139 v145 (.bool false) fun v146=>ydv6 v146 true (fun k24=>u_bf false 1 0 x1 h fun v149=>y2x6 .i64 v149 fun v150=>u_bf false 1 0 x9 h fun v152=>y2x6 .i64 v152 fun v153=>u_bin PG .sub yeb5 v150 v153 fun v154=>u_bf false 1 1 x9 h fun v156=>y2x6 .i64 v156 fun v157=>u_bin PG .lss yeb5 v154 v157 fun v158=>k24 v158 h) (fun v158 h=>y9rg v146 v158 (.bool false) fun v159=>k25 v159 h) h) h) (fun v159 h=>y9rg x7 (.bool true) v159 fun v160=>Kn x1 v160 x8 h) h
def yp7k (x1 x7 x8 x9:Value) (h:H) (Kn:K3) (Kr:K1) (Ke3:K3) (Ke2:K2):Prop :=
 y09h x1 x7 x8 x9 h (fun y1 y7 y8 y9 h=>yx28 y1 y7 y8 y9 h Kn Kr Ke3 Ke2) Kr Ke3 Ke2
def yq9s (x1 x7 x8:Value) (h:H) (Kn:K3) (Kr:K1) (Ke3:K3) (Ke2:K2):Prop :=
 u_bf false 1 1 x1 h fun v94=>u_ix true 4 none v94 x8 h fun v97=>u_new [.int .u32 0,.int .u32 0,.int .i64 0,.slice none 0 0] yhas .exact h fun b9 h=>ylel 4 (.pointer (some ⟨b9,0,none⟩)) v97 h fun h=>yp7k x1 x7 x8 (.pointer (some ⟨b9,0,none⟩)) h Kn Kr Ke3 Ke2
def yaq4 (x1 x7 x8:Value) (h:H) (Kn:K3) (Kr:K1) (Ke2:K2):Prop :=
 yq9s x1 x7 x8 h Kn Kr Kn Ke2
def yd2r (x1 x7 x8:Value) (h:H) (Kn:K3) (Kr:K1) (Ke2:K2):Prop :=
 u_bin PG .add T_int x8 (.int .i64 1) fun v92=>Kn x1 x7 v92 h
def yzbx (x1 x7 x8:Value) (h:H) (Kn:K3) (Kr:K1) (Ke2:K2):Prop :=
 yaq4 x1 x7 x8 h (fun y1 y7 y8 h=>yd2r y1 y7 y8 h Kn Kr Ke2) Kr Ke2
def yaeq (x1 x7 x8:Value) (h:H) (Kn:K3) (Kr:K1) (Ke2:K2):Prop :=
 u_bf false 1 1 x1 h fun v88=>ywmm v88 fun v89=>u_bin PG .lss T_int x8 v89 fun v90=>u_if v90 (yzbx x1 x7 x8 h Kn Kr Ke2) (Ke2 x1 x7 h)
def ygfp (x1 x7 x8:Value) (h:H) (Kn:K2) (Kr:K1) (Ke2:K2):Prop :=
 sloop (S:=Value×Value×Value) (fun s h K=>yaeq s.1 s.2.1 s.2.2 h (fun y1 y7 y8 h=>K (y1,y7,y8) h) Kr Ke2) (x1,x7,x8) h
def yp4t (x1 x7 x8:Value) (h:H) (Kn:K2) (Kr:K1):Prop :=
 ygfp x1 x7 x8 h Kn Kr Kn
def ywqd (x1 x7:Value) (h:H) (Kn:K2) (Kr:K1):Prop :=
 yp4t x1 x7 (.int .i64 0) h Kn Kr
def ytui (x1 x7:Value) (h:H) (Kn Kr:K1):Prop :=
 u_bf false 1 0 x1 h fun v162=>u_bin PG .rem ycpa v162 (.int .u32 4) fun v163=>u_bin PG .neq ycpa v163 (.int .u32 0) fun v164=>ydv6 v164 false (fun k6=>u_un PG .not x7 fun v167=>k6 v167 h) (fun v167 h=>y9rg v164 (.bool true) v167 fun v168=>u_if v168 (Kr (.int .i64 1) h) (Kr (.int .i64 0) h)) h
def yeqh (x1 x7:Value) (h:H) (Kn Kr:K1):Prop :=
 ywqd x1 x7 h (fun y1 y7 h=>ytui y1 y7 h Kn Kr) Kr
def yggq (x1 x3 x4:Value) (h:H) (Kn Kr:K1):Prop :=
 u_bin PG .gtr yeb5 x3 (.int .i64 65536) fun v81=>ydv6 v81 false (fun k4=>u_bin PG .gtr yeb5 x4 (.int .i64 65536) fun v84=>k4 v84 h) (fun v84 h=>y9rg v81 (.bool true) v84 fun v85=>u_if v85 (Kr (.int .i64 2) h) (yeqh x1 (.bool false) h Kn Kr)) h
def yvrz (x1 x3 x4:Value) (h:H) (Kn Kr:K1):Prop :=
 ycly x1 x3 x4 h (fun y1 y3 y4 h=>yggq y1 y3 y4 h Kn Kr) Kr
def y2if (x0:Value) (h:H) (Kn Kr:K1):Prop :=
 boxV x0=true∧u_new (Value.cells x0).toList yr7r .exact h fun b1 h=>u_bf false 1 1 (.pointer (some ⟨b1,0,none⟩)) h fun v13=>ywmm v13 fun v14=>u_bin PG .gtr T_int v14 (.int .i64 8) fun v15=>u_if v15 (Kr (.int .i64 2) h) (u_bf false 1 1 (.pointer (some ⟨b1,0,none⟩)) h fun v17=>ywmm v17 fun v18=>u_bin PG .eql T_int v18 (.int .i64 0) fun v19=>u_if v19 (Kr (.int .i64 1) h) (yvrz (.pointer (some ⟨b1,0,none⟩)) (.int .i64 0) (.int .i64 0) h Kn Kr))
theorem ybij {Kn:K5} {Kr:K1} {Ke4:K4} {Ke3:K3} {Ke2:K2} {t:T} {h:H} (H0:yf2o (t 1) (t 7) (t 8) (t 9) (t 10) h Kn Kr Ke4 Ke3 Ke2):Wp PG 169 (seqL (rest 1 (lopC (blkC (rest 1 (seqL (rest 1 (blkC (seqL (rest 1 (lopC (blkC (rest 1 (seqL (rest 2 (seqR (rest 4 (ygjk Tryz.f145.body)))))))))))))))))) (mkQ (q5 Kn 1 7 8 9 10) (q1 Kr 2) (keAdd 4 (q4 Ke4 1 7 8 9) (keAdd 3 (q3 Ke3 1 7 8) (keAdd 2 (q2 Ke2 1 7) ke0)))) t h :=
 (bkE 5 (toE E5_ok 1 H0 fun t h (H:y494 (t 1) (t 7) (t 8) (t 9) (t 10) (t 11) h Kn Kr Kn Ke4 Ke3 Ke2)=>(sqE (q6 (fun y1 y7 y8 y9 y10 y133 h=>y6b3 y1 y7 y8 y9 y10 y133 h Kn Kr Kn Ke4 Ke3 Ke2) 1 7 8 9 10 133) (drE E5_ok [0,1,2,3,4,5,6,7,8,9,10,11,12,13,14,15,16,17,18,19,20,21,22,23,24,25] H) fun t h H=>(wpE E5_ok H))))
theorem y8sj {Kn:K4} {Kr:K1} {Ke3:K3} {Ke2:K2} {t:T} {h:H} (H0:y09h (t 1) (t 7) (t 8) (t 9) h Kn Kr Ke3 Ke2):Wp PG 169 (seqL (rest 1 (blkC (seqL (rest 1 (lopC (blkC (rest 1 (seqL (rest 2 (seqR (rest 4 (ygjk Tryz.f145.body))))))))))))) (mkQ (q4 Kn 1 7 8 9) (q1 Kr 2) (keAdd 3 (q3 Ke3 1 7 8) (keAdd 2 (q2 Ke2 1 7) ke0))) t h :=
 (toE E5_ok 1 H0 fun t h (H:y43f (t 1) (t 7) (t 8) (t 9) (t 10) h Kn Kr Ke3 Ke2)=>(bkE 4 (lpE (fun t=>(t 1,t 7,t 8,t 9,t 10)) H fun t h K H=>(toE E5_ok 1 H fun t h (H:yt29 (t 1) (t 7) (t 8) (t 9) (t 10) h (fun y1 y7 y8 y9 y10 h=>K (y1,y7,y8,y9,y10) h) Kr Kn Ke3 Ke2)=>(sqE _ (ybij H) fun t h H=>(wpE E5_ok H))))))
theorem y4p6 {Kn:K3} {Kr:K1} {Ke2:K2} {t:T} {h:H} (H0:yaq4 (t 1) (t 7) (t 8) h Kn Kr Ke2):Wp PG 169 (seqL (rest 1 (lopC (blkC (rest 1 (seqL (rest 2 (seqR (rest 4 (ygjk Tryz.f145.body)))))))))) (mkQ (q3 Kn 1 7 8) (q1 Kr 2) (keAdd 2 (q2 Ke2 1 7) ke0)) t h :=
 (bkE 3 (toE E5_ok 1 H0 fun t h (H:yp7k (t 1) (t 7) (t 8) (t 9) h Kn Kr Kn Ke2)=>(sqE _ (y8sj H) fun t h H=>(wpE E5_ok H))))
theorem y5v6 {Kn Kr:K1} {t:T} {h:H} (H0:yeqh (t 1) (t 7) h Kn Kr):Wp PG 169 (rest 2 (seqR (rest 4 (ygjk Tryz.f145.body)))) (mkQ (q1 Kn 2) (q1 Kr 2) ke0) t h :=
 (sqE (q2 (fun y1 y7 h=>ytui y1 y7 h Kn Kr) 1 7) (toE E5_ok 1 H0 fun t h (H:yp4t (t 1) (t 7) (t 8) h (fun y1 y7 h=>ytui y1 y7 h Kn Kr) Kr)=>(bkE 2 (lpE (fun t=>(t 1,t 7,t 8)) H fun t h K H=>(toE E5_ok 1 H fun t h (H:yzbx (t 1) (t 7) (t 8) h (fun y1 y7 y8 h=>K (y1,y7,y8) h) Kr (fun y1 y7 h=>ytui y1 y7 h Kn Kr))=>(sqE _ (y4p6 H) fun t h H=>(wpE E5_ok H)))))) fun t h H=>(wpE E5_ok H))
theorem y6ho {Kn Kr:K1} {t:T} {h:H} (H0:y2if (t 0) h Kn Kr):Wp PG 169 (ygjk Tryz.f145.body) (mkQ (q1 Kn 2) (q1 Kr 2) ke0) t h :=
 (toE E5_ok 4 H0 fun t h (H:yvrz (t 1) (t 3) (t 4) h Kn Kr)=>(sqE (q3 (fun y1 y3 y4 h=>yggq y1 y3 y4 h Kn Kr) 1 3 4) (toE E5_ok 1 H fun t h (H:y8ix (t 1) (t 3) (t 4) (t 5) h (fun y1 y3 y4 h=>yggq y1 y3 y4 h Kn Kr) Kr)=>(bkE 0 (lpE (fun t=>(t 1,t 3,t 4,t 5)) H fun t h K H=>(wpE E5_ok H)))) fun t h H=>(toE E5_ok 2 H fun t h (H:yeqh (t 1) (t 7) h Kn Kr)=>(y5v6 H))))
def yg76 (x0:Value) (h:H) (Q:K1):Prop:=y2if x0 h Q Q
theorem yepe (x0:Value) (h:H) (Q:K1) (H0:yg76 x0 h Q):AM.Spec PG y3mv [x0] h Q :=
 spH mixed Tryz.func145 [2] (y6ho H0)
def ylt6 (x1 x3:Value) (h:H) (Kn:K2) (Kr Ke0:K1):Prop :=
 u_bf false 1 1 x1 h fun v20=>ywmm v20 fun v21=>u_bin PG .lss T_int x3 v21 fun v22=>u_if v22 (u_bf false 1 1 x1 h fun v26=>u_ix true 4 none v26 x3 h fun v29=>u_new [.int .i64 0,.int .u32 0,.int .u32 0,.int .u8 0] ybsk .exact h fun b4 h=>ylel 4 (.pointer (some ⟨b4,0,none⟩)) v29 h fun h=>u_bf false 1 3 (.pointer (some ⟨b4,0,none⟩)) h fun v31=>u_bin PG .neq yoj6 v31 (.int .u8 0) fun v32=>u_bf false 1 0 (.pointer (some ⟨b4,0,none⟩)) h fun v34=>u_bin PG .eql T_int v34 (.int .i64 1) fun v36=>u_if v36 (ydv6 v32 true (fun k4=>u_bf false 1 2 (.pointer (some ⟨b4,0,none⟩)) h fun v40=>u_bin PG .eql ycpa v40 (.int .u32 0) fun v41=>k4 v41 h) (fun v41 h=>y9rg v32 v41 (.bool false) fun v42=>u_un PG .not v42 fun v77=>u_if v77 (Kr (.bool false) h) (u_bin PG .add T_int x3 (.int .i64 1) fun v24=>Kn x1 v24 h)) h) (yi4e PG T_int v34 [(.int .i64 2),(.int .i64 3),(.int .i64 5)] fun w43=>u_if w43 (ydv6 v32 true (fun k4=>u_bf false 1 1 (.pointer (some ⟨b4,0,none⟩)) h fun v50=>u_bin PG .eql ycpa v50 (.int .u32 0) fun v51=>k4 v51 h) (fun v51 h=>y9rg v32 v51 (.bool false) fun v52=>ydv6 v52 true (fun k9=>u_bf false 1 2 (.pointer (some ⟨b4,0,none⟩)) h fun v55=>u_bin PG .eql ycpa v55 (.int .u32 0) fun v56=>k9 v56 h) (fun v56 h=>y9rg v52 v56 (.bool false) fun v57=>u_un PG .not v57 fun v77=>u_if v77 (Kr (.bool false) h) (u_bin PG .add T_int x3 (.int .i64 1) fun v24=>Kn x1 v24 h)) h) h) (u_bin PG .eql T_int v34 (.int .i64 4) fun v59=>u_if v59 (ydv6 v32 true (fun k4=>u_bf false 1 2 (.pointer (some ⟨b4,0,none⟩)) h fun v63=>u_bin PG .neq ycpa v63 (.int .u32 0) fun v64=>k4 v64 h) (fun v64 h=>y9rg v32 v64 (.bool false) fun v65=>ydv6 v65 true (fun k14=>u_bf false 1 1 (.pointer (some ⟨b4,0,none⟩)) h fun v68=>y2x6 .i64 v68 fun v69=>u_bf false 1 2 (.pointer (some ⟨b4,0,none⟩)) h fun v71=>y2x6 .i64 v71 fun v72=>u_bin PG .add yeb5 v69 v72 fun v73=>u_bin PG .leq yeb5 v73 (.int .i64 4294967296) fun v74=>k14 v74 h) (fun v74 h=>y9rg v65 v74 (.bool false) fun v75=>u_un PG .not v75 fun v77=>u_if v77 (Kr (.bool false) h) (u_bin PG .add T_int x3 (.int .i64 1) fun v24=>Kn x1 v24 h)) h) h) (u_un PG .not (.bool false) fun v77=>u_if v77 (Kr (.bool false) h) (u_bin PG .add T_int x3 (.int .i64 1) fun v24=>Kn x1 v24 h))))) (Ke0 x1 h)
def y856 (x1 x3:Value) (h:H) (Kn Kr Ke0:K1):Prop :=
 sloop (S:=Value×Value) (fun s h K=>ylt6 s.1 s.2 h (fun y1 y3 h=>K (y1,y3) h) Kr Ke0) (x1,x3) h
def yqes (x1 x3:Value) (h:H) (Kn Kr:K1):Prop :=
 y856 x1 x3 h Kn Kr Kn
def y198 (x1:Value) (h:H) (Kn Kr:K1):Prop :=
 yqes x1 (.int .i64 0) h Kn Kr
def yrek (x1 x6:Value) (h:H) (Kn:K2) (Kr:K1) (Ke3:K0):Prop :=
 u_bf false 1 2 x1 h fun v80=>ywmm v80 fun v81=>u_bin PG .lss T_int x6 v81 fun v82=>u_if v82 (u_bf false 1 2 x1 h fun v86=>u_ix true 3 none v86 x6 h fun v89=>u_new [.int .i64 0,.int .i64 0,.int .u8 0] ytfh .exact h fun b7 h=>ylel 3 (.pointer (some ⟨b7,0,none⟩)) v89 h fun h=>u_bf false 1 0 (.pointer (some ⟨b7,0,none⟩)) h fun v91=>u_bin PG .lss T_int v91 (.int .i64 1) fun v92=>ydv6 v92 false (fun k6=>u_bf false 1 0 (.pointer (some ⟨b7,0,none⟩)) h fun v95=>u_bin PG .gtr T_int v95 (.int .i64 5) fun v96=>k6 v96 h) (fun v96 h=>y9rg v92 (.bool true) v96 fun v97=>ydv6 v97 false (fun k11=>u_bf false 1 2 (.pointer (some ⟨b7,0,none⟩)) h fun v100=>u_bin PG .eql yoj6 v100 (.int .u8 0) fun v101=>k11 v101 h) (fun v101 h=>y9rg v97 (.bool true) v101 fun v102=>ydv6 v102 false (fun k16=>u_bf false 1 1 (.pointer (some ⟨b7,0,none⟩)) h fun v105=>u_bin PG .lss T_int v105 (.int .i64 0) fun v106=>k16 v106 h) (fun v106 h=>y9rg v102 (.bool true) v106 fun v107=>ydv6 v107 false (fun k26=>u_bf false 1 0 (.pointer (some ⟨b7,0,none⟩)) h fun v110=>u_bin PG .eql T_int v110 (.int .i64 4) fun v111=>ydv6 v111 true (fun k25=>u_bf false 1 1 (.pointer (some ⟨b7,0,none⟩)) h fun v114=>u_bin PG .gtr T_int v114 (.int .i64 6) fun v115=>k25 v115 h) (fun v115 h=>y9rg v111 v115 (.bool false) fun v116=>k26 v116 h) h) (fun v116 h=>y9rg v107 (.bool true) v116 fun v117=>ydv6 v117 false (fun k36=>u_bf false 1 0 (.pointer (some ⟨b7,0,none⟩)) h fun v120=>u_bin PG .neq T_int v120 (.int .i64 4) fun v121=>ydv6 v121 true (fun k35=>u_bf false 1 1 (.pointer (some ⟨b7,0,none⟩)) h fun v124=>u_bin PG .neq T_int v124 (.int .i64 0) fun v125=>k35 v125 h) (fun v125 h=>y9rg v121 v125 (.bool false) fun v126=>k36 v126 h) h) (fun v126 h=>y9rg v117 (.bool true) v126 fun v127=>u_if v127 (Kr (.bool false) h) (u_bin PG .add T_int x6 (.int .i64 1) fun v84=>Kn x1 v84 h)) h) h) h) h) h) (Ke3 h)
def yt3h (x1 x6:Value) (h:H) (Kn:K0) (Kr:K1) (Ke3:K0):Prop :=
 sloop (S:=Value×Value) (fun s h K=>yrek s.1 s.2 h (fun y1 y6 h=>K (y1,y6) h) Kr Ke3) (x1,x6) h
def y5fc (x1 x6:Value) (h:H) (Kn:K0) (Kr:K1):Prop :=
 yt3h x1 x6 h Kn Kr Kn
def yiih (x1:Value) (h:H) (Kn:K0) (Kr:K1):Prop :=
 y5fc x1 (.int .i64 0) h Kn Kr
def ymcg (h:H) (Kn Kr:K1):Prop :=
 Kr (.bool true) h
def y56t (x1:Value) (h:H) (Kn Kr:K1):Prop :=
 yiih x1 h (fun h=>ymcg h Kn Kr) Kr
def y7gc (x1:Value) (h:H) (Kn Kr:K1):Prop :=
 y198 x1 h (fun y1 h=>y56t y1 h Kn Kr) Kr
def y1gy (x0:Value) (h:H) (Kn Kr:K1):Prop :=
 boxV x0=true∧u_new (Value.cells x0).toList ysrv .exact h fun b1 h=>u_bf false 1 1 (.pointer (some ⟨b1,0,none⟩)) h fun v9=>ywmm v9 fun v10=>u_bin PG .gtr T_int v10 (.int .i64 32) fun v11=>ydv6 v11 false (fun k8=>u_bf false 1 2 (.pointer (some ⟨b1,0,none⟩)) h fun v14=>ywmm v14 fun v15=>u_bin PG .gtr T_int v15 (.int .i64 32) fun v16=>k8 v16 h) (fun v16 h=>y9rg v11 (.bool true) v16 fun v17=>u_if v17 (Kr (.bool false) h) (y7gc (.pointer (some ⟨b1,0,none⟩)) h Kn Kr)) h
theorem ym42 {Kn Kr:K1} {t:T} {h:H} (H0:y7gc (t 1) h Kn Kr):Wp PG 128 (rest 2 (ygjk Tryz.f146.body)) (mkQ (q1 Kn 2) (q1 Kr 2) ke0) t h :=
 (sqE (q1 (fun y1 h=>y56t y1 h Kn Kr) 1) (toE E5_ok 1 H0 fun t h (H:yqes (t 1) (t 3) h (fun y1 h=>y56t y1 h Kn Kr) Kr)=>(bkE 0 (lpE (fun t=>(t 1,t 3)) H fun t h K H=>(wpE E5_ok H)))) fun t h H=>(sqE (q0 (fun h=>ymcg h Kn Kr)) (toE E5_ok 1 H fun t h (H:y5fc (t 1) (t 6) h (fun h=>ymcg h Kn Kr) Kr)=>(bkE 3 (lpE (fun t=>(t 1,t 6)) H fun t h K H=>(wpE E5_ok H)))) fun t h H=>(wpE E5_ok H)))
theorem y6tx {Kn Kr:K1} {t:T} {h:H} (H0:y1gy (t 0) h Kn Kr):Wp PG 128 (ygjk Tryz.f146.body) (mkQ (q1 Kn 2) (q1 Kr 2) ke0) t h :=
 (toE E5_ok 2 H0 fun t h (H:y7gc (t 1) h Kn Kr)=>(ym42 H))
def y5ue (x0:Value) (h:H) (Q:K1):Prop:=y1gy x0 h Q Q
theorem yxso (x0:Value) (h:H) (Q:K1) (H0:y5ue x0 h Q):AM.Spec PG ywke [x0] h Q :=
 spH mixed Tryz.func146 [2] (y6tx H0)
def yzcq (x1 x3:Value) (h:H) (Kn:K2) (Kr Ke0:K1):Prop :=
 u_bf false 1 0 x1 h fun v44=>ywmm v44 fun v45=>u_bin PG .lss T_int x3 v45 fun v46=>u_if v46 (u_bf false 1 0 x1 h fun v50=>u_ix false 1 none v50 x3 h fun v53=>y5hj v53 fun v54=>u_bin PG .gtr T_int v54 (.int .i64 200) fun v55=>ydv6 v55 false (fun k13=>u_bf false 1 0 x1 h fun v58=>u_ix false 1 none v58 x3 h fun v61=>yjdf PG yz8b [v61] h fun v62 h=>k13 v62 h) (fun v62 h=>y9rg v55 (.bool true) v62 fun v63=>u_if v63 (Kr (.bool false) h) (u_bin PG .add T_int x3 (.int .i64 1) fun v48=>Kn x1 v48 h)) h) (Ke0 x1 h)
def yecb (x1 x3:Value) (h:H) (Kn Kr Ke0:K1):Prop :=
 sloop (S:=Value×Value) (fun s h K=>yzcq s.1 s.2 h (fun y1 y3 h=>K (y1,y3) h) Kr Ke0) (x1,x3) h
def yj7y (x1 x3:Value) (h:H) (Kn Kr:K1):Prop :=
 yecb x1 x3 h Kn Kr Kn
def yasy (x1:Value) (h:H) (Kn Kr:K1):Prop :=
 yj7y x1 (.int .i64 0) h Kn Kr
def y5l6 (x1 x4:Value) (h:H) (Kn:K2) (Kr Ke2:K1):Prop :=
 u_bf false 1 2 x1 h fun v66=>ywmm v66 fun v67=>u_bin PG .lss T_int x4 v67 fun v68=>u_if v68 (u_bf false 1 2 x1 h fun v72=>u_ix false 1 none v72 x4 h fun v75=>u_bin PG .lss T_int v75 (.int .i64 0) fun v76=>ydv6 v76 false (fun k12=>u_bf false 1 2 x1 h fun v79=>u_ix false 1 none v79 x4 h fun v82=>u_bin PG .gtr T_int v82 (.int .i64 4096) fun v83=>k12 v83 h) (fun v83 h=>y9rg v76 (.bool true) v83 fun v84=>u_if v84 (Kr (.bool false) h) (u_bin PG .add T_int x4 (.int .i64 1) fun v70=>Kn x1 v70 h)) h) (Ke2 x1 h)
def y3g7 (x1 x4:Value) (h:H) (Kn Kr Ke2:K1):Prop :=
 sloop (S:=Value×Value) (fun s h K=>y5l6 s.1 s.2 h (fun y1 y4 h=>K (y1,y4) h) Kr Ke2) (x1,x4) h
def y67r (x1 x4:Value) (h:H) (Kn Kr:K1):Prop :=
 y3g7 x1 x4 h Kn Kr Kn
def yctv (x1:Value) (h:H) (Kn Kr:K1):Prop :=
 y67r x1 (.int .i64 0) h Kn Kr
def yjrz (x1 x5 x6 x7:Value) (h:H) (Kn:K5) (Kr:K1) (Ke7:K4) (Ke6 Ke5:K2) (Ke4:K0):Prop :=
 u_bf false 1 5 x1 h fun v124=>u_ixf false 1 0 none 2 v124 x7 h fun v128=>u_bf false 1 0 x6 h fun v130=>u_bin PG .eql yomn v128 v130 fun v131=>Kn x1 x5 x6 x7 v131 h
def yyy9 (x1 x5 x6 x7 x131:Value) (h:H) (Kn:K4) (Kr:K1) (Ke7:K4) (Ke6 Ke5:K2) (Ke4:K0):Prop :=
 u_if x131 (Kr (.bool false) h) (Kn x1 x5 x6 x7 h)
def y1zp (x1 x5 x6 x7:Value) (h:H) (Kn:K4) (Kr:K1) (Ke7:K4) (Ke6 Ke5:K2) (Ke4:K0):Prop :=
 yjrz x1 x5 x6 x7 h (fun y1 y5 y6 y7 y131 h=>yyy9 y1 y5 y6 y7 y131 h Kn Kr Ke7 Ke6 Ke5 Ke4) Kr Ke7 Ke6 Ke5 Ke4
def y2qe (x1 x5 x6 x7:Value) (h:H) (Kn:K4) (Kr:K1) (Ke6 Ke5:K2) (Ke4:K0):Prop :=
 y1zp x1 x5 x6 x7 h Kn Kr Kn Ke6 Ke5 Ke4
def ynh8 (x1 x5 x6 x7:Value) (h:H) (Kn:K4) (Kr:K1) (Ke6 Ke5:K2) (Ke4:K0):Prop :=
 u_bin PG .add T_int x7 (.int .i64 1) fun v122=>Kn x1 x5 x6 v122 h
def yk3f (x1 x5 x6 x7:Value) (h:H) (Kn:K4) (Kr:K1) (Ke6 Ke5:K2) (Ke4:K0):Prop :=
 y2qe x1 x5 x6 x7 h (fun y1 y5 y6 y7 h=>ynh8 y1 y5 y6 y7 h Kn Kr Ke6 Ke5 Ke4) Kr Ke6 Ke5 Ke4
def ygbo (x1 x5 x6 x7:Value) (h:H) (Kn:K4) (Kr:K1) (Ke6 Ke5:K2) (Ke4:K0):Prop :=
 u_bin PG .lss T_int x7 x5 fun v120=>u_if v120 (yk3f x1 x5 x6 x7 h Kn Kr Ke6 Ke5 Ke4) (Ke6 x1 x5 h)
def yhsw (x1 x5 x6 x7:Value) (h:H) (Kn:K2) (Kr:K1) (Ke6 Ke5:K2) (Ke4:K0):Prop :=
 sloop (S:=Value×Value×Value×Value) (fun s h K=>ygbo s.1 s.2.1 s.2.2.1 s.2.2.2 h (fun y1 y5 y6 y7 h=>K (y1,y5,y6,y7) h) Kr Ke6 Ke5 Ke4) (x1,x5,x6,x7) h
def ysac (x1 x5 x6 x7:Value) (h:H) (Kn:K2) (Kr:K1) (Ke5:K2) (Ke4:K0):Prop :=
 yhsw x1 x5 x6 x7 h Kn Kr Kn Ke5 Ke4
def yg2v (x1 x5:Value) (h:H) (Kn:K2) (Kr:K1) (Ke5:K2) (Ke4:K0):Prop :=
 u_bf false 1 5 x1 h fun v93=>u_ix true 2 none v93 x5 h fun v96=>u_new [.string .empty,.slice none 0 0] ymzi .exact h fun b6 h=>ylel 2 (.pointer (some ⟨b6,0,none⟩)) v96 h fun h=>u_bf false 1 0 (.pointer (some ⟨b6,0,none⟩)) h fun v98=>y5hj v98 fun v99=>u_bin PG .lss T_int v99 (.int .i64 1) fun v100=>ydv6 v100 false (fun k8=>u_bf false 1 0 (.pointer (some ⟨b6,0,none⟩)) h fun v103=>y5hj v103 fun v104=>u_bin PG .gtr T_int v104 (.int .i64 40) fun v105=>k8 v105 h) (fun v105 h=>y9rg v100 (.bool true) v105 fun v106=>ydv6 v106 false (fun k13=>u_bf false 1 0 (.pointer (some ⟨b6,0,none⟩)) h fun v109=>yjdf PG yz8b [v109] h fun v110 h=>k13 v110 h) (fun v110 h=>y9rg v106 (.bool true) v110 fun v111=>ydv6 v111 false (fun k19=>u_bf false 1 1 (.pointer (some ⟨b6,0,none⟩)) h fun v114=>ywmm v114 fun v115=>u_bin PG .gtr T_int v115 (.int .i64 4096) fun v116=>k19 v116 h) (fun v116 h=>y9rg v111 (.bool true) v116 fun v117=>u_if v117 (Kr (.bool false) h) (ysac x1 x5 (.pointer (some ⟨b6,0,none⟩)) (.int .i64 0) h Kn Kr Ke5 Ke4)) h) h) h
def yivt (x1 x5:Value) (h:H) (Kn:K2) (Kr:K1) (Ke4:K0):Prop :=
 yg2v x1 x5 h Kn Kr Kn Ke4
def yb78 (x1 x5:Value) (h:H) (Kn:K2) (Kr:K1) (Ke4:K0):Prop :=
 u_bin PG .add T_int x5 (.int .i64 1) fun v91=>Kn x1 v91 h
def ydd4 (x1 x5:Value) (h:H) (Kn:K2) (Kr:K1) (Ke4:K0):Prop :=
 yivt x1 x5 h (fun y1 y5 h=>yb78 y1 y5 h Kn Kr Ke4) Kr Ke4
def y0rw (x1 x5:Value) (h:H) (Kn:K2) (Kr:K1) (Ke4:K0):Prop :=
 u_bf false 1 5 x1 h fun v87=>ywmm v87 fun v88=>u_bin PG .lss T_int x5 v88 fun v89=>u_if v89 (ydd4 x1 x5 h Kn Kr Ke4) (Ke4 h)
def y38c (x1 x5:Value) (h:H) (Kn:K0) (Kr:K1) (Ke4:K0):Prop :=
 sloop (S:=Value×Value) (fun s h K=>y0rw s.1 s.2 h (fun y1 y5 h=>K (y1,y5) h) Kr Ke4) (x1,x5) h
def yq1z (x1 x5:Value) (h:H) (Kn:K0) (Kr:K1):Prop :=
 y38c x1 x5 h Kn Kr Kn
def ym1c (x1:Value) (h:H) (Kn:K0) (Kr:K1):Prop :=
 yq1z x1 (.int .i64 0) h Kn Kr
def yt7z (h:H) (Kn Kr:K1):Prop :=
 Kr (.bool true) h
def y1zn (x1:Value) (h:H) (Kn Kr:K1):Prop :=
 ym1c x1 h (fun h=>yt7z h Kn Kr) Kr
def yrvm (x1:Value) (h:H) (Kn Kr:K1):Prop :=
 yctv x1 h (fun y1 h=>y1zn y1 h Kn Kr) Kr
def ykqk (x1:Value) (h:H) (Kn Kr:K1):Prop :=
 yasy x1 h (fun y1 h=>yrvm y1 h Kn Kr) Kr
def yukp (x0:Value) (h:H) (Kn Kr:K1):Prop :=
 boxV x0=true∧u_new (Value.cells x0).toList y5c0 .exact h fun b1 h=>u_bf false 1 0 (.pointer (some ⟨b1,0,none⟩)) h fun v9=>ywmm v9 fun v10=>u_bin PG .gtr T_int v10 (.int .i64 16) fun v11=>ydv6 v11 false (fun k8=>u_bf false 1 1 (.pointer (some ⟨b1,0,none⟩)) h fun v14=>ywmm v14 fun v15=>u_bin PG .gtr T_int v15 (.int .i64 4096) fun v16=>k8 v16 h) (fun v16 h=>y9rg v11 (.bool true) v16 fun v17=>ydv6 v17 false (fun k14=>u_bf false 1 2 (.pointer (some ⟨b1,0,none⟩)) h fun v20=>ywmm v20 fun v21=>u_bin PG .gtr T_int v21 (.int .i64 64) fun v22=>k14 v22 h) (fun v22 h=>y9rg v17 (.bool true) v22 fun v23=>ydv6 v23 false (fun k20=>u_bf false 1 3 (.pointer (some ⟨b1,0,none⟩)) h fun v26=>ywmm v26 fun v27=>u_bin PG .gtr T_int v27 (.int .i64 4096) fun v28=>k20 v28 h) (fun v28 h=>y9rg v23 (.bool true) v28 fun v29=>ydv6 v29 false (fun k26=>u_bf false 1 4 (.pointer (some ⟨b1,0,none⟩)) h fun v32=>ywmm v32 fun v33=>u_bin PG .gtr T_int v33 (.int .i64 64) fun v34=>k26 v34 h) (fun v34 h=>y9rg v29 (.bool true) v34 fun v35=>ydv6 v35 false (fun k32=>u_bf false 1 5 (.pointer (some ⟨b1,0,none⟩)) h fun v38=>ywmm v38 fun v39=>u_bin PG .gtr T_int v39 (.int .i64 8) fun v40=>k32 v40 h) (fun v40 h=>y9rg v35 (.bool true) v40 fun v41=>u_if v41 (Kr (.bool false) h) (ykqk (.pointer (some ⟨b1,0,none⟩)) h Kn Kr)) h) h) h) h) h
theorem yv33 {Kn:K4} {Kr:K1} {Ke6 Ke5:K2} {Ke4:K0} {t:T} {h:H} (H0:y2qe (t 1) (t 5) (t 6) (t 7) h Kn Kr Ke6 Ke5 Ke4):Wp PG 132 (seqL (rest 1 (lopC (blkC (rest 3 (blkC (seqL (rest 1 (lopC (blkC (rest 1 (seqL (seqR (seqR (rest 2 (ygjk Tryz.f147.body)))))))))))))))) (mkQ (q4 Kn 1 5 6 7) (q1 Kr 2) (keAdd 6 (q2 Ke6 1 5) (keAdd 5 (q2 Ke5 1 5) (keAdd 4 (q0 Ke4) ke0)))) t h :=
 (bkE 7 (sqE (q5 (fun y1 y5 y6 y7 y131 h=>yyy9 y1 y5 y6 y7 y131 h Kn Kr Kn Ke6 Ke5 Ke4) 1 5 6 7 131) (drE E5_ok [0,1,2,3,4,5,6,7,8] H0) fun t h H=>(wpE E5_ok H)))
theorem yrey {Kn:K2} {Kr:K1} {Ke4:K0} {t:T} {h:H} (H0:yivt (t 1) (t 5) h Kn Kr Ke4):Wp PG 132 (seqL (rest 1 (lopC (blkC (rest 1 (seqL (seqR (seqR (rest 2 (ygjk Tryz.f147.body)))))))))) (mkQ (q2 Kn 1 5) (q1 Kr 2) (keAdd 4 (q0 Ke4) ke0)) t h :=
 (bkE 5 (toE E5_ok 3 H0 fun t h (H:ysac (t 1) (t 5) (t 6) (t 7) h Kn Kr Kn Ke4)=>(bkE 6 (lpE (fun t=>(t 1,t 5,t 6,t 7)) H fun t h K H=>(toE E5_ok 1 H fun t h (H:yk3f (t 1) (t 5) (t 6) (t 7) h (fun y1 y5 y6 y7 h=>K (y1,y5,y6,y7) h) Kr Kn Kn Ke4)=>(sqE _ (yv33 H) fun t h H=>(wpE E5_ok H)))))))
theorem ymgt {Kn Kr:K1} {t:T} {h:H} (H0:yrvm (t 1) h Kn Kr):Wp PG 132 (seqR (rest 2 (ygjk Tryz.f147.body))) (mkQ (q1 Kn 2) (q1 Kr 2) ke0) t h :=
 (sqE (q1 (fun y1 h=>y1zn y1 h Kn Kr) 1) (toE E5_ok 1 H0 fun t h (H:y67r (t 1) (t 4) h (fun y1 h=>y1zn y1 h Kn Kr) Kr)=>(bkE 2 (lpE (fun t=>(t 1,t 4)) H fun t h K H=>(wpE E5_ok H)))) fun t h H=>(sqE (q0 (fun h=>yt7z h Kn Kr)) (toE E5_ok 1 H fun t h (H:yq1z (t 1) (t 5) h (fun h=>yt7z h Kn Kr) Kr)=>(bkE 4 (lpE (fun t=>(t 1,t 5)) H fun t h K H=>(toE E5_ok 1 H fun t h (H:ydd4 (t 1) (t 5) h (fun y1 y5 h=>K (y1,y5) h) Kr (fun h=>yt7z h Kn Kr))=>(sqE _ (yrey H) fun t h H=>(wpE E5_ok H)))))) fun t h H=>(wpE E5_ok H)))
theorem yw6y {Kn Kr:K1} {t:T} {h:H} (H0:yukp (t 0) h Kn Kr):Wp PG 132 (ygjk Tryz.f147.body) (mkQ (q1 Kn 2) (q1 Kr 2) ke0) t h :=
 (toE E5_ok 2 H0 fun t h (H:ykqk (t 1) h Kn Kr)=>(sqE (q1 (fun y1 h=>yrvm y1 h Kn Kr) 1) (toE E5_ok 1 H fun t h (H:yj7y (t 1) (t 3) h (fun y1 h=>yrvm y1 h Kn Kr) Kr)=>(bkE 0 (lpE (fun t=>(t 1,t 3)) H fun t h K H=>(wpE E5_ok H)))) fun t h H=>(ymgt H)))
def ykiw (x0:Value) (h:H) (Q:K1):Prop:=yukp x0 h Q Q
theorem yrlf (x0:Value) (h:H) (Q:K1) (H0:ykiw x0 h Q):AM.Spec PG yak4 [x0] h Q :=
 spH mixed Tryz.func147 [2] (yw6y H0)
def ylli (x0:Value) (h:H) (Kn Kr:K1):Prop :=
 boxV x0=true∧u_new (Value.cells x0).toList y5c0 .exact h fun b1 h=>ybqh true 6 (.pointer (some ⟨b1,0,none⟩)) h fun v3=>yjdf PG yak4 [v3] h fun v4 h=>u_un PG .not v4 fun v5=>u_if v5 (ysnr PG y5c0 [] fun v6=>ylel 6 (.pointer (some ⟨b1,0,none⟩)) v6 h fun h=>ybqh true 6 (.pointer (some ⟨b1,0,none⟩)) h fun v7=>ysnr PG yxsr [(0,v7)] fun v8=>boxV v8=true∧u_new (Value.cells v8).toList yxsr .exact h fun b9 h=>Kr (.pointer (some ⟨b9,0,none⟩)) h) (ybqh true 6 (.pointer (some ⟨b1,0,none⟩)) h fun v7=>ysnr PG yxsr [(0,v7)] fun v8=>boxV v8=true∧u_new (Value.cells v8).toList yxsr .exact h fun b9 h=>Kr (.pointer (some ⟨b9,0,none⟩)) h)
def y8a3 (x0:Value) (h:H) (Q:K1):Prop:=ylli x0 h Q Q
theorem y6h7 (x0:Value) (h:H) (Q:K1) (H0:y8a3 x0 h Q):AM.Spec PG ygvy [x0] h Q :=
 spE mixed E5_ok Tryz.func218 [2] H0
def y0it (x0:Value) (h:H) (Kn Kr:K1):Prop :=
 boxV x0=true∧u_new (Value.cells x0).toList y5c0 .exact h fun b1 h=>ybqh true 6 (.pointer (some ⟨b1,0,none⟩)) h fun v3=>yjdf PG ygvy [v3] h fun v4 h=>ysnr PG yukk [(0,(.int .i64 0)),(1,(.int .i64 (-1))),(2,(.int .i64 0))] fun v5=>ysnr PG yukk [(0,(.int .i64 1)),(1,(.int .i64 (-2))),(2,(.int .i64 0))] fun v6=>ysnr PG yukk [(0,(.int .i64 2)),(1,(.int .i64 (-2))),(2,(.int .i64 0))] fun v7=>ynqb PG yxrw 3 [(0,v5),(1,v6),(2,v7)] h fun v8 h=>ysnr PG ydrn [(0,v4),(1,v8)] fun v9=>boxV v9=true∧u_new (Value.cells v9).toList ydrn .exact h fun b10 h=>Kr (.pointer (some ⟨b10,0,none⟩)) h
def y6jv (x0:Value) (h:H) (Q:K1):Prop:=y0it x0 h Q Q
theorem yigq (x0:Value) (h:H) (Q:K1) (H0:y6jv x0 h Q):AM.Spec PG ybvf [x0] h Q :=
 spE mixed E5_ok Tryz.func148 [2] H0
def yvgt (x0 x1:Value) (h:H) (Kn Kr:K1):Prop :=
 ynqb PG y8f0 0 [] h fun v5 h=>yx4h yoj6 1 1 v5 x0 h fun v7 h=>y2x6 .u8 x1 fun v9=>u_bin PG .shr ycpa x1 (.int .u64 8) fun v11=>y2x6 .u8 v11 fun v12=>u_bin PG .shr ycpa x1 (.int .u64 16) fun v14=>y2x6 .u8 v14 fun v15=>u_bin PG .shr ycpa x1 (.int .u64 24) fun v17=>y2x6 .u8 v17 fun v18=>ynqb PG y8f0 4 [(0,v9),(1,v12),(2,v15),(3,v18)] h fun v19 h=>yx4h yoj6 1 1 v7 v19 h fun v20 h=>Kr v20 h
def y3hh (x0 x1:Value) (h:H) (Q:K1):Prop:=yvgt x0 x1 h Q Q
theorem y4po (x0 x1:Value) (h:H) (Q:K1) (H0:y3hh x0 x1 h Q):AM.Spec PG yfwh [x0,x1] h Q :=
 spE mixed E5_ok Tryz.func224 [4] H0
def y19o (x0 x6 x7 x8:Value) (h:H) (Kn Kr:K4) (Ke0:K3):Prop :=
 ywmm x0 fun v20=>u_bin PG .lss T_int x8 v20 fun v21=>u_if v21 (ydv6 x7 false (fun k6=>u_ix false 1 none x0 x8 h fun v29=>yjdf PG yz8b [v29] h fun v30 h=>k6 v30 h) (fun v30 h=>y9rg x7 (.bool true) v30 fun v31=>u_bin PG .leq T_int x6 (.int .i64 3000) fun v33=>u_if v33 (u_ix false 1 none x0 x8 h fun v38=>y5hj v38 fun v39=>u_bin PG .add T_int x6 v39 fun v40=>u_bin PG .add T_int v40 (.int .i64 1) fun v41=>u_bin PG .add T_int x8 (.int .i64 1) fun v23=>Kn x0 v41 v31 v23 h) (u_bin PG .add T_int x8 (.int .i64 1) fun v23=>Kn x0 x6 v31 v23 h)) h) (Ke0 x0 x6 x7 h)
def yfef (x0 x6 x7 x8:Value) (h:H) (Kn:K3) (Kr:K4) (Ke0:K3):Prop :=
 sloop (S:=Value×Value×Value×Value) (fun s h K=>y19o s.1 s.2.1 s.2.2.1 s.2.2.2 h (fun y0 y6 y7 y8 h=>K (y0,y6,y7,y8) h) Kr Ke0) (x0,x6,x7,x8) h
def ywwt (x0 x6 x7 x8:Value) (h:H) (Kn:K3) (Kr:K4):Prop :=
 yfef x0 x6 x7 x8 h Kn Kr Kn
def yq1v (x0 x6 x7:Value) (h:H) (Kn:K3) (Kr:K4):Prop :=
 ywwt x0 x6 x7 (.int .i64 0) h Kn Kr
def yqpe (x0 x9 x10 x11 x12 x13 x14:Value) (h:H) (Kn:K7) (Kr:K4) (Ke3:K7) (Ke2:K4):Prop :=
 y4a7 1 x9 (some x10) none none fun v85=>u_ix false 1 none x0 x14 h fun v89=>yyhb 1 v85 v89 h fun v90 h=>Kn x0 x9 x10 x11 x12 x13 x14 h
def ydtc (x0 x9 x10 x11 x12 x13 x14:Value) (h:H) (Kn:K7) (Kr:K4) (Ke3:K7) (Ke2:K4):Prop :=
 u_ix false 1 none x0 x14 h fun v95=>y5hj v95 fun v96=>u_bin PG .add T_int x10 v96 fun v97=>u_bin PG .add T_int v97 (.int .i64 1) fun v98=>Kn x0 x9 v98 x11 x12 x13 x14 h
def ya4n (x0 x9 x10 x11 x12 x13 x14:Value) (h:H) (Kn:K7) (Kr:K4) (Ke3:K7) (Ke2:K4):Prop :=
 yqpe x0 x9 x10 x11 x12 x13 x14 h (fun y0 y9 y10 y11 y12 y13 y14 h=>ydtc y0 y9 y10 y11 y12 y13 y14 h Kn Kr Ke3 Ke2) Kr Ke3 Ke2
def yu6s (x0 x9 x10 x11 x12 x13 x14:Value) (h:H) (Kn:K7) (Kr:K4) (Ke3:K7) (Ke2:K4):Prop :=
 u_bin PG .add T_int (.int .i64 2147475456) x10 fun v68=>y2x6 .u32 v68 fun v69=>u_ix false 1 none x0 x14 h fun v73=>y5hj v73 fun v74=>ysnr PG yogz [(0,v69),(1,v74)] fun v75=>ynqb PG yzw0 1 [(0,v75)] h fun v76 h=>yx4h yogz 2 16 x12 v76 h fun v77 h=>u_bin PG .add T_int (.int .i64 2147475456) x10 fun v80=>y2x6 .u32 v80 fun v81=>yjdf PG yfwh [x13,v81] h fun v82 h=>ya4n x0 x9 x10 x11 v77 v82 x14 h Kn Kr Ke3 Ke2
def yrpk (x0 x9 x10 x11 x12 x13 x14:Value) (h:H) (Kn:K7) (Kr Ke2:K4):Prop :=
 yu6s x0 x9 x10 x11 x12 x13 x14 h Kn Kr Kn Ke2
def ykbn (x0 x9 x10 x11 x12 x13 x14:Value) (h:H) (Kn:K7) (Kr Ke2:K4):Prop :=
 u_bin PG .add T_int x14 (.int .i64 1) fun v65=>Kn x0 x9 x10 x11 x12 x13 v65 h
def yh5u (x0 x9 x10 x11 x12 x13 x14:Value) (h:H) (Kn:K7) (Kr Ke2:K4):Prop :=
 yrpk x0 x9 x10 x11 x12 x13 x14 h (fun y0 y9 y10 y11 y12 y13 y14 h=>ykbn y0 y9 y10 y11 y12 y13 y14 h Kn Kr Ke2) Kr Ke2
def yd1i (x0 x9 x10 x11 x12 x13 x14:Value) (h:H) (Kn:K7) (Kr Ke2:K4):Prop :=
 ywmm x0 fun v62=>u_bin PG .lss T_int x14 v62 fun v63=>u_if v63 (yh5u x0 x9 x10 x11 x12 x13 x14 h Kn Kr Ke2) (Ke2 x9 x11 x12 x13 h)
def ytbe (x0 x9 x10 x11 x12 x13 x14:Value) (h:H) (Kn Kr Ke2:K4):Prop :=
 sloop (S:=Value×Value×Value×Value×Value×Value×Value) (fun s h K=>yd1i s.1 s.2.1 s.2.2.1 s.2.2.2.1 s.2.2.2.2.1 s.2.2.2.2.2.1 s.2.2.2.2.2.2 h (fun y0 y9 y10 y11 y12 y13 y14 h=>K (y0,y9,y10,y11,y12,y13,y14) h) Kr Ke2) (x0,x9,x10,x11,x12,x13,x14) h
def ybpq (x0 x9 x10 x11 x12 x13 x14:Value) (h:H) (Kn Kr:K4):Prop :=
 ytbe x0 x9 x10 x11 x12 x13 x14 h Kn Kr Kn
def yo7x (x0 x9 x10 x11 x12 x13:Value) (h:H) (Kn Kr:K4):Prop :=
 ybpq x0 x9 x10 x11 x12 x13 (.int .i64 0) h Kn Kr
def yvdo (x9 x11 x12 x13:Value) (h:H) (Kn Kr:K4):Prop :=
 y4a7 1 x9 (some x11) none none fun v101=>yyhb 1 v101 x13 h fun v103 h=>u_bin PG .add T_int (.int .i64 2147475456) x11 fun v106=>y2x6 .u32 v106 fun v107=>Kr x9 v107 x12 (.int .i64 0) h
def ylwr (x0 x9 x10 x11 x12 x13:Value) (h:H) (Kn Kr:K4):Prop :=
 yo7x x0 x9 x10 x11 x12 x13 h (fun y9 y11 y12 y13 h=>yvdo y9 y11 y12 y13 h Kn Kr) Kr
def ys2n (x0 x6 x7:Value) (h:H) (Kn Kr:K4):Prop :=
 u_if x7 (Kr (.slice none 0 0) (.int .u32 0) (.slice none 0 0) (.int .i64 1) h) (u_bin PG .gtr T_int x6 (.int .i64 3000) fun v44=>u_if v44 (Kr (.slice none 0 0) (.int .u32 0) (.slice none 0 0) (.int .i64 2) h) (y9kb [.int .u8 0] 1 1 5 (.int .i64 4096) (.int .i64 4096) h fun v45 h=>u_bin PG .sub T_int (.int .i64 4096) x6 fun v47=>ywmm x0 fun v50=>u_bin PG .add T_int v50 (.int .i64 3) fun v51=>u_bin PG .mul T_int (.int .i64 4) v51 fun v52=>u_bin PG .sub T_int v47 v52 fun v53=>u_bin PG .quo T_int v53 (.int .i64 16) fun v54=>u_bin PG .mul T_int v54 (.int .i64 16) fun v55=>ywmm x0 fun v57=>y2x6 .u32 v57 fun v58=>yjdf PG yfwh [(.slice none 0 0),v58] h fun v59 h=>ylwr x0 v45 v47 v55 (.slice none 0 0) v59 h Kn Kr))
def y0my (x0 x6 x7:Value) (h:H) (Kn Kr:K4):Prop :=
 yq1v x0 x6 x7 h (fun y0 y6 y7 h=>ys2n y0 y6 y7 h Kn Kr) Kr
def y6bz (x0:Value) (h:H) (Kn Kr:K4):Prop :=
 ywmm x0 fun v16=>u_bin PG .gtr T_int v16 (.int .i64 16) fun v17=>y0my x0 (.int .i64 0) v17 h Kn Kr
theorem yock {Kn:K7} {Kr Ke2:K4} {t:T} {h:H} (H0:yrpk (t 0) (t 9) (t 10) (t 11) (t 12) (t 13) (t 14) h Kn Kr Ke2):Wp PG 109 (seqL (rest 1 (lopC (blkC (rest 1 (seqL (rest 7 (seqR (rest 3 (ygjk Tryz.f151.body)))))))))) (mkQ (fun t h=>Kn (t 0) (t 9) (t 10) (t 11) (t 12) (t 13) (t 14) h) (q4 Kr 2 3 4 5) (keAdd 2 (q4 Ke2 9 11 12 13) ke0)) t h :=
 (bkE 3 (toE E5_ok 2 H0 fun t h (H:ya4n (t 0) (t 9) (t 10) (t 11) (t 12) (t 13) (t 14) h Kn Kr Kn Ke2)=>(sqE (fun t h=>(fun y0 y9 y10 y11 y12 y13 y14 h=>ydtc y0 y9 y10 y11 y12 y13 y14 h Kn Kr Kn Ke2) (t 0) (t 9) (t 10) (t 11) (t 12) (t 13) (t 14) h) (drE E5_ok [0,1,2,3,4,5,6,7] H) fun t h H=>(wpE E5_ok H))))
theorem yl1j {Kn:K7} {Kr Ke2:K4} {t:T} {h:H} (H0:yd1i (t 0) (t 9) (t 10) (t 11) (t 12) (t 13) (t 14) h Kn Kr Ke2):Wp PG 109 (lopC (blkC (rest 1 (seqL (rest 7 (seqR (rest 3 (ygjk Tryz.f151.body)))))))) (mkQ (fun t h=>Kn (t 0) (t 9) (t 10) (t 11) (t 12) (t 13) (t 14) h) (q4 Kr 2 3 4 5) (keAdd 2 (q4 Ke2 9 11 12 13) ke0)) t h :=
 (toE E5_ok 1 H0 fun t h (H:yh5u (t 0) (t 9) (t 10) (t 11) (t 12) (t 13) (t 14) h Kn Kr Ke2)=>(sqE _ (yock H) fun t h H=>(wpE E5_ok H)))
theorem yij2 {Kn Kr:K4} {t:T} {h:H} (H0:ys2n (t 0) (t 6) (t 7) h Kn Kr):Wp PG 109 (seqR (rest 3 (ygjk Tryz.f151.body))) (mkQ (q4 Kn 2 3 4 5) (q4 Kr 2 3 4 5) ke0) t h :=
 (toE E5_ok 7 H0 fun t h (H:ylwr (t 0) (t 9) (t 10) (t 11) (t 12) (t 13) h Kn Kr)=>(sqE (q4 (fun y9 y11 y12 y13 h=>yvdo y9 y11 y12 y13 h Kn Kr) 9 11 12 13) (toE E5_ok 1 H fun t h (H:ybpq (t 0) (t 9) (t 10) (t 11) (t 12) (t 13) (t 14) h (fun y9 y11 y12 y13 h=>yvdo y9 y11 y12 y13 h Kn Kr) Kr)=>(bkE 2 (lpE (fun t=>(t 0,t 9,t 10,t 11,t 12,t 13,t 14)) H fun t h K H=>(yl1j H)))) fun t h H=>(wpE E5_ok H)))
theorem yyjr {Kn Kr:K4} {t:T} {h:H} (H0:y6bz (t 0) h Kn Kr):Wp PG 109 (ygjk Tryz.f151.body) (mkQ (q4 Kn 2 3 4 5) (q4 Kr 2 3 4 5) ke0) t h :=
 (toE E5_ok 3 H0 fun t h (H:y0my (t 0) (t 6) (t 7) h Kn Kr)=>(sqE (q3 (fun y0 y6 y7 h=>ys2n y0 y6 y7 h Kn Kr) 0 6 7) (toE E5_ok 1 H fun t h (H:ywwt (t 0) (t 6) (t 7) (t 8) h (fun y0 y6 y7 h=>ys2n y0 y6 y7 h Kn Kr) Kr)=>(bkE 0 (lpE (fun t=>(t 0,t 6,t 7,t 8)) H fun t h K H=>(wpE E5_ok H)))) fun t h H=>(yij2 H)))
def yy9w (x0:Value) (h:H) (Q:K1):Prop:=y6bz x0 h (fun y2 y3 y4 y5 h=>bif [y2,y3,y4,y5].all boxV then Q (.tuple #[y2,y3,y4,y5]) h else False) (fun y2 y3 y4 y5 h=>bif [y2,y3,y4,y5].all boxV then Q (.tuple #[y2,y3,y4,y5]) h else False)
theorem y8kb (x0:Value) (h:H) (Q:K1) (H0:yy9w x0 h Q):AM.Spec PG yujl [x0] h Q :=
 spH mixed Tryz.func151 [2,3,4,5] (yyjr H0)
def yvra (x1 x2 x3 x4 x36:Value) (h:H) (Kn:K5) (Kr:K2) (Ke0:K3):Prop :=
 u_bf false 1 1 x1 h fun v11=>ywmm v11 fun v12=>u_bin PG .lss T_int x4 v12 fun v13=>u_if v13 (u_bf false 1 1 x1 h fun v17=>u_ix true 4 none v17 x4 h fun v20=>u_new [.int .u32 0,.int .u32 0,.int .i64 0,.slice none 0 0] ym0k .exact h fun b5 h=>ylel 4 (.pointer (some ⟨b5,0,none⟩)) v20 h fun h=>u_bf false 1 1 x3 h fun v22=>u_bf false 1 0 (.pointer (some ⟨b5,0,none⟩)) h fun v24=>u_bf false 1 1 (.pointer (some ⟨b5,0,none⟩)) h fun v26=>u_bf false 1 2 (.pointer (some ⟨b5,0,none⟩)) h fun v28=>u_bf false 1 3 (.pointer (some ⟨b5,0,none⟩)) h fun v30=>ysnr PG yhas [(0,v24),(1,v26),(2,v28),(3,v30)] fun v31=>ynqb PG y1cj 1 [(0,v31)] h fun v32 h=>yx4h yhas 4 40 v22 v32 h fun v33 h=>u_st 1 1 x3 v33 h fun h=>u_bin PG .add T_int x4 (.int .i64 1) fun v15=>Kn x1 x2 x3 v15 x36 h) (Ke0 x2 x3 x36 h)
def yis8 (x1 x2 x3 x4 x36:Value) (h:H) (Kn:K3) (Kr:K2) (Ke0:K3):Prop :=
 sloop (S:=Value×Value×Value×Value×Value) (fun s h K=>yvra s.1 s.2.1 s.2.2.1 s.2.2.2.1 s.2.2.2.2 h (fun y1 y2 y3 y4 y36 h=>K (y1,y2,y3,y4,y36) h) Kr Ke0) (x1,x2,x3,x4,x36) h
def yu1e (x1 x2 x3 x4 x36:Value) (h:H) (Kn:K3) (Kr:K2):Prop :=
 yis8 x1 x2 x3 x4 x36 h Kn Kr Kn
def yv9h (x1 x2 x3 x36:Value) (h:H) (Kn:K3) (Kr:K2):Prop :=
 yu1e x1 x2 x3 (.int .i64 0) x36 h Kn Kr
def ywxz (x2 x3 x36:Value) (h:H) (Kn Kr:K2):Prop :=
 ybqh true 2 x3 h fun v35=>ylel 2 x2 v35 h fun h=>Kr x2 x36 h
def y7bk (x1 x2 x3 x36:Value) (h:H) (Kn Kr:K2):Prop :=
 yv9h x1 x2 x3 x36 h (fun y2 y3 y36 h=>ywxz y2 y3 y36 h Kn Kr) Kr
def yw8r (x0 x36:Value) (h:H) (Kn Kr:K2):Prop :=
 boxV x0=true∧u_new (Value.cells x0).toList y33u .exact h fun b1 h=>u_new [.int .u32 0,.slice none 0 0] yr7r .exact h fun b2 h=>u_bf false 1 0 (.pointer (some ⟨b1,0,none⟩)) h fun v7=>ysnr PG yr7r [(0,v7)] fun v8=>u_new [.int .u32 0,.slice none 0 0] yr7r .exact h fun b3 h=>ylel 2 (.pointer (some ⟨b3,0,none⟩)) v8 h fun h=>y7bk (.pointer (some ⟨b1,0,none⟩)) (.pointer (some ⟨b2,0,none⟩)) (.pointer (some ⟨b3,0,none⟩)) x36 h Kn Kr
theorem ynz6 {Kn Kr:K2} {t:T} {h:H} (H0:yw8r (t 0) (t 36) h Kn Kr):Wp PG 36 (ygjk Tryz.f61.body) (mkQ (q2 Kn 2 36) (q2 Kr 2 36) ke0) t h :=
 (toE E5_ok 2 H0 fun t h (H:y7bk (t 1) (t 2) (t 3) (t 36) h Kn Kr)=>(sqE (q3 (fun y2 y3 y36 h=>ywxz y2 y3 y36 h Kn Kr) 2 3 36) (toE E5_ok 1 H fun t h (H:yu1e (t 1) (t 2) (t 3) (t 4) (t 36) h (fun y2 y3 y36 h=>ywxz y2 y3 y36 h Kn Kr) Kr)=>(bkE 0 (lpE (fun t=>(t 1,t 2,t 3,t 4,t 36)) H fun t h K H=>(wpE E5_ok H)))) fun t h H=>(wpE E5_ok H)))
def y4cu (x0:Value) (h:H) (Q:K1):Prop:=yw8r x0 undef h (fun y2 y36 h=>o_ret y36 h (fun h=>ybqh true 2 y2 h fun v=>Q v h)) (fun y2 y36 h=>o_ret y36 h (fun h=>ybqh true 2 y2 h fun v=>Q v h))
theorem y9dh (x0:Value) (h:H) (Q:K1) (H0:y4cu x0 h Q):AM.Spec PG yy5b [x0] h Q :=
 spC mixed Tryz.func61 2 110 true 2 (ynz6 H0)
def ygov (x1 x2 x3 x4 x68:Value) (h:H) (Kn:K5) (Kr:K2) (Ke0:K4):Prop :=
 u_bf false 1 1 x1 h fun v12=>ywmm v12 fun v13=>u_bin PG .lss T_int x4 v13 fun v14=>u_if v14 (u_bf false 1 1 x1 h fun v18=>u_ix true 4 none v18 x4 h fun v21=>u_new [.int .i64 0,.int .u32 0,.int .u32 0,.int .u8 0] yqxz .exact h fun b5 h=>ylel 4 (.pointer (some ⟨b5,0,none⟩)) v21 h fun h=>u_bf false 1 1 x3 h fun v23=>u_bf false 1 0 (.pointer (some ⟨b5,0,none⟩)) h fun v25=>u_bf false 1 1 (.pointer (some ⟨b5,0,none⟩)) h fun v27=>u_bf false 1 2 (.pointer (some ⟨b5,0,none⟩)) h fun v29=>u_bf false 1 3 (.pointer (some ⟨b5,0,none⟩)) h fun v31=>ysnr PG ybsk [(0,v25),(1,v27),(2,v29),(3,v31)] fun v32=>ynqb PG yoxq 1 [(0,v32)] h fun v33 h=>yx4h ybsk 4 24 v23 v33 h fun v34 h=>u_st 1 1 x3 v34 h fun h=>u_bin PG .add T_int x4 (.int .i64 1) fun v16=>Kn x1 x2 x3 v16 x68 h) (Ke0 x1 x2 x3 x68 h)
def yli5 (x1 x2 x3 x4 x68:Value) (h:H) (Kn:K4) (Kr:K2) (Ke0:K4):Prop :=
 sloop (S:=Value×Value×Value×Value×Value) (fun s h K=>ygov s.1 s.2.1 s.2.2.1 s.2.2.2.1 s.2.2.2.2 h (fun y1 y2 y3 y4 y68 h=>K (y1,y2,y3,y4,y68) h) Kr Ke0) (x1,x2,x3,x4,x68) h
def y9no (x1 x2 x3 x4 x68:Value) (h:H) (Kn:K4) (Kr:K2):Prop :=
 yli5 x1 x2 x3 x4 x68 h Kn Kr Kn
def yh5p (x1 x2 x3 x68:Value) (h:H) (Kn:K4) (Kr:K2):Prop :=
 y9no x1 x2 x3 (.int .i64 0) x68 h Kn Kr
def yk2m (x1 x2 x3 x6 x68:Value) (h:H) (Kn:K5) (Kr:K2) (Ke3:K5) (Ke2:K3):Prop :=
 u_bf false 1 2 x3 h fun v44=>u_bf false 1 2 x1 h fun v46=>u_ixf false 1 0 none 3 v46 x6 h fun v50=>u_bf false 1 2 x1 h fun v52=>u_ixf false 1 1 none 3 v52 x6 h fun v56=>u_bf false 1 2 x1 h fun v58=>u_ixf false 1 2 none 3 v58 x6 h fun v62=>ysnr PG ytfh [(0,v50),(1,v56),(2,v62)] fun v63=>ynqb PG y3uw 1 [(0,v63)] h fun v64 h=>yx4h ytfh 3 24 v44 v64 h fun v65 h=>u_st 1 2 x3 v65 h fun h=>Kn x1 x2 x3 x6 x68 h
def y1jb (x1 x2 x3 x6 x68:Value) (h:H) (Kn:K5) (Kr:K2) (Ke2:K3):Prop :=
 yk2m x1 x2 x3 x6 x68 h Kn Kr Kn Ke2
def y4sw (x1 x2 x3 x6 x68:Value) (h:H) (Kn:K5) (Kr:K2) (Ke2:K3):Prop :=
 u_bin PG .add T_int x6 (.int .i64 1) fun v42=>Kn x1 x2 x3 v42 x68 h
def yauf (x1 x2 x3 x6 x68:Value) (h:H) (Kn:K5) (Kr:K2) (Ke2:K3):Prop :=
 y1jb x1 x2 x3 x6 x68 h (fun y1 y2 y3 y6 y68 h=>y4sw y1 y2 y3 y6 y68 h Kn Kr Ke2) Kr Ke2
def yue3 (x1 x2 x3 x6 x68:Value) (h:H) (Kn:K5) (Kr:K2) (Ke2:K3):Prop :=
 u_bf false 1 2 x1 h fun v38=>ywmm v38 fun v39=>u_bin PG .lss T_int x6 v39 fun v40=>u_if v40 (yauf x1 x2 x3 x6 x68 h Kn Kr Ke2) (Ke2 x2 x3 x68 h)
def y2bp (x1 x2 x3 x6 x68:Value) (h:H) (Kn:K3) (Kr:K2) (Ke2:K3):Prop :=
 sloop (S:=Value×Value×Value×Value×Value) (fun s h K=>yue3 s.1 s.2.1 s.2.2.1 s.2.2.2.1 s.2.2.2.2 h (fun y1 y2 y3 y6 y68 h=>K (y1,y2,y3,y6,y68) h) Kr Ke2) (x1,x2,x3,x6,x68) h
def y8wh (x1 x2 x3 x6 x68:Value) (h:H) (Kn:K3) (Kr:K2):Prop :=
 y2bp x1 x2 x3 x6 x68 h Kn Kr Kn
def yl2o (x1 x2 x3 x68:Value) (h:H) (Kn:K3) (Kr:K2):Prop :=
 y8wh x1 x2 x3 (.int .i64 0) x68 h Kn Kr
def yzwa (x2 x3 x68:Value) (h:H) (Kn Kr:K2):Prop :=
 ybqh true 3 x3 h fun v67=>ylel 3 x2 v67 h fun h=>Kr x2 x68 h
def ys9f (x1 x2 x3 x68:Value) (h:H) (Kn Kr:K2):Prop :=
 yl2o x1 x2 x3 x68 h (fun y2 y3 y68 h=>yzwa y2 y3 y68 h Kn Kr) Kr
def y5b7 (x1 x2 x3 x68:Value) (h:H) (Kn Kr:K2):Prop :=
 yh5p x1 x2 x3 x68 h (fun y1 y2 y3 y68 h=>ys9f y1 y2 y3 y68 h Kn Kr) Kr
def ybnz (x0 x68:Value) (h:H) (Kn Kr:K2):Prop :=
 boxV x0=true∧u_new (Value.cells x0).toList y4pp .exact h fun b1 h=>u_new [.bool false,.slice none 0 0,.slice none 0 0] ysrv .exact h fun b2 h=>u_bf false 1 0 (.pointer (some ⟨b1,0,none⟩)) h fun v8=>ysnr PG ysrv [(0,v8)] fun v9=>u_new [.bool false,.slice none 0 0,.slice none 0 0] ysrv .exact h fun b3 h=>ylel 3 (.pointer (some ⟨b3,0,none⟩)) v9 h fun h=>y5b7 (.pointer (some ⟨b1,0,none⟩)) (.pointer (some ⟨b2,0,none⟩)) (.pointer (some ⟨b3,0,none⟩)) x68 h Kn Kr
theorem ypt1 {Kn:K5} {Kr:K2} {Ke2:K3} {t:T} {h:H} (H0:yue3 (t 1) (t 2) (t 3) (t 6) (t 68) h Kn Kr Ke2):Wp PG 68 (lopC (blkC (rest 1 (seqL (seqR (rest 2 (ygjk Tryz.f62.body))))))) (mkQ (q5 Kn 1 2 3 6 68) (q2 Kr 2 68) (keAdd 2 (q3 Ke2 2 3 68) ke0)) t h :=
 (toE E5_ok 1 H0 fun t h (H:yauf (t 1) (t 2) (t 3) (t 6) (t 68) h Kn Kr Ke2)=>(sqE (q5 (fun y1 y2 y3 y6 y68 h=>y4sw y1 y2 y3 y6 y68 h Kn Kr Ke2) 1 2 3 6 68) (bkE 3 (drE E5_ok [0,1,2,3,4,5,6,7,8,9,10,11,12,13,14,15,16,17,18,19,20,21,22,23,24] H)) fun t h H=>(wpE E5_ok H)))
theorem yesc {Kn Kr:K2} {t:T} {h:H} (H0:y5b7 (t 1) (t 2) (t 3) (t 68) h Kn Kr):Wp PG 68 (rest 2 (ygjk Tryz.f62.body)) (mkQ (q2 Kn 2 68) (q2 Kr 2 68) ke0) t h :=
 (sqE (q4 (fun y1 y2 y3 y68 h=>ys9f y1 y2 y3 y68 h Kn Kr) 1 2 3 68) (toE E5_ok 1 H0 fun t h (H:y9no (t 1) (t 2) (t 3) (t 4) (t 68) h (fun y1 y2 y3 y68 h=>ys9f y1 y2 y3 y68 h Kn Kr) Kr)=>(bkE 0 (lpE (fun t=>(t 1,t 2,t 3,t 4,t 68)) H fun t h K H=>(wpE E5_ok H)))) fun t h H=>(sqE (q3 (fun y2 y3 y68 h=>yzwa y2 y3 y68 h Kn Kr) 2 3 68) (toE E5_ok 1 H fun t h (H:y8wh (t 1) (t 2) (t 3) (t 6) (t 68) h (fun y2 y3 y68 h=>yzwa y2 y3 y68 h Kn Kr) Kr)=>(bkE 2 (lpE (fun t=>(t 1,t 2,t 3,t 6,t 68)) H fun t h K H=>(ypt1 H)))) fun t h H=>(wpE E5_ok H)))
theorem ybix {Kn Kr:K2} {t:T} {h:H} (H0:ybnz (t 0) (t 68) h Kn Kr):Wp PG 68 (ygjk Tryz.f62.body) (mkQ (q2 Kn 2 68) (q2 Kr 2 68) ke0) t h :=
 (toE E5_ok 2 H0 fun t h (H:y5b7 (t 1) (t 2) (t 3) (t 68) h Kn Kr)=>(yesc H))
def y23a (x0:Value) (h:H) (Q:K1):Prop:=ybnz x0 undef h (fun y2 y68 h=>o_ret y68 h (fun h=>ybqh true 3 y2 h fun v=>Q v h)) (fun y2 y68 h=>o_ret y68 h (fun h=>ybqh true 3 y2 h fun v=>Q v h))
theorem y0ck (x0:Value) (h:H) (Q:K1) (H0:y23a x0 h Q):AM.Spec PG ygpd [x0] h Q :=
 spC mixed Tryz.func62 2 78 true 3 (ybix H0)
def yi74 (x1 x2 x3 x4 x42:Value) (h:H) (Kn:K5) (Kr:K2) (Ke1:K5) (Ke0:K3):Prop :=
 u_bf false 1 5 x3 h fun v24=>u_bf false 1 5 x1 h fun v26=>u_ixf false 1 0 none 2 v26 x4 h fun v30=>u_bf false 1 5 x1 h fun v32=>u_ixf false 1 1 none 2 v32 x4 h fun v36=>ysnr PG ymzi [(0,v30),(1,v36)] fun v37=>ynqb PG y6pz 1 [(0,v37)] h fun v38 h=>yx4h ymzi 2 40 v24 v38 h fun v39 h=>u_st 1 5 x3 v39 h fun h=>Kn x1 x2 x3 x4 x42 h
def yiwx (x1 x2 x3 x4 x42:Value) (h:H) (Kn:K5) (Kr:K2) (Ke0:K3):Prop :=
 yi74 x1 x2 x3 x4 x42 h Kn Kr Kn Ke0
def yz29 (x1 x2 x3 x4 x42:Value) (h:H) (Kn:K5) (Kr:K2) (Ke0:K3):Prop :=
 u_bin PG .add T_int x4 (.int .i64 1) fun v22=>Kn x1 x2 x3 v22 x42 h
def yj5z (x1 x2 x3 x4 x42:Value) (h:H) (Kn:K5) (Kr:K2) (Ke0:K3):Prop :=
 yiwx x1 x2 x3 x4 x42 h (fun y1 y2 y3 y4 y42 h=>yz29 y1 y2 y3 y4 y42 h Kn Kr Ke0) Kr Ke0
def yakw (x1 x2 x3 x4 x42:Value) (h:H) (Kn:K5) (Kr:K2) (Ke0:K3):Prop :=
 u_bf false 1 5 x1 h fun v18=>ywmm v18 fun v19=>u_bin PG .lss T_int x4 v19 fun v20=>u_if v20 (yj5z x1 x2 x3 x4 x42 h Kn Kr Ke0) (Ke0 x2 x3 x42 h)
def yzlh (x1 x2 x3 x4 x42:Value) (h:H) (Kn:K3) (Kr:K2) (Ke0:K3):Prop :=
 sloop (S:=Value×Value×Value×Value×Value) (fun s h K=>yakw s.1 s.2.1 s.2.2.1 s.2.2.2.1 s.2.2.2.2 h (fun y1 y2 y3 y4 y42 h=>K (y1,y2,y3,y4,y42) h) Kr Ke0) (x1,x2,x3,x4,x42) h
def yilz (x1 x2 x3 x4 x42:Value) (h:H) (Kn:K3) (Kr:K2):Prop :=
 yzlh x1 x2 x3 x4 x42 h Kn Kr Kn
def ybu1 (x1 x2 x3 x42:Value) (h:H) (Kn:K3) (Kr:K2):Prop :=
 yilz x1 x2 x3 (.int .i64 0) x42 h Kn Kr
def ycg9 (x2 x3 x42:Value) (h:H) (Kn Kr:K2):Prop :=
 ybqh true 6 x3 h fun v41=>ylel 6 x2 v41 h fun h=>Kr x2 x42 h
def yplv (x1 x2 x3 x42:Value) (h:H) (Kn Kr:K2):Prop :=
 ybu1 x1 x2 x3 x42 h (fun y2 y3 y42 h=>ycg9 y2 y3 y42 h Kn Kr) Kr
def ypmy (x0 x42:Value) (h:H) (Kn Kr:K2):Prop :=
 boxV x0=true∧u_new (Value.cells x0).toList ylzr .exact h fun b1 h=>u_new [.slice none 0 0,.slice none 0 0,.slice none 0 0,.slice none 0 0,.slice none 0 0,.slice none 0 0] y5c0 .exact h fun b2 h=>u_bf false 1 0 (.pointer (some ⟨b1,0,none⟩)) h fun v6=>u_bf false 1 1 (.pointer (some ⟨b1,0,none⟩)) h fun v8=>u_bf false 1 2 (.pointer (some ⟨b1,0,none⟩)) h fun v10=>u_bf false 1 3 (.pointer (some ⟨b1,0,none⟩)) h fun v12=>u_bf false 1 4 (.pointer (some ⟨b1,0,none⟩)) h fun v14=>ysnr PG y5c0 [(0,v6),(1,v8),(2,v10),(3,v12),(4,v14)] fun v15=>u_new [.slice none 0 0,.slice none 0 0,.slice none 0 0,.slice none 0 0,.slice none 0 0,.slice none 0 0] y5c0 .exact h fun b3 h=>ylel 6 (.pointer (some ⟨b3,0,none⟩)) v15 h fun h=>yplv (.pointer (some ⟨b1,0,none⟩)) (.pointer (some ⟨b2,0,none⟩)) (.pointer (some ⟨b3,0,none⟩)) x42 h Kn Kr
theorem y0ud {Kn:K5} {Kr:K2} {Ke0:K3} {t:T} {h:H} (H0:yakw (t 1) (t 2) (t 3) (t 4) (t 42) h Kn Kr Ke0):Wp PG 42 (lopC (blkC (rest 1 (seqL (rest 2 (ygjk Tryz.f63.body)))))) (mkQ (q5 Kn 1 2 3 4 42) (q2 Kr 2 42) (keAdd 0 (q3 Ke0 2 3 42) ke0)) t h :=
 (toE E5_ok 1 H0 fun t h (H:yj5z (t 1) (t 2) (t 3) (t 4) (t 42) h Kn Kr Ke0)=>(sqE (q5 (fun y1 y2 y3 y4 y42 h=>yz29 y1 y2 y3 y4 y42 h Kn Kr Ke0) 1 2 3 4 42) (bkE 1 (drE E5_ok [0,1,2,3,4,5,6,7,8,9,10,11,12,13,14,15,16,17,18] H)) fun t h H=>(wpE E5_ok H)))
theorem y4sg {Kn Kr:K2} {t:T} {h:H} (H0:ypmy (t 0) (t 42) h Kn Kr):Wp PG 42 (ygjk Tryz.f63.body) (mkQ (q2 Kn 2 42) (q2 Kr 2 42) ke0) t h :=
 (toE E5_ok 2 H0 fun t h (H:yplv (t 1) (t 2) (t 3) (t 42) h Kn Kr)=>(sqE (q3 (fun y2 y3 y42 h=>ycg9 y2 y3 y42 h Kn Kr) 2 3 42) (toE E5_ok 1 H fun t h (H:yilz (t 1) (t 2) (t 3) (t 4) (t 42) h (fun y2 y3 y42 h=>ycg9 y2 y3 y42 h Kn Kr) Kr)=>(bkE 0 (lpE (fun t=>(t 1,t 2,t 3,t 4,t 42)) H fun t h K H=>(y0ud H)))) fun t h H=>(wpE E5_ok H)))
def yi1f (x0:Value) (h:H) (Q:K1):Prop:=ypmy x0 undef h (fun y2 y42 h=>o_ret y42 h (fun h=>ybqh true 6 y2 h fun v=>Q v h)) (fun y2 y42 h=>o_ret y42 h (fun h=>ybqh true 6 y2 h fun v=>Q v h))
theorem y1ql (x0:Value) (h:H) (Q:K1) (H0:yi1f x0 h Q):AM.Spec PG ycj8 [x0] h Q :=
 spC mixed Tryz.func63 2 115 true 6 (y4sg H0)
end Go.Proofs.YtnckimioabkheaaGreat
set_option linter.unusedVariables false
set_option maxRecDepth 100000
namespace Go.Proofs.YtnckimioabkheaaGreat
open Go.Proofs.YtnckimioabkheaaGreat.AM
@[simp] theorem ybj8 {a1:Option Addr} {a2:Option Nat} {a3:Option Nat} {K:Value→Prop} {u:Dm K}:ysnr PG yxbe [(1,.pointer a1),(2,.map a2),(3,.map a3)] K u=K (.agg #[.slice none 0 0,.pointer a1,.map a2,.map a3]):=by kernel_rfl
@[simp] theorem y7mj {K:Value→Prop} {u:Dm K}:ysnr PG y1og [] K u=K (.agg #[.slice none 0 0,.slice none 0 0,.slice none 0 0,.int .i64 0,.int .i64 0,.int .i64 0]):=by kernel_rfl
@[simp] theorem y10h {a0a:Option Addr} {a0n:Nat} {a0c:Nat} {a1a:Option Addr} {a1n:Nat} {a1c:Nat} {a2a:Option Addr} {a2n:Nat} {a2c:Nat} {K:Value→Prop} {u:Dm K}:ysnr PG y1og [(0,.slice a0a a0n a0c),(1,.slice a1a a1n a1c),(2,.slice a2a a2n a2c)] K u=K (.agg #[.slice a0a a0n a0c,.slice a1a a1n a1c,.slice a2a a2n a2c,.int .i64 0,.int .i64 0,.int .i64 0]):=by kernel_rfl
@[simp] theorem yico {a0a:Option Addr} {a0n:Nat} {a0c:Nat} {K:Value→Prop} {u:Dm K}:ysnr PG ydlg [(0,.slice a0a a0n a0c)] K u=K (.agg #[.slice a0a a0n a0c,.int .i64 0,.bool false]):=by kernel_rfl
@[simp] theorem ycft {a2:Bool} {K:Value→Prop} {u:Dm K}:ysnr PG ydlg [(2,.bool a2)] K u=K (.agg #[.slice none 0 0,.int .i64 0,.bool a2]):=by kernel_rfl
@[simp] theorem yb8q {a0:Int} {a1:Int} {K:Value→Prop} {u:Dm K}:ysnr PG yfwk [(0,.int .u32 a0),(1,.int .i64 a1)] K u=K (.agg #[.int .u32 a0,.int .i64 a1]):=by kernel_rfl
@[simp] theorem yeo4 {a5_0:Bool} {a5_1a:Option Addr} {a5_1n:Nat} {a5_1c:Nat} {a5_2a:Option Addr} {a5_2n:Nat} {a5_2c:Nat} {a4:Option Addr} {a6:Int} {a7:Int} {K:Value→Prop} {u:Dm K}:ysnr PG ynne [(5,.agg #[.bool a5_0,.slice a5_1a a5_1n a5_1c,.slice a5_2a a5_2n a5_2c]),(4,.pointer a4),(6,.int .u32 a6),(7,.int .u32 a7)] K u=K (.agg #[.pointer none,.pointer none,.int .u32 0,.int .u32 0,.int .u32 0,.int .u32 0,.int .u32 0,.int .u32 0,.int .u32 0,.int .u32 0,.int .u32 0,.int .u32 0,.int .u32 0,.int .u32 0,.int .u32 0,.int .u32 0,.int .u32 0,.int .u32 0,.int .u32 0,.int .u32 0,.int .u32 0,.int .u32 0,.int .u32 0,.int .u32 0,.int .u32 0,.int .u32 0,.int .u32 0,.int .u32 0,.int .u32 0,.int .u32 0,.int .u32 0,.int .u32 0,.int .u32 0,.int .u32 0,.int .u32 0,.int .i64 0,.int .u8 0,.int .u8 0,.int .u8 0,.int .u8 0,.int .u8 0,.int .u8 0,.int .u8 0,.int .u8 0,.int .u8 0,.int .u8 0,.int .u8 0,.int .u8 0,.int .u8 0,.int .u8 0,.int .u8 0,.int .u8 0,.int .u8 0,.int .u8 0,.int .u8 0,.int .u8 0,.int .u8 0,.int .u8 0,.int .u8 0,.int .u8 0,.int .u8 0,.int .u8 0,.int .u8 0,.int .u8 0,.int .u8 0,.int .u8 0,.int .u8 0,.int .u8 0,.int .u8 0,.int .u8 0,.int .u8 0,.int .u8 0,.int .u8 0,.int .u8 0,.int .u8 0,.int .u8 0,.int .u8 0,.int .u8 0,.int .u8 0,.int .u8 0,.int .u8 0,.int .u8 0,.int .u8 0,.int .u8 0,.int .u8 0,.int .u8 0,.int .u8 0,.int .u8 0,.int .u8 0,.int .u8 0,.int .u8 0,.int .u8 0,.int .u8 0,.int .u8 0,.int .u8 0,.int .u8 0,.int .u8 0,.int .u8 0,.int .u8 0,.int .u8 0,.int .u8 0,.int .u8 0,.int .u8 0,.int .u8 0,.int .u8 0,.int .u8 0,.int .u8 0,.int .u8 0,.int .u8 0,.int .u8 0,.int .u8 0,.int .u8 0,.int .u8 0,.int .u8 0,.int .u8 0,.int .u8 0,.int .u8 0,.int .u8 0,.int .u8 0,.int .u8 0,.int .u8 0,.int .u8 0,.int .u8 0,.int .u8 0,.int .u8 0,.int .u8 0,.int .u8 0,.int .u8 0,.int .u8 0,.int .u8 0,.int .u8 0,.int .u8 0,.int .u8 0,.int .u8 0,.int .u8 0,.int .u8 0,.int .u8 0,.int .u8 0,.int .u8 0,.int .u8 0,.int .u8 0,.int .u8 0,.int .u8 0,.int .u8 0,.int .u8 0,.int .u8 0,.int .u8 0,.int .u8 0,.int .u8 0,.int .u8 0,.int .u8 0,.int .u8 0,.int .u8 0,.int .u8 0,.int .u8 0,.int .u8 0,.int .u8 0,.int .u8 0,.int .u8 0,.int .u8 0,.int .u8 0,.int .u8 0,.int .u8 0,.int .u8 0,.pointer a4,.bool a5_0,.slice a5_1a a5_1n a5_1c,.slice a5_2a a5_2n a5_2c,.int .u32 a6,.int .u32 a7,.slice none 0 0]):=by kernel_rfl
@[simp] theorem y1vq {a0:ByteArray} {a1a:Option Addr} {a1n:Nat} {a1c:Nat} {K:Value→Prop} {u:Dm K}:ysnr PG yavq [(0,.string a0),(1,.slice a1a a1n a1c)] K u=K (.agg #[.string a0,.slice a1a a1n a1c]):=by kernel_rfl
@[simp] theorem ywaf {a0_0:Int} {a0_1:Int} {h:H} {K:K1} {u:Dm K}:ynqb PG yfwd 1 [(0,.agg #[.int .u32 a0_0,.int .i64 a0_1])] h K u=u_new [.int .u32 a0_0,.int .i64 a0_1] yfwk .exact h fun b h=>K (.slice (some ⟨b,0,none⟩) 1 1) h:=by kernel_rfl
@[simp] theorem y4xc {h:H} {K:K1} {u:Dm K}:ynqb PG yoi5 0 [] h K u=u_new [] ycpa .exact h fun b h=>K (.slice (some ⟨b,0,none⟩) 0 0) h:=by kernel_rfl
@[simp] theorem y81m {h:H} {K:K1} {u:Dm K}:ynqb PG y8f0 0 [] h K u=u_new [] yoj6 .exact h fun b h=>K (.slice (some ⟨b,0,none⟩) 0 0) h:=by kernel_rfl
@[simp] theorem yhnl {a0:Int} {h:H} {K:K1} {u:Dm K}:ynqb PG y8f0 1 [(0,.int .u8 a0)] h K u=u_new [.int .u8 a0] yoj6 .exact h fun b h=>K (.slice (some ⟨b,0,none⟩) 1 1) h:=by kernel_rfl
@[simp] theorem yvwc {a0:Int} {a1:Int} {a2:Int} {h:H} {K:K1} {u:Dm K}:ynqb PG y8f0 3 [(0,.int .u8 a0),(1,.int .u8 a1),(2,.int .u8 a2)] h K u=u_new [.int .u8 a0,.int .u8 a1,.int .u8 a2] yoj6 .exact h fun b h=>K (.slice (some ⟨b,0,none⟩) 3 3) h:=by kernel_rfl
@[simp] theorem yqbk {h:H} {K:K1} {u:Dm K}:ynqb PG y7as 0 [] h K u=u_new [] T_int .exact h fun b h=>K (.slice (some ⟨b,0,none⟩) 0 0) h:=by kernel_rfl
@[simp] theorem y63j {a0_0:ByteArray} {a0_1a:Option Addr} {a0_1n:Nat} {a0_1c:Nat} {h:H} {K:K1} {u:Dm K}:ynqb PG yiva 1 [(0,.agg #[.string a0_0,.slice a0_1a a0_1n a0_1c])] h K u=u_new [.string a0_0,.slice a0_1a a0_1n a0_1c] yavq .exact h fun b h=>K (.slice (some ⟨b,0,none⟩) 1 1) h:=by kernel_rfl
def ylzg (x1 x4:Value) (h:H) (Kn Kr:K2):Prop :=
 u_bf false 1 0 x1 h fun v15=>u_if v15 (ynqb PG y8f0 1 [(0,(.int .u8 1))] h fun v17 h=>yx4h yoj6 1 1 x4 v17 h fun v18 h=>Kn x1 v18 h) (ynqb PG y8f0 1 [(0,(.int .u8 0))] h fun v20 h=>yx4h yoj6 1 1 x4 v20 h fun v21 h=>Kn x1 v21 h)
def yqyz (x1 x4 x6 x30 x31 x32:Value) (h:H) (Kn:K5) (Kr:K2) (Ke1:K5) (Ke0:K2):Prop :=
 False
def ybg4 (x1 x4 x30 x31 x32:Value) (h:H) (Kn:K5) (Kr:K2) (Ke1:K5) (Ke0:K2):Prop :=
 u_ix true 4 none x30 x32 h fun v35=>u_new [.int .i64 0,.int .u32 0,.int .u32 0,.int .u8 0] yqxz .exact h fun b6 h=>ylel 4 (.pointer (some ⟨b6,0,none⟩)) v35 h fun h=>yqyz x1 x4 (.pointer (some ⟨b6,0,none⟩)) x30 x31 x32 h Kn Kr Ke1 Ke0
def y7v4 (x1 x4 x30 x31 x32:Value) (h:H) (Kn:K5) (Kr Ke0:K2):Prop :=
 ybg4 x1 x4 x30 x31 x32 h Kn Kr Kn Ke0
def ywdk (x1 x4 x30 x31 x32:Value) (h:H) (Kn:K5) (Kr Ke0:K2):Prop :=
 u_bin PG .add T_int x32 (.int .i64 1) fun v52=>Kn x1 x4 x30 x31 v52 h
def yqgh (x1 x4 x30 x31 x32:Value) (h:H) (Kn:K5) (Kr Ke0:K2):Prop :=
 y7v4 x1 x4 x30 x31 x32 h (fun y1 y4 y30 y31 y32 h=>ywdk y1 y4 y30 y31 y32 h Kn Kr Ke0) Kr Ke0
def ytw3 (x1 x4 x30 x31 x32:Value) (h:H) (Kn:K5) (Kr Ke0:K2):Prop :=
 u_bin PG .lss T_int x32 x31 fun v33=>u_if v33 (yqgh x1 x4 x30 x31 x32 h Kn Kr Ke0) (Ke0 x1 x4 h)
def yx32 (x1 x4 x30 x31 x32:Value) (h:H) (Kn Kr Ke0:K2):Prop :=
 sloop (S:=Value×Value×Value×Value×Value) (fun s h K=>ytw3 s.1 s.2.1 s.2.2.1 s.2.2.2.1 s.2.2.2.2 h (fun y1 y4 y30 y31 y32 h=>K (y1,y4,y30,y31,y32) h) Kr Ke0) (x1,x4,x30,x31,x32) h
def y63m (x1 x4 x30 x31 x32:Value) (h:H) (Kn Kr:K2):Prop :=
 yx32 x1 x4 x30 x31 x32 h Kn Kr Kn
def y6t1 (x1 x4:Value) (h:H) (Kn Kr:K2):Prop :=
 u_bf false 1 1 x1 h fun v30=>ywmm v30 fun v31=>y63m x1 x4 v30 v31 (.int .i64 0) h Kn Kr
def yv99 (x4 x61 x62 x63:Value) (h:H) (Kn:K4) (Kr:K2) (Ke2:K1):Prop :=
 u_bin PG .lss T_int x63 x62 fun v64=>u_if v64 (u_ix true 3 none x61 x63 h fun v66=>u_new [.int .i64 0,.int .i64 0,.int .u8 0] yti5 .exact h fun b8 h=>ylel 3 (.pointer (some ⟨b8,0,none⟩)) v66 h fun h=>u_bf false 1 0 (.pointer (some ⟨b8,0,none⟩)) h fun v69=>y2x6 .u8 v69 fun v70=>u_bf false 1 1 (.pointer (some ⟨b8,0,none⟩)) h fun v72=>y2x6 .u8 v72 fun v73=>u_bf false 1 2 (.pointer (some ⟨b8,0,none⟩)) h fun v75=>ynqb PG y8f0 3 [(0,v70),(1,v73),(2,v75)] h fun v76 h=>yx4h yoj6 1 1 x4 v76 h fun v77 h=>u_bin PG .add T_int x63 (.int .i64 1) fun v78=>Kn v77 x61 x62 v78 h) (Ke2 x4 h)
def yk8a (x4 x61 x62 x63:Value) (h:H) (Kn:K1) (Kr:K2) (Ke2:K1):Prop :=
 sloop (S:=Value×Value×Value×Value) (fun s h K=>yv99 s.1 s.2.1 s.2.2.1 s.2.2.2 h (fun y4 y61 y62 y63 h=>K (y4,y61,y62,y63) h) Kr Ke2) (x4,x61,x62,x63) h
def yzs2 (x4 x61 x62 x63:Value) (h:H) (Kn:K1) (Kr:K2):Prop :=
 yk8a x4 x61 x62 x63 h Kn Kr Kn
def yin7 (x1 x4:Value) (h:H) (Kn:K1) (Kr:K2):Prop :=
 u_bf false 1 2 x1 h fun v61=>ywmm v61 fun v62=>yzs2 x4 v61 v62 (.int .i64 0) h Kn Kr
def ytwq (x4:Value) (h:H) (Kn Kr:K2):Prop :=
 Kr x4 (.int .i64 0) h
def yahi (x1 x4:Value) (h:H) (Kn Kr:K2):Prop :=
 yin7 x1 x4 h (fun y4 h=>ytwq y4 h Kn Kr) Kr
def yybb (x1 x4:Value) (h:H) (Kn Kr:K2):Prop :=
 u_bf false 1 2 x1 h fun v55=>ywmm v55 fun v56=>y2x6 .u8 v56 fun v57=>ynqb PG y8f0 1 [(0,v57)] h fun v58 h=>yx4h yoj6 1 1 x4 v58 h fun v59 h=>yahi x1 v59 h Kn Kr
def y575 (x1 x4:Value) (h:H) (Kn Kr:K2):Prop :=
 y6t1 x1 x4 h (fun y1 y4 h=>yybb y1 y4 h Kn Kr) Kr
def yjfw (x1 x4:Value) (h:H) (Kn Kr:K2):Prop :=
 u_bf false 1 1 x1 h fun v24=>ywmm v24 fun v25=>y2x6 .u8 v25 fun v26=>ynqb PG y8f0 1 [(0,v26)] h fun v27 h=>yx4h yoj6 1 1 x4 v27 h fun v28 h=>y575 x1 v28 h Kn Kr
def y89z (x1 x4:Value) (h:H) (Kn Kr:K2):Prop :=
 ylzg x1 x4 h (fun y1 y4 h=>yjfw y1 y4 h Kn Kr) Kr
def yzcv (x0:Value) (h:H) (Kn Kr:K2):Prop :=
 boxV x0=true∧u_new (Value.cells x0).toList y4pp .exact h fun b1 h=>ybqh true 3 (.pointer (some ⟨b1,0,none⟩)) h fun v9=>yjdf PG ygvc [v9] h fun v10 h=>u_un PG .not v10 fun v11=>u_if v11 (Kr (.slice none 0 0) (.int .i64 1) h) (ynqb PG y8f0 3 [(0,(.int .u8 84)),(1,(.int .u8 80)),(2,(.int .u8 49))] h fun v12 h=>yplo v12 h fun v13=>y89z (.pointer (some ⟨b1,0,none⟩)) v13 h Kn Kr)
theorem yllo {Kn:K5} {Kr Ke0:K2} {t:T} {h:H} (H0:y7v4 (t 1) (t 4) (t 30) (t 31) (t 32) h Kn Kr Ke0):Wp PG 80 (seqL (rest 2 (lopC (blkC (rest 1 (seqL (rest 1 (seqR (rest 3 (ygjk Tryz.f209.body)))))))))) (mkQ (q5 Kn 1 4 30 31 32) (q2 Kr 2 3) (keAdd 0 (q2 Ke0 1 4) ke0)) t h :=
 (bkE 1 (toE E5_ok 1 H0 fun t h (H:yqyz (t 1) (t 4) (t 6) (t 30) (t 31) (t 32) h Kn Kr Kn Ke0)=>(False.elim H)))
theorem ynea {Kn Kr:K2} {t:T} {h:H} (H0:y575 (t 1) (t 4) h Kn Kr):Wp PG 80 (rest 1 (seqR (rest 3 (ygjk Tryz.f209.body)))) (mkQ (q2 Kn 2 3) (q2 Kr 2 3) ke0) t h :=
 (sqE (q2 (fun y1 y4 h=>yybb y1 y4 h Kn Kr) 1 4) (toE E5_ok 1 H0 fun t h (H:y63m (t 1) (t 4) (t 30) (t 31) (t 32) h (fun y1 y4 h=>yybb y1 y4 h Kn Kr) Kr)=>(bkE 0 (lpE (fun t=>(t 1,t 4,t 30,t 31,t 32)) H fun t h K H=>(toE E5_ok 2 H fun t h (H:yqgh (t 1) (t 4) (t 30) (t 31) (t 32) h (fun y1 y4 y30 y31 y32 h=>K (y1,y4,y30,y31,y32) h) Kr (fun y1 y4 h=>yybb y1 y4 h Kn Kr))=>(sqE _ (yllo H) fun t h H=>(wpE E5_ok H)))))) fun t h H=>(toE E5_ok 1 H fun t h (H:yahi (t 1) (t 4) h Kn Kr)=>(sqE (q1 (fun y4 h=>ytwq y4 h Kn Kr) 4) (toE E5_ok 1 H fun t h (H:yzs2 (t 4) (t 61) (t 62) (t 63) h (fun y4 h=>ytwq y4 h Kn Kr) Kr)=>(bkE 2 (lpE (fun t=>(t 4,t 61,t 62,t 63)) H fun t h K H=>(wpE E5_ok H)))) fun t h H=>(wpE E5_ok H))))
theorem ybqj {Kn Kr:K2} {t:T} {h:H} (H0:yzcv (t 0) h Kn Kr):Wp PG 80 (ygjk Tryz.f209.body) (mkQ (q2 Kn 2 3) (q2 Kr 2 3) ke0) t h :=
 (toE E5_ok 3 H0 fun t h (H:y89z (t 1) (t 4) h Kn Kr)=>(sqE (q2 (fun y1 y4 h=>yjfw y1 y4 h Kn Kr) 1 4) (wpE E5_ok H) fun t h H=>(toE E5_ok 1 H fun t h (H:y575 (t 1) (t 4) h Kn Kr)=>(ynea H))))
def yiif (x0:Value) (h:H) (Q:K1):Prop:=yzcv x0 h (fun y2 y3 h=>bif [y2,y3].all boxV then Q (.tuple #[y2,y3]) h else False) (fun y2 y3 h=>bif [y2,y3].all boxV then Q (.tuple #[y2,y3]) h else False)
theorem y1r0 (x0:Value) (h:H) (Q:K1) (H0:yiif x0 h Q):AM.Spec PG y8kn [x0] h Q :=
 spH mixed Tryz.func209 [2,3] (ybqj H0)
def yqfw (x0:Value) (h:H) (Kn Kr:K1):Prop :=
 u_bin PG .eql y8f0 x0 (.slice none 0 0) fun v4=>u_if v4 (Kr (.slice none 0 0) h) (ynqb PG y8f0 0 [] h fun v5 h=>yx4h yoj6 1 1 v5 x0 h fun v7 h=>Kr v7 h)
def yg0z (x0:Value) (h:H) (Q:K1):Prop:=yqfw x0 h Q Q
theorem ylcn (x0:Value) (h:H) (Q:K1) (H0:yg0z x0 h Q):AM.Spec PG y7ie [x0] h Q :=
 spE mixed E5_ok Tryz.func195 [2] H0
def yzgu (x0:Value) (h:H) (Kn Kr:K1):Prop :=
 u_bin PG .eql y7as x0 (.slice none 0 0) fun v4=>u_if v4 (Kr (.slice none 0 0) h) (ynqb PG y7as 0 [] h fun v5 h=>yx4h T_int 1 8 v5 x0 h fun v7 h=>Kr v7 h)
def yw05 (x0:Value) (h:H) (Q:K1):Prop:=yzgu x0 h Q Q
theorem yc3d (x0:Value) (h:H) (Q:K1) (H0:yw05 x0 h Q):AM.Spec PG ynjv [x0] h Q :=
 spE mixed E5_ok Tryz.func272 [2] H0
def ynh2 (x0:Value) (h:H) (Kn Kr:K1):Prop :=
 u_bin PG .eql yoi5 x0 (.slice none 0 0) fun v4=>u_if v4 (Kr (.slice none 0 0) h) (ynqb PG yoi5 0 [] h fun v5 h=>yx4h ycpa 1 4 v5 x0 h fun v7 h=>Kr v7 h)
def yw4b (x0:Value) (h:H) (Q:K1):Prop:=ynh2 x0 h Q Q
theorem yc5z (x0:Value) (h:H) (Q:K1) (H0:yw4b x0 h Q):AM.Spec PG ydmm [x0] h Q :=
 spE mixed E5_ok Tryz.func273 [2] H0
def yab4 (x1:Value) (h:H) (Kn Kr:K1):Prop :=
 y0wt 2 x1 fun v8=>ybqh false 1 v8 h fun v9=>y0wt 3 x1 fun v11=>ybqh false 1 v11 h fun v12=>y0wt 4 x1 fun v14=>ybqh false 1 v14 h fun v15=>yjdf PG ynjv [v9] h fun v10 h=>(ybqh false 1 v11 h fun w12=>w12=v12)∧(ybqh false 1 v14 h fun w15=>w15=v15)∧yjdf PG y7ie [v12] h fun v13 h=>(ybqh false 1 v14 h fun w15=>w15=v15)∧yjdf PG ydmm [v15] h fun v16 h=>ysnr PG y1og [(0,v10),(1,v13),(2,v16)] fun v17=>boxV v17=true∧u_new (Value.cells v17).toList y1og .exact h fun b18 h=>Kn (.pointer (some ⟨b18,0,none⟩)) h
def y3wn (x2:Value) (h:H) (Kn Kr:K1):Prop :=
 Kr x2 h
def y5p5 (x1:Value) (h:H) (Kn Kr:K1):Prop :=
 yab4 x1 h (fun y2 h=>y3wn y2 h Kn Kr) Kr
def yzbs (x0:Value) (h:H) (Kn Kr:K1):Prop :=
 boxV x0=true∧u_new (Value.cells x0).toList ylzr .exact h fun b1 h=>ybqh true 6 (.pointer (some ⟨b1,0,none⟩)) h fun v3=>yjdf PG yz9h [v3] h fun v4 h=>u_un PG .not v4 fun v5=>u_if v5 (ysnr PG y1og [] fun v6=>boxV v6=true∧u_new (Value.cells v6).toList y1og .exact h fun b7 h=>Kr (.pointer (some ⟨b7,0,none⟩)) h) (y5p5 (.pointer (some ⟨b1,0,none⟩)) h Kn Kr)
theorem ysce {Kn Kr:K1} {t:T} {h:H} (H0:yzbs (t 0) h Kn Kr):Wp PG 19 (ygjk Tryz.f211.body) (mkQ (q1 Kn 2) (q1 Kr 2) ke0) t h :=
 (toE E5_ok 2 H0 fun t h (H:y5p5 (t 1) h Kn Kr)=>(sqE (q1 (fun y2 h=>y3wn y2 h Kn Kr) 2) (drR E5_ok [(0,[],[]),(1,[],[]),(3,[],[]),(4,[],[]),(6,[],[]),(7,[],[]),(2,[4,7],[]),(5,[7],[]),(8,[],[]),(9,[],[]),(10,[],[]),(11,[],[])] H) fun t h H=>(wpE E5_ok H)))
def ylot (x0:Value) (h:H) (Q:K1):Prop:=yzbs x0 h Q Q
theorem ymih (x0:Value) (h:H) (Q:K1) (H0:ylot x0 h Q):AM.Spec PG yxfw [x0] h Q :=
 spH mixed Tryz.func211 [2] (ysce H0)
def ygit (x3 x4 x6 x19 x20 x21:Value) (h:H) (Kn:K5) (Kr:K1) (Ke1:K5) (Ke0:K2):Prop :=
 y394 x3 fun v27=>y0wt 0 v27 fun v28=>ybqh false 1 v28 h fun v29=>y0wt 0 x6 fun v30=>ybqh false 1 v30 h fun v31=>y0wt 1 x6 fun v32=>ybqh false 1 v32 h fun v33=>yjdf PG y7ie [v33] h fun v34 h=>(ybqh false 1 v28 h fun w29=>w29=v29)∧(ybqh false 1 v30 h fun w31=>w31=v31)∧ysnr PG yavq [(0,v31),(1,v34)] fun v35=>ynqb PG yiva 1 [(0,v35)] h fun v36 h=>yx4h yavq 2 40 v29 v36 h fun v37 h=>y394 x3 fun v38=>y0wt 0 v38 fun v39=>ylel 1 v39 v37 h fun h=>Kn x3 x4 x19 x20 x21 h
def yu7s (x3 x4 x19 x20 x21:Value) (h:H) (Kn:K5) (Kr:K1) (Ke1:K5) (Ke0:K2):Prop :=
 u_ix true 2 none x19 x21 h fun v24=>u_new [.string .empty,.slice none 0 0] yavq .exact h fun b6 h=>ylel 2 (.pointer (some ⟨b6,0,none⟩)) v24 h fun h=>ygit x3 x4 (.pointer (some ⟨b6,0,none⟩)) x19 x20 x21 h Kn Kr Ke1 Ke0
def yrn8 (x3 x4 x19 x20 x21:Value) (h:H) (Kn:K5) (Kr:K1) (Ke0:K2):Prop :=
 yu7s x3 x4 x19 x20 x21 h Kn Kr Kn Ke0
def ysd2 (x3 x4 x19 x20 x21:Value) (h:H) (Kn:K5) (Kr:K1) (Ke0:K2):Prop :=
 u_bin PG .add T_int x21 (.int .i64 1) fun v40=>Kn x3 x4 x19 x20 v40 h
def ya7z (x3 x4 x19 x20 x21:Value) (h:H) (Kn:K5) (Kr:K1) (Ke0:K2):Prop :=
 yrn8 x3 x4 x19 x20 x21 h (fun y3 y4 y19 y20 y21 h=>ysd2 y3 y4 y19 y20 y21 h Kn Kr Ke0) Kr Ke0
def yvun (x3 x4 x19 x20 x21:Value) (h:H) (Kn:K5) (Kr:K1) (Ke0:K2):Prop :=
 u_bin PG .lss T_int x21 x20 fun v22=>u_if v22 (ya7z x3 x4 x19 x20 x21 h Kn Kr Ke0) (Ke0 x3 x4 h)
def y81e (x3 x4 x19 x20 x21:Value) (h:H) (Kn:K2) (Kr:K1) (Ke0:K2):Prop :=
 sloop (S:=Value×Value×Value×Value×Value) (fun s h K=>yvun s.1 s.2.1 s.2.2.1 s.2.2.2.1 s.2.2.2.2 h (fun y3 y4 y19 y20 y21 h=>K (y3,y4,y19,y20,y21) h) Kr Ke0) (x3,x4,x19,x20,x21) h
def yhsi (x3 x4 x19 x20 x21:Value) (h:H) (Kn:K2) (Kr:K1):Prop :=
 y81e x3 x4 x19 x20 x21 h Kn Kr Kn
def yh08 (x1 x3:Value) (h:H) (Kn:K2) (Kr:K1):Prop :=
 u_bf false 1 1 x1 h fun v16=>yjdf PG y7ie [v16] h fun v17 h=>u_bf false 1 5 x1 h fun v19=>ywmm v19 fun v20=>yhsi x3 v17 v19 v20 (.int .i64 0) h Kn Kr
def yoaf (x3 x4:Value) (h:H) (Kn:K2) (Kr:K1):Prop :=
 Kn x3 x4 h
def y3jh (x1 x3 x4 x14:Value) (h:H) (Kn:K2) (Kr:K1):Prop :=
 u_if x14 (yh08 x1 x3 h Kn Kr) (yoaf x3 x4 h Kn Kr)
def yp7r (x1 x3 x4:Value) (h:H) (Kn:K2) (Kr:K1):Prop :=
 ybqh true 6 x1 h fun v13=>yjdf PG yz9h [v13] h fun v14 h=>y3jh x1 x3 x4 v14 h Kn Kr
def ygke (x3 x4:Value) (h:H) (Kn Kr:K1):Prop :=
 u_pf false 1 2 x3 h fun v44=>ysnr PG ydlg [(0,x4)] fun v46=>yw4g (.int .i64) v44 (.int .i64 0) v46 h fun h=>u_pf false 1 2 x3 h fun v50=>ysnr PG ydlg [(2,(.bool true))] fun v51=>yw4g (.int .i64) v50 (.int .i64 1) v51 h fun h=>u_pf false 1 2 x3 h fun v55=>ysnr PG ydlg [(2,(.bool true))] fun v56=>yw4g (.int .i64) v55 (.int .i64 2) v56 h fun h=>Kr x3 h
def y9pm (x1 x3 x4:Value) (h:H) (Kn Kr:K1):Prop :=
 yp7r x1 x3 x4 h (fun y3 y4 h=>ygke y3 y4 h Kn Kr) Kr
def yg0c (x0:Value) (h:H) (Kn Kr:K1):Prop :=
 boxV x0=true∧u_new (Value.cells x0).toList ylzr .exact h fun b1 h=>ybqh true 6 (.pointer (some ⟨b1,0,none⟩)) h fun v7=>yjdf PG yxfw [v7] h fun v8 h=>yaj8 (.map (.int .i64) [] 0) h fun b9 h=>yaj8 (.map (.int .i64) [] 0) h fun b10 h=>ysnr PG yxbe [(1,v8),(2,(.map (some b9))),(3,(.map (some b10)))] fun v11=>boxV v11=true∧u_new (Value.cells v11).toList yxbe .exact h fun b12 h=>y9pm (.pointer (some ⟨b1,0,none⟩)) (.pointer (some ⟨b12,0,none⟩)) (.slice none 0 0) h Kn Kr
theorem ydc3 {Kn:K5} {Kr:K1} {Ke0:K2} {t:T} {h:H} (H0:yrn8 (t 3) (t 4) (t 19) (t 20) (t 21) h Kn Kr Ke0):Wp PG 58 (seqL (rest 2 (lopC (blkC (rest 2 (cndX (rest 1 (seqL (rest 3 (ygjk Tryz.f138.body)))))))))) (mkQ (q5 Kn 3 4 19 20 21) (q1 Kr 2) (keAdd 0 (q2 Ke0 3 4) ke0)) t h :=
 (bkE 1 (toE E5_ok 1 H0 fun t h (H:ygit (t 3) (t 4) (t 6) (t 19) (t 20) (t 21) h Kn Kr Kn Ke0)=>(drR E5_ok [(0,[],[]),(1,[],[]),(2,[],[]),(3,[],[]),(4,[],[]),(5,[],[]),(6,[],[]),(7,[],[]),(8,[],[]),(9,[4,6],[]),(10,[],[]),(11,[],[]),(12,[],[]),(13,[],[]),(14,[],[]),(15,[],[])] H)))
theorem ymvl {Kn:K2} {Kr:K1} {t:T} {h:H} (H0:yp7r (t 1) (t 3) (t 4) h Kn Kr):Wp PG 58 (seqL (rest 3 (ygjk Tryz.f138.body))) (mkQ (q2 Kn 3 4) (q1 Kr 2) ke0) t h :=
 (toE E5_ok 1 H0 fun t h (H:y3jh (t 1) (t 3) (t 4) (t 14) h Kn Kr)=>(cdE H (fun H=>(toE E5_ok 2 H fun t h (H:yhsi (t 3) (t 4) (t 19) (t 20) (t 21) h Kn Kr)=>(bkE 0 (lpE (fun t=>(t 3,t 4,t 19,t 20,t 21)) H fun t h K H=>(toE E5_ok 2 H fun t h (H:ya7z (t 3) (t 4) (t 19) (t 20) (t 21) h (fun y3 y4 y19 y20 y21 h=>K (y3,y4,y19,y20,y21) h) Kr Kn)=>(sqE _ (ydc3 H) fun t h H=>(wpE E5_ok H))))))) fun H=>(wpE E5_ok H)))
theorem yuyd {Kn Kr:K1} {t:T} {h:H} (H0:yg0c (t 0) h Kn Kr):Wp PG 58 (ygjk Tryz.f138.body) (mkQ (q1 Kn 2) (q1 Kr 2) ke0) t h :=
 (toE E5_ok 3 H0 fun t h (H:y9pm (t 1) (t 3) (t 4) h Kn Kr)=>(sqE _ (ymvl H) fun t h H=>(wpE E5_ok H)))
def y9r2 (x0:Value) (h:H) (Q:K1):Prop:=yg0c x0 h Q Q
theorem yab1 (x0:Value) (h:H) (Q:K1) (H0:y9r2 x0 h Q):AM.Spec PG yrso [x0] h Q :=
 spH mixed Tryz.func138 [2] (yuyd H0)
def yn0m (x0 x1 x2:Value) (h:H) (Kn Kr:K1):Prop :=
 boxV x0=true∧u_new (Value.cells x0).toList y33u .exact h fun b3 h=>boxV x1=true∧u_new (Value.cells x1).toList y4pp .exact h fun b4 h=>boxV x2=true∧u_new (Value.cells x2).toList ylzr .exact h fun b5 h=>ybqh true 2 (.pointer (some ⟨b3,0,none⟩)) h fun v10=>yjdf PG y45l [v10] h fun v11 h=>u_bin PG .neq ya0f v11 (.int .i64 0) fun v13=>u_if v13 (Kr v11 h) (ybqh true 3 (.pointer (some ⟨b4,0,none⟩)) h fun v16=>yjdf PG y8kn [v16] h fun v17 h=>yvu8 v17 0 fun v18=>yvu8 v17 1 fun v19=>u_bin PG .neq ya0f v19 (.int .i64 0) fun v21=>u_if v21 (Kr v19 h) (ybqh true 6 (.pointer (some ⟨b5,0,none⟩)) h fun v23=>yjdf PG yz9h [v23] h fun v24 h=>u_un PG .not v24 fun v25=>u_if v25 (Kr (.int .i64 1) h) (Kr (.int .i64 0) h)))
def ywbb (x0 x1 x2:Value) (h:H) (Q:K1):Prop:=yn0m x0 x1 x2 h Q Q
theorem yljz (x0 x1 x2:Value) (h:H) (Q:K1) (H0:ywbb x0 x1 x2 h Q):AM.Spec PG y4nn [x0,x1,x2] h Q :=
 spE mixed E5_ok Tryz.func137 [6] H0
def ys8i (x0 x5 x6 x7:Value) (h:H) (Kn:K4) (Kr Ke0:K1):Prop :=
 u_bin PG .lss T_int x7 x6 fun v8=>u_if v8 (u_ix false 1 none x5 x7 h fun v10=>yjdf PG y533 [v10,(.int .u8 0)] h fun v12 h=>u_bin PG .geq T_int v12 (.int .i64 0) fun v13=>u_if v13 (Kr (.bool false) h) (u_bin PG .add T_int x7 (.int .i64 1) fun v14=>Kn x0 x5 x6 v14 h)) (Ke0 x0 h)
def y5o2 (x0 x5 x6 x7:Value) (h:H) (Kn Kr Ke0:K1):Prop :=
 sloop (S:=Value×Value×Value×Value) (fun s h K=>ys8i s.1 s.2.1 s.2.2.1 s.2.2.2 h (fun y0 y5 y6 y7 h=>K (y0,y5,y6,y7) h) Kr Ke0) (x0,x5,x6,x7) h
def yoq9 (x0 x5 x6 x7:Value) (h:H) (Kn Kr:K1):Prop :=
 y5o2 x0 x5 x6 x7 h Kn Kr Kn
def yh7p (x0:Value) (h:H) (Kn Kr:K1):Prop :=
 ywmm x0 fun v6=>yoq9 x0 x0 v6 (.int .i64 0) h Kn Kr
def yovo (x0:Value) (h:H) (Kn Kr:K1):Prop :=
 ywmm x0 fun v16=>u_bin PG .leq T_int v16 (.int .i64 16) fun v17=>Kr v17 h
def yf8n (x0:Value) (h:H) (Kn Kr:K1):Prop :=
 yh7p x0 h (fun y0 h=>yovo y0 h Kn Kr) Kr
def ygpf (x0:Value) (h:H) (Kn Kr:K1):Prop :=
 yf8n x0 h Kn Kr
theorem yi8l {Kn Kr:K1} {t:T} {h:H} (H0:ygpf (t 0) h Kn Kr):Wp PG 18 (ygjk Tryz.f277.body) (mkQ (q1 Kn 2) (q1 Kr 2) ke0) t h :=
 (toE E5_ok 1 H0 fun t h (H:yf8n (t 0) h Kn Kr)=>(sqE (q1 (fun y0 h=>yovo y0 h Kn Kr) 0) (toE E5_ok 1 H fun t h (H:yoq9 (t 0) (t 5) (t 6) (t 7) h (fun y0 h=>yovo y0 h Kn Kr) Kr)=>(bkE 0 (lpE (fun t=>(t 0,t 5,t 6,t 7)) H fun t h K H=>(wpE E5_ok H)))) fun t h H=>(wpE E5_ok H)))
def ymcy (x0:Value) (h:H) (Q:K1):Prop:=ygpf x0 h Q Q
theorem ypqv (x0:Value) (h:H) (Q:K1) (H0:ymcy x0 h Q):AM.Spec PG ygag [x0] h Q :=
 spH mixed Tryz.func277 [2] (yi8l H0)
def ybq4 (x0 x1 x2 x7:Value) (h:H) (Kn:K4) (Kr Ke0:K0):Prop :=
 u_bin PG .lss T_int x7 (.int .i64 4) fun v8=>u_if v8 (u_bin PG .add T_int x1 x7 fun v13=>u_bin PG .mul T_int (.int .i64 8) x7 fun v16=>u_bin PG .shr ycpa x2 v16 fun v17=>y2x6 .u8 v17 fun v18=>yji6 none 1 x0 v13 fun v19=>ylel 1 v19 v18 h fun h=>u_bin PG .add T_int x7 (.int .i64 1) fun v20=>Kn x0 x1 x2 v20 h) (Ke0 h)
def ypfd (x0 x1 x2 x7:Value) (h:H) (Kn Kr Ke0:K0):Prop :=
 sloop (S:=Value×Value×Value×Value) (fun s h K=>ybq4 s.1 s.2.1 s.2.2.1 s.2.2.2 h (fun y0 y1 y2 y7 h=>K (y0,y1,y2,y7) h) Kr Ke0) (x0,x1,x2,x7) h
def yhj6 (x0 x1 x2 x7:Value) (h:H) (Kn Kr:K0):Prop :=
 ypfd x0 x1 x2 x7 h Kn Kr Kn
def yqvc (x0 x1 x2:Value) (h:H) (Kn Kr:K0):Prop :=
 yhj6 x0 x1 x2 (.int .i64 0) h Kn Kr
theorem yisd {Kn Kr:K0} {t:T} {h:H} (H0:yqvc (t 0) (t 1) (t 2) h Kn Kr):Wp PG 21 (ygjk Tryz.f278.body) (mkQ (q0 Kn) (q0 Kr) ke0) t h :=
 (toE E5_ok 1 H0 fun t h (H:yhj6 (t 0) (t 1) (t 2) (t 7) h Kn Kr)=>(bkE 0 (lpE (fun t=>(t 0,t 1,t 2,t 7)) H fun t h K H=>(wpE E5_ok H))))
def y5cc (x0 x1 x2:Value) (h:H) (Q:K1):Prop:=yqvc x0 x1 x2 h (fun h=>bif [].all boxV then Q (.tuple #[]) h else False) (fun h=>bif [].all boxV then Q (.tuple #[]) h else False)
theorem y8pi (x0 x1 x2:Value) (h:H) (Q:K1) (H0:y5cc x0 x1 x2 h Q):AM.Spec PG y3rk [x0,x1,x2] h Q :=
 spH mixed Tryz.func278 [] (yisd H0)
def ypsh (x0 x6 x19 x20 x21:Value) (h:H) (Kn:K5) (Kr:K4) (Ke0:K2):Prop :=
 u_bin PG .lss T_int x21 x20 fun v22=>u_if v22 (u_ix false 1 none x19 x21 h fun v24=>u_bin PG .add yomn v24 (.string { data := #[0] }) fun v27=>u_bin PG .add yomn x6 v27 fun v28=>u_bin PG .add T_int x21 (.int .i64 1) fun v29=>Kn x0 v28 x19 x20 v29 h) (Ke0 x0 x6 h)
def yusv (x0 x6 x19 x20 x21:Value) (h:H) (Kn:K2) (Kr:K4) (Ke0:K2):Prop :=
 sloop (S:=Value×Value×Value×Value×Value) (fun s h K=>ypsh s.1 s.2.1 s.2.2.1 s.2.2.2.1 s.2.2.2.2 h (fun y0 y6 y19 y20 y21 h=>K (y0,y6,y19,y20,y21) h) Kr Ke0) (x0,x6,x19,x20,x21) h
def y6te (x0 x6 x19 x20 x21:Value) (h:H) (Kn:K2) (Kr:K4):Prop :=
 yusv x0 x6 x19 x20 x21 h Kn Kr Kn
def ygdq (x0 x6:Value) (h:H) (Kn:K2) (Kr:K4):Prop :=
 ywmm x0 fun v20=>y6te x0 x6 x0 v20 (.int .i64 0) h Kn Kr
def y8g9 (x9 x10 x11 x12 x56 x57 x58:Value) (h:H) (Kn:K7) (Kr:K4) (Ke2:K3):Prop :=
 u_bin PG .lss T_int x58 x57 fun v59=>u_if v59 (u_ix false 1 none x56 x58 h fun v62=>y2x6 .u32 x10 fun v64=>u_bin PG .add ycpa (.int .u32 2147475456) v64 fun v65=>y5hj v62 fun v67=>ysnr PG yfwk [(0,v65),(1,v67)] fun v68=>u_new [.int .u32 0,.int .i64 0] yfwk .exact h fun b15 h=>ylel 2 (.pointer (some ⟨b15,0,none⟩)) v68 h fun h=>u_bin PG .add T_int x58 (.int .i64 1) fun v72=>u_bin PG .mul T_int (.int .i64 4) v72 fun v73=>u_bin PG .add T_int x11 v73 fun v74=>u_bf false 1 0 (.pointer (some ⟨b15,0,none⟩)) h fun v76=>yjdf PG y3rk [x9,v74,v76] h fun v77 h=>ybqh true 2 (.pointer (some ⟨b15,0,none⟩)) h fun v79=>ynqb PG yfwd 1 [(0,v79)] h fun v80 h=>yx4h yfwk 2 16 x12 v80 h fun v81 h=>y5hj v62 fun v84=>u_bin PG .add T_int v84 (.int .i64 1) fun v85=>u_bin PG .add T_int x10 v85 fun v86=>u_bin PG .add T_int x58 (.int .i64 1) fun v87=>Kn x9 v86 x11 v81 x56 x57 v87 h) (Ke2 x9 x11 x12 h)
def yh44 (x9 x10 x11 x12 x56 x57 x58:Value) (h:H) (Kn:K3) (Kr:K4) (Ke2:K3):Prop :=
 sloop (S:=Value×Value×Value×Value×Value×Value×Value) (fun s h K=>y8g9 s.1 s.2.1 s.2.2.1 s.2.2.2.1 s.2.2.2.2.1 s.2.2.2.2.2.1 s.2.2.2.2.2.2 h (fun y9 y10 y11 y12 y56 y57 y58 h=>K (y9,y10,y11,y12,y56,y57,y58) h) Kr Ke2) (x9,x10,x11,x12,x56,x57,x58) h
def yxzz (x9 x10 x11 x12 x56 x57 x58:Value) (h:H) (Kn:K3) (Kr:K4):Prop :=
 yh44 x9 x10 x11 x12 x56 x57 x58 h Kn Kr Kn
def y38p (x0 x9 x10 x11 x12:Value) (h:H) (Kn:K3) (Kr:K4):Prop :=
 ywmm x0 fun v57=>yxzz x9 x10 x11 x12 x0 v57 (.int .i64 0) h Kn Kr
def yh6i (x9 x11 x12:Value) (h:H) (Kn Kr:K4):Prop :=
 y2x6 .u32 x11 fun v90=>u_bin PG .add ycpa (.int .u32 2147475456) v90 fun v91=>Kr x9 v91 x12 (.int .i64 0) h
def yt2s (x0 x9 x10 x11 x12:Value) (h:H) (Kn Kr:K4):Prop :=
 y38p x0 x9 x10 x11 x12 h (fun y9 y11 y12 h=>yh6i y9 y11 y12 h Kn Kr) Kr
def ysxt (x0 x6:Value) (h:H) (Kn Kr:K4):Prop :=
 y5hj x6 fun v31=>u_bin PG .gtr T_int v31 (.int .i64 3000) fun v32=>u_if v32 (Kr (.slice none 0 0) (.int .u32 0) (.slice none 0 0) (.int .i64 2) h) (y9kb [.int .u8 0] 1 1 5 (.int .i64 4096) (.int .i64 4096) h fun v33 h=>y5hj x6 fun v35=>u_bin PG .sub T_int (.int .i64 4096) v35 fun v36=>y4a7 1 v33 (some v36) none none fun v39=>yyhb 1 v39 x6 h fun v41 h=>ywmm x0 fun v44=>u_bin PG .add T_int v44 (.int .i64 3) fun v45=>u_bin PG .mul T_int (.int .i64 4) v45 fun v46=>u_bin PG .sub T_int v36 v46 fun v47=>u_bin PG .quo T_int v47 (.int .i64 16) fun v48=>u_bin PG .mul T_int v48 (.int .i64 16) fun v49=>ywmm x0 fun v53=>y2x6 .u32 v53 fun v54=>yjdf PG y3rk [v33,v49,v54] h fun v55 h=>yt2s x0 v33 v36 v49 (.slice none 0 0) h Kn Kr)
def yfbt (x0 x6:Value) (h:H) (Kn Kr:K4):Prop :=
 ygdq x0 x6 h (fun y0 y6 h=>ysxt y0 y6 h Kn Kr) Kr
def y44k (x0:Value) (h:H) (Kn Kr:K4):Prop :=
 yjdf PG ygag [x0] h fun v17 h=>u_un PG .not v17 fun v18=>u_if v18 (Kr (.slice none 0 0) (.int .u32 0) (.slice none 0 0) (.int .i64 1) h) (yfbt x0 (.string { data := #[] }) h Kn Kr)
theorem yfkq {Kn Kr:K4} {t:T} {h:H} (H0:yfbt (t 0) (t 6) h Kn Kr):Wp PG 93 (rest 3 (ygjk Tryz.f214.body)) (mkQ (q4 Kn 2 3 4 5) (q4 Kr 2 3 4 5) ke0) t h :=
 (sqE (q2 (fun y0 y6 h=>ysxt y0 y6 h Kn Kr) 0 6) (toE E5_ok 1 H0 fun t h (H:y6te (t 0) (t 6) (t 19) (t 20) (t 21) h (fun y0 y6 h=>ysxt y0 y6 h Kn Kr) Kr)=>(bkE 0 (lpE (fun t=>(t 0,t 6,t 19,t 20,t 21)) H fun t h K H=>(wpE E5_ok H)))) fun t h H=>(toE E5_ok 7 H fun t h (H:yt2s (t 0) (t 9) (t 10) (t 11) (t 12) h Kn Kr)=>(sqE (q3 (fun y9 y11 y12 h=>yh6i y9 y11 y12 h Kn Kr) 9 11 12) (toE E5_ok 1 H fun t h (H:yxzz (t 9) (t 10) (t 11) (t 12) (t 56) (t 57) (t 58) h (fun y9 y11 y12 h=>yh6i y9 y11 y12 h Kn Kr) Kr)=>(bkE 2 (lpE (fun t=>(t 9,t 10,t 11,t 12,t 56,t 57,t 58)) H fun t h K H=>(wpE E5_ok H)))) fun t h H=>(wpE E5_ok H))))
theorem yqan {Kn Kr:K4} {t:T} {h:H} (H0:y44k (t 0) h Kn Kr):Wp PG 93 (ygjk Tryz.f214.body) (mkQ (q4 Kn 2 3 4 5) (q4 Kr 2 3 4 5) ke0) t h :=
 (toE E5_ok 3 H0 fun t h (H:yfbt (t 0) (t 6) h Kn Kr)=>(yfkq H))
def y2v2 (x0:Value) (h:H) (Q:K1):Prop:=y44k x0 h (fun y2 y3 y4 y5 h=>bif [y2,y3,y4,y5].all boxV then Q (.tuple #[y2,y3,y4,y5]) h else False) (fun y2 y3 y4 y5 h=>bif [y2,y3,y4,y5].all boxV then Q (.tuple #[y2,y3,y4,y5]) h else False)
theorem ybpt (x0:Value) (h:H) (Q:K1) (H0:y2v2 x0 h Q):AM.Spec PG ybm3 [x0] h Q :=
 spH mixed Tryz.func214 [2,3,4,5] (yqan H0)
def yppp (x0 x1:Value) (h:H) (Kn Kr:K3):Prop :=
 yjdf PG ybm3 [x1] h fun v15 h=>yvu8 v15 0 fun v16=>yvu8 v15 1 fun v17=>yvu8 v15 2 fun v18=>yvu8 v15 3 fun v19=>u_bin PG .neq ya0f v19 (.int .i64 0) fun v21=>u_if v21 (Kr (.int .u32 0) (.slice none 0 0) v19 h) (yjdf PG yhif [x0,(.int .u32 2147475456),(.int .u32 4096),(.int .i64 3)] h fun v24 h=>u_bin PG .neq ya0f v24 (.int .i64 0) fun v26=>u_if v26 (Kr (.int .u32 0) (.slice none 0 0) v24 h) (yjdf PG ylv9 [x0,(.int .u32 2147475456),v16] h fun v30 h=>u_bin PG .neq ya0f v30 (.int .i64 0) fun v32=>u_if v32 (Kr (.int .u32 0) (.slice none 0 0) v30 h) (Kr v17 v18 (.int .i64 0) h)))
def yd9e (x0 x1:Value) (h:H) (Q:K1):Prop:=yppp x0 x1 h (fun y4 y5 y6 h=>bif [y4,y5,y6].all boxV then Q (.tuple #[y4,y5,y6]) h else False) (fun y4 y5 y6 h=>bif [y4,y5,y6].all boxV then Q (.tuple #[y4,y5,y6]) h else False)
theorem y3ry (x0 x1:Value) (h:H) (Q:K1) (H0:yd9e x0 x1 h Q):AM.Spec PG yhhb [x0,x1] h Q :=
 spE mixed E5_ok Tryz.func143 [4,5,6] H0
def yhrb (x3 x4 x5 x6 x7:Value) (h:H) (Kn:K5) (Kr:K2):Prop :=
 ybqh true 3 x6 h fun v28=>ybqh true 6 x7 h fun v30=>ybqh true 2 x5 h fun v32=>ybqh true 2 x5 h fun v34=>yjdf PG y4s5 [v28] h fun v29 h=>(ybqh true 6 x7 h fun w30=>w30=v30)∧(ybqh true 2 x5 h fun w32=>w32=v32)∧(ybqh true 2 x5 h fun w34=>w34=v34)∧yjdf PG yrso [v30] h fun v31 h=>(ybqh true 2 x5 h fun w32=>w32=v32)∧(ybqh true 2 x5 h fun w34=>w34=v34)∧yjdf PG yl1q [v32] h fun v33 h=>(ybqh true 2 x5 h fun w34=>w34=v34)∧yjdf PG yl1q [v34] h fun v35 h=>ysnr PG ynne [(5,v29),(4,v31),(6,v33),(7,v35)] fun v36=>boxV v36=true∧u_new (Value.cells v36).toList ynne .exact h fun b37 h=>Kn x3 x4 x5 x7 (.pointer (some ⟨b37,0,none⟩)) h
def yd7u (x5 x7 x13:Value) (h:H) (Kn:K5) (Kr:K2):Prop :=
 u_pf false 1 0 x13 h fun v71=>u_bf false 1 0 x7 h fun v73=>yjdf PG yhhb [v71,v73] h fun v74 h=>yvu8 v74 0 fun v75=>yvu8 v74 1 fun v76=>yvu8 v74 2 fun v77=>Kn x5 x13 v77 v75 v76 h
def ybse (x5 x13 x16 x17 x85 x86 x87:Value) (h:H) (Kn:K7) (Kr:K2) (Ke0:K3):Prop :=
 u_bin PG .lss T_int x87 x86 fun v88=>u_if v88 (u_ix true 4 none x85 x87 h fun v90=>u_new [.int .i64 0,.int .u32 0,.int .u32 0,.int .u8 0] yqxz .exact h fun b19 h=>ylel 4 (.pointer (some ⟨b19,0,none⟩)) v90 h fun h=>ybqh true 4 (.pointer (some ⟨b19,0,none⟩)) h fun v92=>yjdf PG yxz6 [x13,v92,x17] h fun v94 h=>u_bin PG .neq ya0f v94 (.int .i64 0) fun v96=>u_if v96 (Kr (.pointer none) v94 h) (u_bin PG .add T_int x87 (.int .i64 1) fun v98=>Kn x5 x13 x16 x17 x85 x86 v98 h)) (Ke0 x5 x13 x16 h)
def yw31 (x5 x13 x16 x17 x85 x86 x87:Value) (h:H) (Kn:K3) (Kr:K2) (Ke0:K3):Prop :=
 sloop (S:=Value×Value×Value×Value×Value×Value×Value) (fun s h K=>ybse s.1 s.2.1 s.2.2.1 s.2.2.2.1 s.2.2.2.2.1 s.2.2.2.2.2.1 s.2.2.2.2.2.2 h (fun y5 y13 y16 y17 y85 y86 y87 h=>K (y5,y13,y16,y17,y85,y86,y87) h) Kr Ke0) (x5,x13,x16,x17,x85,x86,x87) h
def yqgx (x5 x13 x16 x17 x85 x86 x87:Value) (h:H) (Kn:K3) (Kr:K2):Prop :=
 yw31 x5 x13 x16 x17 x85 x86 x87 h Kn Kr Kn
def yzx9 (x5 x13 x16 x17:Value) (h:H) (Kn:K3) (Kr:K2):Prop :=
 y394 x13 fun v82=>y0wt 165 v82 fun v83=>u_bf false 1 1 v83 h fun v85=>ywmm v85 fun v86=>yqgx x5 x13 x16 x17 v85 v86 (.int .i64 0) h Kn Kr
def y4zr (x5 x13 x16:Value) (h:H) (Kn Kr:K2):Prop :=
 u_bf false 1 0 x5 h fun v101=>y394 x13 fun v102=>y0wt 2 v102 fun v103=>u_st 1 32 v103 v101 h fun h=>y394 x13 fun v107=>y0wt 2 v107 fun v108=>y0wt 0 v108 fun v109=>yji6 (some 32) 1 v109 (.int .i64 2) fun v110=>ylel 1 v110 x16 h fun h=>Kr x13 (.int .i64 0) h
def ybf2 (x5 x13 x16 x17:Value) (h:H) (Kn Kr:K2):Prop :=
 yzx9 x5 x13 x16 x17 h (fun y5 y13 y16 h=>y4zr y5 y13 y16 h Kn Kr) Kr
def yfc7 (x5 x13 x14 x16 x17:Value) (h:H) (Kn Kr:K2):Prop :=
 u_bin PG .neq ya0f x14 (.int .i64 0) fun v79=>u_if v79 (Kr (.pointer none) x14 h) (ybf2 x5 x13 x16 x17 h Kn Kr)
def y6nv (x5 x7 x13:Value) (h:H) (Kn Kr:K2):Prop :=
 yd7u x5 x7 x13 h (fun y5 y13 y14 y16 y17 h=>yfc7 y5 y13 y14 y16 y17 h Kn Kr) Kr
def yrnp (x3 x4 x5 x7 x13:Value) (h:H) (Kn Kr:K2):Prop :=
 yjdf PG ynsj [x3] h fun v41 h=>yvu8 v41 0 fun v42=>yvu8 v41 1 fun v43=>y394 x13 fun v44=>u_st 1 0 v44 v42 h fun h=>u_bin PG .neq ya0f v43 (.int .i64 0) fun v47=>u_if v47 (Kr (.pointer none) v43 h) (yjdf PG yge9 [x4] h fun v52 h=>yvu8 v52 0 fun v53=>yvu8 v52 1 fun v54=>y394 x13 fun v55=>u_st 1 1 v55 v53 h fun h=>u_bin PG .neq ya0f v54 (.int .i64 0) fun v58=>u_if v58 (Kr (.pointer none) v54 h) (u_bf false 1 1 x5 h fun v62=>yjdf PG ysm3 [x13,v62] h fun v63 h=>u_bin PG .neq ya0f v63 (.int .i64 0) fun v65=>u_if v65 (Kr (.pointer none) v63 h) (y6nv x5 x7 x13 h Kn Kr)))
def yb6e (x3 x4 x5 x6 x7:Value) (h:H) (Kn Kr:K2):Prop :=
 yhrb x3 x4 x5 x6 x7 h (fun y3 y4 y5 y7 y13 h=>yrnp y3 y4 y5 y7 y13 h Kn Kr) Kr
def yw9r (x0 x1 x2 x3 x4:Value) (h:H) (Kn Kr:K2):Prop :=
 boxV x0=true∧u_new (Value.cells x0).toList y33u .exact h fun b5 h=>boxV x1=true∧u_new (Value.cells x1).toList y4pp .exact h fun b6 h=>boxV x2=true∧u_new (Value.cells x2).toList ylzr .exact h fun b7 h=>ybqh true 2 (.pointer (some ⟨b5,0,none⟩)) h fun v21=>ybqh true 3 (.pointer (some ⟨b6,0,none⟩)) h fun v22=>ybqh true 6 (.pointer (some ⟨b7,0,none⟩)) h fun v23=>yjdf PG y4nn [v21,v22,v23] h fun v24 h=>u_bin PG .neq ya0f v24 (.int .i64 0) fun v26=>u_if v26 (Kr (.pointer none) v24 h) (yb6e x3 x4 (.pointer (some ⟨b5,0,none⟩)) (.pointer (some ⟨b6,0,none⟩)) (.pointer (some ⟨b7,0,none⟩)) h Kn Kr)
theorem ygyg {Kn Kr:K2} {t:T} {h:H} (H0:y6nv (t 5) (t 7) (t 13) h Kn Kr):Wp PG 112 (rest 4 (seqR (rest 2 (ygjk Tryz.f43.body)))) (mkQ (q2 Kn 10 11) (q2 Kr 10 11) ke0) t h :=
 (sqE (q5 (fun y5 y13 y14 y16 y17 h=>yfc7 y5 y13 y14 y16 y17 h Kn Kr) 5 13 14 16 17) (drE E5_ok [0,1,2,3,4,5,6,7,8,9,10,11,12,13] H0) fun t h H=>(toE E5_ok 1 H fun t h (H:ybf2 (t 5) (t 13) (t 16) (t 17) h Kn Kr)=>(sqE (q3 (fun y5 y13 y16 h=>y4zr y5 y13 y16 h Kn Kr) 5 13 16) (toE E5_ok 1 H fun t h (H:yqgx (t 5) (t 13) (t 16) (t 17) (t 85) (t 86) (t 87) h (fun y5 y13 y16 h=>y4zr y5 y13 y16 h Kn Kr) Kr)=>(bkE 0 (lpE (fun t=>(t 5,t 13,t 16,t 17,t 85,t 86,t 87)) H fun t h K H=>(wpE E5_ok H)))) fun t h H=>(wpE E5_ok H))))
theorem yiqu {Kn Kr:K2} {t:T} {h:H} (H0:yw9r (t 0) (t 1) (t 2) (t 3) (t 4) h Kn Kr):Wp PG 112 (ygjk Tryz.f43.body) (mkQ (q2 Kn 10 11) (q2 Kr 10 11) ke0) t h :=
 (toE E5_ok 2 H0 fun t h (H:yb6e (t 3) (t 4) (t 5) (t 6) (t 7) h Kn Kr)=>(sqE (q5 (fun y3 y4 y5 y7 y13 h=>yrnp y3 y4 y5 y7 y13 h Kn Kr) 3 4 5 7 13) (drR E5_ok [(0,[],[]),(2,[],[]),(4,[],[]),(6,[],[]),(1,[2,4,6],[]),(3,[4,6],[]),(5,[6],[]),(7,[],[]),(8,[],[]),(9,[],[]),(10,[],[])] H) fun t h H=>(toE E5_ok 4 H fun t h (H:y6nv (t 5) (t 7) (t 13) h Kn Kr)=>(ygyg H))))
def y3x1 (x0 x1 x2 x3 x4:Value) (h:H) (Q:K1):Prop:=yw9r x0 x1 x2 x3 x4 h (fun y10 y11 h=>bif [y10,y11].all boxV then Q (.tuple #[y10,y11]) h else False) (fun y10 y11 h=>bif [y10,y11].all boxV then Q (.tuple #[y10,y11]) h else False)
theorem y2up (x0 x1 x2 x3 x4:Value) (h:H) (Q:K1) (H0:y3x1 x0 x1 x2 x3 x4 h Q):AM.Spec PG yuxz [x0,x1,x2,x3,x4] h Q :=
 spH mixed Tryz.func43 [10,11] (yiqu H0)
end Go.Proofs.YtnckimioabkheaaGreat
set_option linter.unusedVariables false
set_option maxRecDepth 100000
namespace Go.Proofs.YtnckimioabkheaaGreat
open Go.Proofs.YtnckimioabkheaaGreat.AM
@[simp] theorem yqsi {h:H} {K:K1} {u:Dm K}:ynqb PG yvtk 0 [] h K u=u_new [] yqxz .exact h fun b h=>K (.slice (some ⟨b,0,none⟩) 0 0) h:=by kernel_rfl
@[simp] theorem y99n {h:H} {K:K1} {u:Dm K}:ynqb PG yhm9 0 [] h K u=u_new [] yti5 .exact h fun b h=>K (.slice (some ⟨b,0,none⟩) 0 0) h:=by kernel_rfl
def yoqf (x0 x1 x7 x8:Value) (h:H) (Kn:K4) (Kr:K1) (Ke0:K0):Prop :=
 u_bin PG .lss T_int x8 x7 fun v9=>u_if v9 (u_ix false 1 none x0 x8 h fun v15=>u_dyn PG x1 [v15] h fun v16 h=>u_if v16 (Kr x8 h) (u_bin PG .add T_int x8 (.int .i64 1) fun v18=>Kn x0 x1 x7 v18 h)) (Ke0 h)
def y0zs (x0 x1 x7 x8:Value) (h:H) (Kn:K0) (Kr:K1) (Ke0:K0):Prop :=
 sloop (S:=Value×Value×Value×Value) (fun s h K=>yoqf s.1 s.2.1 s.2.2.1 s.2.2.2 h (fun y0 y1 y7 y8 h=>K (y0,y1,y7,y8) h) Kr Ke0) (x0,x1,x7,x8) h
def ykwi (x0 x1 x7 x8:Value) (h:H) (Kn:K0) (Kr:K1):Prop :=
 y0zs x0 x1 x7 x8 h Kn Kr Kn
def ylud (x0 x1:Value) (h:H) (Kn:K0) (Kr:K1):Prop :=
 ywmm x0 fun v7=>ykwi x0 x1 v7 (.int .i64 0) h Kn Kr
def yzwg (h:H) (Kn Kr:K1):Prop :=
 Kr (.int .i64 (-1)) h
def yvzc (x0 x1:Value) (h:H) (Kn Kr:K1):Prop :=
 ylud x0 x1 h (fun h=>yzwg h Kn Kr) Kr
def ye2u (x0 x1:Value) (h:H) (Kn Kr:K1):Prop :=
 yvzc x0 x1 h Kn Kr
theorem yu27 {Kn Kr:K1} {t:T} {h:H} (H0:ye2u (t 0) (t 1) h Kn Kr):Wp PG 19 (ygjk Tryz.f166.body) (mkQ (q1 Kn 4) (q1 Kr 4) ke0) t h :=
 (toE E5_ok 1 H0 fun t h (H:yvzc (t 0) (t 1) h Kn Kr)=>(sqE (q0 (fun h=>yzwg h Kn Kr)) (toE E5_ok 1 H fun t h (H:ykwi (t 0) (t 1) (t 7) (t 8) h (fun h=>yzwg h Kn Kr) Kr)=>(bkE 0 (lpE (fun t=>(t 0,t 1,t 7,t 8)) H fun t h K H=>(wpE E5_ok H)))) fun t h H=>(wpE E5_ok H)))
def yivv (x0 x1:Value) (h:H) (Q:K1):Prop:=ye2u x0 x1 h Q Q
theorem yvc0 (x0 x1:Value) (h:H) (Q:K1) (H0:yivv x0 x1 h Q):AM.Spec PG ypb6 [x0,x1] h Q :=
 spH mixed Tryz.func166 [4] (yu27 H0)
def yb8b (x0 x1:Value) (h:H) (Kn Kr:K1):Prop :=
 yjdf PG ypb6 [x0,x1] h fun v7 h=>u_bin PG .geq T_int v7 (.int .i64 0) fun v8=>Kr v8 h
def yz4o (x0 x1:Value) (h:H) (Q:K1):Prop:=yb8b x0 x1 h Q Q
theorem y391 (x0 x1:Value) (h:H) (Q:K1) (H0:yz4o x0 x1 h Q):AM.Spec PG ysqm [x0,x1] h Q :=
 spE mixed E5_ok Tryz.func55 [4] H0
def yw94 (x0 x5 x6 x7:Value) (h:H) (Kn:K4) (Kr Ke0:K1):Prop :=
 u_bin PG .lss T_int x7 x6 fun v8=>u_if v8 (u_ix false 1 none x5 x7 h fun v10=>y5hj v10 fun v12=>u_bin PG .gtr T_int v12 (.int .i64 200) fun v13=>ydv6 v13 false (fun k6=>yjdf PG y533 [v10,(.int .u8 0)] h fun v16 h=>u_bin PG .geq T_int v16 (.int .i64 0) fun v17=>k6 v17 h) (fun v17 h=>y9rg v13 (.bool true) v17 fun v18=>u_if v18 (Kr (.bool false) h) (u_bin PG .add T_int x7 (.int .i64 1) fun v19=>Kn x0 x5 x6 v19 h)) h) (Ke0 x0 h)
def y4z7 (x0 x5 x6 x7:Value) (h:H) (Kn Kr Ke0:K1):Prop :=
 sloop (S:=Value×Value×Value×Value) (fun s h K=>yw94 s.1 s.2.1 s.2.2.1 s.2.2.2 h (fun y0 y5 y6 y7 h=>K (y0,y5,y6,y7) h) Kr Ke0) (x0,x5,x6,x7) h
def y5be (x0 x5 x6 x7:Value) (h:H) (Kn Kr:K1):Prop :=
 y4z7 x0 x5 x6 x7 h Kn Kr Kn
def yc63 (x0:Value) (h:H) (Kn Kr:K1):Prop :=
 ywmm x0 fun v6=>y5be x0 x0 v6 (.int .i64 0) h Kn Kr
def yc74 (x0:Value) (h:H) (Kn Kr:K1):Prop :=
 ywmm x0 fun v21=>u_bin PG .leq T_int v21 (.int .i64 16) fun v22=>Kr v22 h
def ya7k (x0:Value) (h:H) (Kn Kr:K1):Prop :=
 yc63 x0 h (fun y0 h=>yc74 y0 h Kn Kr) Kr
def ydjn (x0:Value) (h:H) (Kn Kr:K1):Prop :=
 ya7k x0 h Kn Kr
theorem yl8i {Kn Kr:K1} {t:T} {h:H} (H0:ydjn (t 0) h Kn Kr):Wp PG 23 (ygjk Tryz.f270.body) (mkQ (q1 Kn 2) (q1 Kr 2) ke0) t h :=
 (toE E5_ok 1 H0 fun t h (H:ya7k (t 0) h Kn Kr)=>(sqE (q1 (fun y0 h=>yc74 y0 h Kn Kr) 0) (toE E5_ok 1 H fun t h (H:y5be (t 0) (t 5) (t 6) (t 7) h (fun y0 h=>yc74 y0 h Kn Kr) Kr)=>(bkE 0 (lpE (fun t=>(t 0,t 5,t 6,t 7)) H fun t h K H=>(wpE E5_ok H)))) fun t h H=>(wpE E5_ok H)))
def yfnm (x0:Value) (h:H) (Q:K1):Prop:=ydjn x0 h Q Q
theorem yg0t (x0:Value) (h:H) (Q:K1) (H0:yfnm x0 h Q):AM.Spec PG yne3 [x0] h Q :=
 spH mixed Tryz.func270 [2] (yl8i H0)
def ynyk (x0 x5 x6 x7:Value) (h:H) (Kn:K4) (Kr Ke0:K1):Prop :=
 u_bin PG .lss T_int x7 x6 fun v8=>u_if v8 (u_ix true 2 none x5 x7 h fun v11=>u_new [.string .empty,.slice none 0 0] yavq .exact h fun b4 h=>ylel 2 (.pointer (some ⟨b4,0,none⟩)) v11 h fun h=>u_bf false 1 0 (.pointer (some ⟨b4,0,none⟩)) h fun v13=>u_bin PG .eql yomn v13 (.string { data := #[] }) fun v14=>ydv6 v14 false (fun k7=>u_bf false 1 0 (.pointer (some ⟨b4,0,none⟩)) h fun v17=>y5hj v17 fun v18=>u_bin PG .gtr T_int v18 (.int .i64 40) fun v19=>k7 v19 h) (fun v19 h=>y9rg v14 (.bool true) v19 fun v20=>ydv6 v20 false (fun k13=>u_bf false 1 0 (.pointer (some ⟨b4,0,none⟩)) h fun v23=>yjdf PG y533 [v23,(.int .u8 0)] h fun v24 h=>u_bin PG .geq T_int v24 (.int .i64 0) fun v25=>k13 v25 h) (fun v25 h=>y9rg v20 (.bool true) v25 fun v26=>ydv6 v26 false (fun k19=>u_bf false 1 1 (.pointer (some ⟨b4,0,none⟩)) h fun v29=>ywmm v29 fun v30=>u_bin PG .gtr T_int v30 (.int .i64 4096) fun v31=>k19 v31 h) (fun v31 h=>y9rg v26 (.bool true) v31 fun v32=>u_if v32 (Kr (.bool false) h) (y4a7 2 x0 none (some x7) none fun v35=>List.all [] ysqa=true∧List.all [(.pointer (some ⟨b4,0,none⟩))] ysqa=true∧yjdf PG yvbs [v35,(.func (.func ysh9) #[] #[(.pointer (some ⟨b4,0,none⟩))])] h fun v37 h=>u_if v37 (Kr (.bool false) h) (u_bin PG .add T_int x7 (.int .i64 1) fun v38=>Kn x0 x5 x6 v38 h))) h) h) h) (Ke0 x0 h)
def y2yr (x0 x5 x6 x7:Value) (h:H) (Kn Kr Ke0:K1):Prop :=
 sloop (S:=Value×Value×Value×Value) (fun s h K=>ynyk s.1 s.2.1 s.2.2.1 s.2.2.2 h (fun y0 y5 y6 y7 h=>K (y0,y5,y6,y7) h) Kr Ke0) (x0,x5,x6,x7) h
def ydmq (x0 x5 x6 x7:Value) (h:H) (Kn Kr:K1):Prop :=
 y2yr x0 x5 x6 x7 h Kn Kr Kn
def y0g4 (x0:Value) (h:H) (Kn Kr:K1):Prop :=
 ywmm x0 fun v6=>ydmq x0 x0 v6 (.int .i64 0) h Kn Kr
def yrid (x0:Value) (h:H) (Kn Kr:K1):Prop :=
 ywmm x0 fun v40=>u_bin PG .leq T_int v40 (.int .i64 8) fun v41=>Kr v41 h
def y10k (x0:Value) (h:H) (Kn Kr:K1):Prop :=
 y0g4 x0 h (fun y0 h=>yrid y0 h Kn Kr) Kr
def yuzy (x0:Value) (h:H) (Kn Kr:K1):Prop :=
 y10k x0 h Kn Kr
theorem y95y {Kn Kr:K1} {t:T} {h:H} (H0:yuzy (t 0) h Kn Kr):Wp PG 42 (ygjk Tryz.f271.body) (mkQ (q1 Kn 2) (q1 Kr 2) ke0) t h :=
 (toE E5_ok 1 H0 fun t h (H:y10k (t 0) h Kn Kr)=>(sqE (q1 (fun y0 h=>yrid y0 h Kn Kr) 0) (toE E5_ok 1 H fun t h (H:ydmq (t 0) (t 5) (t 6) (t 7) h (fun y0 h=>yrid y0 h Kn Kr) Kr)=>(bkE 0 (lpE (fun t=>(t 0,t 5,t 6,t 7)) H fun t h K H=>(wpE E5_ok H)))) fun t h H=>(wpE E5_ok H)))
def y27c (x0:Value) (h:H) (Q:K1):Prop:=yuzy x0 h Q Q
theorem y7n2 (x0:Value) (h:H) (Q:K1) (H0:y27c x0 h Q):AM.Spec PG yob1 [x0] h Q :=
 spH mixed Tryz.func271 [2] (y95y H0)
def ybd8 (x0:Value) (h:H) (Kn Kr:K1):Prop :=
 boxV x0=true∧u_new (Value.cells x0).toList ylzr .exact h fun b1 h=>u_bf false 1 2 (.pointer (some ⟨b1,0,none⟩)) h fun v5=>yjdf PG ysqm [v5,(.func (.func yeif) #[] #[])] h fun v6 h=>ydv6 v6 false (fun k5=>u_bf false 1 2 (.pointer (some ⟨b1,0,none⟩)) h fun v10=>ywmm v10 fun v11=>u_bin PG .gtr T_int v11 (.int .i64 64) fun v12=>k5 v12 h) (fun v12 h=>y9rg v6 (.bool true) v12 fun v13=>ydv6 v13 false (fun k11=>u_bf false 1 4 (.pointer (some ⟨b1,0,none⟩)) h fun v16=>ywmm v16 fun v17=>u_bin PG .gtr T_int v17 (.int .i64 64) fun v18=>k11 v18 h) (fun v18 h=>y9rg v13 (.bool true) v18 fun v19=>ydv6 v19 false (fun k17=>u_bf false 1 1 (.pointer (some ⟨b1,0,none⟩)) h fun v22=>ywmm v22 fun v23=>u_bin PG .gtr T_int v23 (.int .i64 4096) fun v24=>k17 v24 h) (fun v24 h=>y9rg v19 (.bool true) v24 fun v25=>ydv6 v25 false (fun k23=>u_bf false 1 3 (.pointer (some ⟨b1,0,none⟩)) h fun v28=>ywmm v28 fun v29=>u_bin PG .gtr T_int v29 (.int .i64 4096) fun v30=>k23 v30 h) (fun v30 h=>y9rg v25 (.bool true) v30 fun v31=>u_if v31 (Kr (.bool false) h) (u_bf false 1 0 (.pointer (some ⟨b1,0,none⟩)) h fun v33=>yjdf PG yne3 [v33] h fun v34 h=>ydv6 v34 true (fun k6=>u_bf false 1 5 (.pointer (some ⟨b1,0,none⟩)) h fun v37=>yjdf PG yob1 [v37] h fun v38 h=>k6 v38 h) (fun v38 h=>y9rg v34 v38 (.bool false) fun v39=>Kr v39 h) h)) h) h) h) h
def ypj2 (x0:Value) (h:H) (Q:K1):Prop:=ybd8 x0 h Q Q
theorem yona (x0:Value) (h:H) (Q:K1) (H0:ypj2 x0 h Q):AM.Spec PG yz9h [x0] h Q :=
 spE mixed E5_ok Tryz.func210 [2] H0
def y7x2 (x1 x8 x9 x10:Value) (h:H) (Kn:K4) (Kr Ke0:K1):Prop :=
 u_bin PG .lss T_int x10 x9 fun v11=>u_if v11 (u_ix true 4 none x8 x10 h fun v13=>u_new [.int .i64 0,.int .u32 0,.int .u32 0,.int .u8 0] yqxz .exact h fun b4 h=>ylel 4 (.pointer (some ⟨b4,0,none⟩)) v13 h fun h=>ybqh true 4 (.pointer (some ⟨b4,0,none⟩)) h fun v14=>u_ct y2dd [v14] h fun v15 h=>u_un PG .not v15 fun v16=>u_if v16 (Kr (.bool false) h) (u_bin PG .add T_int x10 (.int .i64 1) fun v17=>Kn x1 x8 x9 v17 h)) (Ke0 x1 h)
def ymtv (x1 x8 x9 x10:Value) (h:H) (Kn Kr Ke0:K1):Prop :=
 sloop (S:=Value×Value×Value×Value) (fun s h K=>y7x2 s.1 s.2.1 s.2.2.1 s.2.2.2 h (fun y1 y8 y9 y10 h=>K (y1,y8,y9,y10) h) Kr Ke0) (x1,x8,x9,x10) h
def yn27 (x1 x8 x9 x10:Value) (h:H) (Kn Kr:K1):Prop :=
 ymtv x1 x8 x9 x10 h Kn Kr Kn
def ywzw (x1:Value) (h:H) (Kn Kr:K1):Prop :=
 u_bf false 1 1 x1 h fun v8=>ywmm v8 fun v9=>yn27 x1 v8 v9 (.int .i64 0) h Kn Kr
def y7j7 (x1 x19 x20 x21:Value) (h:H) (Kn:K4) (Kr Ke2:K1):Prop :=
 u_bin PG .lss T_int x21 x20 fun v22=>u_if v22 (u_ix true 3 none x19 x21 h fun v24=>u_new [.int .i64 0,.int .i64 0,.int .u8 0] yti5 .exact h fun b6 h=>ylel 3 (.pointer (some ⟨b6,0,none⟩)) v24 h fun h=>ybqh true 3 (.pointer (some ⟨b6,0,none⟩)) h fun v25=>u_ct yabu [v25] h fun v26 h=>u_un PG .not v26 fun v27=>u_if v27 (Kr (.bool false) h) (u_bin PG .add T_int x21 (.int .i64 1) fun v28=>Kn x1 x19 x20 v28 h)) (Ke2 x1 h)
def ybsy (x1 x19 x20 x21:Value) (h:H) (Kn Kr Ke2:K1):Prop :=
 sloop (S:=Value×Value×Value×Value) (fun s h K=>y7j7 s.1 s.2.1 s.2.2.1 s.2.2.2 h (fun y1 y19 y20 y21 h=>K (y1,y19,y20,y21) h) Kr Ke2) (x1,x19,x20,x21) h
def y7oe (x1 x19 x20 x21:Value) (h:H) (Kn Kr:K1):Prop :=
 ybsy x1 x19 x20 x21 h Kn Kr Kn
def y5sh (x1:Value) (h:H) (Kn Kr:K1):Prop :=
 u_bf false 1 2 x1 h fun v19=>ywmm v19 fun v20=>y7oe x1 v19 v20 (.int .i64 0) h Kn Kr
def yjfb (x1:Value) (h:H) (Kn Kr:K1):Prop :=
 u_bf false 1 1 x1 h fun v30=>ywmm v30 fun v31=>u_bin PG .leq T_int v31 (.int .i64 32) fun v32=>ydv6 v32 true (fun k8=>u_bf false 1 2 x1 h fun v35=>ywmm v35 fun v36=>u_bin PG .leq T_int v36 (.int .i64 32) fun v37=>k8 v37 h) (fun v37 h=>y9rg v32 v37 (.bool false) fun v38=>Kr v38 h) h
def y1q4 (x1:Value) (h:H) (Kn Kr:K1):Prop :=
 y5sh x1 h (fun y1 h=>yjfb y1 h Kn Kr) Kr
def y8ht (x1:Value) (h:H) (Kn Kr:K1):Prop :=
 ywzw x1 h (fun y1 h=>y1q4 y1 h Kn Kr) Kr
def ymc9 (x0:Value) (h:H) (Kn Kr:K1):Prop :=
 boxV x0=true∧u_new (Value.cells x0).toList y4pp .exact h fun b1 h=>y8ht (.pointer (some ⟨b1,0,none⟩)) h Kn Kr
theorem y67g {Kn Kr:K1} {t:T} {h:H} (H0:y8ht (t 1) h Kn Kr):Wp PG 39 (rest 1 (ygjk Tryz.f267.body)) (mkQ (q1 Kn 2) (q1 Kr 2) ke0) t h :=
 (sqE (q1 (fun y1 h=>y1q4 y1 h Kn Kr) 1) (toE E5_ok 1 H0 fun t h (H:yn27 (t 1) (t 8) (t 9) (t 10) h (fun y1 h=>y1q4 y1 h Kn Kr) Kr)=>(bkE 0 (lpE (fun t=>(t 1,t 8,t 9,t 10)) H fun t h K H=>(wpE E5_ok H)))) fun t h H=>(sqE (q1 (fun y1 h=>yjfb y1 h Kn Kr) 1) (toE E5_ok 1 H fun t h (H:y7oe (t 1) (t 19) (t 20) (t 21) h (fun y1 h=>yjfb y1 h Kn Kr) Kr)=>(bkE 2 (lpE (fun t=>(t 1,t 19,t 20,t 21)) H fun t h K H=>(wpE E5_ok H)))) fun t h H=>(wpE E5_ok H)))
theorem y5am {Kn Kr:K1} {t:T} {h:H} (H0:ymc9 (t 0) h Kn Kr):Wp PG 39 (ygjk Tryz.f267.body) (mkQ (q1 Kn 2) (q1 Kr 2) ke0) t h :=
 (toE E5_ok 1 H0 fun t h (H:y8ht (t 1) h Kn Kr)=>(y67g H))
def yly3 (x0:Value) (h:H) (Q:K1):Prop:=ymc9 x0 h Q Q
theorem y5tv (x0:Value) (h:H) (Q:K1) (H0:yly3 x0 h Q):AM.Spec PG ygvc [x0] h Q :=
 spH mixed Tryz.func267 [2] (y5am H0)
def yzt0 (x1 x2 x12:Value) (h:H) (Kn:K3) (Kr:K2):Prop :=
 u_bf false 1 1 x1 h fun v4=>y0wt 2 x1 fun v6=>(ybqh false 1 v6 h fun v7=>yjdf PG y402 [v4] h fun v5 h=>y0wt 1 x1 fun v9=>yjdf PG ydu8 [v7] h fun v8 h=>ylel 1 v9 v5 h fun h=>u_st 1 2 x1 v8 h fun h=>Kn x1 x2 x12 h)∧(yjdf PG y402 [v4] h fun v5 h=>ybqh false 1 v6 h fun v7=>y0wt 1 x1 fun v9=>yjdf PG ydu8 [v7] h fun v8 h=>ylel 1 v9 v5 h fun h=>u_st 1 2 x1 v8 h fun h=>Kn x1 x2 x12 h)
def ypw0 (x1 x2 x12:Value) (h:H) (Kn Kr:K2):Prop :=
 ybqh true 3 x1 h fun v11=>ylel 3 x2 v11 h fun h=>Kr x2 x12 h
def y8as (x1 x2 x12:Value) (h:H) (Kn Kr:K2):Prop :=
 yzt0 x1 x2 x12 h (fun y1 y2 y12 h=>ypw0 y1 y2 y12 h Kn Kr) Kr
def y08q (x0 x12:Value) (h:H) (Kn Kr:K2):Prop :=
 boxV x0=true∧u_new (Value.cells x0).toList y4pp .exact h fun b1 h=>u_new [.bool false,.slice none 0 0,.slice none 0 0] y4pp .exact h fun b2 h=>y8as (.pointer (some ⟨b1,0,none⟩)) (.pointer (some ⟨b2,0,none⟩)) x12 h Kn Kr
theorem yrc6 {Kn Kr:K2} {t:T} {h:H} (H0:y08q (t 0) (t 12) h Kn Kr):Wp PG 12 (ygjk Tryz.f134.body) (mkQ (q2 Kn 2 12) (q2 Kr 2 12) ke0) t h :=
 (toE E5_ok 1 H0 fun t h (H:y8as (t 1) (t 2) (t 12) h Kn Kr)=>(sqE (q3 (fun y1 y2 y12 h=>ypw0 y1 y2 y12 h Kn Kr) 1 2 12) (drP E5_ok [0,1,3] 4 2 [6,5,7,8,9] H) fun t h H=>(wpE E5_ok H)))
def yxdy (x0:Value) (h:H) (Q:K1):Prop:=y08q x0 undef h (fun y2 y12 h=>o_ret y12 h (fun h=>ybqh true 3 y2 h fun v=>Q v h)) (fun y2 y12 h=>o_ret y12 h (fun h=>ybqh true 3 y2 h fun v=>Q v h))
theorem yfj3 (x0:Value) (h:H) (Q:K1) (H0:yxdy x0 h Q):AM.Spec PG y4s5 [x0] h Q :=
 spC mixed Tryz.func134 2 35 true 3 (yrc6 H0)
def y7kq (x0:Value) (h:H) (Kn Kr:K1):Prop :=
 u_bin PG .eql yvtk x0 (.slice none 0 0) fun v4=>u_if v4 (Kr (.slice none 0 0) h) (ynqb PG yvtk 0 [] h fun v5 h=>yx4h yqxz 4 24 v5 x0 h fun v7 h=>Kr v7 h)
def ymww (x0:Value) (h:H) (Q:K1):Prop:=y7kq x0 h Q Q
theorem yhjz (x0:Value) (h:H) (Q:K1) (H0:ymww x0 h Q):AM.Spec PG y402 [x0] h Q :=
 spE mixed E5_ok Tryz.func206 [2] H0
def yvr7 (x0:Value) (h:H) (Kn Kr:K1):Prop :=
 u_bin PG .eql yhm9 x0 (.slice none 0 0) fun v4=>u_if v4 (Kr (.slice none 0 0) h) (ynqb PG yhm9 0 [] h fun v5 h=>yx4h yti5 3 24 v5 x0 h fun v7 h=>Kr v7 h)
def yssw (x0:Value) (h:H) (Q:K1):Prop:=yvr7 x0 h Q Q
theorem y53r (x0:Value) (h:H) (Q:K1) (H0:yssw x0 h Q):AM.Spec PG ydu8 [x0] h Q :=
 spE mixed E5_ok Tryz.func207 [2] H0
end Go.Proofs.YtnckimioabkheaaGreat
set_option linter.unusedSimpArgs false
set_option linter.unusedVariables false
namespace Go.Proofs.YtnckimioabkheaaGreat.AM
section
variable {α:Type} {enc:α→List Value} {sz:Nat} {h:H} {v:Value} {l:List α} {K:Value→Prop} {k:IntKind} {P:Program}
theorem Sl.ixA (hs:Sl enc sz h v l) {i:Nat} (hi:i<l.length) {u:Dm K}:u_ix true sz none v (.int k i) h K u=K (.agg (enc l[i]).toArray):=by
 obtain ⟨b,o,h1,h2⟩:=hs.at hi
 show ys75 none sz v (.int k i) (fun a=>ysm8 true sz a h K)=_
 rw [h1,yw71 h2]
theorem Sl.ix1 {e:α→Value} (hs:Sl (fun x=>[e x]) 1 h v l) {i:Nat} (hi:i<l.length) {u:Dm K}:u_ix false 1 none v (.int k i) h K u=K (e l[i]):=by
 obtain ⟨b,o,h1,h2⟩:=hs.at hi
 show ys75 none 1 v (.int k i) (fun a=>ysm8 false 1 a h K)=_
 have:AM.cellAt h b o=some (e l[i]):=by
  have:=yg2r (m:=0) h2 (by omega)
  simpa using this
 rw [h1,ycro this]
theorem Sl.ixf (hs:Sl enc sz h v l) {i off:Nat} (hi:i<l.length) {w:Value} (hw:(enc l[i])[off]?=some w) {u:Dm K}:u_ixf false 1 off none sz v (.int k i) h K u=K w:=by
 obtain ⟨b,o,h1,h2⟩:=hs.at hi
 show ys75 none sz v (.int k i) (fun a=>yokc off a fun a=>ysm8 false 1 a h K)=_
 have hlt:off<(enc l[i]).length:=(List.getElem?_eq_some_iff.1 hw).1
 have hz:(enc l[i]).length=sz:=hs.1 _ (List.getElem_mem hi)
 have:AM.cellAt h b (o+off)=some w:=by rw [yg2r h2 (by omega)];exact hw
 rw [h1,y2i1,ycro this]
theorem Sl.ulen (hs:Sl enc sz h v l) {u:Dm K}:ywmm v K u=K (.int .i64 l.length):=hs.len
end
section
variable {β:Type}
def fnd (a:Int):List (Int×β)→Option β
 | []=>none
 | e::r=>if a=e.1 then some e.2 else fnd a r
theorem y6z5 {k:IntKind} {f:β→Value} {a:Int}:∀{l:List (Int×β)},mfind (l.map fun p=>(.int k p.1,f p.2)) (.int k a)=(fnd a l).map f
 | []=>rfl
 | e::r=>by
   simp only [List.map_cons,mfind,fnd]
   by_cases h:a=e.1
   ·have:keyEq (.int k a) (.int k e.1)=true:=by simp [keyEq,h]
    rw [this,if_pos h];rfl
   ·have:keyEq (.int k a) (.int k e.1)=false:=by simp [keyEq,h]
    rw [this,if_neg h];exact y6z5
theorem ywya {k:IntKind} {f:Int×β→Value} {a:Int}:∀{l:List (Int×β)},mfind (l.map fun p=>(.int k p.1,f p)) (.int k a)=(fnd a l).map fun b=>f (a,b)
 | []=>rfl
 | e::r=>by
   simp only [List.map_cons,mfind,fnd]
   by_cases h:a=e.1
   ·have:keyEq (.int k a) (.int k e.1)=true:=by simp [keyEq,h]
    rw [this,if_pos h,h];rfl
   ·have:keyEq (.int k a) (.int k e.1)=false:=by simp [keyEq,h]
    rw [this,if_neg h];exact ywya
theorem y5ut {a:Int} {b:β}:∀{l:List (Int×β)},fnd a l=some b→(a,b)∈l
 | [],h=>by cases h
 | e::r,h=>by
   simp only [fnd] at h
   split at h
   ·rename_i he;cases h;subst he;exact List.mem_cons_self ..
   ·exact List.mem_cons_of_mem _ (y5ut h)
end
section
variable {h:H} {K:Value→Prop} {kk:KK} {z:Value} {m:Nat} {es:List (Value×Value)} {ck:Nat} {x:Value}
theorem y69s {w:Value} (hm:h m=some (.map kk es ck)) (hk:kkHas kk x=true) (hf:mfind es x=some w) {okk:Bool} {u:Dm K}:ylsp kk z (.map (some m)) x okk h K u=K (bif okk then .tuple #[w,.bool true] else w):=by
 show (_∧_)=_
 simp [hk,hm,hf]
theorem y2ml (hm:h m=some (.map kk es ck)) (hk:kkHas kk x=true) (hf:mfind es x=none) {okk:Bool} {u:Dm K}:ylsp kk z (.map (some m)) x okk h K u=K (bif okk then .tuple #[z,.bool false] else z):=by
 show (_∧_)=_
 simp [hk,hm,hf]
end
section
variable {α:Type} {enc:α→List Value} {sz:Nat}
theorem yw9z {e:TypeId} {bytes:Nat} {h0 h:H} {v:Value} {l:List α} {x:α} {K:K1} (hg:Gr enc sz e h0 h v l) (hsub:Sub h0 h) (hx:(enc x).length=sz) (h0z:0<sz)
 (hb:(l.length+1)*bytes≤140737488355328) (hn:l.length+1<9223372036854775808)
 (hk:∀v' h',Gr enc sz e h0 h' v' (l++[x])→Sub h0 h'→(∀ c o,h c=some o→yc20 v≠some c→h' c=some o)→(∀ c,yc20 v'=some c→h c=none)→K v' h') {cs:List Value} (hcs:cs=enc x) :
 u_new cs e .exact h (fun b h=>yx4h e sz bytes v (.slice (some ⟨b,0,none⟩) 1 1) h K):=by
 subst hcs
 intro b hb2 hbn
 have hg':Gr enc sz e h0 (upd h b (.cells (enc x) e .exact)) v l:=hg.keep fun c hc=>yrkk _ _ fun he=>by
  rw [he] at hc;exact hg.there hc hbn
 refine Gr.append (m:=[x]) hg' (Sl.of_block (b:=b) (o:=0) (l:=[x]) (c:=1) (by simpa using hx) (yy0e _ _ _) (by simp [← hx]) (by simp [hx])) (by simp) h0z (by simpa using hb) (by simpa using hn) (hsub.upd (hsub.none hbn)) fun v' h' g1 g2 g3 g4=>?_
 refine hk v' h' g1 g2 (fun c o hc hv=>g3 c o ?_ hv) fun c hc=>?_
 ·rw [yrkk _ _ fun he=>by rw [he,hbn] at hc;cases hc];exact hc
 ·have:=g4 c hc
  rw [ynej] at this
  exact this.2.2
theorem Gr.exact_ne {e E:TypeId} {h0 h:H} {v:Value} {l:List α} (hg:Gr enc sz e h0 h v l) {c:Nat} {cs:List Value} (hc:h c=some (.cells cs E .exact)):yc20 v≠some c:=fun hb=>by
 have:=hg.isOpen hb
 rw [hc] at this
 cases this
end
theorem yb3e {h:H} {b:Nat} {cs:List Value} {E:TypeId} {m:Own} (hb:h b=some (.cells cs E m)) {i:Nat}:cellAt h b i=cs[i]?:=by simp [cellAt,hb]
theorem yzql {h:H} {b:Nat} {cs:List Value} {E:TypeId} {m:Own} (hb:h b=some (.cells cs E m)) {i n:Nat}:cellsAt h b i n=if i+n≤cs.length then some ((cs.drop i).take n) else none:=by simp [cellsAt,hb]
end Go.Proofs.YtnckimioabkheaaGreat.AM
set_option linter.unusedSimpArgs false
set_option linter.unusedVariables false
set_option maxRecDepth 100000
namespace Go.Proofs.YtnckimioabkheaaGreat
open AM
theorem yq9z {S:Type} {body:S→H→(S→H→Prop)→Prop} {s:S} {h:H} (hb:∀K,body s h K):sloop body s h :=
 yo1k 0 (fun _ s' h'=>s'=s∧h'=h) ⟨rfl,rfl⟩ fun i s' h' K _ e _=>by obtain ⟨rfl,rfl⟩:=e;exact hb K
abbrev nilV:Value:=.slice none 0 0
section
variable {h:H} {K:K1}
theorem ync7 {f:Value} (hf:boxV f=true) (hk:K (.bool false) h):AM.Spec PG ysqm [nilV,f] h K:=by
 refine y391 _ _ _ _ ?_
 unfold yz4o yb8b
 refine ⟨by simp [hf],yvc0 _ _ _ _ ?_⟩
 simp (config:={dsimp:=false}) [↓yivv,↓ye2u,↓yvzc,↓ylud]
 unfold ykwi y0zs
 refine yq9z fun K'=>?_
 simp (config:={dsimp:=false}) [↓yoqf,↓yzwg]
 exact hk
theorem ytib (hk:K (.bool true) h):AM.Spec PG yne3 [nilV] h K:=by
 refine yg0t _ _ _ ?_
 simp (config:={dsimp:=false}) [↓yfnm,↓ydjn,↓ya7k,↓yc63]
 unfold y5be y4z7
 refine yq9z fun K'=>?_
 simp (config:={dsimp:=false}) [↓yw94,↓yc74]
 exact hk
theorem yca5 (hk:K (.bool true) h):AM.Spec PG yob1 [nilV] h K:=by
 refine y7n2 _ _ _ ?_
 simp (config:={dsimp:=false}) [↓y27c,↓yuzy,↓y10k,↓y0g4]
 unfold ydmq y2yr
 refine yq9z fun K'=>?_
 simp (config:={dsimp:=false}) [↓ynyk,↓yrid]
 exact hk
abbrev yh6o:Value:=.agg #[nilV,nilV,nilV,nilV,nilV,nilV]
theorem ynul (hk:K (.bool true) h):AM.Spec PG yz9h [yh6o] h K:=by
 refine yz7m (fun K hk=>?_) hk
 refine yona _ _ _ ?_
 simp (config:={dsimp:=false}) [↓ypj2,↓ybd8]
 intro b _ hb
 have hc:=yy0e h b (.cells [nilV,nilV,nilV,nilV,nilV,nilV] ylzr .exact)
 have hs:Sub h (upd h b (.cells [nilV,nilV,nilV,nilV,nilV,nilV] ylzr .exact)):=Sub.new hb
 generalize upd h b _=h1 at *
 refine ⟨rfl,ync7 rfl ?_⟩
 simp (config:={dsimp:=false}) [yb3e hc]
 refine ⟨rfl,ytib ?_⟩
 simp (config:={dsimp:=false}) [yb3e hc]
 show yjdf PG yob1 [nilV] h1 _
 exact ⟨rfl,yca5 (hk _ hs)⟩
abbrev noPol:Value:=.agg #[.bool false,nilV,nilV]
theorem yvhg (hk:K (.bool true) h):AM.Spec PG ygvc [noPol] h K:=by
 refine yz7m (fun K hk=>?_) hk
 refine y5tv _ _ _ ?_
 simp (config:={dsimp:=false}) [↓yly3,↓ymc9]
 intro b _ hb
 have hc:=yy0e h b (.cells [.bool false,nilV,nilV] y4pp .exact)
 have hs:Sub h (upd h b (.cells [.bool false,nilV,nilV] y4pp .exact)):=Sub.new hb
 generalize upd h b _=h1 at *
 simp (config:={dsimp:=false}) [↓y8ht,↓ywzw,yb3e hc]
 unfold yn27 ymtv
 refine yq9z fun K'=>?_
 simp (config:={dsimp:=false}) [↓y7x2,↓y1q4,↓y5sh,yb3e hc]
 unfold y7oe ybsy
 refine yq9z fun K'=>?_
 simp (config:={dsimp:=false}) [↓y7j7,↓yjfb,yb3e hc]
 exact hk _ hs
theorem yygv {K:Value→Prop} {u:Dm K}:u_bin PG .eql yvtk nilV nilV K u=K (.bool true):=by kernel_rfl
theorem ygqz {K:Value→Prop} {u:Dm K}:u_bin PG .eql yhm9 nilV nilV K u=K (.bool true):=by kernel_rfl
theorem yv8n (hk:K nilV h):AM.Spec PG y402 [nilV] h K:=by
 refine yhjz _ _ _ ?_
 simp (config:={dsimp:=false}) [↓ymww,↓y7kq,yygv]
 exact hk
theorem yplh (hk:K nilV h):AM.Spec PG ydu8 [nilV] h K:=by
 refine y53r _ _ _ ?_
 simp (config:={dsimp:=false}) [↓yssw,↓yvr7,ygqz]
 exact hk
theorem y6tp (hk:∀h',Sub h h'→K noPol h'):AM.Spec PG y4s5 [noPol] h K:=by
 refine yfj3 _ _ _ ?_
 simp (config:={dsimp:=false}) [↓yxdy,↓y08q,↓y8as]
 intro b _ hb b1 _ n1 n2 hb1
 have hs:Sub h (upd (upd h b (.cells [.bool false,nilV,nilV] y4pp .exact)) b1 (.cells [.bool false,nilV,nilV] y4pp .exact)):=Sub.upd (Sub.new hb) hb1
 have hc1:=yy0e (upd h b (.cells [.bool false,nilV,nilV] y4pp .exact)) b1 (.cells [.bool false,nilV,nilV] y4pp .exact)
 have hc:upd (upd h b (.cells [.bool false,nilV,nilV] y4pp .exact)) b1 (.cells [.bool false,nilV,nilV] y4pp .exact) b=some (.cells [.bool false,nilV,nilV] y4pp .exact):=(yrkk _ _ n2).trans (yy0e _ _ _)
 generalize upd (upd h b _) b1 _=h1 at *
 have key:∀q q',K noPol (upd (upd h1 b q) b1 q'):=fun q q'=>hk _ (Sub.upd (Sub.upd hs hb) hb1)
 simp (config:={dsimp:=false}) [↓yzt0,yb3e hc]
 constructor
 ·refine ⟨rfl,yv8n ?_⟩
  simp (config:={dsimp:=false})
  refine ⟨rfl,yplh ?_⟩
  simp (config:={dsimp:=false}) [hc,hc1,n1,n2,↓ypw0]
  exact key _ _
 ·refine ⟨rfl,yv8n ?_⟩
  simp (config:={dsimp:=false}) [yb3e hc]
  refine ⟨rfl,yplh ?_⟩
  simp (config:={dsimp:=false}) [hc,hc1,n1,n2,↓ypw0]
  exact key _ _
end
end Go.Proofs.YtnckimioabkheaaGreat
set_option linter.unusedVariables false
set_option maxRecDepth 100000
namespace Go.Proofs.YtnckimioabkheaaGreat
open Go.Proofs.YtnckimioabkheaaGreat.AM
@[simp] theorem ywkh {a0:Int} {a1a:Option Addr} {a1n:Nat} {a1c:Nat} {K:Value→Prop} {u:Dm K}:ysnr PG y33u [(0,.int .u32 a0),(1,.slice a1a a1n a1c)] K u=K (.agg #[.int .u32 a0,.slice a1a a1n a1c]):=by kernel_rfl
@[simp] theorem yg3d {a0:Int} {a1:Int} {a2:Int} {a3a:Option Addr} {a3n:Nat} {a3c:Nat} {K:Value→Prop} {u:Dm K}:ysnr PG ym0k [(0,.int .u32 a0),(1,.int .u32 a1),(2,.int .i64 a2),(3,.slice a3a a3n a3c)] K u=K (.agg #[.int .u32 a0,.int .u32 a1,.int .i64 a2,.slice a3a a3n a3c]):=by kernel_rfl
@[simp] theorem ydmx {a0_0:Int} {a0_1:Int} {a0_2:Int} {a0_3a:Option Addr} {a0_3n:Nat} {a0_3c:Nat} {a1_0:Int} {a1_1:Int} {a1_2:Int} {a1_3a:Option Addr} {a1_3n:Nat} {a1_3c:Nat} {h:H} {K:K1} {u:Dm K}:ynqb PG yeu3 2 [(0,.agg #[.int .u32 a0_0,.int .u32 a0_1,.int .i64 a0_2,.slice a0_3a a0_3n a0_3c]),(1,.agg #[.int .u32 a1_0,.int .u32 a1_1,.int .i64 a1_2,.slice a1_3a a1_3n a1_3c])] h K u=u_new [.int .u32 a0_0,.int .u32 a0_1,.int .i64 a0_2,.slice a0_3a a0_3n a0_3c,.int .u32 a1_0,.int .u32 a1_1,.int .i64 a1_2,.slice a1_3a a1_3n a1_3c] ym0k .exact h fun b h=>K (.slice (some ⟨b,0,none⟩) 2 2) h:=by kernel_rfl
@[simp] theorem y2i5 {a0:Int} {a1:Int} {a2:Int} {a3:Int} {h:H} {K:K1} {u:Dm K}:ynqb PG y8f0 4 [(0,.int .u8 a0),(1,.int .u8 a1),(2,.int .u8 a2),(3,.int .u8 a3)] h K u=u_new [.int .u8 a0,.int .u8 a1,.int .u8 a2,.int .u8 a3] yoj6 .exact h fun b h=>K (.slice (some ⟨b,0,none⟩) 4 4) h:=by kernel_rfl
def ysp8 (x0 x3 x4:Value) (h:H) (Kn:K3) (Kr Ke0:K1):Prop :=
 ywmm x0 fun v8=>u_bin PG .lss T_int x4 v8 fun v9=>u_if v9 (u_ix false 1 none x0 x4 h fun v15=>y2x6 .u8 v15 fun v18=>u_bin PG .shr ycpa v15 (.int .u64 8) fun v20=>y2x6 .u8 v20 fun v21=>u_bin PG .shr ycpa v15 (.int .u64 16) fun v23=>y2x6 .u8 v23 fun v24=>u_bin PG .shr ycpa v15 (.int .u64 24) fun v26=>y2x6 .u8 v26 fun v27=>ynqb PG y8f0 4 [(0,v18),(1,v21),(2,v24),(3,v27)] h fun v28 h=>yx4h yoj6 1 1 x3 v28 h fun v29 h=>u_bin PG .add T_int x4 (.int .i64 1) fun v11=>Kn x0 v29 v11 h) (Ke0 x3 h)
def yq1r (x0 x3 x4:Value) (h:H) (Kn Kr Ke0:K1):Prop :=
 sloop (S:=Value×Value×Value) (fun s h K=>ysp8 s.1 s.2.1 s.2.2 h (fun y0 y3 y4 h=>K (y0,y3,y4) h) Kr Ke0) (x0,x3,x4) h
def y0cj (x0 x3 x4:Value) (h:H) (Kn Kr:K1):Prop :=
 yq1r x0 x3 x4 h Kn Kr Kn
def yx8d (x0 x3:Value) (h:H) (Kn Kr:K1):Prop :=
 y0cj x0 x3 (.int .i64 0) h Kn Kr
def yvd7 (x3:Value) (h:H) (Kn Kr:K1):Prop :=
 Kr x3 h
def y8mo (x0 x3:Value) (h:H) (Kn Kr:K1):Prop :=
 yx8d x0 x3 h (fun y3 h=>yvd7 y3 h Kn Kr) Kr
def yk25 (x0:Value) (h:H) (Kn Kr:K1):Prop :=
 y8mo x0 (.slice none 0 0) h Kn Kr
theorem ya62 {Kn Kr:K1} {t:T} {h:H} (H0:yk25 (t 0) h Kn Kr):Wp PG 31 (ygjk Tryz.f167.body) (mkQ (q1 Kn 2) (q1 Kr 2) ke0) t h :=
 (toE E5_ok 2 H0 fun t h (H:y8mo (t 0) (t 3) h Kn Kr)=>(sqE (q1 (fun y3 h=>yvd7 y3 h Kn Kr) 3) (toE E5_ok 1 H fun t h (H:y0cj (t 0) (t 3) (t 4) h (fun y3 h=>yvd7 y3 h Kn Kr) Kr)=>(bkE 0 (lpE (fun t=>(t 0,t 3,t 4)) H fun t h K H=>(wpE E5_ok H)))) fun t h H=>(wpE E5_ok H)))
def y8d5 (x0:Value) (h:H) (Q:K1):Prop:=yk25 x0 h Q Q
theorem yrij (x0:Value) (h:H) (Q:K1) (H0:y8d5 x0 h Q):AM.Spec PG y5yh [x0] h Q :=
 spH mixed Tryz.func167 [2] (ya62 H0)
def yid9 (x0 x1 x2 x21:Value) (h:H) (Kn Kr:K2):Prop :=
 u_new [.int .u32 0,.slice none 0 0] y33u .exact h fun b6 h=>yjdf PG y5yh [x0] h fun v9 h=>ysnr PG ym0k [(0,(.int .u32 4096)),(1,(.int .u32 1024)),(2,(.int .i64 5)),(3,v9)] fun v10=>ysnr PG ym0k [(0,(.int .u32 65536)),(1,(.int .u32 512)),(2,(.int .i64 3)),(3,x1)] fun v12=>ynqb PG yeu3 2 [(0,v10),(1,v12)] h fun v13 h=>ysnr PG y33u [(0,(.int .u32 4096)),(1,v13)] fun v14=>u_new [.int .u32 0,.slice none 0 0] y33u .exact h fun b7 h=>ylel 2 (.pointer (some ⟨b7,0,none⟩)) v14 h fun h=>u_if x2 (u_bf false 1 1 (.pointer (some ⟨b7,0,none⟩)) h fun v17=>yji6 none 4 v17 (.int .i64 0) fun v18=>u_st 1 2 v18 (.int .i64 7) h fun h=>ybqh true 2 (.pointer (some ⟨b7,0,none⟩)) h fun v20=>ylel 2 (.pointer (some ⟨b6,0,none⟩)) v20 h fun h=>Kr (.pointer (some ⟨b6,0,none⟩)) x21 h) (ybqh true 2 (.pointer (some ⟨b7,0,none⟩)) h fun v20=>ylel 2 (.pointer (some ⟨b6,0,none⟩)) v20 h fun h=>Kr (.pointer (some ⟨b6,0,none⟩)) x21 h)
theorem ykac {Kn Kr:K2} {t:T} {h:H} (H0:yid9 (t 0) (t 1) (t 2) (t 21) h Kn Kr):Wp PG 21 (ygjk Tryz.f60.body) (mkQ (q2 Kn 6 21) (q2 Kr 6 21) ke0) t h :=
 (wpE E5_ok H0)
def yuca (x0 x1 x2:Value) (h:H) (Q:K1):Prop:=yid9 x0 x1 x2 undef h (fun y6 y21 h=>o_ret y21 h (fun h=>ybqh true 2 y6 h fun v=>Q v h)) (fun y6 y21 h=>o_ret y21 h (fun h=>ybqh true 2 y6 h fun v=>Q v h))
theorem ygf7 (x0 x1 x2:Value) (h:H) (Q:K1) (H0:yuca x0 x1 x2 h Q):AM.Spec PG ymwz [x0,x1,x2] h Q :=
 spC mixed Tryz.func60 6 102 true 2 (ykac H0)
def yzuv (x0 x6 x9 x10 x11:Value) (h:H) (Kn:K6) (Kr:K1) (Ke1:K4) (Ke0:K0):Prop :=
 u_pf false 1 0 x0 h fun v18=>u_bf false 1 0 x6 h fun v20=>u_bf false 1 1 x6 h fun v22=>u_bf false 1 2 x6 h fun v24=>yjdf PG yhif [v18,v20,v22,v24] h fun v25 h=>Kn x0 x6 v25 x9 x10 x11 h
def y79q (x0 x6 x7 x9 x10 x11:Value) (h:H) (Kn:K5) (Kr:K1) (Ke1:K4) (Ke0:K0):Prop :=
 u_bin PG .neq ya0f x7 (.int .i64 0) fun v27=>u_if v27 (Kr x7 h) (Kn x0 x6 x9 x10 x11 h)
def y02s (x0 x6 x9 x10 x11:Value) (h:H) (Kn:K5) (Kr:K1) (Ke1:K4) (Ke0:K0):Prop :=
 yzuv x0 x6 x9 x10 x11 h (fun y0 y6 y7 y9 y10 y11 h=>y79q y0 y6 y7 y9 y10 y11 h Kn Kr Ke1 Ke0) Kr Ke1 Ke0
def ym52 (x0 x6 x9 x10 x11:Value) (h:H) (Kn:K5) (Kr:K1) (Ke1:K4) (Ke0:K0):Prop :=
 u_pf false 1 0 x0 h fun v32=>u_bf false 1 0 x6 h fun v34=>u_bf false 1 3 x6 h fun v36=>yjdf PG ylv9 [v32,v34,v36] h fun v37 h=>Kn x0 v37 x9 x10 x11 h
def yp6m (x0 x8 x9 x10 x11:Value) (h:H) (Kn:K4) (Kr:K1) (Ke1:K4) (Ke0:K0):Prop :=
 u_bin PG .neq ya0f x8 (.int .i64 0) fun v39=>u_if v39 (Kr x8 h) (Kn x0 x9 x10 x11 h)
def ya6l (x0 x6 x9 x10 x11:Value) (h:H) (Kn:K4) (Kr:K1) (Ke1:K4) (Ke0:K0):Prop :=
 ym52 x0 x6 x9 x10 x11 h (fun y0 y8 y9 y10 y11 h=>yp6m y0 y8 y9 y10 y11 h Kn Kr Ke1 Ke0) Kr Ke1 Ke0
def yxcb (x0 x6 x9 x10 x11:Value) (h:H) (Kn:K4) (Kr:K1) (Ke1:K4) (Ke0:K0):Prop :=
 y02s x0 x6 x9 x10 x11 h (fun y0 y6 y9 y10 y11 h=>ya6l y0 y6 y9 y10 y11 h Kn Kr Ke1 Ke0) Kr Ke1 Ke0
def ytdv (x0 x9 x10 x11:Value) (h:H) (Kn:K4) (Kr:K1) (Ke1:K4) (Ke0:K0):Prop :=
 u_ix true 4 none x9 x11 h fun v14=>u_new [.int .u32 0,.int .u32 0,.int .i64 0,.slice none 0 0] ym0k .exact h fun b6 h=>ylel 4 (.pointer (some ⟨b6,0,none⟩)) v14 h fun h=>yxcb x0 (.pointer (some ⟨b6,0,none⟩)) x9 x10 x11 h Kn Kr Ke1 Ke0
def y85b (x0 x9 x10 x11:Value) (h:H) (Kn:K4) (Kr:K1) (Ke0:K0):Prop :=
 ytdv x0 x9 x10 x11 h Kn Kr Kn Ke0
def ycl4 (x0 x9 x10 x11:Value) (h:H) (Kn:K4) (Kr:K1) (Ke0:K0):Prop :=
 u_bin PG .add T_int x11 (.int .i64 1) fun v41=>Kn x0 x9 x10 v41 h
def yoek (x0 x9 x10 x11:Value) (h:H) (Kn:K4) (Kr:K1) (Ke0:K0):Prop :=
 y85b x0 x9 x10 x11 h (fun y0 y9 y10 y11 h=>ycl4 y0 y9 y10 y11 h Kn Kr Ke0) Kr Ke0
def yxhl (x0 x9 x10 x11:Value) (h:H) (Kn:K4) (Kr:K1) (Ke0:K0):Prop :=
 u_bin PG .lss T_int x11 x10 fun v12=>u_if v12 (yoek x0 x9 x10 x11 h Kn Kr Ke0) (Ke0 h)
def yff1 (x0 x9 x10 x11:Value) (h:H) (Kn:K0) (Kr:K1) (Ke0:K0):Prop :=
 sloop (S:=Value×Value×Value×Value) (fun s h K=>yxhl s.1 s.2.1 s.2.2.1 s.2.2.2 h (fun y0 y9 y10 y11 h=>K (y0,y9,y10,y11) h) Kr Ke0) (x0,x9,x10,x11) h
def y5my (x0 x9 x10 x11:Value) (h:H) (Kn:K0) (Kr:K1):Prop :=
 yff1 x0 x9 x10 x11 h Kn Kr Kn
def yml8 (x0 x1:Value) (h:H) (Kn:K0) (Kr:K1):Prop :=
 ywmm x1 fun v10=>y5my x0 x1 v10 (.int .i64 0) h Kn Kr
def ysa5 (h:H) (Kn Kr:K1):Prop :=
 Kr (.int .i64 0) h
def yub3 (x0 x1:Value) (h:H) (Kn Kr:K1):Prop :=
 yml8 x0 x1 h (fun h=>ysa5 h Kn Kr) Kr
def yubh (x0 x1:Value) (h:H) (Kn Kr:K1):Prop :=
 yub3 x0 x1 h Kn Kr
theorem yjm3 {Kn:K5} {Kr:K1} {Ke1:K4} {Ke0:K0} {t:T} {h:H} (H0:y02s (t 0) (t 6) (t 9) (t 10) (t 11) h Kn Kr Ke1 Ke0):Wp PG 42 (seqL (rest 1 (blkC (seqL (rest 2 (lopC (blkC (rest 1 (seqL (rest 1 (ygjk Tryz.f142.body))))))))))) (mkQ (q5 Kn 0 6 9 10 11) (q1 Kr 4) (keAdd 1 (q4 Ke1 0 9 10 11) (keAdd 0 (q0 Ke0) ke0))) t h :=
 (sqE (q6 (fun y0 y6 y7 y9 y10 y11 h=>y79q y0 y6 y7 y9 y10 y11 h Kn Kr Ke1 Ke0) 0 6 7 9 10 11) (drE E5_ok [0,1,2,3,4,5,6,7,8,9,10,11] H0) fun t h H=>(wpE E5_ok H))
theorem ydj2 {Kn:K4} {Kr:K1} {Ke0:K0} {t:T} {h:H} (H0:y85b (t 0) (t 9) (t 10) (t 11) h Kn Kr Ke0):Wp PG 42 (seqL (rest 2 (lopC (blkC (rest 1 (seqL (rest 1 (ygjk Tryz.f142.body)))))))) (mkQ (q4 Kn 0 9 10 11) (q1 Kr 4) (keAdd 0 (q0 Ke0) ke0)) t h :=
 (bkE 1 (toE E5_ok 1 H0 fun t h (H:yxcb (t 0) (t 6) (t 9) (t 10) (t 11) h Kn Kr Kn Ke0)=>(sqE _ (yjm3 H) fun t h H=>(sqE (q5 (fun y0 y8 y9 y10 y11 h=>yp6m y0 y8 y9 y10 y11 h Kn Kr Kn Ke0) 0 8 9 10 11) (drE E5_ok [0,1,2,3,4,5,6,7,8,9] H) fun t h H=>(wpE E5_ok H)))))
theorem y46j {Kn Kr:K1} {t:T} {h:H} (H0:yubh (t 0) (t 1) h Kn Kr):Wp PG 42 (ygjk Tryz.f142.body) (mkQ (q1 Kn 4) (q1 Kr 4) ke0) t h :=
 (toE E5_ok 1 H0 fun t h (H:yub3 (t 0) (t 1) h Kn Kr)=>(sqE (q0 (fun h=>ysa5 h Kn Kr)) (toE E5_ok 1 H fun t h (H:y5my (t 0) (t 9) (t 10) (t 11) h (fun h=>ysa5 h Kn Kr) Kr)=>(bkE 0 (lpE (fun t=>(t 0,t 9,t 10,t 11)) H fun t h K H=>(toE E5_ok 2 H fun t h (H:yoek (t 0) (t 9) (t 10) (t 11) h (fun y0 y9 y10 y11 h=>K (y0,y9,y10,y11) h) Kr (fun h=>ysa5 h Kn Kr))=>(sqE _ (ydj2 H) fun t h H=>(wpE E5_ok H)))))) fun t h H=>(wpE E5_ok H)))
def ypkn (x0 x1:Value) (h:H) (Q:K1):Prop:=yubh x0 x1 h Q Q
theorem yvg9 (x0 x1:Value) (h:H) (Q:K1) (H0:ypkn x0 x1 h Q):AM.Spec PG ysm3 [x0,x1] h Q :=
 spH mixed Tryz.func142 [4] (y46j H0)
end Go.Proofs.YtnckimioabkheaaGreat
set_option linter.unusedVariables false
set_option maxRecDepth 100000
namespace Go.Proofs.YtnckimioabkheaaGreat
open Go.Proofs.YtnckimioabkheaaGreat.AM
@[simp] theorem yf5n {a0:Int} {a1:Option Nat} {a2:Option Nat} {K:Value→Prop} {u:Dm K}:ysnr PG y7k4 [(0,.int .i64 a0),(1,.map a1),(2,.map a2)] K u=K (.agg #[.int .i64 a0,.map a1,.map a2]):=by kernel_rfl
@[simp] theorem y49q {a0:Int} {a1:Option Nat} {K:Value→Prop} {u:Dm K}:ysnr PG y2um [(0,.int .i64 a0),(1,.map a1)] K u=K (.agg #[.int .i64 a0,.map a1]):=by kernel_rfl
@[simp] theorem ygys {a1:Int} {K:Value→Prop} {u:Dm K}:ysnr PG ynw2 [(1,.int .i64 a1)] K u=K (.agg #[.int .u8 0,.int .u8 0,.int .u8 0,.int .u8 0,.int .u8 0,.int .u8 0,.int .u8 0,.int .u8 0,.int .u8 0,.int .u8 0,.int .u8 0,.int .u8 0,.int .u8 0,.int .u8 0,.int .u8 0,.int .u8 0,.int .u8 0,.int .u8 0,.int .u8 0,.int .u8 0,.int .u8 0,.int .u8 0,.int .u8 0,.int .u8 0,.int .u8 0,.int .u8 0,.int .u8 0,.int .u8 0,.int .u8 0,.int .u8 0,.int .u8 0,.int .u8 0,.int .u8 0,.int .u8 0,.int .u8 0,.int .u8 0,.int .u8 0,.int .u8 0,.int .u8 0,.int .u8 0,.int .u8 0,.int .u8 0,.int .u8 0,.int .u8 0,.int .u8 0,.int .u8 0,.int .u8 0,.int .u8 0,.int .u8 0,.int .u8 0,.int .u8 0,.int .u8 0,.int .u8 0,.int .u8 0,.int .u8 0,.int .u8 0,.int .u8 0,.int .u8 0,.int .u8 0,.int .u8 0,.int .u8 0,.int .u8 0,.int .u8 0,.int .u8 0,.int .u8 0,.int .u8 0,.int .u8 0,.int .u8 0,.int .u8 0,.int .u8 0,.int .u8 0,.int .u8 0,.int .u8 0,.int .u8 0,.int .u8 0,.int .u8 0,.int .u8 0,.int .u8 0,.int .u8 0,.int .u8 0,.int .u8 0,.int .u8 0,.int .u8 0,.int .u8 0,.int .u8 0,.int .u8 0,.int .u8 0,.int .u8 0,.int .u8 0,.int .u8 0,.int .u8 0,.int .u8 0,.int .u8 0,.int .u8 0,.int .u8 0,.int .u8 0,.int .u8 0,.int .u8 0,.int .u8 0,.int .u8 0,.int .u8 0,.int .u8 0,.int .u8 0,.int .u8 0,.int .u8 0,.int .u8 0,.int .u8 0,.int .u8 0,.int .u8 0,.int .u8 0,.int .u8 0,.int .u8 0,.int .u8 0,.int .u8 0,.int .u8 0,.int .u8 0,.int .u8 0,.int .u8 0,.int .u8 0,.int .u8 0,.int .u8 0,.int .u8 0,.int .u8 0,.int .u8 0,.int .u8 0,.int .u8 0,.int .u8 0,.int .u8 0,.int .u8 0,.int .u8 0,.int .u8 0,.int .u8 0,.int .u8 0,.int .u8 0,.int .u8 0,.int .u8 0,.int .u8 0,.int .u8 0,.int .u8 0,.int .u8 0,.int .u8 0,.int .u8 0,.int .u8 0,.int .u8 0,.int .u8 0,.int .u8 0,.int .u8 0,.int .u8 0,.int .u8 0,.int .u8 0,.int .u8 0,.int .u8 0,.int .u8 0,.int .u8 0,.int .u8 0,.int .u8 0,.int .u8 0,.int .u8 0,.int .u8 0,.int .u8 0,.int .u8 0,.int .u8 0,.int .u8 0,.int .u8 0,.int .u8 0,.int .u8 0,.int .u8 0,.int .u8 0,.int .u8 0,.int .u8 0,.int .u8 0,.int .u8 0,.int .u8 0,.int .u8 0,.int .u8 0,.int .u8 0,.int .u8 0,.int .u8 0,.int .u8 0,.int .u8 0,.int .u8 0,.int .u8 0,.int .u8 0,.int .u8 0,.int .u8 0,.int .u8 0,.int .u8 0,.int .u8 0,.int .u8 0,.int .u8 0,.int .u8 0,.int .u8 0,.int .u8 0,.int .u8 0,.int .u8 0,.int .u8 0,.int .u8 0,.int .u8 0,.int .u8 0,.int .u8 0,.int .u8 0,.int .u8 0,.int .u8 0,.int .u8 0,.int .u8 0,.int .u8 0,.int .u8 0,.int .u8 0,.int .u8 0,.int .u8 0,.int .u8 0,.int .u8 0,.int .u8 0,.int .u8 0,.int .u8 0,.int .u8 0,.int .u8 0,.int .u8 0,.int .u8 0,.int .u8 0,.int .u8 0,.int .u8 0,.int .u8 0,.int .u8 0,.int .u8 0,.int .u8 0,.int .u8 0,.int .u8 0,.int .u8 0,.int .u8 0,.int .u8 0,.int .u8 0,.int .u8 0,.int .u8 0,.int .u8 0,.int .u8 0,.int .u8 0,.int .u8 0,.int .u8 0,.int .u8 0,.int .u8 0,.int .u8 0,.int .u8 0,.int .u8 0,.int .u8 0,.int .u8 0,.int .u8 0,.int .u8 0,.int .u8 0,.int .u8 0,.int .u8 0,.int .u8 0,.int .u8 0,.int .u8 0,.int .u8 0,.int .u8 0,.int .i64 a1]):=by kernel_rfl
@[simp] theorem ys8h {a0:Int} {h:H} {K:K1} {u:Dm K}:ynqb PG yoi5 1 [(0,.int .u32 a0)] h K u=u_new [.int .u32 a0] ycpa .exact h fun b h=>K (.slice (some ⟨b,0,none⟩) 1 1) h:=by kernel_rfl
def yw17 (x0:Value) (h:H) (Kn Kr:K2):Prop :=
 u_bin PG .lss T_int x0 (.int .i64 1) fun v5=>ydv6 v5 false (fun k4=>u_bin PG .gtr T_int x0 (.int .i64 4096) fun v8=>k4 v8 h) (fun v8 h=>y9rg v5 (.bool true) v8 fun v9=>u_if v9 (Kr (.pointer none) (.int .i64 1) h) (yaj8 (.map (.int .u32) [] 0) h fun b11 h=>yaj8 (.map (.int .u32) [] 0) h fun b12 h=>ysnr PG y7k4 [(0,x0),(1,(.map (some b11))),(2,(.map (some b12)))] fun v13=>boxV v13=true∧u_new (Value.cells v13).toList y7k4 .exact h fun b14 h=>Kr (.pointer (some ⟨b14,0,none⟩)) (.int .i64 0) h)) h
def y91g (x0:Value) (h:H) (Q:K1):Prop:=yw17 x0 h (fun y2 y3 h=>bif [y2,y3].all boxV then Q (.tuple #[y2,y3]) h else False) (fun y2 y3 h=>bif [y2,y3].all boxV then Q (.tuple #[y2,y3]) h else False)
theorem y4wx (x0:Value) (h:H) (Q:K1) (H0:y91g x0 h Q):AM.Spec PG ynsj [x0] h Q :=
 spE mixed E5_ok Tryz.func140 [2,3] H0
def yomw (x0:Value) (h:H) (Kn Kr:K2):Prop :=
 u_bin PG .lss T_int x0 (.int .i64 0) fun v5=>ydv6 v5 false (fun k4=>u_bin PG .gtr T_int x0 (.int .i64 4096) fun v8=>k4 v8 h) (fun v8 h=>y9rg v5 (.bool true) v8 fun v9=>u_if v9 (Kr (.pointer none) (.int .i64 1) h) (yaj8 (.map (.int .u32) [] 0) h fun b11 h=>ysnr PG y2um [(0,x0),(1,(.map (some b11)))] fun v12=>boxV v12=true∧u_new (Value.cells v12).toList y2um .exact h fun b13 h=>Kr (.pointer (some ⟨b13,0,none⟩)) (.int .i64 0) h)) h
def ysj8 (x0:Value) (h:H) (Q:K1):Prop:=yomw x0 h (fun y2 y3 h=>bif [y2,y3].all boxV then Q (.tuple #[y2,y3]) h else False) (fun y2 y3 h=>bif [y2,y3].all boxV then Q (.tuple #[y2,y3]) h else False)
theorem yx0m (x0:Value) (h:H) (Q:K1) (H0:ysj8 x0 h Q):AM.Spec PG yge9 [x0] h Q :=
 spE mixed E5_ok Tryz.func141 [2,3] H0
def ymz0 (x1 x2 x7 x13:Value) (h:H) (Kn:K4) (Kr Ke0:K1):Prop :=
 y70k x13 h fun v14 h=>yvu8 v14 0 fun v15=>u_if v15 (ynu1 x13 h fun v16=>yvu8 v16 0 fun v17=>u_bin PG .geq ycpa v17 x1 fun v20=>ydv6 v20 true (fun k11=>y2x6 .u64 v17 fun v23=>y2x6 .u64 x1 fun v25=>u_bin PG .mul yxjj x2 (.int .u64 256) fun v27=>u_bin PG .add yxjj v25 v27 fun v28=>u_bin PG .lss yxjj v23 v28 fun v29=>k11 v29 h) (fun v29 h=>y9rg v20 v29 (.bool false) fun v30=>u_if v30 (ynqb PG yoi5 1 [(0,v17)] h fun v33 h=>yx4h ycpa 1 4 x7 v33 h fun v34 h=>Kn x1 x2 v34 x13 h) (Kn x1 x2 x7 x13 h)) h) (Ke0 x7 h)
def ypvj (x1 x2 x7 x13:Value) (h:H) (Kn Kr Ke0:K1):Prop :=
 sloop (S:=Value×Value×Value×Value) (fun s h K=>ymz0 s.1 s.2.1 s.2.2.1 s.2.2.2 h (fun y1 y2 y7 y13 h=>K (y1,y2,y7,y13) h) Kr Ke0) (x1,x2,x7,x13) h
def yw6s (x1 x2 x7 x13:Value) (h:H) (Kn Kr:K1):Prop :=
 ypvj x1 x2 x7 x13 h Kn Kr Kn
def yw9j (x0 x1 x2 x7:Value) (h:H) (Kn Kr:K1):Prop :=
 u_pf false 1 1 x0 h fun v12=>y4fz v12 h fun v13 h=>yw6s x1 x2 x7 v13 h Kn Kr
def ychg (x7:Value) (h:H) (Kn Kr:K1):Prop :=
 Kr x7 h
def yk0t (x0 x1 x2 x7:Value) (h:H) (Kn Kr:K1):Prop :=
 yw9j x0 x1 x2 x7 h (fun y7 h=>ychg y7 h Kn Kr) Kr
def ypo0 (x0 x1 x2:Value) (h:H) (Kn Kr:K1):Prop :=
 yk0t x0 x1 x2 (.slice none 0 0) h Kn Kr
theorem yqd4 {Kn Kr:K1} {t:T} {h:H} (H0:ypo0 (t 0) (t 1) (t 2) h Kn Kr):Wp PG 36 (ygjk Tryz.f275.body) (mkQ (q1 Kn 6) (q1 Kr 6) ke0) t h :=
 (toE E5_ok 2 H0 fun t h (H:yk0t (t 0) (t 1) (t 2) (t 7) h Kn Kr)=>(sqE (q1 (fun y7 h=>ychg y7 h Kn Kr) 7) (toE E5_ok 1 H fun t h (H:yw6s (t 1) (t 2) (t 7) (t 13) h (fun y7 h=>ychg y7 h Kn Kr) Kr)=>(bkE 0 (lpE (fun t=>(t 1,t 2,t 7,t 13)) H fun t h K H=>(wpE E5_ok H)))) fun t h H=>(wpE E5_ok H)))
def y2c4 (x0 x1 x2:Value) (h:H) (Q:K1):Prop:=ypo0 x0 x1 x2 h Q Q
theorem yrnn (x0 x1 x2:Value) (h:H) (Q:K1) (H0:y2c4 x0 x1 x2 h Q):AM.Spec PG yoaz [x0,x1,x2] h Q :=
 spH mixed Tryz.func275 [6] (yqd4 H0)
def yqtw (h:H) (Kn:K4) (Kr:K1) (Ke0:K4):Prop :=
 Kr (.int .i64 1) h
def yicm (h:H) (Kn:K4) (Kr:K1) (Ke0:K4):Prop :=
 Kr (.int .i64 5) h
def y9zl (x0 x1 x3 x9:Value) (h:H) (Kn:K5) (Kr:K1) (Ke0:K4):Prop :=
 y394 x0 fun v40=>y0wt 0 v40 fun v41=>u_pf false 1 1 x0 h fun v46=>(ybqh false 1 v41 h fun v42=>y9gb v46 h fun v47=>u_bin PG .sub T_int v42 v47 fun v48=>y2x6 .u64 v48 fun v49=>u_bin PG .gtr yxjj x9 v49 fun v50=>Kn x0 x1 x3 x9 v50 h)∧(y9gb v46 h fun v47=>ybqh false 1 v41 h fun v42=>u_bin PG .sub T_int v42 v47 fun v48=>y2x6 .u64 v48 fun v49=>u_bin PG .gtr yxjj x9 v49 fun v50=>Kn x0 x1 x3 x9 v50 h)
def yqq2 (x0 x1 x3 x9 x37:Value) (h:H) (Kn:K4) (Kr:K1) (Ke0:K4):Prop :=
 u_if x37 (Kr (.int .i64 6) h) (Kn x0 x1 x3 x9 h)
def y8u0 (x0 x1 x3 x9:Value) (h:H) (Kn:K4) (Kr:K1) (Ke0:K4):Prop :=
 y9zl x0 x1 x3 x9 h (fun y0 y1 y3 y9 y37 h=>yqq2 y0 y1 y3 y9 y37 h Kn Kr Ke0) Kr Ke0
def yix9 (x0 x1 x3 x9 x30:Value) (h:H) (Kn:K4) (Kr:K1) (Ke0:K4):Prop :=
 u_if x30 (yicm h Kn Kr Ke0) (y8u0 x0 x1 x3 x9 h Kn Kr Ke0)
def ybav (x0 x1 x3 x9:Value) (h:H) (Kn:K4) (Kr:K1) (Ke0:K4):Prop :=
 yjdf PG yoaz [x0,x1,x9] h fun v34 h=>ywmm v34 fun v35=>u_bin PG .gtr T_int v35 (.int .i64 0) fun v36=>yix9 x0 x1 x3 x9 v36 h Kn Kr Ke0
def y7dc (x0 x1 x3 x9 x19:Value) (h:H) (Kn:K4) (Kr:K1) (Ke0:K4):Prop :=
 u_if x19 (yqtw h Kn Kr Ke0) (ybav x0 x1 x3 x9 h Kn Kr Ke0)
def ymln (x0 x1 x3 x9 x10:Value) (h:H) (Kn:K4) (Kr:K1) (Ke0:K4):Prop :=
 u_un PG .not x10 fun v21=>ydv6 v21 false (fun k4=>u_bin PG .lss T_int x3 (.int .i64 0) fun v24=>k4 v24 h) (fun v24 h=>y9rg v21 (.bool true) v24 fun v25=>ydv6 v25 false (fun k8=>u_bin PG .gtr T_int x3 (.int .i64 7) fun v28=>k8 v28 h) (fun v28 h=>y9rg v25 (.bool true) v28 fun v29=>y7dc x0 x1 x3 x9 v29 h Kn Kr Ke0) h) h
def yfsm (x0 x1 x3 x9 x10:Value) (h:H) (Kn:K4) (Kr:K1):Prop :=
 ymln x0 x1 x3 x9 x10 h Kn Kr Kn
def ywdw (x0 x1 x3 x52 x53:Value) (h:H) (Kn:K5) (Kr:K1) (Ke1:K0):Prop :=
 u_bin PG .lss ycpa x53 x52 fun v54=>u_if v54 (u_bin PG .mul ycpa x53 (.int .u32 256) fun v58=>u_bin PG .add ycpa x1 v58 fun v59=>u_pf false 1 1 x0 h fun v63=>ysnr PG ynw2 [(1,x3)] fun v66=>boxV v66=true∧u_new (Value.cells v66).toList ynw2 .exact h fun b67 h=>yw4g (.int .u32) v63 v59 (.pointer (some ⟨b67,0,none⟩)) h fun h=>u_pf false 1 2 x0 h fun v71=>ylsp (.int .u32) (.int .u32 0) v71 v59 false h fun v73=>u_bin PG .add ycpa v73 (.int .u32 1) fun v74=>yw4g (.int .u32) v71 v59 v74 h fun h=>u_bin PG .add ycpa x53 (.int .u32 1) fun v75=>Kn x0 x1 x3 x52 v75 h) (Ke1 h)
def y9h0 (x0 x1 x3 x52 x53:Value) (h:H) (Kn:K0) (Kr:K1) (Ke1:K0):Prop :=
 sloop (S:=Value×Value×Value×Value×Value) (fun s h K=>ywdw s.1 s.2.1 s.2.2.1 s.2.2.2.1 s.2.2.2.2 h (fun y0 y1 y3 y52 y53 h=>K (y0,y1,y3,y52,y53) h) Kr Ke1) (x0,x1,x3,x52,x53) h
def yw9c (x0 x1 x3 x52 x53:Value) (h:H) (Kn:K0) (Kr:K1):Prop :=
 y9h0 x0 x1 x3 x52 x53 h Kn Kr Kn
def ymna (x0 x1 x3 x9:Value) (h:H) (Kn:K0) (Kr:K1):Prop :=
 y2x6 .u32 x9 fun v52=>yw9c x0 x1 x3 v52 (.int .u32 0) h Kn Kr
def yfl6 (h:H) (Kn Kr:K1):Prop :=
 Kr (.int .i64 0) h
def yye4 (x0 x1 x3 x9:Value) (h:H) (Kn Kr:K1):Prop :=
 ymna x0 x1 x3 x9 h (fun h=>yfl6 h Kn Kr) Kr
def ym1z (x0 x1 x3 x9 x10:Value) (h:H) (Kn Kr:K1):Prop :=
 yfsm x0 x1 x3 x9 x10 h (fun y0 y1 y3 y9 h=>yye4 y0 y1 y3 y9 h Kn Kr) Kr
def yldz (x0 x1 x2 x3:Value) (h:H) (Kn Kr:K1):Prop :=
 u_ct yhwx [x1,x2] h fun v16 h=>yvu8 v16 0 fun v17=>yvu8 v16 1 fun v18=>ym1z x0 x1 x3 v17 v18 h Kn Kr
theorem ych7 {Kn:K4} {Kr:K1} {Ke0:K4} {t:T} {h:H} (H0:ybav (t 0) (t 1) (t 3) (t 9) h Kn Kr Ke0):Wp PG 76 (cndY (rest 1 (blkC (seqL (rest 2 (ygjk Tryz.f212.body)))))) (mkQ (q4 Kn 0 1 3 9) (q1 Kr 8) (keAdd 0 (q4 Ke0 0 1 3 9) ke0)) t h :=
 (toE E5_ok 1 H0 fun t h (H:yix9 (t 0) (t 1) (t 3) (t 9) (t 30) h Kn Kr Ke0)=>(cdE H (fun H=>(wpE E5_ok H)) fun H=>(sqE (q5 (fun y0 y1 y3 y9 y37 h=>yqq2 y0 y1 y3 y9 y37 h Kn Kr Ke0) 0 1 3 9 37) (drP E5_ok [0,1,2,3,5,6,7,8] 4 9 [10,11,12,13] H) fun t h H=>(wpE E5_ok H))))
theorem yuh2 {Kn Kr:K1} {t:T} {h:H} (H0:ym1z (t 0) (t 1) (t 3) (t 9) (t 10) h Kn Kr):Wp PG 76 (rest 2 (ygjk Tryz.f212.body)) (mkQ (q1 Kn 8) (q1 Kr 8) ke0) t h :=
 (sqE (q4 (fun y0 y1 y3 y9 h=>yye4 y0 y1 y3 y9 h Kn Kr) 0 1 3 9) (bkE 0 (toE E5_ok 1 H0 fun t h (H:y7dc (t 0) (t 1) (t 3) (t 9) (t 19) h (fun y0 y1 y3 y9 h=>yye4 y0 y1 y3 y9 h Kn Kr) Kr (fun y0 y1 y3 y9 h=>yye4 y0 y1 y3 y9 h Kn Kr))=>(cdE H (fun H=>(wpE E5_ok H)) fun H=>(ych7 H)))) fun t h H=>(sqE (q0 (fun h=>yfl6 h Kn Kr)) (toE E5_ok 1 H fun t h (H:yw9c (t 0) (t 1) (t 3) (t 52) (t 53) h (fun h=>yfl6 h Kn Kr) Kr)=>(bkE 1 (lpE (fun t=>(t 0,t 1,t 3,t 52,t 53)) H fun t h K H=>(wpE E5_ok H)))) fun t h H=>(wpE E5_ok H)))
theorem y0tw {Kn Kr:K1} {t:T} {h:H} (H0:yldz (t 0) (t 1) (t 2) (t 3) h Kn Kr):Wp PG 76 (ygjk Tryz.f212.body) (mkQ (q1 Kn 8) (q1 Kr 8) ke0) t h :=
 (toE E5_ok 2 H0 fun t h (H:ym1z (t 0) (t 1) (t 3) (t 9) (t 10) h Kn Kr)=>(yuh2 H))
def yet8 (x0 x1 x2 x3:Value) (h:H) (Q:K1):Prop:=yldz x0 x1 x2 x3 h Q Q
theorem yxz0 (x0 x1 x2 x3:Value) (h:H) (Q:K1) (H0:yet8 x0 x1 x2 x3 h Q):AM.Spec PG yhif [x0,x1,x2,x3] h Q :=
 spH mixed Tryz.func212 [8] (y0tw H0)
def ykx0 (x0 x3 x9 x10:Value) (h:H) (Kn:K4) (Kr Ke0:K1):Prop :=
 u_pf false 1 1 x0 h fun v33=>ylsp (.int .u32) (.pointer none) v33 x10 false h fun v35=>u_bin PG .eql y14o v35 (.pointer none) fun v37=>ydv6 v37 false (fun k10=>u_pf false 1 256 v35 h fun v42=>u_bin PG .and T_int v42 x3 fun v44=>u_bin PG .neq T_int v44 x3 fun v46=>k10 v46 h) (fun v46 h=>y9rg v37 (.bool true) v46 fun v47=>u_if v47 (Kr (.bool false) h) (u_bin PG .eql ycpa x10 x9 fun v50=>u_if v50 (Kr (.bool true) h) (u_bin PG .add ycpa x10 (.int .u32 256) fun v29=>Kn x0 x3 x9 v29 h))) h
def yein (x0 x3 x9 x10:Value) (h:H) (Kn Kr Ke0:K1):Prop :=
 sloop (S:=Value×Value×Value×Value) (fun s h K=>ykx0 s.1 s.2.1 s.2.2.1 s.2.2.2 h (fun y0 y3 y9 y10 h=>K (y0,y3,y9,y10) h) Kr Ke0) (x0,x3,x9,x10) h
def yyrp (x0 x3 x9 x10:Value) (h:H) (Kn Kr:K1):Prop :=
 yein x0 x3 x9 x10 h Kn Kr Kn
def ymee (x0 x1 x2 x3:Value) (h:H) (Kn Kr:K1):Prop :=
 u_bin PG .eql T_int x2 (.int .i64 0) fun v13=>u_if v13 (Kr (.bool true) h) (y2x6 .u64 x1 fun v15=>y2x6 .u64 x2 fun v17=>u_bin PG .add yxjj v15 v17 fun v18=>u_bin PG .gtr yxjj v18 (.int .u64 4294967296) fun v19=>u_if v19 (Kr (.bool false) h) (u_bin PG .sub T_int x2 (.int .i64 1) fun v22=>y2x6 .u32 v22 fun v23=>u_bin PG .add ycpa x1 v23 fun v24=>u_ct ya8v [v24] h fun v25 h=>u_ct ya8v [x1] h fun v27 h=>yyrp x0 x3 v25 v27 h Kn Kr))
theorem ys2r {Kn Kr:K1} {t:T} {h:H} (H0:ymee (t 0) (t 1) (t 2) (t 3) h Kn Kr):Wp PG 51 (ygjk Tryz.f318.body) (mkQ (q1 Kn 8) (q1 Kr 8) ke0) t h :=
 (toE E5_ok 5 H0 fun t h (H:yyrp (t 0) (t 3) (t 9) (t 10) h Kn Kr)=>(bkE 0 (lpE (fun t=>(t 0,t 3,t 9,t 10)) H fun t h K H=>(wpE E5_ok H))))
def ys7u (x0 x1 x2 x3:Value) (h:H) (Q:K1):Prop:=ymee x0 x1 x2 x3 h Q Q
theorem y4nd (x0 x1 x2 x3:Value) (h:H) (Q:K1) (H0:ys7u x0 x1 x2 x3 h Q):AM.Spec PG y5ga [x0,x1,x2,x3] h Q :=
 spH mixed Tryz.func318 [8] (ys2r H0)
def yfgr (x0 x1 x11 x12 x13 x27 x28 x29:Value) (h:H) (Kn:K7) (Kr:K1) (Ke2:K5) (Ke1:K0):Prop :=
 u_pf false 1 1 x0 h fun v41=>u_ct ya8v [x13] h fun v43 h=>ylsp (.int .u32) (.pointer none) v41 v43 false h fun v44=>u_bin PG .rem ycpa x13 (.int .u32 256) fun v46=>y394 v44 fun v48=>y0wt 0 v48 fun v49=>yji6 (some 256) 1 v49 v46 fun v50=>ylel 1 v50 x12 h fun h=>Kn x0 x1 x11 x13 x27 x28 x29 h
def yxcz (x0 x1 x13 x27 x28 x29:Value) (h:H) (Kn:K5) (Kr:K1) (Ke2:K5) (Ke1:K0):Prop :=
 u_pf false 1 2 x0 h fun v61=>u_ct ya8v [x13] h fun v63 h=>ylsp (.int .u32) (.int .u32 0) v61 v63 false h fun v64=>u_bin PG .add ycpa v64 (.int .u32 1) fun v65=>yw4g (.int .u32) v61 v63 v65 h fun h=>Kn x0 x1 x27 x28 x29 h
def ynls (x0 x1 x27 x28 x29:Value) (h:H) (Kn:K5) (Kr:K1) (Ke2:K5) (Ke1:K0):Prop :=
 Kn x0 x1 x27 x28 x29 h
def ykez (x0 x1 x13 x27 x28 x29 x57:Value) (h:H) (Kn:K5) (Kr:K1) (Ke2:K5) (Ke1:K0):Prop :=
 u_if x57 (yxcz x0 x1 x13 x27 x28 x29 h Kn Kr Ke2 Ke1) (ynls x0 x1 x27 x28 x29 h Kn Kr Ke2 Ke1)
def y5yv (x0 x1 x11 x13 x27 x28 x29:Value) (h:H) (Kn:K5) (Kr:K1) (Ke2:K5) (Ke1:K0):Prop :=
 u_bin PG .eql T_int x11 (.int .i64 0) fun v52=>ydv6 v52 false (fun k5=>u_bin PG .rem ycpa x13 (.int .u32 256) fun v55=>u_bin PG .eql ycpa v55 (.int .u32 0) fun v56=>k5 v56 h) (fun v56 h=>y9rg v52 (.bool true) v56 fun v57=>ykez x0 x1 x13 x27 x28 x29 v57 h Kn Kr Ke2 Ke1) h
def yspp (x0 x1 x11 x12 x13 x27 x28 x29:Value) (h:H) (Kn:K5) (Kr:K1) (Ke2:K5) (Ke1:K0):Prop :=
 yfgr x0 x1 x11 x12 x13 x27 x28 x29 h (fun y0 y1 y11 y13 y27 y28 y29 h=>y5yv y0 y1 y11 y13 y27 y28 y29 h Kn Kr Ke2 Ke1) Kr Ke2 Ke1
def yk5g (x0 x1 x27 x28 x29:Value) (h:H) (Kn:K5) (Kr:K1) (Ke2:K5) (Ke1:K0):Prop :=
 u_ix false 1 none x27 x29 h fun v33=>y2x6 .u32 x29 fun v36=>u_bin PG .add ycpa x1 v36 fun v37=>yspp x0 x1 x29 v33 v37 x27 x28 x29 h Kn Kr Ke2 Ke1
def yciq (x0 x1 x27 x28 x29:Value) (h:H) (Kn:K5) (Kr:K1) (Ke1:K0):Prop :=
 yk5g x0 x1 x27 x28 x29 h Kn Kr Kn Ke1
def yrlv (x0 x1 x27 x28 x29:Value) (h:H) (Kn:K5) (Kr:K1) (Ke1:K0):Prop :=
 u_bin PG .add T_int x29 (.int .i64 1) fun v66=>Kn x0 x1 x27 x28 v66 h
def yy9m (x0 x1 x27 x28 x29:Value) (h:H) (Kn:K5) (Kr:K1) (Ke1:K0):Prop :=
 yciq x0 x1 x27 x28 x29 h (fun y0 y1 y27 y28 y29 h=>yrlv y0 y1 y27 y28 y29 h Kn Kr Ke1) Kr Ke1
def ygfq (x0 x1 x27 x28 x29:Value) (h:H) (Kn:K5) (Kr:K1) (Ke1:K0):Prop :=
 u_bin PG .lss T_int x29 x28 fun v30=>u_if v30 (yy9m x0 x1 x27 x28 x29 h Kn Kr Ke1) (Ke1 h)
def ynbe (x0 x1 x27 x28 x29:Value) (h:H) (Kn:K0) (Kr:K1) (Ke1:K0):Prop :=
 sloop (S:=Value×Value×Value×Value×Value) (fun s h K=>ygfq s.1 s.2.1 s.2.2.1 s.2.2.2.1 s.2.2.2.2 h (fun y0 y1 y27 y28 y29 h=>K (y0,y1,y27,y28,y29) h) Kr Ke1) (x0,x1,x27,x28,x29) h
def ypn0 (x0 x1 x27 x28 x29:Value) (h:H) (Kn:K0) (Kr:K1):Prop :=
 ynbe x0 x1 x27 x28 x29 h Kn Kr Kn
def ylg6 (x0 x1 x2:Value) (h:H) (Kn:K0) (Kr:K1):Prop :=
 ywmm x2 fun v28=>ypn0 x0 x1 x2 v28 (.int .i64 0) h Kn Kr
def yn0i (h:H) (Kn Kr:K1):Prop :=
 Kr (.int .i64 0) h
def yp28 (x0 x1 x2:Value) (h:H) (Kn Kr:K1):Prop :=
 ylg6 x0 x1 x2 h (fun h=>yn0i h Kn Kr) Kr
def ys96 (x0 x1 x2 x3 x4:Value) (h:H) (Kn Kr:K1):Prop :=
 ywmm x2 fun v16=>u_bin PG .gtr T_int v16 x3 fun v18=>u_if v18 (Kr (.int .i64 1) h) (ywmm x2 fun v23=>yjdf PG y5ga [x0,x1,v23,x4] h fun v25 h=>u_un PG .not v25 fun v26=>u_if v26 (Kr (.int .i64 8) h) (yp28 x0 x1 x2 h Kn Kr))
theorem yzvn {Kn:K5} {Kr:K1} {Ke2:K5} {Ke1:K0} {t:T} {h:H} (H0:yk5g (t 0) (t 1) (t 27) (t 28) (t 29) h Kn Kr Ke2 Ke1):Wp PG 67 (blkC (seqL (rest 2 (lopC (blkC (rest 1 (seqL (rest 2 (ygjk Tryz.f276.body))))))))) (mkQ (q5 Kn 0 1 27 28 29) (q1 Kr 10) (keAdd 2 (q5 Ke2 0 1 27 28 29) (keAdd 1 (q0 Ke1) ke0))) t h :=
 (toE E5_ok 2 H0 fun t h (H:yspp (t 0) (t 1) (t 11) (t 12) (t 13) (t 27) (t 28) (t 29) h Kn Kr Ke2 Ke1)=>(sqE (fun t h=>(fun y0 y1 y11 y13 y27 y28 y29 h=>y5yv y0 y1 y11 y13 y27 y28 y29 h Kn Kr Ke2 Ke1) (t 0) (t 1) (t 11) (t 13) (t 27) (t 28) (t 29) h) (drE E5_ok [0,1,2,3,4,5,6,7,8,9,10,11,12,13] H) fun t h H=>(toE E5_ok 1 H fun t h (H:ykez (t 0) (t 1) (t 13) (t 27) (t 28) (t 29) (t 57) h Kn Kr Ke2 Ke1)=>(cdE H (fun H=>(drE E5_ok [0,1,2,3,4,5,6,7,8] H)) fun H=>(wpE E5_ok H)))))
theorem yzkz {Kn:K5} {Kr:K1} {Ke1:K0} {t:T} {h:H} (H0:yciq (t 0) (t 1) (t 27) (t 28) (t 29) h Kn Kr Ke1):Wp PG 67 (seqL (rest 2 (lopC (blkC (rest 1 (seqL (rest 2 (ygjk Tryz.f276.body)))))))) (mkQ (q5 Kn 0 1 27 28 29) (q1 Kr 10) (keAdd 1 (q0 Ke1) ke0)) t h :=
 (bkE 2 (yzvn H0))
theorem ykiu {Kn Kr:K1} {t:T} {h:H} (H0:yp28 (t 0) (t 1) (t 2) h Kn Kr):Wp PG 67 (rest 2 (ygjk Tryz.f276.body)) (mkQ (q1 Kn 10) (q1 Kr 10) ke0) t h :=
 (sqE (q0 (fun h=>yn0i h Kn Kr)) (toE E5_ok 1 H0 fun t h (H:ypn0 (t 0) (t 1) (t 27) (t 28) (t 29) h (fun h=>yn0i h Kn Kr) Kr)=>(bkE 1 (lpE (fun t=>(t 0,t 1,t 27,t 28,t 29)) H fun t h K H=>(toE E5_ok 2 H fun t h (H:yy9m (t 0) (t 1) (t 27) (t 28) (t 29) h (fun y0 y1 y27 y28 y29 h=>K (y0,y1,y27,y28,y29) h) Kr (fun h=>yn0i h Kn Kr))=>(sqE _ (yzkz H) fun t h H=>(wpE E5_ok H)))))) fun t h H=>(wpE E5_ok H))
theorem ys9p {Kn Kr:K1} {t:T} {h:H} (H0:ys96 (t 0) (t 1) (t 2) (t 3) (t 4) h Kn Kr):Wp PG 67 (ygjk Tryz.f276.body) (mkQ (q1 Kn 10) (q1 Kr 10) ke0) t h :=
 (toE E5_ok 2 H0 fun t h (H:yp28 (t 0) (t 1) (t 2) h Kn Kr)=>(ykiu H))
def yzwx (x0 x1 x2 x3 x4:Value) (h:H) (Q:K1):Prop:=ys96 x0 x1 x2 x3 x4 h Q Q
theorem yeyj (x0 x1 x2 x3 x4:Value) (h:H) (Q:K1) (H0:yzwx x0 x1 x2 x3 x4 h Q):AM.Spec PG yuzq [x0,x1,x2,x3,x4] h Q :=
 spH mixed Tryz.func276 [10] (ys9p H0)
def yex1 (x0 x1 x2:Value) (h:H) (Kn Kr:K1):Prop :=
 yjdf PG yuzq [x0,x1,x2,(.int .i64 65536),(.int .i64 0)] h fun v10 h=>Kr v10 h
def y9oh (x0 x1 x2:Value) (h:H) (Q:K1):Prop:=yex1 x0 x1 x2 h Q Q
theorem ygwh (x0 x1 x2:Value) (h:H) (Q:K1) (H0:y9oh x0 x1 x2 h Q):AM.Spec PG ylv9 [x0,x1,x2] h Q :=
 spE mixed E5_ok Tryz.func213 [6] H0
end Go.Proofs.YtnckimioabkheaaGreat
set_option linter.unusedVariables false
set_option maxRecDepth 100000
namespace Go.Proofs.YtnckimioabkheaaGreat
open Go.Proofs.YtnckimioabkheaaGreat.AM
@[simp] theorem ymi3 {K:Value→Prop} {u:Dm K}:ysnr PG yc0x [] K u=K (.agg #[.int .i64 0,.int .i64 0,.int .i64 0,.int .i64 0,.int .i32 0]):=by kernel_rfl
@[simp] theorem yis3 {K:Value→Prop} {u:Dm K}:ysnr PG yrjx [] K u=K (.agg #[.int .u32 0,.slice none 0 0,.int .u32 0]):=by kernel_rfl
@[simp] theorem ysmw {a0:Int} {a2:Int} {K:Value→Prop} {u:Dm K}:ysnr PG yrjx [(0,.int .u32 a0),(2,.int .u32 a2)] K u=K (.agg #[.int .u32 a0,.slice none 0 0,.int .u32 a2]):=by kernel_rfl
@[simp] theorem ykxh {K:Value→Prop} {u:Dm K}:ysnr PG ys2z [] K u=K (.agg #[.int .i64 0,.int .u32 0,.int .i64 0]):=by kernel_rfl
@[simp] theorem y8w7 {a0:Int} {a1:Int} {K:Value→Prop} {u:Dm K}:ysnr PG ys2z [(0,.int .i64 a0),(1,.int .u32 a1)] K u=K (.agg #[.int .i64 a0,.int .u32 a1,.int .i64 0]):=by kernel_rfl
@[simp] theorem ynga {a0:Int} {a1:Int} {a2:Int} {K:Value→Prop} {u:Dm K}:ysnr PG ys2z [(0,.int .i64 a0),(1,.int .u32 a1),(2,.int .i64 a2)] K u=K (.agg #[.int .i64 a0,.int .u32 a1,.int .i64 a2]):=by kernel_rfl
@[simp] theorem y4dy {a0_0:Int} {a0_1:Int} {a0_2:Int} {a0_3:Int} {a0_4:Int} {h:H} {K:K1} {u:Dm K}:ynqb PG ywqg 1 [(0,.agg #[.int .i64 a0_0,.int .i64 a0_1,.int .i64 a0_2,.int .i64 a0_3,.int .i32 a0_4])] h K u=u_new [.int .i64 a0_0,.int .i64 a0_1,.int .i64 a0_2,.int .i64 a0_3,.int .i32 a0_4] yc0x .exact h fun b h=>K (.slice (some ⟨b,0,none⟩) 1 1) h:=by kernel_rfl
def yugv (x0 x1:Value) (h:H) (Kn Kr:K1):Prop :=
 u_pf false 1 2 x0 h fun v8=>u_ct ya8v [x1] h fun v10 h=>ylsp (.int .u32) (.int .u32 0) v8 v10 false h fun v11=>Kn v11 h
def yi3o (x4:Value) (h:H) (Kn Kr:K1):Prop :=
 Kr x4 h
def ypmw (x0 x1:Value) (h:H) (Kn Kr:K1):Prop :=
 yugv x0 x1 h (fun y4 h=>yi3o y4 h Kn Kr) Kr
def ytwj (x0 x1:Value) (h:H) (Kn Kr:K1):Prop :=
 ypmw x0 x1 h Kn Kr
theorem y8y9 {Kn Kr:K1} {t:T} {h:H} (H0:ytwj (t 0) (t 1) h Kn Kr):Wp PG 12 (ygjk Tryz.f48.body) (mkQ (q1 Kn 4) (q1 Kr 4) ke0) t h :=
 (toE E5_ok 1 H0 fun t h (H:ypmw (t 0) (t 1) h Kn Kr)=>(sqE (q1 (fun y4 h=>yi3o y4 h Kn Kr) 4) (drE E5_ok [0,1,2,3,4,5,6,7] H) fun t h H=>(wpE E5_ok H)))
def y3mp (x0 x1:Value) (h:H) (Q:K1):Prop:=ytwj x0 x1 h Q Q
theorem ytx7 (x0 x1:Value) (h:H) (Q:K1) (H0:y3mp x0 x1 h Q):AM.Spec PG yd4l [x0,x1] h Q :=
 spH mixed Tryz.func48 [4] (y8y9 H0)
def y8xn (x0 x1 x3:Value) (h:H) (Kn Kr:K2):Prop :=
 u_pf false 1 1 x0 h fun v31=>u_ct ya8v [x1] h fun v33 h=>ylsp (.int .u32) (.pointer none) v31 v33 false h fun v34=>Kn x3 v34 h
def y74p (x3 x10:Value) (h:H) (Kn Kr:K2):Prop :=
 u_bin PG .eql y14o x10 (.pointer none) fun v37=>u_if v37 (Kr (.pointer none) (.int .i64 1) h) (u_pf false 1 256 x10 h fun v42=>u_bin PG .and T_int v42 x3 fun v44=>u_bin PG .neq T_int v44 x3 fun v46=>u_if v46 (Kr (.pointer none) (.int .i64 2) h) (Kr x10 (.int .i64 0) h))
def ygob (x0 x1 x3:Value) (h:H) (Kn Kr:K2):Prop :=
 y8xn x0 x1 x3 h (fun y3 y10 h=>y74p y3 y10 h Kn Kr) Kr
def yw8q (x0 x1 x2 x3:Value) (h:H) (Kn Kr:K2):Prop :=
 u_bin PG .neq T_int x2 (.int .i64 1) fun v12=>ydv6 v12 true (fun k4=>u_bin PG .neq T_int x2 (.int .i64 2) fun v15=>k4 v15 h) (fun v15 h=>y9rg v12 v15 (.bool false) fun v16=>ydv6 v16 true (fun k8=>u_bin PG .neq T_int x2 (.int .i64 4) fun v19=>k8 v19 h) (fun v19 h=>y9rg v16 v19 (.bool false) fun v20=>ydv6 v20 false (fun k15=>y2x6 .u32 x2 fun v24=>u_bin PG .rem ycpa x1 v24 fun v25=>u_bin PG .neq ycpa v25 (.int .u32 0) fun v26=>k15 v26 h) (fun v26 h=>y9rg v20 (.bool true) v26 fun v27=>u_if v27 (Kr (.pointer none) (.int .i64 3) h) (ygob x0 x1 x3 h Kn Kr)) h) h) h
theorem yjc7 {Kn Kr:K2} {t:T} {h:H} (H0:yw8q (t 0) (t 1) (t 2) (t 3) h Kn Kr):Wp PG 48 (ygjk Tryz.f225.body) (mkQ (q2 Kn 8 9) (q2 Kr 8 9) ke0) t h :=
 (toE E5_ok 2 H0 fun t h (H:ygob (t 0) (t 1) (t 3) h Kn Kr)=>(sqE (q2 (fun y3 y10 h=>y74p y3 y10 h Kn Kr) 3 10) (drE E5_ok [0,1,2,3,4,5,6,7] H) fun t h H=>(wpE E5_ok H)))
def y42a (x0 x1 x2 x3:Value) (h:H) (Q:K1):Prop:=yw8q x0 x1 x2 x3 h (fun y8 y9 h=>bif [y8,y9].all boxV then Q (.tuple #[y8,y9]) h else False) (fun y8 y9 h=>bif [y8,y9].all boxV then Q (.tuple #[y8,y9]) h else False)
theorem ym2q (x0 x1 x2 x3:Value) (h:H) (Q:K1) (H0:y42a x0 x1 x2 x3 h Q):AM.Spec PG yd5h [x0,x1,x2,x3] h Q :=
 spH mixed Tryz.func225 [8,9] (yjc7 H0)
def y6qk (x1 x10 x12 x26 x27:Value) (h:H) (Kn:K5) (Kr:K2) (Ke0:K1):Prop :=
 u_bin PG .lss ycpa x27 x26 fun v28=>u_if v28 (u_bin PG .rem ycpa x1 (.int .u32 256) fun v33=>u_bin PG .add ycpa v33 x27 fun v35=>y394 x10 fun v36=>y0wt 0 v36 fun v37=>u_ix false 1 (some 256) v37 v35 h fun v39=>y2x6 .u32 v39 fun v40=>u_bin PG .mul ycpa (.int .u32 8) x27 fun v42=>u_bin PG .shl ycpa v40 v42 fun v43=>u_bin PG .or ycpa x12 v43 fun v44=>u_bin PG .add ycpa x27 (.int .u32 1) fun v45=>Kn x1 x10 v44 x26 v45 h) (Ke0 x12 h)
def ye5b (x1 x10 x12 x26 x27:Value) (h:H) (Kn:K1) (Kr:K2) (Ke0:K1):Prop :=
 sloop (S:=Value×Value×Value×Value×Value) (fun s h K=>y6qk s.1 s.2.1 s.2.2.1 s.2.2.2.1 s.2.2.2.2 h (fun y1 y10 y12 y26 y27 h=>K (y1,y10,y12,y26,y27) h) Kr Ke0) (x1,x10,x12,x26,x27) h
def y1l8 (x1 x10 x12 x26 x27:Value) (h:H) (Kn:K1) (Kr:K2):Prop :=
 ye5b x1 x10 x12 x26 x27 h Kn Kr Kn
def y7ix (x1 x2 x10 x12:Value) (h:H) (Kn:K1) (Kr:K2):Prop :=
 y2x6 .u32 x2 fun v26=>y1l8 x1 x10 x12 v26 (.int .u32 0) h Kn Kr
def yevb (x12:Value) (h:H) (Kn Kr:K2):Prop :=
 Kr x12 (.int .i64 0) h
def ynot (x1 x2 x10 x12:Value) (h:H) (Kn Kr:K2):Prop :=
 y7ix x1 x2 x10 x12 h (fun y12 h=>yevb y12 h Kn Kr) Kr
def yvxg (x0 x1 x2 x3:Value) (h:H) (Kn Kr:K2):Prop :=
 yjdf PG yd5h [x0,x1,x2,x3] h fun v19 h=>yvu8 v19 0 fun v20=>yvu8 v19 1 fun v21=>u_bin PG .neq yp70 v21 (.int .i64 0) fun v23=>u_if v23 (Kr (.int .u32 0) v21 h) (ynot x1 x2 v20 (.int .u32 0) h Kn Kr)
theorem y5ts {Kn Kr:K2} {t:T} {h:H} (H0:yvxg (t 0) (t 1) (t 2) (t 3) h Kn Kr):Wp PG 47 (ygjk Tryz.f154.body) (mkQ (q2 Kn 8 9) (q2 Kr 8 9) ke0) t h :=
 (toE E5_ok 4 H0 fun t h (H:ynot (t 1) (t 2) (t 10) (t 12) h Kn Kr)=>(sqE (q1 (fun y12 h=>yevb y12 h Kn Kr) 12) (toE E5_ok 1 H fun t h (H:y1l8 (t 1) (t 10) (t 12) (t 26) (t 27) h (fun y12 h=>yevb y12 h Kn Kr) Kr)=>(bkE 0 (lpE (fun t=>(t 1,t 10,t 12,t 26,t 27)) H fun t h K H=>(wpE E5_ok H)))) fun t h H=>(wpE E5_ok H)))
def yyx4 (x0 x1 x2 x3:Value) (h:H) (Q:K1):Prop:=yvxg x0 x1 x2 x3 h (fun y8 y9 h=>bif [y8,y9].all boxV then Q (.tuple #[y8,y9]) h else False) (fun y8 y9 h=>bif [y8,y9].all boxV then Q (.tuple #[y8,y9]) h else False)
theorem yrmj (x0 x1 x2 x3:Value) (h:H) (Q:K1) (H0:yyx4 x0 x1 x2 x3 h Q):AM.Spec PG yvz0 [x0,x1,x2,x3] h Q :=
 spH mixed Tryz.func154 [8,9] (y5ts H0)
def y7mt (x0 x1 x31:Value) (h:H) (Kn Kr:K3):Prop :=
 u_new [.int .i64 0,.int .i64 0,.int .i64 0,.int .i64 0,.int .i32 0] yc0x .exact h fun b4 h=>u_new [.int .i64 0,.int .u32 0,.int .i64 0] ys2z .exact h fun b5 h=>yjdf PG yvz0 [x0,x1,(.int .i64 4),(.int .i64 4)] h fun v12 h=>yvu8 v12 0 fun v13=>yvu8 v12 1 fun v14=>u_bin PG .neq yp70 v14 (.int .i64 0) fun v16=>u_if v16 (ysnr PG yc0x [] fun v17=>ysnr PG ys2z [(0,(.int .i64 1)),(1,x1),(2,v14)] fun v20=>ylel 5 (.pointer (some ⟨b4,0,none⟩)) v17 h fun h=>ylel 3 (.pointer (some ⟨b5,0,none⟩)) v20 h fun h=>Kr (.pointer (some ⟨b4,0,none⟩)) (.pointer (some ⟨b5,0,none⟩)) x31 h) (u_ct yevm [v13] h fun v22 h=>u_new [.int .i64 0,.int .i64 0,.int .i64 0,.int .i64 0,.int .i32 0] yc0x .exact h fun b8 h=>ylel 5 (.pointer (some ⟨b8,0,none⟩)) v22 h fun h=>u_bf false 1 0 (.pointer (some ⟨b8,0,none⟩)) h fun v24=>u_bin PG .eql T_int v24 (.int .i64 0) fun v25=>u_if v25 (ysnr PG yc0x [] fun v26=>ysnr PG ys2z [(0,(.int .i64 2)),(1,x1)] fun v28=>ylel 5 (.pointer (some ⟨b4,0,none⟩)) v26 h fun h=>ylel 3 (.pointer (some ⟨b5,0,none⟩)) v28 h fun h=>Kr (.pointer (some ⟨b4,0,none⟩)) (.pointer (some ⟨b5,0,none⟩)) x31 h) (ybqh true 5 (.pointer (some ⟨b8,0,none⟩)) h fun v29=>ysnr PG ys2z [] fun v30=>ylel 5 (.pointer (some ⟨b4,0,none⟩)) v29 h fun h=>ylel 3 (.pointer (some ⟨b5,0,none⟩)) v30 h fun h=>Kr (.pointer (some ⟨b4,0,none⟩)) (.pointer (some ⟨b5,0,none⟩)) x31 h))
theorem yx8c {Kn Kr:K3} {t:T} {h:H} (H0:y7mt (t 0) (t 1) (t 31) h Kn Kr):Wp PG 31 (ygjk Tryz.f49.body) (mkQ (q3 Kn 4 5 31) (q3 Kr 4 5 31) ke0) t h :=
 (wpE E5_ok H0)
def yk52 (x0 x1:Value) (h:H) (Q:K1):Prop:=y7mt x0 x1 undef h (fun y4 y5 y31 h=>o_ret y31 h (fun h=>ybqh true 5 y4 h fun v0=>ybqh true 3 y5 h fun v1=>[v0,v1].all boxV=true∧Q (.tuple #[v0,v1]) h)) (fun y4 y5 y31 h=>o_ret y31 h (fun h=>ybqh true 5 y4 h fun v0=>ybqh true 3 y5 h fun v1=>[v0,v1].all boxV=true∧Q (.tuple #[v0,v1]) h))
theorem yr69 (x0 x1:Value) (h:H) (Q:K1) (H0:yk52 x0 x1 h Q):AM.Spec PG y0l5 [x0,x1] h Q :=
 spS mixed Tryz.func49 [.cell 4 119 true 5,.cell 5 45 true 3] (yx8c H0)
def y7yi (x6 x7 x11 x60:Value) (h:H) (Kn Kr:K3) (Ke1:K8) (Ke0:K4):Prop :=
 ysnr PG yrjx [] fun v48=>(ybqh true 3 x11 h fun v49=>ylel 3 x6 v48 h fun h=>ylel 3 x7 v49 h fun h=>Kn x6 x7 x60 h)∧(ylel 3 x6 v48 h fun h=>ybqh true 3 x11 h fun v49=>ylel 3 x7 v49 h fun h=>Kn x6 x7 x60 h)
def yxgf (x6 x7 x60:Value) (h:H) (Kn:K4) (Kr:K3) (Ke1:K8) (Ke0:K4):Prop :=
 Kr x6 x7 x60 h
def y6lp (x6 x7 x11 x60:Value) (h:H) (Kn:K4) (Kr:K3) (Ke1:K8) (Ke0:K4):Prop :=
 y7yi x6 x7 x11 x60 h (fun y6 y7 y60 h=>yxgf y6 y7 y60 h Kn Kr Ke1 Ke0) Kr Ke1 Ke0
def yhwb (x6 x7 x8 x60:Value) (h:H) (Kn:K4) (Kr:K3) (Ke1:K8) (Ke0:K4):Prop :=
 Kn x6 x7 x8 x60 h
def y5bu (x6 x7 x8 x11 x47 x60:Value) (h:H) (Kn:K4) (Kr:K3) (Ke1:K8) (Ke0:K4):Prop :=
 u_if x47 (y6lp x6 x7 x11 x60 h Kn Kr Ke1 Ke0) (yhwb x6 x7 x8 x60 h Kn Kr Ke1 Ke0)
def yfne (x6 x7 x8 x11 x60:Value) (h:H) (Kn:K4) (Kr:K3) (Ke1:K8) (Ke0:K4):Prop :=
 u_bf false 1 1 x8 h fun v45=>ywmm v45 fun v46=>u_bin PG .eql T_int v46 (.int .i64 0) fun v47=>y5bu x6 x7 x8 x11 v47 x60 h Kn Kr Ke1 Ke0
def y9i3 (x6 x7 x8 x60:Value) (h:H) (Kn:(Value→Value→Value→Value→Value→Value→Value→Value→Value→H→Prop)) (Kr:K3) (Ke1:K8) (Ke0:K4):Prop :=
 Ke0 x6 x7 x8 x60 h
def yt27 (x6 x7 x8 x11 x60:Value) (h:H) (Kn:(Value→Value→Value→Value→Value→Value→Value→Value→Value→H→Prop)) (Kr:K3) (Ke1:K8) (Ke0:K4):Prop :=
 yfne x6 x7 x8 x11 x60 h (fun y6 y7 y8 y60 h=>y9i3 y6 y7 y8 y60 h Kn Kr Ke1 Ke0) Kr Ke1 Ke0
def yq4b (x0 x1 x2 x6 x7 x8 x9 x10 x60:Value) (h:H) (Kn:(Value→Value→Value→Value→Value→Value→Value→Value→Value→H→Prop)) (Kr:K3) (Ke1:K8) (Ke0:K4):Prop :=
 Kn x0 x1 x2 x6 x7 x8 x9 x10 x60 h
def ysyq (x0 x1 x2 x6 x7 x8 x9 x10 x11 x43 x60:Value) (h:H) (Kn:(Value→Value→Value→Value→Value→Value→Value→Value→Value→H→Prop)) (Kr:K3) (Ke1:K8) (Ke0:K4):Prop :=
 u_if x43 (yt27 x6 x7 x8 x11 x60 h Kn Kr Ke1 Ke0) (yq4b x0 x1 x2 x6 x7 x8 x9 x10 x60 h Kn Kr Ke1 Ke0)
def yqdk (x0 x1 x2 x6 x7 x8 x9 x10 x11 x60:Value) (h:H) (Kn:(Value→Value→Value→Value→Value→Value→Value→Value→Value→H→Prop)) (Kr:K3) (Ke1:K8) (Ke0:K4):Prop :=
 u_bf false 1 0 x11 h fun v42=>u_bin PG .neq T_int v42 (.int .i64 0) fun v43=>ysyq x0 x1 x2 x6 x7 x8 x9 x10 x11 v43 x60 h Kn Kr Ke1 Ke0
def yrxt (x0 x1 x2 x6 x7 x8 x9 x10 x60:Value) (h:H) (Kn:K8) (Kr:K3) (Ke1:K8) (Ke0:K4):Prop :=
 u_bf false 1 1 x8 h fun v51=>ybqh true 5 x10 h fun v52=>ynqb PG ywqg 1 [(0,v52)] h fun v53 h=>yx4h yc0x 5 40 v51 v53 h fun v54 h=>u_st 1 1 x8 v54 h fun h=>ybqh true 5 x10 h fun v56=>u_ct yuz9 [v56] h fun v57 h=>u_if v57 (Ke0 x6 x7 x8 x60 h) (Kn x0 x1 x2 x6 x7 x8 x9 x60 h)
def ytml (x0 x1 x2 x6 x7 x8 x9 x10 x11 x60:Value) (h:H) (Kn:K8) (Kr:K3) (Ke1:K8) (Ke0:K4):Prop :=
 yqdk x0 x1 x2 x6 x7 x8 x9 x10 x11 x60 h (fun y0 y1 y2 y6 y7 y8 y9 y10 y60 h=>yrxt y0 y1 y2 y6 y7 y8 y9 y10 y60 h Kn Kr Ke1 Ke0) Kr Ke1 Ke0
def y6cd (x0 x1 x2 x6 x7 x8 x9 x60:Value) (h:H) (Kn:K8) (Kr:K3) (Ke1:K8) (Ke0:K4):Prop :=
 yjdf PG y0l5 [x0,x9] h fun v38 h=>yvu8 v38 0 fun v39=>yvu8 v38 1 fun v40=>u_new [.int .i64 0,.int .i64 0,.int .i64 0,.int .i64 0,.int .i32 0] yc0x .exact h fun b10 h=>u_new [.int .i64 0,.int .u32 0,.int .i64 0] ys2z .exact h fun b11 h=>ylel 5 (.pointer (some ⟨b10,0,none⟩)) v39 h fun h=>ylel 3 (.pointer (some ⟨b11,0,none⟩)) v40 h fun h=>ytml x0 x1 x2 x6 x7 x8 x9 (.pointer (some ⟨b10,0,none⟩)) (.pointer (some ⟨b11,0,none⟩)) x60 h Kn Kr Ke1 Ke0
def y6bj (x0 x1 x2 x6 x7 x8 x9 x60:Value) (h:H) (Kn:K8) (Kr:K3) (Ke0:K4):Prop :=
 y6cd x0 x1 x2 x6 x7 x8 x9 x60 h Kn Kr Kn Ke0
def yoap (x0 x1 x2 x6 x7 x8 x9 x60:Value) (h:H) (Kn:K8) (Kr:K3) (Ke0:K4):Prop :=
 u_bin PG .add ycpa x9 (.int .u32 4) fun v34=>Kn x0 x1 x2 x6 x7 x8 v34 x60 h
def ybfi (x0 x1 x2 x6 x7 x8 x9 x60:Value) (h:H) (Kn:K8) (Kr:K3) (Ke0:K4):Prop :=
 y6bj x0 x1 x2 x6 x7 x8 x9 x60 h (fun y0 y1 y2 y6 y7 y8 y9 y60 h=>yoap y0 y1 y2 y6 y7 y8 y9 y60 h Kn Kr Ke0) Kr Ke0
def y26c (x0 x1 x2 x6 x7 x8 x9 x60:Value) (h:H) (Kn:K8) (Kr:K3) (Ke0:K4):Prop :=
 u_bf false 1 1 x8 h fun v22=>ywmm v22 fun v23=>u_bin PG .lss T_int v23 x2 fun v25=>ydv6 v25 true (fun k10=>u_bin PG .quo ycpa x9 (.int .u32 256) fun v28=>u_bin PG .quo ycpa x1 (.int .u32 256) fun v30=>u_bin PG .eql ycpa v28 v30 fun v31=>k10 v31 h) (fun v31 h=>y9rg v25 v31 (.bool false) fun v32=>u_if v32 (ybfi x0 x1 x2 x6 x7 x8 x9 x60 h Kn Kr Ke0) (Ke0 x6 x7 x8 x60 h)) h
def yogf (x0 x1 x2 x6 x7 x8 x9 x60:Value) (h:H) (Kn:K4) (Kr:K3) (Ke0:K4):Prop :=
 sloop (S:=Value×Value×Value×Value×Value×Value×Value×Value) (fun s h K=>y26c s.1 s.2.1 s.2.2.1 s.2.2.2.1 s.2.2.2.2.1 s.2.2.2.2.2.1 s.2.2.2.2.2.2.1 s.2.2.2.2.2.2.2 h (fun y0 y1 y2 y6 y7 y8 y9 y60 h=>K (y0,y1,y2,y6,y7,y8,y9,y60) h) Kr Ke0) (x0,x1,x2,x6,x7,x8,x9,x60) h
def y4u0 (x0 x1 x2 x6 x7 x8 x9 x60:Value) (h:H) (Kn:K4) (Kr:K3):Prop :=
 yogf x0 x1 x2 x6 x7 x8 x9 x60 h Kn Kr Kn
def y0i9 (x0 x1 x2 x6 x7 x8 x60:Value) (h:H) (Kn:K4) (Kr:K3):Prop :=
 y4u0 x0 x1 x2 x6 x7 x8 x1 x60 h Kn Kr
def y3t4 (x6 x7 x8 x60:Value) (h:H) (Kn Kr:K3):Prop :=
 ybqh true 3 x8 h fun v58=>ysnr PG ys2z [] fun v59=>ylel 3 x6 v58 h fun h=>ylel 3 x7 v59 h fun h=>Kr x6 x7 x60 h
def ynoy (x0 x1 x2 x6 x7 x8 x60:Value) (h:H) (Kn Kr:K3):Prop :=
 y0i9 x0 x1 x2 x6 x7 x8 x60 h (fun y6 y7 y8 y60 h=>y3t4 y6 y7 y8 y60 h Kn Kr) Kr
def yxge (x0 x1 x2 x60:Value) (h:H) (Kn Kr:K3):Prop :=
 u_new [.int .u32 0,.slice none 0 0,.int .u32 0] yrjx .exact h fun b6 h=>u_new [.int .i64 0,.int .u32 0,.int .i64 0] ys2z .exact h fun b7 h=>ynco PG Builtin.max2 x2 (.int .i64 1) fun v13=>ynco PG Builtin.min2 v13 (.int .i64 64) fun v14=>yjdf PG yd4l [x0,x1] h fun v18 h=>ysnr PG yrjx [(0,x1),(2,v18)] fun v19=>u_new [.int .u32 0,.slice none 0 0,.int .u32 0] yrjx .exact h fun b8 h=>ylel 3 (.pointer (some ⟨b8,0,none⟩)) v19 h fun h=>ynoy x0 x1 v14 (.pointer (some ⟨b6,0,none⟩)) (.pointer (some ⟨b7,0,none⟩)) (.pointer (some ⟨b8,0,none⟩)) x60 h Kn Kr
theorem y7m2 {Kn:(Value→Value→Value→Value→Value→Value→Value→Value→Value→H→Prop)} {Kr:K3} {Ke1:K8} {Ke0:K4} {t:T} {h:H} (H0:yt27 (t 6) (t 7) (t 8) (t 11) (t 60) h Kn Kr Ke1 Ke0):Wp PG 60 (cndX (rest 1 (seqL (rest 1 (blkC (seqL (rest 1 (lopC (blkC (rest 1 (seqL (rest 3 (ygjk Tryz.f12.body))))))))))))) (mkQ (fun t h=>Kn (t 0) (t 1) (t 2) (t 6) (t 7) (t 8) (t 9) (t 10) (t 60) h) (q3 Kr 6 7 60) (keAdd 1 (fun t h=>Ke1 (t 0) (t 1) (t 2) (t 6) (t 7) (t 8) (t 9) (t 60) h) (keAdd 0 (q4 Ke0 6 7 8 60) ke0))) t h :=
 (sqE (q4 (fun y6 y7 y8 y60 h=>y9i3 y6 y7 y8 y60 h Kn Kr Ke1 Ke0) 6 7 8 60) (toE E5_ok 1 H0 fun t h (H:y5bu (t 6) (t 7) (t 8) (t 11) (t 47) (t 60) h (fun y6 y7 y8 y60 h=>y9i3 y6 y7 y8 y60 h Kn Kr Ke1 Ke0) Kr Ke1 Ke0)=>(cdE H (fun H=>(sqE (q3 (fun y6 y7 y60 h=>yxgf y6 y7 y60 h (fun y6 y7 y8 y60 h=>y9i3 y6 y7 y8 y60 h Kn Kr Ke1 Ke0) Kr Ke1 Ke0) 6 7 60) (drP E5_ok [0] 1 2 [3] H) fun t h H=>(wpE E5_ok H))) fun H=>(wpE E5_ok H))) fun t h H=>(wpE E5_ok H))
theorem yq9a {Kn:(Value→Value→Value→Value→Value→Value→Value→Value→Value→H→Prop)} {Kr:K3} {Ke1:K8} {Ke0:K4} {t:T} {h:H} (H0:yqdk (t 0) (t 1) (t 2) (t 6) (t 7) (t 8) (t 9) (t 10) (t 11) (t 60) h Kn Kr Ke1 Ke0):Wp PG 60 (seqL (rest 1 (blkC (seqL (rest 1 (lopC (blkC (rest 1 (seqL (rest 3 (ygjk Tryz.f12.body))))))))))) (mkQ (fun t h=>Kn (t 0) (t 1) (t 2) (t 6) (t 7) (t 8) (t 9) (t 10) (t 60) h) (q3 Kr 6 7 60) (keAdd 1 (fun t h=>Ke1 (t 0) (t 1) (t 2) (t 6) (t 7) (t 8) (t 9) (t 60) h) (keAdd 0 (q4 Ke0 6 7 8 60) ke0))) t h :=
 (toE E5_ok 1 H0 fun t h (H:ysyq (t 0) (t 1) (t 2) (t 6) (t 7) (t 8) (t 9) (t 10) (t 11) (t 43) (t 60) h Kn Kr Ke1 Ke0)=>(cdE H (fun H=>(y7m2 H)) fun H=>(wpE E5_ok H)))
theorem ykc2 {Kn:K8} {Kr:K3} {Ke0:K4} {t:T} {h:H} (H0:y6bj (t 0) (t 1) (t 2) (t 6) (t 7) (t 8) (t 9) (t 60) h Kn Kr Ke0):Wp PG 60 (seqL (rest 1 (lopC (blkC (rest 1 (seqL (rest 3 (ygjk Tryz.f12.body)))))))) (mkQ (fun t h=>Kn (t 0) (t 1) (t 2) (t 6) (t 7) (t 8) (t 9) (t 60) h) (q3 Kr 6 7 60) (keAdd 0 (q4 Ke0 6 7 8 60) ke0)) t h :=
 (bkE 1 (toE E5_ok 1 H0 fun t h (H:ytml (t 0) (t 1) (t 2) (t 6) (t 7) (t 8) (t 9) (t 10) (t 11) (t 60) h Kn Kr Kn Ke0)=>(sqE _ (yq9a H) fun t h H=>(wpE E5_ok H))))
theorem yc7c {Kn:K8} {Kr:K3} {Ke0:K4} {t:T} {h:H} (H0:y26c (t 0) (t 1) (t 2) (t 6) (t 7) (t 8) (t 9) (t 60) h Kn Kr Ke0):Wp PG 60 (lopC (blkC (rest 1 (seqL (rest 3 (ygjk Tryz.f12.body)))))) (mkQ (fun t h=>Kn (t 0) (t 1) (t 2) (t 6) (t 7) (t 8) (t 9) (t 60) h) (q3 Kr 6 7 60) (keAdd 0 (q4 Ke0 6 7 8 60) ke0)) t h :=
 (toE E5_ok 1 H0 fun t h (H:ybfi (t 0) (t 1) (t 2) (t 6) (t 7) (t 8) (t 9) (t 60) h Kn Kr Ke0)=>(sqE _ (ykc2 H) fun t h H=>(wpE E5_ok H)))
theorem ysst {Kn Kr:K3} {t:T} {h:H} (H0:yxge (t 0) (t 1) (t 2) (t 60) h Kn Kr):Wp PG 60 (ygjk Tryz.f12.body) (mkQ (q3 Kn 6 7 60) (q3 Kr 6 7 60) ke0) t h :=
 (toE E5_ok 3 H0 fun t h (H:ynoy (t 0) (t 1) (t 2) (t 6) (t 7) (t 8) (t 60) h Kn Kr)=>(sqE (q4 (fun y6 y7 y8 y60 h=>y3t4 y6 y7 y8 y60 h Kn Kr) 6 7 8 60) (toE E5_ok 1 H fun t h (H:y4u0 (t 0) (t 1) (t 2) (t 6) (t 7) (t 8) (t 9) (t 60) h (fun y6 y7 y8 y60 h=>y3t4 y6 y7 y8 y60 h Kn Kr) Kr)=>(bkE 0 (lpE (fun t=>(t 0,t 1,t 2,t 6,t 7,t 8,t 9,t 60)) H fun t h K H=>(yc7c H)))) fun t h H=>(wpE E5_ok H)))
def y3fr (x0 x1 x2:Value) (h:H) (Q:K1):Prop:=yxge x0 x1 x2 undef h (fun y6 y7 y60 h=>o_ret y60 h (fun h=>ybqh true 3 y6 h fun v0=>ybqh true 3 y7 h fun v1=>[v0,v1].all boxV=true∧Q (.tuple #[v0,v1]) h)) (fun y6 y7 y60 h=>o_ret y60 h (fun h=>ybqh true 3 y6 h fun v0=>ybqh true 3 y7 h fun v1=>[v0,v1].all boxV=true∧Q (.tuple #[v0,v1]) h))
theorem ysek (x0 x1 x2:Value) (h:H) (Q:K1) (H0:y3fr x0 x1 x2 h Q):AM.Spec PG yvbn [x0,x1,x2] h Q :=
 spS mixed Tryz.func12 [.cell 6 42 true 3,.cell 7 45 true 3] (ysst H0)
end Go.Proofs.YtnckimioabkheaaGreat
set_option linter.unusedSimpArgs false
set_option linter.unusedVariables false
set_option maxRecDepth 100000
namespace Go.Proofs.YtnckimioabkheaaGreat
open AM
structure MD where
 q:Nat
 pm:Nat
 gm:Nat
 pg:Int→Nat
structure MS where
 budget:Int
 pages:List (Int×Int×List Int)
 gens:List (Int×Int)
def yapg (p:Int×List Int):List Value:=p.2.map (Value.int .u8)++[.int .i64 p.1]
structure MemAt (D:MD) (h:H) (μ:MS):Prop where
 q:h D.q=some (.cells [.int .i64 μ.budget,.map (some D.pm),.map (some D.gm)] y7k4 .exact)
 pm:∃ck,h D.pm=some (.map (.int .u32) (μ.pages.map fun p=>(.int .u32 p.1,ptr (D.pg p.1) 0)) ck)
 gm:∃ck,h D.gm=some (.map (.int .u32) (μ.gens.map fun p=>(.int .u32 p.1,.int .u32 p.2)) ck)
 pg:∀p∈μ.pages,h (D.pg p.1)=some (.cells (yapg p.2) ynw2 .exact)
structure MSok (μ:MS):Prop where
 len:∀p∈μ.pages,p.2.2.length=256
 byte:∀p∈μ.pages,∀x∈p.2.2,0≤x∧x<256
 gen:∀p∈μ.gens,0≤p.2∧p.2<4294967296
@[simp] theorem yaxl {a:Option Addr} {K:Value→Prop} {u:Dm K}:u_bin PG .eql y14o (.pointer a) (.pointer none) K u=K (.bool a.isNone):=by
  cases a <;> kernel_rfl
def yovn (a:Int):Int:=IntKind.u32.wrap (a-a.tmod 256)
def lookF (μ:MS) (a size need:Int):Int×Option (Int×List Int) :=
 if ¬(size=1∨size=2∨size=4)∨¬a.tmod (IntKind.u32.wrap size)=0 then (3,none)
 else match fnd (yovn a) μ.pages with
  | none=>(1,none)
  | some p=>if IntKind.i64.wrap (BitVec.ofInt IntKind.i64.bits p.1 &&& BitVec.ofInt IntKind.i64.bits need).toNat=need then (0,some p) else (2,none)
section
variable {D:MD} {h:H} {μ:MS} {K:K1} {a size need:Int}
theorem yrxr (hm:MemAt D h μ) {b:Int} {okk:Bool} {z:Value} {K:Value→Prop} {u:Dm K}:ylsp (.int .u32) z (.map (some D.pm)) (.int .u32 b) okk h K u =
 K (match fnd b μ.pages with | some _=>(bif okk then .tuple #[ptr (D.pg b) 0,.bool true] else ptr (D.pg b) 0) | none=>(bif okk then .tuple #[z,.bool false] else z)):=by
 obtain ⟨ck,hp⟩:=hm.pm
 have hf:=ywya (k:=.u32) (f:=fun p:Int×Int×List Int=>ptr (D.pg p.1) 0) (a:=b) (l:=μ.pages)
 cases hq:fnd b μ.pages with
 | none=>rw [hq] at hf;rw [y2ml hp rfl hf]
 | some p=>rw [hq] at hf;rw [y69s hp rfl hf]
theorem yur7 (hm:MemAt D h μ) {b:Int} {okk:Bool} {z:Value} {K:Value→Prop} {u:Dm K}:ylsp (.int .u32) z (.map (some D.gm)) (.int .u32 b) okk h K u =
 K (match fnd b μ.gens with | some g=>(bif okk then .tuple #[.int .u32 g,.bool true] else .int .u32 g) | none=>(bif okk then .tuple #[z,.bool false] else z)):=by
 obtain ⟨ck,hp⟩:=hm.gm
 have hf:=y6z5 (k:=.u32) (f:=fun g=>Value.int .u32 g) (a:=b) (l:=μ.gens)
 cases hq:fnd b μ.gens with
 | none=>rw [hq] at hf;rw [y2ml hp rfl hf]
 | some p=>rw [hq] at hf;rw [y69s hp rfl hf]
theorem yic4 (hm:MemAt D h μ) {i:Nat}:cellAt h D.q i=[Value.int .i64 μ.budget,.map (some D.pm),.map (some D.gm)][i]?:=by simp [cellAt,hm.q]
theorem ycvw (hm:MemAt D h μ) (hk:K (.int .u32 ((fnd (yovn a) μ.gens).getD 0)) h):AM.Spec PG yd4l [ptr D.q 0,.int .u32 a] h K:=by
 refine ytx7 _ _ _ _ ?_
 simp (config:={dsimp:=false}) [↓y3mp,↓ytwj,↓ypmw,↓yugv,↓yi3o,yic4 hm,yur7 hm,y68j]
 have e:yovn a=IntKind.u32.wrap (a-a.tmod 256):=rfl
 rw [← e]
 cases hf:fnd (yovn a) μ.gens <;> rw [hf] at hk <;> exact hk
theorem yps9 (hm:MemAt D h μ) {b:Int} {p:Int×List Int} (hf:fnd b μ.pages=some p) {i:Nat}:cellAt h (D.pg b) i=(yapg p)[i]?:=by
 have:=hm.pg (b,p) (y5ut hf)
 simp [cellAt,this]
theorem yvux {p:Int×List Int} (hl:p.2.length=256):(yapg p)[256]?=some (.int .i64 p.1):=by
 unfold yapg
 rw [List.getElem?_append_right (by simp [hl])]
 simp [hl]
theorem yuzk {p:Int×List Int} (hl:p.2.length=256) {i:Nat} (hi:i<256):(yapg p)[i]?=some (.int .u8 (p.2.getD i 0)):=by
 unfold yapg
 rw [List.getElem?_append_left (by simp [hl,hi])]
 have:i<p.2.length:=by omega
 simp [this]
theorem yhs0 (hm:MemAt D h μ) (hw:MSok μ) (hk:K (.tuple #[.pointer ((lookF μ a size need).2.map fun _=>⟨D.pg (yovn a),0,none⟩),.int .i64 (lookF μ a size need).1]) h):AM.Spec PG yd5h [ptr D.q 0,.int .u32 a,.int .i64 size,.int .i64 need] h K:=by
 refine ym2q _ _ _ _ _ _ ?_
 have e:IntKind.u32.wrap (a-a.tmod 256)=yovn a:=rfl
 have fin:∀size,(¬ a.tmod (IntKind.u32.wrap size)=0→K (.tuple #[.pointer none,.int .i64 3]) h)→(a.tmod (IntKind.u32.wrap size)=0→∀Kn,ygob (ptr D.q 0) (.int .u32 a) (.int .i64 need) h Kn (fun y8 y9 h=>(boxV y8=true∧boxV y9=true)∧K (.tuple #[y8,y9]) h)) →
  (size=1∨size=2∨size=4)→y42a (ptr D.q 0) (.int .u32 a) (.int .i64 size) (.int .i64 need) h K:=by
  rintro size h1 h2 (rfl | rfl | rfl)
  all_goals
   simp (config:={dsimp:=false}) [↓y42a,↓yw8q]
   first
    | exact h2 (by simp) _
    | (split <;> rename_i hq
       ·exact h2 (by simpa using hq) _
       ·exact h1 (by simpa using hq))
 by_cases hs:size=1∨size=2∨size=4
 ·refine fin size (fun hn=>?_) (fun hn Kn=>?_) hs
  ·have:lookF μ a size need=(3,none):=by simp [lookF,hn]
   rw [this] at hk;exact hk
  ·simp (config:={dsimp:=false}) [↓ygob,↓y8xn,↓y74p,yic4 hm,yrxr hm,y68j,e]
   cases hf:fnd (yovn a) μ.pages with
   | none =>
     have:lookF μ a size need=(1,none):=by simp [lookF,hn,hs,hf]
     rw [this] at hk
     simpa using hk
   | some p =>
     have hl:=hw.len _ (y5ut hf)
     simp (config:={dsimp:=false}) [yps9 hm hf,yvux hl]
     have hl2:lookF μ a size need=if IntKind.i64.wrap (BitVec.ofInt IntKind.i64.bits p.1 &&& BitVec.ofInt IntKind.i64.bits need).toNat=need then (0,some p) else (2,none):=by simp [lookF,hn,hs,hf]
     rw [hl2] at hk
     split <;> rename_i hq
     ·rw [if_pos (by simpa using hq)] at hk;exact hk
     ·rw [if_neg (by simpa using hq)] at hk;exact hk
 ·have:lookF μ a size need=(3,none):=by simp [lookF,hs]
  rw [this] at hk
  have hs':size≠1∧size≠2∧size≠4:=by simpa [not_or] using hs
  simp (config:={dsimp:=false}) [↓y42a,↓yw8q,ysbf,hs'.1,hs'.2.1,hs'.2.2]
  exact hk
def ldv (xs:Nat→Int):Nat→Int
 | 0=>0
 | i+1=>IntKind.u32.wrap (BitVec.ofInt IntKind.u32.bits (ldv xs i) ||| BitVec.ofInt IntKind.u32.bits (IntKind.u32.wrap (IntKind.u32.wrap (xs i)*2^(min (8*(i:Int)).toNat IntKind.u32.bits)))).toNat
def loadF (μ:MS) (a size need:Int):Int×Int :=
 match lookF μ a size need with
 | (f,none)=>(0,f)
 | (f,some p)=>(ldv (fun i=>p.2.getD ((a.tmod 256).toNat+i) 0) size.toNat,f)
theorem ybj4 {a size need:Int} {μ:MS}:((lookF μ a size need).1=0↔∃p,(lookF μ a size need).2=some p):=by
 unfold lookF
 split
 ·simp
 ·split
  ·simp
  ·split <;> simp
theorem yuhy {a size need:Int} {μ:MS} {f:Int} {p:Int×List Int} (h:lookF μ a size need=(f,some p)):f=0∧fnd (yovn a) μ.pages=some p∧(size=1∨size=2∨size=4)∧a.tmod size=0:=by
 unfold lookF at h
 split at h
 ·simp at h
 ·rename_i hc
  split at h
  ·simp at h
  ·rename_i q hq
   split at h
   ·simp only [Prod.mk.injEq,Option.some.injEq] at h
    have hc':(size=1∨size=2∨size=4)∧a.tmod (IntKind.u32.wrap size)=0:=by
     constructor
     ·exact Classical.byContradiction fun hn=>hc (.inl hn)
     ·exact Classical.byContradiction fun hn=>hc (.inr hn)
    refine ⟨h.1.symm,by rw [hq,h.2],hc'.1,?_⟩
    rcases hc'.1 with rfl | rfl | rfl
    ·simp
    ·exact hc'.2
    ·exact hc'.2
   ·simp at h
theorem yaqx (hm:MemAt D h μ) (hw:MSok μ) (ha:0≤a) (ha2:a<4294967296) (hk:K (.tuple #[.int .u32 (loadF μ a size need).1,.int .i64 (loadF μ a size need).2]) h):AM.Spec PG yvz0 [ptr D.q 0,.int .u32 a,.int .i64 size,.int .i64 need] h K:=by
 refine yrmj _ _ _ _ _ _ ?_
 unfold yyx4 yvxg
 refine ⟨rfl,yhs0 hm hw ?_⟩
 simp (config:={dsimp:=false}) []
 cases hL:lookF μ a size need with
 | mk f o =>
   cases o with
   | none =>
     have hf:¬f=0:=fun e=>by
      have:=(ybj4 (μ:=μ) (a:=a) (size:=size) (need:=need)).1 (by rw [hL];exact e)
      rw [hL] at this;simp at this
     simp (config:={dsimp:=false}) [hf]
     have:loadF μ a size need=(0,f):=by simp [loadF,hL]
     rw [this] at hk
     exact hk
   | some p =>
     obtain ⟨rfl,hp,hsz,hmod⟩:=yuhy hL
     have hl:=hw.len _ (y5ut hp)
     have:loadF μ a size need=(ldv (fun i=>p.2.getD ((a.tmod 256).toNat+i) 0) size.toNat,0):=by simp [loadF,hL]
     rw [this] at hk
     obtain ⟨n,rfl⟩:∃n:Nat,size=n:=⟨size.toNat,by omega⟩
     have hn4:n≤4:=by omega
     have hn0:0<n:=by omega
     obtain ⟨A,rfl⟩:∃A:Nat,a=A:=⟨a.toNat,by omega⟩
     have e256:(A:Int).tmod 256=((A%256:Nat):Int):=by rw [Int.tmod_eq_emod_of_nonneg (by omega)];omega
     rw [e256,Int.toNat_natCast,Int.toNat_natCast] at hk
     have hoff:A%256+n≤256:=by
      rw [Int.tmod_eq_emod_of_nonneg (by omega)] at hmod
      rcases hsz with h1 | h1 | h1 <;> rw [h1] at hmod <;> omega
     have en:IntKind.u32.wrap (n:Int)=n:=w_u32 (by omega) (by omega)
     simp (config:={dsimp:=false}) [↓ynot,↓y7ix,↓y1l8,↓ye5b,en]
     refine yo1k n (fun i s h'=>h'=h∧s=(.int .u32 A,ptr (D.pg (yovn A)) 0,.int .u32 (ldv (fun i=>p.2.getD (A%256+i) 0) i),.int .u32 (n:Nat),.int .u32 (i:Nat))) ⟨rfl,rfl⟩ ?_
     rintro i s h' K' hi ⟨rfl,rfl⟩ hk'
     have ei:IntKind.u32.wrap (((A%256:Nat):Int)+(i:Int))=((A%256+i:Nat):Int):=by rw [w_u32 (by omega) (by omega)];omega
     simp (config:={dsimp:=false}) only [↓y6qk,s_lss,s_if,e256]
     by_cases hlt:i<n
     ·have d1:decide ((i:Int)<n)=true:=by simp;omega
      have e8:IntKind.u32.wrap (8*(i:Int))=8*(i:Int):=w_u32 (by omega) (by omega)
      have e1:IntKind.u32.wrap ((i:Int)+1)=((i+1:Nat):Int):=by rw [w_u32 (by omega) (by omega)];omega
      rw [d1,if_pos rfl]
      rw [s_rem (by decide),e256,s_add,ei,s_nil,s_fa,s_ixA]
      refine ⟨by omega,by omega,?_⟩
      rw [y1rg,Int.toNat_natCast]
      have e0:0+0+(A%256+i)*1=A%256+i:=by omega
      rw [e0,yps9 hm hp,yuzk hl (by omega),s_opt,ym88,s_mul,e8,s_shl (by omega),s_bor,s_add,e1]
      exact hk' _ _ hlt ⟨rfl,rfl⟩
     ·have d1:decide ((i:Int)<n)=false:=by simp;omega
      rw [d1,if_neg (by decide)]
      have:i=n:=by omega
      subst this
      exact ⟨⟨rfl,rfl⟩,hk⟩
theorem MemAt.sub {h':H} (hm:MemAt D h μ) (hs:Sub h h'):MemAt D h' μ where
 q:=hs _ _ hm.q
 pm:=hm.pm.imp fun _ hh=>hs _ _ hh
 gm:=hm.gm.imp fun _ hh=>hs _ _ hh
 pg p hp:=hs _ _ (hm.pg p hp)
def ysel (μ:MS) (pc:Int):(Int×Int×Int×Int×Int)×(Int×Int×Int) :=
 if (loadF μ pc 4 4).2≠0 then ((0,0,0,0,0),(1,pc,(loadF μ pc 4 4).2))
 else if y1j0 (loadF μ pc 4 4).1=0 then ((0,0,0,0,0),(2,pc,0))
 else ((y1j0 (loadF μ pc 4 4).1,y41m (loadF μ pc 4 4).1,ydwe (loadF μ pc 4 4).1,ybta (loadF μ pc 4 4).1,y31p (loadF μ pc 4 4).1),(0,0,0))
def insV (i:Int×Int×Int×Int×Int):Value:=.agg #[.int .i64 i.1,.int .i64 i.2.1,.int .i64 i.2.2.1,.int .i64 i.2.2.2.1,.int .i32 i.2.2.2.2]
def evV (e:Int×Int×Int):Value:=.agg #[.int .i64 e.1,.int .u32 e.2.1,.int .i64 e.2.2]
theorem ybes {pc:Int} (hm:MemAt D h μ) (hw:MSok μ) (ha:0≤pc) (ha2:pc<4294967296) (hk:K (.tuple #[insV (ysel μ pc).1,evV (ysel μ pc).2]) h):AM.Spec PG y0l5 [ptr D.q 0,.int .u32 pc] h K:=by
 refine yz7m (fun K hk=>?_) hk
 refine yr69 _ _ _ _ ?_
 unfold yk52 y7mt
 intro b4 _ hb4 b5 _ hb5
 have s1:Sub h (upd h b4 (.cells [.int .i64 0,.int .i64 0,.int .i64 0,.int .i64 0,.int .i32 0] yc0x .exact)):=Sub.new hb4
 have s2:=s1.newer (q:=.cells [.int .i64 0,.int .u32 0,.int .i64 0] ys2z .exact) hb5
 refine ⟨rfl,yaqx (hm.sub s2) hw ha ha2 ?_⟩
 rw [ynej] at hb5
 obtain ⟨n1,n2,hb5⟩:=hb5
 by_cases hf:(loadF μ pc 4 4).2=0
 ·by_cases hd:y1j0 (loadF μ pc 4 4).1=0
  ·have e:ysel μ pc=((0,0,0,0,0),(2,pc,0)):=by simp [ysel,hf,hd]
   rw [e] at hk
   simp (config:={dsimp:=false,contextual:=true}) [hf,hd,n1,n2,hb5]
   intros
   exact hk _ (by repeat (first | exact Sub.refl _ | refine Sub.upd ?_ (by assumption)))
  ·have e:ysel μ pc=((y1j0 (loadF μ pc 4 4).1,y41m (loadF μ pc 4 4).1,ydwe (loadF μ pc 4 4).1,ybta (loadF μ pc 4 4).1,y31p (loadF μ pc 4 4).1),(0,0,0)):=by simp [ysel,hf,hd]
   rw [e] at hk
   simp (config:={dsimp:=false,contextual:=true}) [hf,hd,n1,n2,hb5]
   intros
   exact hk _ (by repeat (first | exact Sub.refl _ | refine Sub.upd ?_ (by assumption)))
 ·have e:ysel μ pc=((0,0,0,0,0),(1,pc,(loadF μ pc 4 4).2)):=by simp [ysel,hf]
  rw [e] at hk
  simp (config:={dsimp:=false,contextual:=true}) [hf,n1,n2,hb5]
  exact hk _ (by repeat (first | exact Sub.refl _ | refine Sub.upd ?_ (by assumption)))
end
end Go.Proofs.YtnckimioabkheaaGreat
set_option linter.unusedSimpArgs false
set_option linter.unusedVariables false
set_option maxRecDepth 100000
namespace Go.Proofs.YtnckimioabkheaaGreat
open AM
def MOwn (D:MD) (μ:MS) (b:Nat):Prop:=b=D.q∨b=D.pm∨b=D.gm∨∃p∈μ.pages,b=D.pg p.1
structure MemIn (h0:H) (D:MD) (h:H) (μ:MS):Prop where
 at_:MemAt D h μ
 new:∀b,MOwn D μ b→h0 b=none
 ne:D.pm≠D.gm
 inj:∀p∈μ.pages,∀p'∈μ.pages,D.pg p.1=D.pg p'.1→p.1=p'.1
 nd:(μ.pages.map (·.1)).Nodup
def Fr (O:Nat→Prop) (h h':H):Prop:=∀b o,¬O b→h b=some o→h' b=some o
theorem Fr.sub {O:Nat→Prop} {h0 h h':H} (hf:Fr O h h') (hs:Sub h0 h) (hO:∀b,O b→h0 b=none):Sub h0 h':=fun b o hb=>by
 by_cases hq:O b
 ·rw [hO b hq] at hb;cases hb
 ·exact hf b o hq (hs _ _ hb)
section
variable {h0 h:H} {D:MD} {μ:MS} {K:K1}
theorem ymf4 {n:Int} (h1:1≤n) (h2:n≤4096) (hk:∀D h',MemIn h D h' ⟨n,[],[]⟩→Sub h h'→K (.tuple #[ptr D.q 0,.int .i64 0]) h'):AM.Spec PG ynsj [.int .i64 n] h K:=by
 refine y4wx _ _ _ ?_
 have c1:¬n<1:=by omega
 have c2:¬4096<n:=by omega
 simp (config:={dsimp:=false}) [↓y91g,↓yw17,c1,c2]
 intro b _ hb b1 _ n1 n2 hb1 b2 _ n3 n4 n5 n6 hb2
 refine hk ⟨b2,b,b1,fun _=>0⟩ _ ⟨⟨by simp [upd],⟨0,by simp [upd,n1,n2,n3,n4,n5,n6]⟩,⟨0,by simp [upd,n1,n2,n3,n4,n5,n6]⟩,by simp⟩,?_,n2,by simp,by simp⟩ (Sub.upd (Sub.upd (Sub.upd (Sub.refl _) hb) hb1) hb2)
 rintro x (rfl | rfl | rfl | ⟨p,hp,_⟩) <;> first | assumption | simp at hp
theorem yil7 {n:Int} (h1:0≤n) (h2:n≤4096) (hk:∀q mp h',h q=none→h mp=none→q≠mp→h' q=some (.cells [.int .i64 n,.map (some mp)] y2um .exact)→h' mp=some (.map (.int .u32) [] 0)→Sub h h'→K (.tuple #[ptr q 0,.int .i64 0]) h'):AM.Spec PG yge9 [.int .i64 n] h K:=by
 refine yx0m _ _ _ ?_
 have c1:¬n<0:=by omega
 have c2:¬4096<n:=by omega
 simp (config:={dsimp:=false}) [↓ysj8,↓yomw,c1,c2]
 intro b _ hb b1 _ n1 n2 hb1
 exact hk b1 b _ hb1 hb n1 (by simp [upd]) (by simp [upd,n1,n2]) (Sub.upd (Sub.upd (Sub.refl _) hb) hb1)
theorem ypcs:∀{es:List (Value×Value)} {k:Value},(∃ e∈es,keyEq k e.1=true)→∃w,mfind es k=some w
 | [],_,h=>by obtain ⟨e,h,_⟩:=h;cases h
 | e::r,k,h=>by
   by_cases hk:keyEq k e.1=true
   ·exact ⟨e.2,by simp [mfind,hk]⟩
   ·obtain ⟨e',h1,h2⟩:=h
    rcases List.mem_cons.1 h1 with rfl | h1
    ·exact (hk h2).elim
    ·obtain ⟨w,hw⟩:=ypcs ⟨e',h1,h2⟩
     exact ⟨w,by simp only [Bool.not_eq_true] at hk;simp [mfind,hk,hw]⟩
@[simp] theorem ywmf {v1:Value} {K:Value→Prop} {u:Dm K}:yvu8 (.tuple #[v1]) 0 K u=K v1:=rfl
def inR (a many p:Int):Prop:=a≤p∧IntKind.u64.wrap p<IntKind.u64.wrap (IntKind.u64.wrap a+IntKind.u64.wrap (many*256))
theorem yd1j {a many:Int} (hm:MemAt D h μ) (hpl:μ.pages.length≤100000) (hk:∀v l h',Sub h h'→Gr (fun x:Int=>[.int .u32 x]) 1 ycpa h h' v l→(l=[]↔∀p∈μ.pages,¬inR a many p.1)→K v h'):AM.Spec PG yoaz [ptr D.q 0,.int .u32 a,.int .u64 many] h K:=by
 refine yrnn _ _ _ _ _ ?_
 obtain ⟨ck,hp⟩:=hm.pm
 simp (config:={dsimp:=false}) [↓y2c4,↓ypo0,↓yk0t,↓yw9j,yic4 hm]
 show y4p4 _ h _
 unfold y4p4
 simp only [hp]
 intro it _ hit
 have hpi:D.pm≠it:=fun e=>by rw [e,hit] at hp;cases hp
 unfold yw6s ypvj
 generalize hes:μ.pages.map (fun p=>(Value.int .u32 p.1,ptr (D.pg p.1) 0))=es at *
 refine yo1k es.length (fun i s h'=>∃(v:Value) (l:List Int) (left:List Value) (cur:Option Value),s=(.int .u32 a,.int .u64 many,v,ptr it 0)∧left.length+i≤es.length∧h' it=some (.iter (some D.pm) left ck cur)∧Sub h h'∧Gr (fun x:Int=>[.int .u32 x]) 1 ycpa h h' v l∧l.length≤i ∧
  (l≠[]→∃p∈μ.pages,inR a many p.1)∧(l=[]→∀p∈μ.pages,inR a many p.1→left.any (keyEq (.int .u32 p.1))=true)) ?_ ?_
 ·refine ⟨_,[],_,none,rfl,by simp,yy0e _ _ _,Sub.new hit,Gr.empty,by simp,by simp,fun _ p hp' _=>?_⟩
  rw [← hes]
  simp only [List.any_map,List.any_eq_true]
  exact ⟨p,hp',by simp [keyEq]⟩
 ·rintro i s h' K' hi ⟨v,l,left,cur,rfl,hl,e,hs,hg,hli,q1,q2⟩ hk'
  unfold ymz0
  show y6k6 _ h' _
  unfold y6k6
  simp only [ptr,e,hs _ _ hp]
  refine ⟨trivial,fun en hen hany=>?_,fun hall=>?_⟩
  ·obtain ⟨p,hpp,rfl⟩:∃p∈μ.pages,(Value.int .u32 p.1,ptr (D.pg p.1) 0)=en:=by rw [← hes] at hen;simpa using hen
   have hpm2:∀q,upd h' it q D.pm=some (.map (.int .u32) es ck):=fun q=>(yrkk _ _ hpi).trans (hs _ _ hp)
   simp (config:={dsimp:=false})
   show yxwg _ _ _
   unfold yxwg
   obtain ⟨w,hw⟩:=ypcs (es:=es) (k:=.int .u32 p.1) ⟨_,hen,by simp [keyEq]⟩
   simp only [ptr,yy0e,hpm2,hw]
   refine ⟨trivial,?_⟩
   have hflt:(left.filter fun k=>!keyEq (.int .u32 p.1) k).length<left.length:=by
    rw [List.length_filter_lt_length_iff_exists]
    simp only [List.any_eq_true] at hany
    obtain ⟨k,k1,k2⟩:=hany
    exact ⟨k,k1,by simp [k2]⟩
   have hit':h it=none:=hit
   have hgn:∀q,Gr (fun x:Int=>[.int .u32 x]) 1 ycpa h (upd h' it q) v l:=fun q=>hg.over e (by simp)
   have hsn:∀q,Sub h (upd h' it q):=fun q=>Sub.upd hs hit
   generalize hnew:(left.filter fun k=>!keyEq (.int .u32 p.1) k)=nleft at *
   simp (config:={dsimp:=false})
   split
   ·rename_i c
    intro b hb2 m1 m2 hbn
    have hesl:es.length=μ.pages.length:=by rw [← hes];simp
    refine yw9z (x:=p.1) (hgn _) (hsn _) rfl (by omega) (by omega) (by omega) (fun v' h3 g' s' hke hfr=>?_) rfl b hb2 ((yrkk _ _ m1).trans hbn)
    refine hk' _ _ (by omega) ⟨v',_,nleft,_,rfl,by omega,hke _ _ (yy0e _ _ _) ?_,s',g',by simp;omega,fun _=>⟨p,hpp,c⟩,by simp⟩
    intro hb
    have:=(hgn (.iter (some D.pm) nleft ck (some (.int .u32 p.1)))).isOpen hb
    rw [yy0e] at this
    cases this
   ·rename_i c
    refine hk' _ _ (by omega) ⟨v,l,nleft,_,rfl,by omega,yy0e _ _ _,hsn _,hgn _,by omega,q1,fun hl0 p' hp' hin=>?_⟩
    have h1:=q2 hl0 p' hp' hin
    have hne:p'.1≠p.1:=fun he=>c (by have:=hin;rw [he] at this;exact this)
    rw [← hnew]
    simp only [List.any_eq_true,List.mem_filter] at h1 ⊢
    obtain ⟨k,k1,k2⟩:=h1
    refine ⟨k,⟨k1,?_⟩,k2⟩
    cases k <;> simp [keyEq] at k2 ⊢
    exact .inr fun he=>hne (k2.2.trans he.symm)
  ·simp (config:={dsimp:=false}) [↓ychg]
   refine hk v l h' hs hg ⟨fun hl0 p hp' hin=>?_,fun hno=>?_⟩
   ·have:=q2 hl0 p hp' hin
    rw [hall (.int .u32 p.1,ptr (D.pg p.1) 0) (by rw [← hes];exact List.mem_map.2 ⟨p,hp',rfl⟩)] at this
    cases this
   ·by_cases hl0:l=[]
    ·exact hl0
    ·obtain ⟨p,hp',hin⟩:=q1 hl0
     exact (hno p hp' hin).elim
end
end Go.Proofs.YtnckimioabkheaaGreat
set_option linter.unusedSimpArgs false
set_option linter.unusedVariables false
set_option maxRecDepth 100000
namespace Go.Proofs.YtnckimioabkheaaGreat
open AM
def yr1e:List Int:=List.replicate 256 0
theorem ykdz {a1:Int} {K:Value→Prop} {u:Dm K}:ysnr PG ynw2 [(1,.int .i64 a1)] K u=K (.agg (yapg (a1,yr1e)).toArray):=by
 rw [ygys];rfl
theorem y56w {a n:Int} (h0:0≤n) (h1:n<4294967296):yte2 a n=(n+255) / 256:=by
 unfold yte2
 rw [w_u64 (x:=n) (by omega) (by omega),w_u64 (x:=n+256) (by omega) (by omega),w_u64 (x:=n+256-1) (by omega) (by omega),Int.tdiv_eq_ediv_of_nonneg (by omega),w_u64 (by omega) (by omega)]
 omega
theorem yb4q {a n:Int} (ha:0≤a) (ha2:a<4294967296) (h0:0≤n) (h1:n<4294967296):ywc5 a n=true↔(0<n∧a%256=0∧a+(n+255) / 256*256≤4294967296):=by
 have e:=y56w (a:=a) h0 h1
 unfold yte2 at e
 unfold ywc5
 rw [e,w_u64 (x:=a) (by omega) (by omega),w_u64 (x:=(n+255) / 256*256) (by omega) (by omega),w_u64 (by omega) (by omega),Int.tmod_eq_emod_of_nonneg ha]
 simp [and_assoc]
def gset (l:List (Int×Int)) (p g:Int):List (Int×Int) :=
 match l with
 | []=>[(p,g)]
 | e::r=>if p=e.1 then (p,g)::r else e::gset r p g
theorem ybxn {p g:Int}:∀{l:List (Int×Int)},mset (l.map fun p=>(Value.int .u32 p.1,Value.int .u32 p.2)) (.int .u32 p) (.int .u32 g)=(gset l p g).map fun p=>(Value.int .u32 p.1,Value.int .u32 p.2)
 | []=>rfl
 | e::r=>by
   simp only [List.map_cons,mset,gset]
   by_cases h:p=e.1
   ·simp [keyEq,h]
   ·have hb:(p==e.1)=false:=by simp [h]
    simp [keyEq,h,hb,ybxn (l:=r)]
theorem y3iw {k v:Value}:∀{es:List (Value×Value)},mfind es k=none→mset es k v=es++[(k,v)]
 | [],_=>rfl
 | e::r,h=>by
   simp only [mfind] at h
   cases hk:keyEq k e.1 with
   | true=>rw [hk] at h;cases h
   | false=>rw [hk] at h;simp [mset,hk,y3iw (es:=r) h]
theorem yqwy {β:Type} {a:Int}:∀{l:List (Int×β)},(∀ e∈l,e.1≠a)→fnd a l=none
 | [],_=>rfl
 | e::r,h=>by
   have h1:=h e (by simp)
   simp [fnd,Ne.symm h1,yqwy (l:=r) fun x hx=>h x (by simp [hx])]
def pgA (a:Int) (i:Nat):Int:=IntKind.u32.wrap (a+IntKind.u32.wrap (i*256))
def addP (μ:MS) (a perm:Int):Nat→MS
 | 0=>μ
 | i+1=>{ addP μ a perm i with pages:=(addP μ a perm i).pages++[(pgA a i,perm,yr1e)],gens:=gset (addP μ a perm i).gens (pgA a i) (IntKind.u32.wrap ((fnd (pgA a i) (addP μ a perm i).gens).getD 0+1)) }
instance {a many p:Int}:Decidable (inR a many p):=inferInstanceAs (Decidable (_∧_))
def mapE (μ:MS) (a n perm:Int):Int :=
 if ¬ywc5 a n=true∨perm<0∨7<perm then 1
 else if ∃p∈μ.pages,inR a (yte2 a n) p.1 then 5
 else if IntKind.u64.wrap (IntKind.i64.wrap (μ.budget-μ.pages.length))<yte2 a n then 6
 else 0
theorem yodx {μ:MS} {a perm:Int}:∀i,(addP μ a perm i).budget=μ.budget
 | 0=>rfl
 | i+1=>by simp [addP,yodx i]
theorem yzgy {μ:MS} {a perm:Int}:∀{i} {p},p∈(addP μ a perm i).pages→p∈μ.pages∨∃j,j<i∧p=(pgA a j,perm,yr1e)
 | 0,p,h=>.inl h
 | i+1,p,h=>by
   simp only [addP,List.mem_append,List.mem_singleton] at h
   rcases h with h | rfl
   ·rcases yzgy h with h | ⟨j,h1,h2⟩
    ·exact .inl h
    ·exact .inr ⟨j,by omega,h2⟩
   ·exact .inr ⟨i,by omega,rfl⟩
section
variable {h0 h:H} {D:MD} {μ:MS} {K:K1}
theorem MemIn.sub (hm:MemIn h0 D h μ) {h':H} (hs:Sub h h'):MemIn h0 D h' μ:=⟨hm.at_.sub hs,hm.new,hm.ne,hm.inj,hm.nd⟩
theorem MemIn.page (hm:MemIn h0 D h μ) {p perm g:Int} {bs:List Int} {b:Nat} (hp:∀e∈μ.pages,e.1≠p) (hb:h b=none) (h0b:h0 b=none) {ck ck':Nat} :
 MemIn h0 { D with pg:=fun x=>if x=p then b else D.pg x }
  (upd (upd (upd h b (.cells (yapg (perm,bs)) ynw2 .exact)) D.pm (.map (.int .u32) (mset (μ.pages.map fun p=>(Value.int .u32 p.1,ptr (D.pg p.1) 0)) (.int .u32 p) (ptr b 0)) ck)) D.gm (.map (.int .u32) (mset (μ.gens.map fun p=>(Value.int .u32 p.1,Value.int .u32 p.2)) (.int .u32 p) (.int .u32 g)) ck'))
  { μ with pages:=μ.pages++[(p,perm,bs)],gens:=gset μ.gens p g }:=by
 obtain ⟨ck1,hpm⟩:=hm.at_.pm
 obtain ⟨ck2,hgm⟩:=hm.at_.gm
 have hq:=hm.at_.q
 have a1:D.q≠D.pm:=fun e=>by rw [e,hpm] at hq;cases hq
 have a2:D.q≠D.gm:=fun e=>by rw [e,hgm] at hq;cases hq
 have a3:D.pm≠b:=fun e=>by rw [e,hb] at hpm;cases hpm
 have a4:D.gm≠b:=fun e=>by rw [e,hb] at hgm;cases hgm
 have a5:D.q≠b:=fun e=>by rw [e,hb] at hq;cases hq
 have a6:=hm.ne
 have apg:∀e∈μ.pages,D.pg e.1≠b∧D.pg e.1≠D.pm∧D.pg e.1≠D.gm:=fun e he=>by
  have h1:=hm.at_.pg e he
  exact ⟨fun x=>(by rw [x,hb] at h1;cases h1),fun x=>(by rw [x,hpm] at h1;cases h1),fun x=>(by rw [x,hgm] at h1;cases h1)⟩
 have epg:(μ.pages++[(p,perm,bs)]).map (fun e=>(Value.int .u32 e.1,ptr ((fun x=>if x=p then b else D.pg x) e.1) 0))=mset (μ.pages.map fun p=>(Value.int .u32 p.1,ptr (D.pg p.1) 0)) (.int .u32 p) (ptr b 0):=by
  rw [y3iw (by rw [ywya (k:=.u32) (f:=fun p:Int×Int×List Int=>ptr (D.pg p.1) 0),yqwy hp];rfl),List.map_append]
  congr 1
  ·refine List.map_congr_left fun e he=>?_
   simp [hp e he]
  ·simp
 refine ⟨⟨?_,⟨ck,?_⟩,⟨ck',?_⟩,?_⟩,?_,hm.ne,?_,?_⟩
 ·simp only
  rw [yrkk _ _ a2,yrkk _ _ a1,yrkk _ _ a5];exact hq
 ·simp only
  rw [yrkk _ _ a6,yy0e,epg]
 ·simp only
  rw [yy0e,ybxn]
 ·intro e he
  simp only [List.mem_append,List.mem_singleton] at he
  rcases he with he | rfl
  ·obtain ⟨c1,c2,c3⟩:=apg e he
   simp only [if_neg (hp e he)]
   rw [yrkk _ _ c3,yrkk _ _ c2,yrkk _ _ c1]
   exact hm.at_.pg e he
  ·simp only [if_true]
   rw [yrkk _ _ (Ne.symm a4),yrkk _ _ (Ne.symm a3),yy0e]
 ·rintro x (rfl | rfl | rfl | ⟨e,he,rfl⟩)
  ·exact hm.new _ (.inl rfl)
  ·exact hm.new _ (.inr (.inl rfl))
  ·exact hm.new _ (.inr (.inr (.inl rfl)))
  ·simp only [List.mem_append,List.mem_singleton] at he
   rcases he with he | rfl
   ·simp only [if_neg (hp e he)]
    exact hm.new _ (.inr (.inr (.inr ⟨e,he,rfl⟩)))
   ·simp only [if_true];exact h0b
 ·intro e he e' he' hee
  simp only [List.mem_append,List.mem_singleton] at he he'
  rcases he with he | rfl <;> rcases he' with he' | rfl
  ·simp only [if_neg (hp e he),if_neg (hp e' he')] at hee
   exact hm.inj e he e' he' hee
  ·simp only [if_neg (hp e he),if_true] at hee
   exact ((apg e he).1 hee).elim
  ·simp only [if_neg (hp e' he'),if_true] at hee
   exact ((apg e' he').1 hee.symm).elim
  ·rfl
 ·simp only [List.map_append,List.map_cons,List.map_nil]
  rw [List.nodup_append]
  refine ⟨hm.nd,by simp,?_⟩
  intro x hx y hy
  simp only [List.mem_singleton] at hy
  obtain ⟨e,he,rfl⟩:=List.mem_map.1 hx
  rw [hy];exact hp e he
theorem yqjd {K:Value→Prop} {u:Dm K} (hm:MemAt D h μ):y9gb (.map (some D.pm)) h K u=K (.int .i64 μ.pages.length):=by
 obtain ⟨ck,hp⟩:=hm.pm
 show y55i _ h K=_
 unfold y55i
 simp only [hp,List.length_map]
theorem yoi6 {b ck:Nat} {es:List (Value×Value)} {x:Int} {v:Value} {K:H→Prop} {u:Dm K} (hb:h b=some (.map (.int .u32) es ck)) :
 yw4g (.int .u32) (.map (some b)) (.int .u32 x) v h K u=(boxV v=true∧K (upd h b (.map (.int .u32) (mset es (.int .u32 x) v) (if mhas es (.int .u32 x) then ck else ck+1)))):=by
 show ynew _ _ _ _ h K=_
 unfold ynew
 simp only [hb]
 simp [kkHas]
theorem yv6r {b ck:Nat} {gens:List (Int×Int)} {x:Int} {K:Value→Prop} {u:Dm K} (hb:h b=some (.map (.int .u32) (gens.map fun p=>(Value.int .u32 p.1,Value.int .u32 p.2)) ck)) :
 ylsp (.int .u32) (.int .u32 0) (.map (some b)) (.int .u32 x) false h K u=K (.int .u32 ((fnd x gens).getD 0)):=by
 have hf:=y6z5 (k:=.u32) (f:=fun g=>Value.int .u32 g) (a:=x) (l:=gens)
 cases hq:fnd x gens with
 | none=>rw [hq] at hf;rw [y2ml hb rfl hf];rfl
 | some p=>rw [hq] at hf;rw [y69s hb rfl hf];rfl
def mapM (μ:MS) (a n perm:Int):MS:=if mapE μ a n perm=0 then addP μ a perm (yte2 a n).toNat else μ
theorem yjn9 {a n perm:Int} (hm:MemIn h0 D h μ) (hsub:Sub h0 h) (hpl:μ.pages.length≤100000) (ha:0≤a) (ha2:a<4294967296) (hn:0≤n) (hn2:n<4294967296)
 (hk:∀D' h',MemIn h0 D' h' (mapM μ a n perm)→D'.q=D.q→Fr (MOwn D μ) h h'→(∀ b,MOwn D' (mapM μ a n perm) b→MOwn D μ b∨h b=none)→K (.int .i64 (mapE μ a n perm)) h') :
 AM.Spec PG yhif [ptr D.q 0,.int .u32 a,.int .u32 n,.int .i64 perm] h K:=by
 refine yxz0 _ _ _ _ _ _ ?_
 have hmany:=y56w (a:=a) hn hn2
 have hgood:=yb4q ha ha2 hn hn2
 have kerr:∀e h',mapE μ a n perm=e→e≠0→Sub h h'→K (.int .i64 e) h':=fun e h' he hne hs=>by
  have:mapM μ a n perm=μ:=by simp [mapM,he,hne]
  rw [this,he] at hk
  exact hk D h' (hm.sub hs) rfl (fun b o _ hb=>hs b o hb) fun b hb=>.inl hb
 simp (config:={dsimp:=false}) [↓yet8,↓yldz,↓ym1z,↓yfsm,↓ymln,↓y7dc,↓yqtw]
 generalize hmn:yte2 a n=many at *
 split
 ·rename_i c
  refine kerr 1 h ?_ (by decide) (Sub.refl _)
  unfold mapE
  rw [if_pos]
  revert c;cases ywc5 a n <;> simp <;> omega
 rename_i c
 have c1:¬(¬ ywc5 a n=true∨perm<0∨7<perm):=by
  revert c;cases ywc5 a n <;> simp <;> omega
 unfold ybav
 refine ⟨rfl,yd1j hm.at_ hpl fun v l h1 hs1 hg1 hl1=>?_⟩
 simp (config:={dsimp:=false}) [hg1.sl.ulen,↓yix9,↓yicm]
 split
 ·rename_i c2
  refine kerr 5 h1 ?_ (by decide) hs1
  unfold mapE
  rw [if_neg c1,if_pos]
  rw [hmn]
  exact Classical.byContradiction fun hno=>by
   have:l=[]:=hl1.2 fun p hp hin=>hno ⟨p,hp,hin⟩
   simp [this] at c2
 rename_i c2
 have hnin:∀p∈μ.pages,¬inR a many p.1:=hl1.1 (by cases l <;> simp at c2 ⊢)
 have c3:¬∃p∈μ.pages,inR a many p.1:=fun ⟨p,hp,hin⟩=>hnin p hp hin
 have hm1:=hm.sub hs1
 generalize hbig:IntKind.u64.wrap (IntKind.i64.wrap (μ.budget-μ.pages.length))=room at *
 simp (config:={dsimp:=false}) [↓y8u0,↓y9zl,↓yqq2,↓yye4,↓ymna,↓yw9c,yic4 hm1.at_,yqjd hm1.at_,hbig]
 split
 ·rename_i c4
  refine kerr 6 h1 ?_ (by decide) hs1
  unfold mapE
  rw [if_neg c1,hmn,if_neg c3,hbig,if_pos c4]
 rename_i c4
 have he:mapE μ a n perm=0:=by
  unfold mapE
  rw [if_neg c1,hmn,if_neg c3,hbig,if_neg c4]
 have heM:mapM μ a n perm=addP μ a perm many.toNat:=by rw [mapM,if_pos he,hmn]
 rw [he,heM] at hk
 have hg:0<n∧a%256=0∧a+(n+255) / 256*256≤4294967296:=hgood.1 (by simp only [not_or,Bool.not_eq_true,Bool.not_eq_false] at c1;simpa using c1.1)
 obtain ⟨g0,g1,g2⟩:=hg
 rw [← hmany] at g2
 have hmb:0≤many∧many≤16777216:=by omega
 have hmw:IntKind.u32.wrap many=many:=w_u32 (by omega) (by omega)
 have hpg:∀i:Nat,(i:Int)<many→pgA a i=a+i*256:=fun i hi=>by
  unfold pgA
  rw [w_u32 (x:=(i:Int)*256) (by omega) (by omega),w_u32 (by omega) (by omega)]
 have hin:∀i:Nat,(i:Int)<many→inR a many (pgA a i):=fun i hi=>by
  rw [hpg i hi]
  refine ⟨by omega,?_⟩
  rw [w_u64 (x:=a) (by omega) (by omega),w_u64 (x:=many*256) (by omega) (by omega),w_u64 (x:=a+many*256) (by omega) (by omega),w_u64 (by omega) (by omega)]
  omega
 have hnew:∀i:Nat,(i:Int)<many→∀e∈(addP μ a perm i).pages,e.1≠pgA a i:=fun i hi e he hee=>by
  rcases yzgy he with he | ⟨j,hj,rfl⟩
  ·exact hnin e he (hee▸hin i hi)
  ·have h1:=hpg i hi
   have h2:=hpg j (by omega)
   simp only at hee
   rw [h1,h2] at hee
   omega
 rw [hmw]
 unfold y9h0
 refine yo1k many.toNat (fun i s h'=>s=(ptr D.q 0,.int .u32 a,.int .i64 perm,.int .u32 many,.int .u32 i)∧∃D',MemIn h0 D' h' (addP μ a perm i)∧D'.q=D.q∧D'.pm=D.pm∧D'.gm=D.gm∧Fr (MOwn D μ) h h'∧Sub h0 h'∧∀b,MOwn D' (addP μ a perm i) b→MOwn D μ b∨h b=none) ⟨rfl,D,hm1,rfl,rfl,rfl,fun b o _ hb=>hs1 b o hb,hsub.trans hs1,fun b hb=>.inl hb⟩ ?_
 rintro i s h' K' hi ⟨rfl,D',hm2,eq,epm,egm,hfr,hs2,hown⟩ hk'
 by_cases hlt:(i:Int)<many
 ·have w1:IntKind.u32.wrap ((i:Int)+1)=(i:Int)+1:=w_u32 (by omega) (by omega)
  simp (config:={dsimp:=false}) [↓ywdw,hlt,←eq,yic4 hm2.at_,-ygys,ykdz,w1]
  intro b _ hb
  have hpa:IntKind.u32.wrap (a+IntKind.u32.wrap (↑i*256))=pgA a i:=rfl
  simp only [hpa]
  obtain ⟨ck1,hpm⟩:=hm2.at_.pm
  obtain ⟨ck2,hgm⟩:=hm2.at_.gm
  have hq:=hm2.at_.q
  have a1:D'.q≠D'.pm:=fun e=>by rw [e,hpm] at hq;cases hq
  have a3:D'.pm≠b:=fun e=>by rw [e,hb] at hpm;cases hpm
  have a4:D'.gm≠b:=fun e=>by rw [e,hb] at hgm;cases hgm
  have a5:D'.q≠b:=fun e=>by rw [e,hb] at hq;cases hq
  have hpm1:∀q,upd h' b q D'.pm=_:=fun q=>(yrkk _ _ a3).trans hpm
  have hgm1:∀q q',upd (upd h' b q) D'.pm q' D'.gm=_:=fun q q'=>(yrkk _ _ (Ne.symm hm2.ne)).trans ((yrkk _ _ a4).trans hgm)
  have hq1:∀q q',upd (upd h' b q) D'.pm q' D'.q=_:=fun q q'=>(yrkk _ _ a1).trans ((yrkk _ _ a5).trans hq)
  simp (config:={dsimp:=false}) [yoi6 (hpm1 _),yb3e (hq1 _ _),yv6r (hgm1 _ _),yoi6 (hgm1 _ _),w1,←eq,hpa]
  refine hk' (ptr D'.q 0,.int .u32 a,.int .i64 perm,.int .u32 many,.int .u32 ((i:Int)+1)) _ (by omega) ⟨by simp [eq],{ D' with pg:=fun x=>if x=pgA a i then b else D'.pg x },hm2.page (hnew i hlt) hb (Sub.none hs2 hb),eq,epm,egm,?_,?_,?_⟩
  ·intro x o hx ho
   have h3:=hfr x o hx ho
   have x1:x≠b:=fun e=>by rw [e,hb] at h3;cases h3
   have x2:x≠D'.pm:=fun e=>hx (.inr (.inl (e.trans epm)))
   have x3:x≠D'.gm:=fun e=>hx (.inr (.inr (.inl (e.trans egm))))
   rw [yrkk _ _ x3,yrkk _ _ x2,yrkk _ _ x1];exact h3
  ·exact Sub.upd (Sub.upd (Sub.upd hs2 (Sub.none hs2 hb)) (hm2.new _ (.inr (.inl rfl)))) (hm2.new _ (.inr (.inr (.inl rfl))))
  ·intro x hx
   by_cases ho:MOwn D μ x
   ·exact .inl ho
   ·refine .inr ?_
    rcases hx with rfl | rfl | rfl | ⟨e,he2,rfl⟩
    ·exact (ho (.inl eq)).elim
    ·exact (ho (.inr (.inl epm))).elim
    ·exact (ho (.inr (.inr (.inl egm)))).elim
    ·simp only at ho ⊢
     by_cases hep:e.1=pgA a i
     ·simp only [if_pos hep] at ho ⊢
      cases hhb:h b with
      | none=>rfl
      | some o=>have:=hfr b o ho hhb;rw [hb] at this;cases this
     ·simp only [if_neg hep] at ho ⊢
      simp only [addP,List.mem_append,List.mem_singleton] at he2
      rcases he2 with he2 | rfl
      ·rcases hown _ (.inr (.inr (.inr ⟨e,he2,rfl⟩))) with h5 | h5
       ·exact (ho h5).elim
       ·exact h5
      ·exact (hep rfl).elim
 ·have hie:i=many.toNat:=by omega
  simp (config:={dsimp:=false}) [↓ywdw,hlt,↓yfl6]
  subst hie
  exact hk D' h' hm2 eq hfr hown
end
end Go.Proofs.YtnckimioabkheaaGreat
set_option linter.unusedSimpArgs false
set_option linter.unusedVariables false
set_option maxRecDepth 100000
namespace Go.Proofs.YtnckimioabkheaaGreat
open AM
def yxdd (perm need:Int):Prop:=IntKind.i64.wrap (BitVec.ofInt IntKind.i64.bits perm &&& BitVec.ofInt IntKind.i64.bits need).toNat=need
instance {perm need:Int}:Decidable (yxdd perm need):=inferInstanceAs (Decidable (_=_))
def allL (μ:MS) (need last:Int):Nat→Int→Bool
 | 0,_=>false
 | f+1,p=>match fnd p μ.pages with
   | none=>false
   | some q=>if yxdd q.1 need then (if p=last then true else allL μ need last f (IntKind.u32.wrap (p+256))) else false
def allF (μ:MS) (a n need:Int):Bool :=
 if n=0 then true
 else if 4294967296<a+n then false
 else allL μ need (yovn (a+n-1)) (((yovn (a+n-1)-yovn a) / 256).toNat+1) (yovn a)
theorem ydjw {a:Int} (h0:0≤a) (h1:a<4294967296):yovn a=a / 256*256:=by
 unfold yovn
 rw [Int.tmod_eq_emod_of_nonneg h0,w_u32 (by omega) (by omega)]
 omega
section
variable {h0 h:H} {D:MD} {μ:MS} {K:K1}
theorem ycmr {a n need:Int} (hm:MemAt D h μ) (hw:MSok μ) (ha:0≤a) (ha2:a<4294967296) (hn:0≤n) (hn2:n<9223372036854775808) (hk:K (.bool (allF μ a n need)) h) :
 AM.Spec PG y5ga [ptr D.q 0,.int .u32 a,.int .i64 n,.int .i64 need] h K:=by
 refine y4nd _ _ _ _ _ _ ?_
 have e1:IntKind.u64.wrap a=a:=w_u64 (by omega) (by omega)
 have e2:IntKind.u64.wrap n=n:=w_u64 (by omega) (by omega)
 have e3:IntKind.u64.wrap (a+n)=a+n:=w_u64 (by omega) (by omega)
 unfold allF at hk
 simp (config:={dsimp:=false}) [↓ys7u,↓ymee,↓yyrp,e1,e2,e3,y68j]
 split
 ·rename_i c;rw [if_pos c] at hk;exact hk
 rename_i c;rw [if_neg c] at hk
 split
 ·rename_i c;rw [if_pos c] at hk;exact hk
 rename_i c2;rw [if_neg c2] at hk
 have e4:IntKind.i64.wrap (n-1)=n-1:=w_i64 (by omega) (by omega)
 have e5:IntKind.u32.wrap (n-1)=n-1:=w_u32 (by omega) (by omega)
 have e6:IntKind.u32.wrap (a+(n-1))=a+n-1:=by rw [w_u32 (by omega) (by omega)];omega
 rw [e4,e5,e6]
 have b1:IntKind.u32.wrap (a+n-1-(a+n-1).tmod 256)=yovn (a+n-1):=rfl
 have b2:IntKind.u32.wrap (a-a.tmod 256)=yovn a:=rfl
 rw [b1,b2]
 have l1:=ydjw (a:=a+n-1) (by omega) (by omega)
 have l2:=ydjw ha ha2
 generalize yovn (a+n-1)=last at *
 generalize yovn a=p at *
 generalize hN:((last-p) / 256).toNat=N at *
 generalize hR:allL μ need last (N+1) p=R at *
 unfold yein
 refine yo1k N (fun i s h'=>h'=h∧s=(ptr D.q 0,.int .i64 need,.int .u32 last,.int .u32 (p+256*i))∧R=allL μ need last (N+1-i) (p+256*i)) ⟨rfl,by simp,by simp [hR]⟩ ?_
 rintro i s h' K' hi ⟨rfl,rfl,hRi⟩ hk'
 have hf:N+1-i=(N-i)+1:=by omega
 rw [hf,allL] at hRi
 unfold ykx0
 have hlk:=fun (z:Value) (okk:Bool) (K:Value→Prop) (u:Dm K)=>yrxr (h:=h') hm (b:=p+256*i) (z:=z) (okk:=okk) (K:=K) (u:=u)
 cases hfn:fnd (p+256*i) μ.pages with
 | none =>
   rw [hfn] at hRi hlk
   simp only at hRi hlk
   simp (config:={dsimp:=false}) [yic4 hm,hlk]
   rw [hRi] at hk;exact hk
 | some q =>
   rw [hfn] at hRi hlk
   simp only at hRi hlk
   have hl:=hw.len _ (y5ut hfn)
   simp (config:={dsimp:=false}) [yic4 hm,hlk,yps9 hm hfn,yvux hl]
   have hpo:yxdd q.1 need↔IntKind.i64.wrap ((((q.1%2^IntKind.i64.bits).toNat &&& (need%2^IntKind.i64.bits).toNat):Nat):Int)=need:=by simp [yxdd]
   have hlast:last=p+256*N:=by omega
   split
   ·rename_i c5
    rw [if_pos (hpo.2 c5)] at hRi
    split
    ·rename_i c6
     rw [if_pos c6] at hRi
     rw [hRi] at hk;exact hk
    ·rename_i c6
     rw [if_neg c6] at hRi
     have hlt:i<N:=by omega
     have w:IntKind.u32.wrap (p+256*i+256)=p+256*((i+1:Nat):Int):=by rw [w_u32 (by omega) (by omega)];omega
     rw [w] at hRi ⊢
     refine hk' _ _ hlt ⟨rfl,rfl,?_⟩
     have:N+1-(i+1)=N-i:=by omega
     rw [this];exact hRi
   ·rename_i c5
    rw [if_neg (fun x=>c5 (hpo.1 x))] at hRi
    rw [hRi] at hk;exact hk
end
end Go.Proofs.YtnckimioabkheaaGreat
set_option linter.unusedSimpArgs false
set_option linter.unusedVariables false
set_option maxRecDepth 100000
namespace Go.Proofs.YtnckimioabkheaaGreat
open AM
def setB (μ:MS) (p:Int) (o:Nat) (x:Int):MS:={ μ with pages:=μ.pages.map fun e=>if e.1=p then (e.1,e.2.1,e.2.2.set o x) else e }
def bumpG (μ:MS) (p:Int):MS:={ μ with gens:=gset μ.gens p (IntKind.u32.wrap ((fnd p μ.gens).getD 0+1)) }
def wrA (a:Int) (i:Nat):Int:=IntKind.u32.wrap (a+IntKind.u32.wrap i)
def wrM (μ:MS) (a:Int) (bs:List Int):Nat→MS
 | 0=>μ
 | i+1 =>
   if i=0∨(wrA a i).tmod 256=0 then bumpG (setB (wrM μ a bs i) (yovn (wrA a i)) ((wrA a i).tmod 256).toNat (bs.getD i 0)) (yovn (wrA a i))
   else setB (wrM μ a bs i) (yovn (wrA a i)) ((wrA a i).tmod 256).toNat (bs.getD i 0)
def keysM (μ:MS):List Int:=μ.pages.map (·.1)
theorem yhcc {μ:MS} {p:Int} {o:Nat} {x:Int}:keysM (setB μ p o x)=keysM μ:=by
 unfold keysM setB
 simp only [List.map_map]
 refine List.map_congr_left fun e _=>?_
 simp only [Function.comp]
 split <;> rfl
theorem ynn2 {μ:MS} {a:Int} {bs:List Int}:∀i,keysM (wrM μ a bs i)=keysM μ
 | 0=>rfl
 | i+1=>by
   rw [wrM]
   split
   ·exact yhcc.trans (ynn2 i)
   ·exact yhcc.trans (ynn2 i)
theorem yzro {β:Type} {p:Int}:∀{l:List (Int×β)},p∈l.map (·.1)→∃q,fnd p l=some q
 | [],h=>by simp at h
 | e::r,h=>by
   by_cases hp:p=e.1
   ·exact ⟨e.2,by simp [fnd,hp]⟩
   ·simp only [List.map_cons,List.mem_cons,hp,false_or] at h
    obtain ⟨q,hq⟩:=yzro h
    exact ⟨q,by simp [fnd,hp,hq]⟩
theorem y0ms {β:Type}:∀{l:List (Int×β)},(l.map (·.1)).Nodup→∀{e},e∈l→fnd e.1 l=some e.2
 | [],_,e,h=>by cases h
 | x::r,hn,e,h=>by
   simp only [List.map_cons,List.nodup_cons] at hn
   rcases List.mem_cons.1 h with rfl | h
   ·simp [fnd]
   ·have:e.1≠x.1:=fun he=>hn.1 (he▸List.mem_map.2 ⟨e,h,rfl⟩)
    simp [fnd,this,y0ms hn.2 h]
theorem yygn {μ:MS} {need last:Int}:∀{f:Nat} {p:Int} {k:Nat},0≤p→last<4294967296→last=p+256*k→allL μ need last f p=true→∀j≤k,∃q,fnd (p+256*j) μ.pages=some q
 | 0,p,k,_,_,_,h=>by cases h
 | f+1,p,k,hp,hb,hl,h=>by
   intro j hj
   rw [allL] at h
   cases hf:fnd p μ.pages with
   | none=>rw [hf] at h;cases h
   | some q =>
     rw [hf] at h
     simp only at h
     split at h
     ·split at h
      ·rename_i h1 h2
       have:j=0:=by omega
       subst this
       exact ⟨q,by simpa using hf⟩
      ·rename_i h1 h2
       cases j with
       | zero=>exact ⟨q,by simpa using hf⟩
       | succ j =>
         have w:IntKind.u32.wrap (p+256)=p+256:=w_u32 (by omega) (by omega)
         rw [w] at h
         obtain ⟨q',hq'⟩:=yygn (k:=k-1) (by omega) hb (by omega) h j (by omega)
         refine ⟨q',?_⟩
         rw [← hq'];congr 1;omega
     ·cases h
theorem ysm4 {μ:MS} {a n need:Int} (ha:0≤a) (ha2:a<4294967296) (h:allF μ a n need=true) {i:Nat} (hi:(i:Int)<n):wrA a i=a+i∧0≤wrA a i∧wrA a i<4294967296∧yovn (wrA a i)∈keysM μ:=by
 unfold allF at h
 rw [if_neg (by omega)] at h
 split at h
 ·cases h
 rename_i c
 have e1:IntKind.u32.wrap (i:Int)=i:=w_u32 (by omega) (by omega)
 have e:wrA a i=a+i:=by unfold wrA;rw [e1,w_u32 (by omega) (by omega)]
 refine ⟨e,by omega,by omega,?_⟩
 rw [e,ydjw (by omega) (by omega)]
 rw [ydjw (a:=a+n-1) (by omega) (by omega),ydjw ha ha2] at h
 obtain ⟨q,hq⟩:=yygn (k:=(((a+n-1) / 256*256-a / 256*256) / 256).toNat) (by omega) (by omega) (by omega) h ((((a+i) / 256-a / 256)).toNat) (by omega)
 have:=y5ut hq
 refine List.mem_map.2 ⟨_,this,?_⟩
 simp only
 omega
theorem MSok.setB {μ:MS} (hw:MSok μ) {p:Int} {o:Nat} {x:Int} (h0:0≤x) (h1:x<256):MSok (setB μ p o x):=by
 refine ⟨?_,?_,hw.gen⟩
 ·intro e he
  obtain ⟨e',h2,rfl⟩:=List.mem_map.1 he
  split
  ·simpa using hw.len e' h2
  ·exact hw.len e' h2
 ·intro e he y hy
  obtain ⟨e',h2,rfl⟩:=List.mem_map.1 he
  split at hy
  ·simp only at hy
   rcases List.mem_or_eq_of_mem_set hy with hy | rfl
   ·exact hw.byte e' h2 y hy
   ·exact ⟨h0,h1⟩
  ·exact hw.byte e' h2 y hy
theorem yik3 {l:List (Int×Int)} {p g:Int} (hg:0≤g∧g<4294967296) (hl:∀e∈l,0≤e.2∧e.2<4294967296):∀e∈gset l p g,0≤e.2∧e.2<4294967296:=by
 induction l with
 | nil=>intro e he;simp [gset] at he;rw [he];exact hg
 | cons x r ih =>
   intro e he
   rw [gset] at he
   split at he
   ·rcases List.mem_cons.1 he with rfl | he
    ·exact hg
    ·exact hl e (by simp [he])
   ·rcases List.mem_cons.1 he with rfl | he
    ·exact hl _ (by simp)
    ·exact ih (fun e he=>hl e (by simp [he])) e he
theorem MSok.bump {μ:MS} (hw:MSok μ) {p:Int}:MSok (bumpG μ p):=⟨hw.len,hw.byte,yik3 ⟨yd12,yina⟩ hw.gen⟩
theorem MSok.wrM {μ:MS} (hw:MSok μ) {a:Int} {bs:List Int} (hb:∀x∈bs,0≤x∧x<256):∀i,MSok (wrM μ a bs i)
 | 0=>hw
 | i+1=>by
   have hx:0≤bs.getD i 0∧bs.getD i 0<256:=by
    by_cases h:i<bs.length
    ·simp only [List.getD_eq_getElem?_getD,List.getElem?_eq_getElem h,Option.getD_some];exact hb _ (List.getElem_mem h)
    ·simp [List.getD_eq_getElem?_getD,List.getElem?_eq_none (by omega:bs.length≤i)]
   have:=(MSok.wrM (a:=a) hw hb i).setB (p:=yovn (wrA a i)) (o:=((wrA a i).tmod 256).toNat) hx.1 hx.2
   rw [Go.Proofs.YtnckimioabkheaaGreat.wrM]
   split
   ·exact this.bump
   ·exact this
theorem yvba {p:Int×List Int} {o:Nat} {x:Int} (hl:p.2.length=256) (ho:o<256):setL (yapg p) o [.int .u8 x]=yapg (p.1,p.2.set o x):=by
 unfold yapg
 simp only [setL]
 rw [List.set_append_left _ _ (by simp [hl,ho]),List.map_set]
section
variable {h0 h:H} {D:MD} {μ:MS} {K:K1}
theorem MemIn.setB (hm:MemIn h0 D h μ) {p:Int} {q:Int×List Int} {o:Nat} {x:Int} (hf:fnd p μ.pages=some q) :
 MemIn h0 D (upd h (D.pg p) (.cells (yapg (q.1,q.2.set o x)) ynw2 .exact)) (setB μ p o x):=by
 obtain ⟨ck1,hpm⟩:=hm.at_.pm
 obtain ⟨ck2,hgm⟩:=hm.at_.gm
 have hq:=hm.at_.q
 have hmem:=y5ut hf
 have hp:=hm.at_.pg _ hmem
 simp only at hp
 have a1:D.q≠D.pg p:=fun e=>by
  rw [e,hp] at hq
  simp only [Option.some.injEq,AObj.cells.injEq] at hq
  exact absurd hq.2.1 (by decide)
 have a2:D.pm≠D.pg p:=fun e=>by rw [e,hp] at hpm;cases hpm
 have a3:D.gm≠D.pg p:=fun e=>by rw [e,hp] at hgm;cases hgm
 have epg:(Go.Proofs.YtnckimioabkheaaGreat.setB μ p o x).pages.map (fun e=>(Value.int .u32 e.1,ptr (D.pg e.1) 0))=μ.pages.map fun e=>(Value.int .u32 e.1,ptr (D.pg e.1) 0):=by
  simp only [Go.Proofs.YtnckimioabkheaaGreat.setB,List.map_map]
  refine List.map_congr_left fun e _=>?_
  simp only [Function.comp]
  split <;> rfl
 have hkeys:(Go.Proofs.YtnckimioabkheaaGreat.setB μ p o x).pages.map (·.1)=μ.pages.map (·.1):=yhcc
 have hfrom:∀e∈(Go.Proofs.YtnckimioabkheaaGreat.setB μ p o x).pages,∃e'∈μ.pages,e'.1=e.1:=fun e he=>by
  have:e.1∈(Go.Proofs.YtnckimioabkheaaGreat.setB μ p o x).pages.map (·.1):=List.mem_map.2 ⟨e,he,rfl⟩
  rw [hkeys] at this
  obtain ⟨e',h1,h2⟩:=List.mem_map.1 this
  exact ⟨e',h1,h2⟩
 refine ⟨⟨?_,⟨ck1,?_⟩,⟨ck2,?_⟩,?_⟩,?_,hm.ne,?_,?_⟩
 ·rw [yrkk _ _ a1];exact hq
 ·rw [yrkk _ _ a2,epg];exact hpm
 ·rw [yrkk _ _ a3];exact hgm
 ·intro e he
  obtain ⟨e',h2,rfl⟩:=List.mem_map.1 he
  by_cases hep:e'.1=p
  ·have h3:=y0ms hm.nd h2
   rw [hep,hf] at h3
   simp only [if_pos hep,hep,if_true,Option.some.injEq] at h3 ⊢
   rw [yy0e,h3]
  ·simp only [if_neg hep]
   have:D.pg e'.1≠D.pg p:=fun hh=>hep (hm.inj e' h2 _ hmem hh)
   rw [yrkk _ _ this]
   exact hm.at_.pg e' h2
 ·rintro y (rfl | rfl | rfl | ⟨e,he,rfl⟩)
  ·exact hm.new _ (.inl rfl)
  ·exact hm.new _ (.inr (.inl rfl))
  ·exact hm.new _ (.inr (.inr (.inl rfl)))
  ·obtain ⟨e',h1,h2⟩:=hfrom e he
   rw [← h2]
   exact hm.new _ (.inr (.inr (.inr ⟨e',h1,rfl⟩)))
 ·intro e he e2 he2 hee
  obtain ⟨e',h1,h2⟩:=hfrom e he
  obtain ⟨e2',h12,h22⟩:=hfrom e2 he2
  rw [← h2,←h22] at hee ⊢
  exact hm.inj e' h1 e2' h12 hee
 ·rw [hkeys];exact hm.nd
theorem MemIn.bump (hm:MemIn h0 D h μ) {p:Int} {ck:Nat} :
 MemIn h0 D (upd h D.gm (.map (.int .u32) (mset (μ.gens.map fun p=>(Value.int .u32 p.1,Value.int .u32 p.2)) (.int .u32 p) (.int .u32 (IntKind.u32.wrap ((fnd p μ.gens).getD 0+1)))) ck)) (bumpG μ p):=by
 obtain ⟨ck1,hpm⟩:=hm.at_.pm
 obtain ⟨ck2,hgm⟩:=hm.at_.gm
 have hq:=hm.at_.q
 have a1:D.q≠D.gm:=fun e=>by rw [e,hgm] at hq;cases hq
 refine ⟨⟨?_,⟨ck1,?_⟩,⟨ck,?_⟩,?_⟩,hm.new,hm.ne,hm.inj,hm.nd⟩
 ·rw [yrkk _ _ a1];exact hq
 ·rw [yrkk _ _ hm.ne];exact hpm
 ·rw [yy0e,ybxn];rfl
 ·intro e he
  have h1:=hm.at_.pg e he
  have:D.pg e.1≠D.gm:=fun x=>by rw [x,hgm] at h1;cases h1
  rw [yrkk _ _ this];exact h1
theorem y2rr {μ':MS} (hk:keysM μ'=keysM μ) {b:Nat}:MOwn D μ' b↔MOwn D μ b:=by
 have:∀{μ μ':MS},keysM μ'=keysM μ→MOwn D μ' b→MOwn D μ b:=by
  rintro μ μ' hk (h | h | h | ⟨e,he,h⟩)
  ·exact .inl h
  ·exact .inr (.inl h)
  ·exact .inr (.inr (.inl h))
  ·have:e.1∈keysM μ':=List.mem_map.2 ⟨e,he,rfl⟩
   rw [hk] at this
   obtain ⟨e',h1,h2⟩:=List.mem_map.1 this
   exact .inr (.inr (.inr ⟨e',h1,by rw [h2];exact h⟩))
 exact ⟨this hk,this hk.symm⟩
def wrE (μ:MS) (a most need:Int) (bs:List Int):Int:=if most<bs.length then 1 else if allF μ a bs.length need=true then 0 else 8
def wrR (μ:MS) (a most need:Int) (bs:List Int):MS:=if wrE μ a most need bs=0 then wrM μ a bs bs.length else μ
theorem ytus {a most need:Int} {v:Value} {bs:List Int} (hm:MemIn h0 D h μ) (hw:MSok μ) (hsub:Sub h0 h) (ha:0≤a) (ha2:a<4294967296) (hbs:∀x∈bs,0≤x∧x<256)
 (hv:Sl (fun x:Int=>[.int .u8 x]) 1 h0 v bs) (hlen:bs.length<9223372036854775808)
 (hk:∀h',MemIn h0 D h' (wrR μ a most need bs)→Fr (MOwn D μ) h h'→K (.int .i64 (wrE μ a most need bs)) h') :
 AM.Spec PG yuzq [ptr D.q 0,.int .u32 a,v,.int .i64 most,.int .i64 need] h K:=by
 refine yeyj _ _ _ _ _ _ _ ?_
 have hv1:=hv.mono hsub
 have kerr:∀e,wrE μ a most need bs=e→e≠0→K (.int .i64 e) h:=fun e he hne=>by
  have:wrR μ a most need bs=μ:=by simp [wrR,he,hne]
  rw [this,he] at hk
  exact hk h hm fun b o _ hb=>hb
 simp (config:={dsimp:=false}) [↓yzwx,↓ys96,hv1.ulen]
 split
 ·rename_i c
  exact kerr 1 (by simp [wrE,c]) (by decide)
 rename_i c
 refine ⟨by simp [hv1.box],ycmr hm.at_ hw ha ha2 (by omega) (by omega) ?_⟩
 by_cases hall:allF μ a bs.length need=true
 case neg =>
  simp only [Bool.not_eq_true] at hall
  simp (config:={dsimp:=false}) [hall]
  exact kerr 8 (by simp [wrE,c,hall]) (by decide)
 simp (config:={dsimp:=false}) [↓yp28,↓ylg6,↓ypn0,hv1.ulen,hall]
 have he:wrE μ a most need bs=0:=by simp [wrE,c,hall]
 have heR:wrR μ a most need bs=wrM μ a bs bs.length:=by simp [wrR,he]
 rw [he,heR] at hk
 unfold ynbe
 refine yo1k bs.length (fun i s h'=>s=(ptr D.q 0,.int .u32 a,v,.int .i64 bs.length,.int .i64 i)∧MemIn h0 D h' (wrM μ a bs i)∧Fr (MOwn D μ) h h'∧Sub h0 h') ⟨rfl,hm,fun b o _ hb=>hb,hsub⟩ ?_
 rintro i s h' K' hi ⟨rfl,hm2,hfr,hs2⟩ hk'
 by_cases hlt:i<bs.length
 ·have hix:=fun (K:Value→Prop) (u:Dm K)=>(hv.mono hs2).ix1 (k:=.i64) hlt (K:=K) (u:=u)
  obtain ⟨w0,w1,w2,w3⟩:=ysm4 ha ha2 hall (i:=i) (by omega)
  have wx:IntKind.u32.wrap (a+IntKind.u32.wrap (i:Int))=wrA a i:=rfl
  have wb:IntKind.u32.wrap (wrA a i-(wrA a i).tmod 256)=yovn (wrA a i):=rfl
  rw [← ynn2 (μ:=μ) (a:=a) (bs:=bs) i] at w3
  obtain ⟨q,hq⟩:=yzro w3
  have hlk:=fun (z:Value) (okk:Bool) (K:Value→Prop) (u:Dm K)=>yrxr hm2.at_ (b:=yovn (wrA a i)) (z:=z) (okk:=okk) (K:=K) (u:=u)
  rw [hq] at hlk
  simp only at hlk
  simp (config:={dsimp:=false}) [↓ygfq,↓yy9m,↓yciq,↓yk5g,↓yspp,↓yfgr,hlt,hix,wx,wb,yic4 hm2.at_,hlk,y68j]
  have hpg:=hm2.at_.pg _ (y5ut hq)
  simp only at hpg
  have hl:=(hw.wrM (a:=a) hbs i).len _ (y5ut hq)
  simp only at hl
  have t0:0≤(wrA a i).tmod 256:=by rw [Int.tmod_eq_emod_of_nonneg w1];omega
  have t1:(wrA a i).tmod 256<256:=by rw [Int.tmod_eq_emod_of_nonneg w1];omega
  have hset:(yapg q).set ((wrA a i).tmod 256).toNat (.int .u8 bs[i])=yapg (q.1,q.2.set ((wrA a i).tmod 256).toNat bs[i]):=yvba hl (by omega)
  have hmS:=hm2.setB (o:=((wrA a i).tmod 256).toNat) (x:=bs[i]) hq
  have hgD:bs.getD i 0=bs[i]:=by simp [List.getD_eq_getElem?_getD,List.getElem?_eq_getElem hlt]
  have hown:MOwn D μ (D.pg (yovn (wrA a i))):=(y2rr (ynn2 i)).1 (.inr (.inr (.inr ⟨_,y5ut hq,rfl⟩)))
  have hfS:∀o,Fr (MOwn D μ) h (upd h' (D.pg (yovn (wrA a i))) o):=fun o x y hx hy=>by
   rw [yrkk _ _ (fun e=>hx (by rw [e];exact hown))];exact hfr x y hx hy
  have hsS:∀o,Sub h0 (upd h' (D.pg (yovn (wrA a i))) o):=fun o=>Sub.upd hs2 (hm.new _ hown)
  have hf2:=hfS (.cells (yapg (q.1,q.2.set ((wrA a i).tmod 256).toNat bs[i])) ynw2 .exact)
  have hs3:=hsS (.cells (yapg (q.1,q.2.set ((wrA a i).tmod 256).toNat bs[i])) ynw2 .exact)
  refine ⟨t0,t1,?_⟩
  rw [hpg]
  simp only
  refine ⟨by decide,by simp [yapg,hl];omega,?_⟩
  rw [hset]
  generalize upd h' (D.pg (yovn (wrA a i))) _=h2 at *
  obtain ⟨ck2,hgm⟩:=hmS.at_.gm
  have w4:IntKind.i64.wrap ((i:Int)+1)=(i:Int)+1:=w_i64 (by omega) (by omega)
  by_cases hc:i=0∨(wrA a i).tmod 256=0
  ·have hs:wrM μ a bs (i+1)=bumpG (setB (wrM μ a bs i) (yovn (wrA a i)) ((wrA a i).tmod 256).toNat bs[i]) (yovn (wrA a i)):=by rw [wrM,if_pos hc,hgD]
   rw [hs] at hk'
   simp (config:={dsimp:=false}) [↓y5yv,↓ykez,↓yxcz,↓yrlv,hc,yic4 hmS.at_,wb,y68j,yv6r hgm,yoi6 hgm,w4]
   refine hk' (ptr D.q 0,.int .u32 a,v,.int .i64 bs.length,.int .i64 ((i:Int)+1)) _ hlt ⟨by simp,hmS.bump,fun x y hx hy=>?_,Sub.upd hs3 (hm2.new _ (.inr (.inr (.inl rfl))))⟩
   rw [yrkk _ _ (fun e=>hx (by rw [e];exact .inr (.inr (.inl rfl))))];exact hf2 x y hx hy
  ·have hs:wrM μ a bs (i+1)=setB (wrM μ a bs i) (yovn (wrA a i)) ((wrA a i).tmod 256).toNat bs[i]:=by rw [wrM,if_neg hc,hgD]
   rw [hs] at hk'
   simp (config:={dsimp:=false}) [↓y5yv,↓ykez,↓ynls,↓yrlv,hc,w4]
   exact hk' (ptr D.q 0,.int .u32 a,v,.int .i64 bs.length,.int .i64 ((i:Int)+1)) _ hlt ⟨by simp,hmS,hf2,hs3⟩
 ·simp (config:={dsimp:=false}) [↓ygfq,hlt,↓yn0i]
  have hie:i=bs.length:=by omega
  subst hie
  exact hk h' hm2 hfr
end
end Go.Proofs.YtnckimioabkheaaGreat
set_option linter.unusedSimpArgs false
set_option linter.unusedVariables false
set_option maxRecDepth 100000
namespace Go.Proofs.YtnckimioabkheaaGreat
open AM
theorem yn2f {α:Type} {enc:α→List Value} {sz:Nat} {e:TypeId} {bytes:Nat} {h0 h:H} {v:Value} {l m:List α} {K:K1} (hg:Gr enc sz e h0 h v l) (hsub:Sub h0 h) (hx:∀x∈m,(enc x).length=sz) (hm:m≠[]) (h0z:0<sz)
 (hb:(l.length+m.length)*bytes≤140737488355328) (hn:l.length+m.length<9223372036854775808)
 (hk:∀v' h',Gr enc sz e h0 h' v' (l++m)→Sub h0 h'→(∀ c o,h c=some o→yc20 v≠some c→h' c=some o)→(∀ c,yc20 v'=some c→h c=none)→K v' h') {cs:List Value} (hcs:cs=m.flatMap enc) {k:Nat} (hkm:k=m.length) :
 u_new cs e .exact h (fun b h=>yx4h e sz bytes v (.slice (some ⟨b,0,none⟩) k k) h K):=by
 subst hcs hkm
 intro b hb2 hbn
 have hg':Gr enc sz e h0 (upd h b (.cells (m.flatMap enc) e .exact)) v l:=hg.keep fun c hc=>yrkk _ _ fun he=>by
  rw [he] at hc;exact hg.there hc hbn
 have hz:∀x∈m,(enc x).length=sz:=hx
 refine Gr.append (m:=m) hg' (Sl.of_block (b:=b) (o:=0) (l:=m) (c:=m.length) hz (yy0e _ _ _) (by rw [List.drop_zero,←yr37 hz,List.take_length]) (by rw [yr37 hz];omega)) hm h0z hb hn (hsub.upd (hsub.none hbn)) fun v' h' g1 g2 g3 g4=>?_
 refine hk v' h' g1 g2 (fun c o hc hv=>g3 c o ?_ hv) fun c hc=>?_
 ·rw [yrkk _ _ fun he=>by rw [he,hbn] at hc;cases hc];exact hc
 ·have:=g4 c hc
  rw [ynej] at this
  exact this.2.2
abbrev u8V:Int→List Value:=fun x=>[.int .u8 x]
abbrev u32V:Int→List Value:=fun x=>[.int .u32 x]
def word4 (w:Int):List Int:=[IntKind.u8.wrap w,IntKind.u8.wrap (w.fdiv (2^min 8 IntKind.u32.bits)),IntKind.u8.wrap (w.fdiv (2^min 16 IntKind.u32.bits)),IntKind.u8.wrap (w.fdiv (2^min 24 IntKind.u32.bits))]
def ytw8 (ws:List Int):List Int:=ws.flatMap word4
section
variable {h0 h:H} {D:MD} {μ:MS} {K:K1}
theorem y91f {a:Int} {v:Value} {bs:List Int} (hm:MemIn h0 D h μ) (hw:MSok μ) (hsub:Sub h0 h) (ha:0≤a) (ha2:a<4294967296) (hbs:∀x∈bs,0≤x∧x<256)
 (hv:Sl (fun x:Int=>[.int .u8 x]) 1 h0 v bs) (hlen:bs.length<9223372036854775808)
 (hk:∀h',MemIn h0 D h' (wrR μ a 65536 0 bs)→Fr (MOwn D μ) h h'→K (.int .i64 (wrE μ a 65536 0 bs)) h') :
 AM.Spec PG ylv9 [ptr D.q 0,.int .u32 a,v] h K:=by
 refine ygwh _ _ _ _ _ ?_
 unfold y9oh yex1
 exact ⟨by simp [hv.box],ytus hm hw hsub ha ha2 hbs hv hlen hk⟩
theorem ywub {v:Value} {ws:List Int} (hv:Sl u32V 1 h v ws) (hw:∀x∈ws,0≤x∧x<4294967296) (hlen:ws.length≤1000000)
 (hk:∀v' h',Sub h h'→Gr u8V 1 yoj6 h h' v' (ytw8 ws)→K v' h'):AM.Spec PG y5yh [v] h K:=by
 refine yrij _ _ _ ?_
 unfold y8d5 yk25 y8mo yx8d y0cj yq1r
 refine yo1k ws.length (fun i s h'=>∃w,s=(v,w,.int .i64 i)∧Sub h h'∧Gr u8V 1 yoj6 h h' w (ytw8 (ws.take i))) ⟨_,rfl,Sub.refl _,by simpa [ytw8] using Gr.empty⟩ ?_
 rintro i s h' K' hi ⟨w,rfl,hs,hg⟩ hk'
 have hv2:=hv.mono hs
 by_cases hlt:i<ws.length
 ·have hix:=fun (K:Value→Prop) (u:Dm K)=>hv2.ix1 (k:=.i64) hlt (K:=K) (u:=u)
  have hb:=hw _ (List.getElem_mem hlt)
  have htk:ytw8 (ws.take (i+1))=ytw8 (ws.take i)++word4 ws[i]:=by
   rw [List.take_succ_eq_append_getElem hlt,ytw8,List.flatMap_append];simp only [List.flatMap_cons,List.flatMap_nil,List.append_nil];rfl
  have hl4:(ytw8 (ws.take i)).length=4*i:=by
   have:∀l:List Int,(ytw8 l).length=4*l.length:=fun l=>by
    induction l with
    | nil=>rfl
    | cons x r ih=>simp [ytw8,word4] at ih ⊢;omega
   rw [this];simp;omega
  rw [htk] at hk'
  generalize ws[i]=x at *
  have w1:IntKind.i64.wrap ((i:Int)+1)=(i:Int)+1:=w_i64 (by omega) (by omega)
  simp (config:={dsimp:=false}) [↓ysp8,hv2.ulen,hlt,hix]
  refine yn2f (m:=word4 x) hg hs (by simp [word4]) (by simp [word4]) (by omega) (by simp [word4];omega) (by simp [word4];omega) (fun v' h3 g' s' _ _=>?_) rfl rfl
  simp (config:={dsimp:=false}) [w1]
  exact hk' (v,v',.int .i64 ((i:Int)+1)) _ hlt ⟨v',by simp,s',g'⟩
 ·simp (config:={dsimp:=false}) [↓ysp8,hv2.ulen,hlt,↓yvd7]
  have hie:i=ws.length:=by omega
  subst hie
  rw [List.take_length] at hg
  exact hk w h' hs hg
abbrev Sg:=Int×Int×Int×Value
def sgC (s:Sg):List Value:=[.int .u32 s.1,.int .u32 s.2.1,.int .i64 s.2.2.1,s.2.2.2]
theorem Sl.form {α:Type} {enc:α→List Value} {sz:Nat} {v:Value} {l:List α} (hs:Sl enc sz h v l):∃a n c,v=.slice a n c:=by
 obtain ⟨_,⟨_,rfl⟩ | ⟨b,o,c,rfl,_⟩⟩:=hs
 ·exact ⟨_,_,_,rfl⟩
 ·exact ⟨_,_,_,rfl⟩
theorem y3pc {h:H} {b b1:Nat} {q q' r:AObj} (hn:¬b=b1):upd (upd (upd h b q) b1 r) b q'=upd (upd h b q') b1 r:=by
 funext c
 unfold upd
 by_cases h1:c=b
 ·subst h1;simp [hn]
 ·simp [h1]
theorem yj7q {v vd:Value} {ws data:List Int} {all:Bool} (hv:Sl u32V 1 h v ws) (hw:∀x∈ws,0≤x∧x<4294967296) (hlen:ws.length≤1000000) (hd:Sl u8V 1 h vd data)
 (hk:∀vs vb h',Sub h h'→(∃ q,vs=.slice (some ⟨q,0,none⟩) 2 2)→Sl u8V 1 h' vb (ytw8 ws)→Sl sgC 4 h' vs [(4096,1024,(if all=true then 7 else 5),vb),(65536,512,3,vd)]→K (.agg #[.int .u32 4096,vs]) h') :
 AM.Spec PG ymwz [v,vd,.bool all] h K:=by
 refine ygf7 _ _ _ _ _ ?_
 unfold yuca yid9
 intro b6 _ hb6
 have s1:Sub h (upd h b6 (.cells [.int .u32 0,.slice none 0 0] y33u .exact)):=Sub.new hb6
 refine ⟨by simp [hv.box],ywub (hv.mono s1) hw hlen fun vb h1 hs1 hg1=>?_⟩
 have hsb:=hg1.sl
 have hd1:=hd.mono (s1.trans hs1)
 have e6:=hs1 _ _ (yy0e h b6 (.cells [.int .u32 0,.slice none 0 0] y33u .exact))
 obtain ⟨ab,nb,cb,rfl⟩:=Sl.form hsb
 obtain ⟨ad,nd,cd,rfl⟩:=Sl.form hd1
 have hs2:=s1.trans hs1
 simp (config:={dsimp:=false})
 intro b _ hb b1 _ n1 n2 hb1
 have m1:b6≠b:=fun e=>by rw [e,hb] at e6;cases e6
 have m2:b6≠b1:=fun e=>by rw [e,hb1] at e6;cases e6
 have hn0:=Sub.none hs2 hb
 have hn1:=Sub.none hs2 hb1
 have hgf:∀q1 q2 q3,Gr u8V 1 yoj6 (upd h b6 (.cells [.int .u32 0,.slice none 0 0] y33u .exact)) (upd (upd (upd h1 b q1) b1 q2) b6 q3) (.slice ab nb cb) (ytw8 ws):=fun q1 q2 q3=>by
  refine (hg1.over e6 (q':=q3) (by simp)).keep fun c hc=>?_
  have hcn:=hg1.there hc
  have c1:c≠b:=fun e=>hcn (e▸hb)
  have c2:c≠b1:=fun e=>hcn (e▸hb1)
  by_cases c3:c=b6
  ·subst c3;simp [upd]
  ·simp [upd,c1,c2,c3]
 have hsub:∀q1 q2 q3,Sub h (upd (upd (upd h1 b q1) b1 q2) b6 q3):=fun q1 q2 q3=>Sub.upd (Sub.upd (Sub.upd hs2 hn0) hn1) hb6
 cases all
 ·simp (config:={dsimp:=false}) [n1,n2,m1,m2,Ne.symm m1,Ne.symm m2,e6]
  refine hk _ (.slice ab nb cb) _ (hsub _ _ _) ⟨b,rfl⟩ (hgf _ _ _).sl ?_
  refine Sl.of_block (b:=b) (o:=0) (c:=2) (by simp [sgC]) ((yrkk _ _ (Ne.symm m1)).trans ((yrkk _ _ n2).trans (yy0e _ _ _))) (by simp [sgC]) (by simp)
 ·simp (config:={dsimp:=false}) [n1,n2,m1,m2,Ne.symm m1,Ne.symm m2,e6]
  rw [y3pc n2]
  refine hk _ (.slice ab nb cb) _ (hsub _ _ _) ⟨b,rfl⟩ (hgf _ _ _).sl ?_
  refine Sl.of_block (b:=b) (o:=0) (c:=2) (by simp [sgC]) ((yrkk _ _ (Ne.symm m1)).trans ((yrkk _ _ n2).trans (yy0e _ _ _))) (by simp [sgC]) (by simp)
end
end Go.Proofs.YtnckimioabkheaaGreat
set_option linter.unusedSimpArgs false
set_option linter.unusedVariables false
set_option maxRecDepth 100000
namespace Go.Proofs.YtnckimioabkheaaGreat
open AM
def MSz (μ:MS):Prop:=(μ.pages.length:Int)≤μ.budget∧μ.budget≤4096
theorem yqqr {μ:MS} {a perm:Int}:∀i,(addP μ a perm i).pages.length=μ.pages.length+i
 | 0=>rfl
 | i+1=>by simp [addP,yqqr i];omega
theorem MSz.map {μ:MS} (hz:MSz μ) {a n perm:Int} (hn:0≤n) (hn2:n<4294967296):MSz (mapM μ a n perm):=by
 unfold mapM
 split
 ·rename_i he
  have hm:=y56w (a:=a) hn hn2
  unfold mapE at he
  split at he
  ·cases he
  split at he
  ·cases he
  split at he
  ·cases he
  rename_i c
  obtain ⟨z1,z2⟩:=hz
  rw [w_i64 (by omega) (by omega),w_u64 (by omega) (by omega)] at c
  refine ⟨?_,by rw [yodx];exact z2⟩
  rw [yodx,yqqr]
  omega
 ·exact hz
theorem MSz.wr {μ:MS} (hz:MSz μ) {a most need:Int} {bs:List Int}:MSz (wrR μ a most need bs):=by
 have hb:∀i,(wrM μ a bs i).budget=μ.budget:=fun i=>by
  induction i with
  | zero=>rfl
  | succ i ih=>rw [wrM];split <;> simp [bumpG,setB,ih]
 have hl:∀i,(wrM μ a bs i).pages.length=μ.pages.length:=fun i=>by
  have:=congrArg List.length (ynn2 (μ:=μ) (a:=a) (bs:=bs) i)
  simpa [keysM] using this
 unfold wrR
 split
 ·exact ⟨by rw [hl,hb];exact hz.1,by rw [hb];exact hz.2⟩
 ·exact hz
theorem MSok.addP {μ:MS} (hw:MSok μ) {a perm:Int}:∀i,MSok (addP μ a perm i)
 | 0=>hw
 | i+1=>by
   have ih:=MSok.addP (a:=a) (perm:=perm) hw i
   refine ⟨?_,?_,yik3 ⟨yd12,yina⟩ ih.gen⟩
   ·intro e he
    simp only [Go.Proofs.YtnckimioabkheaaGreat.addP,List.mem_append,List.mem_singleton] at he
    rcases he with he | rfl
    ·exact ih.len e he
    ·simp [yr1e]
   ·intro e he x hx
    simp only [Go.Proofs.YtnckimioabkheaaGreat.addP,List.mem_append,List.mem_singleton] at he
    rcases he with he | rfl
    ·exact ih.byte e he x hx
    ·have:=(List.mem_replicate.1 hx).2
     omega
theorem MSok.map {μ:MS} (hw:MSok μ) {a n perm:Int}:MSok (mapM μ a n perm):=by
 unfold mapM
 split
 ·exact hw.addP _
 ·exact hw
theorem MSok.wr {μ:MS} (hw:MSok μ) {a most need:Int} {bs:List Int} (hb:∀x∈bs,0≤x∧x<256):MSok (wrR μ a most need bs):=by
 unfold wrR
 split
 ·exact hw.wrM hb _
 ·exact hw
def layF:MS→List (Sg×List Int)→Int×MS
 | μ,[]=>(0,μ)
 | μ,s::r =>
   if mapE μ s.1.1 s.1.2.1 s.1.2.2.1≠0 then (mapE μ s.1.1 s.1.2.1 s.1.2.2.1,μ)
   else if wrE (mapM μ s.1.1 s.1.2.1 s.1.2.2.1) s.1.1 65536 0 s.2≠0 then (wrE (mapM μ s.1.1 s.1.2.1 s.1.2.2.1) s.1.1 65536 0 s.2,mapM μ s.1.1 s.1.2.1 s.1.2.2.1)
   else layF (wrR (mapM μ s.1.1 s.1.2.1 s.1.2.2.1) s.1.1 65536 0 s.2) r
section
variable {h0 h:H} {D:MD} {μ:MS} {K:K1}
theorem MemAt.other (hm:MemAt D h μ) {b:Nat} {cs:List Value} {E:TypeId} {m:AM.Own} (hb:h b=some (.cells cs E m)) (h1:E≠y7k4) (h2:E≠ynw2):¬MOwn D μ b:=by
 rintro (rfl | rfl | rfl | ⟨e,he,rfl⟩)
 ·have:=hm.q
  rw [hb] at this
  simp only [Option.some.injEq,AObj.cells.injEq] at this
  exact h1 this.2.1
 ·obtain ⟨ck,this⟩:=hm.pm
  rw [hb] at this;cases this
 ·obtain ⟨ck,this⟩:=hm.gm
  rw [hb] at this;cases this
 ·have:=hm.pg e he
  rw [hb] at this
  simp only [Option.some.injEq,AObj.cells.injEq] at this
  exact h2 this.2.1
structure Went (h0:H) (D:MD) (μ:MS) (h:H) (D':MD) (μ':MS) (h':H):Prop where
 mem:MemIn h0 D' h' μ'
 q:D'.q=D.q
 fr:Fr (MOwn D μ) h h'
 own:∀b,MOwn D' μ' b→MOwn D μ b∨h b=none
theorem Went.refl (hm:MemIn h0 D h μ):Went h0 D μ h D μ h:=⟨hm,rfl,fun _ _ _ h=>h,fun _ h=>.inl h⟩
theorem Went.trans {E1 E2:MD} {μ1 μ2:MS} {h1 h2:H} (a:Went h0 D μ h E1 μ1 h1) (b:Went h0 E1 μ1 h1 E2 μ2 h2):Went h0 D μ h E2 μ2 h2:=by
 have hfr:Fr (MOwn D μ) h h2:=fun x o hx ho=>b.fr x o (fun hc=>by
  rcases a.own x hc with h5 | h5
  ·exact hx h5
  ·rw [ho] at h5;cases h5) (a.fr x o hx ho)
 refine ⟨b.mem,b.q.trans a.q,hfr,fun x hx=>?_⟩
 rcases b.own x hx with h5 | h5
 ·exact a.own x h5
 ·by_cases hx2:MOwn D μ x
  ·exact .inl hx2
  ·refine .inr ?_
   cases hh:h x with
   | none=>rfl
   | some o=>have:=a.fr x o hx2 hh;rw [h5] at this;cases this
theorem Went.new {E1:MD} {μ1:MS} {h1:H} (a:Went h0 D μ h E1 μ1 h1) {b:Nat} {q:AObj} (hb:h1 b=none):Went h0 D μ h E1 μ1 (upd h1 b q) :=
 ⟨a.mem.sub (Sub.new hb),a.q,fun x o hx ho=>Sub.new hb x o (a.fr x o hx ho),a.own⟩
theorem Went.sub0 {E1:MD} {μ1:MS} {h1:H} (a:Went h0 D μ h E1 μ1 h1) (hm:MemIn h0 D h μ) (hs:Sub h0 h):Sub h0 h1:=a.fr.sub hs hm.new
end
end Go.Proofs.YtnckimioabkheaaGreat
