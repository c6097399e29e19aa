/-
  Part of a proof: several texts put together, long names shortened.
-/
import Derived.Test.YtnckimioabkheaaGreatZ3
import Derived.KernelRfl
import Derived.Test.YtnckimioabkheaaGreatZ4
set_option linter.unusedVariables false
set_option maxRecDepth 100000
namespace Go.Proofs.YtnckimioabkheaaGreat
open Go.Proofs.YtnckimioabkheaaGreat.AM
@[simp] theorem ymi3 {K : Value → Prop} {u : Dm K} : ysnr PG yc0x [] K u = K (.agg #[.int .i64 0, .int .i64 0, .int .i64 0, .int .i64 0, .int .i32 0]) := by kernel_rfl
@[simp] theorem yis3 {K : Value → Prop} {u : Dm K} : ysnr PG yrjx [] K u = K (.agg #[.int .u32 0, .slice none 0 0, .int .u32 0]) := by kernel_rfl
@[simp] theorem ysmw {a0 : Int} {a2 : Int} {K : Value → Prop} {u : Dm K} : ysnr PG yrjx [(0, .int .u32 a0), (2, .int .u32 a2)] K u = K (.agg #[.int .u32 a0, .slice none 0 0, .int .u32 a2]) := by kernel_rfl
@[simp] theorem ykxh {K : Value → Prop} {u : Dm K} : ysnr PG ys2z [] K u = K (.agg #[.int .i64 0, .int .u32 0, .int .i64 0]) := by kernel_rfl
@[simp] theorem y8w7 {a0 : Int} {a1 : Int} {K : Value → Prop} {u : Dm K} : ysnr PG ys2z [(0, .int .i64 a0), (1, .int .u32 a1)] K u = K (.agg #[.int .i64 a0, .int .u32 a1, .int .i64 0]) := by kernel_rfl
@[simp] theorem ynga {a0 : Int} {a1 : Int} {a2 : Int} {K : Value → Prop} {u : Dm K} : ysnr PG ys2z [(0, .int .i64 a0), (1, .int .u32 a1), (2, .int .i64 a2)] K u = K (.agg #[.int .i64 a0, .int .u32 a1, .int .i64 a2]) := by kernel_rfl
@[simp] theorem y4dy {a0_0 : Int} {a0_1 : Int} {a0_2 : Int} {a0_3 : Int} {a0_4 : Int} {h : H} {K : K1} {u : Dm K} : ynqb PG ywqg 1 [(0, .agg #[.int .i64 a0_0, .int .i64 a0_1, .int .i64 a0_2, .int .i64 a0_3, .int .i32 a0_4])] h K u = u_new [.int .i64 a0_0, .int .i64 a0_1, .int .i64 a0_2, .int .i64 a0_3, .int .i32 a0_4] yc0x .exact h fun b h => K (.slice (some ⟨b, 0, none⟩) 1 1) h := by kernel_rfl
def yugv (x0 x1 : Value) (h : H) (Kn : K1) (Kr : K1) : Prop :=
  u_pf false 1 2 x0 h fun v8 => u_ct ya8v [x1] h fun v10 h => ylsp (.int .u32) (.int .u32 0) v8 v10 false h fun v11 => Kn v11 h
theorem ypgf (Kn : K1) (Kr : K1) (t : T) (h : H) (H0 : yugv (t 0) (t 1) h Kn Kr) : Wp PG 12 (seqL (rest 1 (ygjk Tryz.f48.body))) (mkQ (q1 Kn 4) (q1 Kr 4) ke0) t h :=
  ybop E5_ok [0, 1, 2, 3, 4, 5, 6, 7] (by kernel_rfl) (by kernel_rfl) H0 (by kernel_rfl)
def yi3o (x4 : Value) (h : H) (Kn : K1) (Kr : K1) : Prop :=
  Kr x4 h
theorem ycxe (Kn : K1) (Kr : K1) (t : T) (h : H) (H0 : yi3o (t 4) h Kn Kr) : Wp PG 12 (seqR (rest 1 (ygjk Tryz.f48.body))) (mkQ (q1 Kn 4) (q1 Kr 4) ke0) t h :=
  wpEqC E5_ok H0 (by kernel_rfl)
def ypmw (x0 x1 : Value) (h : H) (Kn : K1) (Kr : K1) : Prop :=
  yugv x0 x1 h (fun y4 h => yi3o y4 h Kn Kr) Kr
theorem york (Kn : K1) (Kr : K1) (t : T) (h : H) (H0 : ypmw (t 0) (t 1) h Kn Kr) : Wp PG 12 (rest 1 (ygjk Tryz.f48.body)) (mkQ (q1 Kn 4) (q1 Kr 4) ke0) t h :=
  ykv2 (by kernel_rfl) (fun t h H1 => ycxe Kn Kr t h H1) (ypgf (fun y4 h => yi3o y4 h Kn Kr) Kr t h H0)
def ytwj (x0 x1 : Value) (h : H) (Kn : K1) (Kr : K1) : Prop :=
  ypmw x0 x1 h Kn Kr
theorem y8y9 (Kn : K1) (Kr : K1) (t : T) (h : H) (H0 : ytwj (t 0) (t 1) h Kn Kr) : Wp PG 12 (ygjk Tryz.f48.body) (mkQ (q1 Kn 4) (q1 Kr 4) ke0) t h :=
  yvnp E5_ok 1 H0 (by kernel_rfl) (fun t h (H1 : ypmw (t 0) (t 1) h Kn Kr) => york Kn Kr t h H1) (by kernel_rfl)
def y3mp (x0 x1 : Value) (h : H) (Q : K1) : Prop := ytwj x0 x1 h Q Q
theorem ytx7 (x0 x1 : Value) (h : H) (Q : K1) (H0 : y3mp x0 x1 h Q) : AM.Spec PG yd4l [x0, x1] h Q :=
  yqxt mixed (fn := Tryz.f48) Tryz.func48 (c := ygjk Tryz.f48.body) (rs := [4]) (N := 12) (by kernel_rfl) (by kernel_rfl) (by kernel_rfl) (by kernel_rfl) (by kernel_rfl) (Nat.le_of_ble_eq_true rfl) (y8y9 Q Q (tinit [x0, x1]) h H0) (by kernel_rfl)
def y8xn (x0 x1 x3 : Value) (h : H) (Kn : K2) (Kr : K2) : Prop :=
  u_pf false 1 1 x0 h fun v31 => u_ct ya8v [x1] h fun v33 h => ylsp (.int .u32) (.pointer none) v31 v33 false h fun v34 => Kn x3 v34 h
theorem ymsq (Kn : K2) (Kr : K2) (t : T) (h : H) (H0 : y8xn (t 0) (t 1) (t 3) h Kn Kr) : Wp PG 48 (seqL (rest 2 (ygjk Tryz.f225.body))) (mkQ (q2 Kn 3 10) (q2 Kr 8 9) ke0) t h :=
  ybop E5_ok [0, 1, 2, 3, 4, 5, 6, 7] (by kernel_rfl) (by kernel_rfl) H0 (by kernel_rfl)
def y74p (x3 x10 : Value) (h : H) (Kn : K2) (Kr : K2) : Prop :=
  u_bin PG .eql y14o x10 (.pointer none) fun v37 => u_if v37 (Kr (.pointer none) (.int .i64 1) h) (u_pf false 1 256 x10 h fun v42 => u_bin PG .and T_int v42 x3 fun v44 => u_bin PG .neq T_int v44 x3 fun v46 => u_if v46 (Kr (.pointer none) (.int .i64 2) h) (Kr x10 (.int .i64 0) h))
theorem yuvx (Kn : K2) (Kr : K2) (t : T) (h : H) (H0 : y74p (t 3) (t 10) h Kn Kr) : Wp PG 48 (seqR (rest 2 (ygjk Tryz.f225.body))) (mkQ (q2 Kn 8 9) (q2 Kr 8 9) ke0) t h :=
  wpEqC E5_ok H0 (by kernel_rfl)
def ygob (x0 x1 x3 : Value) (h : H) (Kn : K2) (Kr : K2) : Prop :=
  y8xn x0 x1 x3 h (fun y3 y10 h => y74p y3 y10 h Kn Kr) Kr
theorem yk96 (Kn : K2) (Kr : K2) (t : T) (h : H) (H0 : ygob (t 0) (t 1) (t 3) h Kn Kr) : Wp PG 48 (rest 2 (ygjk Tryz.f225.body)) (mkQ (q2 Kn 8 9) (q2 Kr 8 9) ke0) t h :=
  ykv2 (by kernel_rfl) (fun t h H1 => yuvx Kn Kr t h H1) (ymsq (fun y3 y10 h => y74p y3 y10 h Kn Kr) Kr t h H0)
def yw8q (x0 x1 x2 x3 : Value) (h : H) (Kn : K2) (Kr : K2) : Prop :=
  u_bin PG .neq T_int x2 (.int .i64 1) fun v12 => ydv6 v12 true (fun k4 => u_bin PG .neq T_int x2 (.int .i64 2) fun v15 => k4 v15 h) (fun v15 h => y9rg v12 v15 (.bool false) fun v16 => ydv6 v16 true (fun k8 => u_bin PG .neq T_int x2 (.int .i64 4) fun v19 => k8 v19 h) (fun v19 h => y9rg v16 v19 (.bool false) fun v20 => ydv6 v20 false (fun k15 => y2x6 .u32 x2 fun v24 => u_bin PG .rem ycpa x1 v24 fun v25 => u_bin PG .neq ycpa v25 (.int .u32 0) fun v26 => k15 v26 h) (fun v26 h => y9rg v20 (.bool true) v26 fun v27 => u_if v27 (Kr (.pointer none) (.int .i64 3) h) (ygob x0 x1 x3 h Kn Kr)) h) h) h
theorem yjc7 (Kn : K2) (Kr : K2) (t : T) (h : H) (H0 : yw8q (t 0) (t 1) (t 2) (t 3) h Kn Kr) : Wp PG 48 (ygjk Tryz.f225.body) (mkQ (q2 Kn 8 9) (q2 Kr 8 9) ke0) t h :=
  yvnp E5_ok 2 H0 (by kernel_rfl) (fun t h (H1 : ygob (t 0) (t 1) (t 3) h Kn Kr) => yk96 Kn Kr t h H1) (by kernel_rfl)
def y42a (x0 x1 x2 x3 : Value) (h : H) (Q : K1) : Prop := yw8q x0 x1 x2 x3 h (fun y8 y9 h => bif [y8, y9].all boxV then Q (.tuple #[y8, y9]) h else False) (fun y8 y9 h => bif [y8, y9].all boxV then Q (.tuple #[y8, y9]) h else False)
theorem ym2q (x0 x1 x2 x3 : Value) (h : H) (Q : K1) (H0 : y42a x0 x1 x2 x3 h Q) : AM.Spec PG yd5h [x0, x1, x2, x3] h Q :=
  yqxt mixed (fn := Tryz.f225) Tryz.func225 (c := ygjk Tryz.f225.body) (rs := [8, 9]) (N := 48) (by kernel_rfl) (by kernel_rfl) (by kernel_rfl) (by kernel_rfl) (by kernel_rfl) (Nat.le_of_ble_eq_true rfl) (yjc7 (fun y8 y9 h => bif [y8, y9].all boxV then Q (.tuple #[y8, y9]) h else False) (fun y8 y9 h => bif [y8, y9].all boxV then Q (.tuple #[y8, y9]) h else False) (tinit [x0, x1, x2, x3]) h H0) (by kernel_rfl)
def y6qk (x1 x10 x12 x26 x27 : Value) (h : H) (Kn : K5) (Kr : K2) (Ke0 : K1) : Prop :=
  u_bin PG .lss ycpa x27 x26 fun v28 => u_if v28 (u_bin PG .rem ycpa x1 (.int .u32 256) fun v33 => u_bin PG .add ycpa v33 x27 fun v35 => y394 x10 fun v36 => y0wt 0 v36 fun v37 => u_ix false 1 (some 256) v37 v35 h fun v39 => y2x6 .u32 v39 fun v40 => u_bin PG .mul ycpa (.int .u32 8) x27 fun v42 => u_bin PG .shl ycpa v40 v42 fun v43 => u_bin PG .or ycpa x12 v43 fun v44 => u_bin PG .add ycpa x27 (.int .u32 1) fun v45 => Kn x1 x10 v44 x26 v45 h) (Ke0 x12 h)
theorem ykpa (Kn : K5) (Kr : K2) (Ke0 : K1) (t : T) (h : H) (H0 : y6qk (t 1) (t 10) (t 12) (t 26) (t 27) h Kn Kr Ke0) : Wp PG 47 (lopC (blkC (rest 1 (seqL (rest 4 (ygjk Tryz.f154.body)))))) (mkQ (q5 Kn 1 10 12 26 27) (q2 Kr 8 9) (keAdd 0 (q1 Ke0 12) ke0)) t h :=
  wpEqC E5_ok H0 (by kernel_rfl)
def ye5b (x1 x10 x12 x26 x27 : Value) (h : H) (Kn : K1) (Kr : K2) (Ke0 : K1) : Prop :=
  sloop (S := Value × Value × Value × Value × Value) (fun s h K => y6qk s.1 s.2.1 s.2.2.1 s.2.2.2.1 s.2.2.2.2 h (fun y1 y10 y12 y26 y27 h => K (y1, y10, y12, y26, y27) h) Kr Ke0) (x1, x10, x12, x26, x27) h
theorem ygpz (Kn : K1) (Kr : K2) (Ke0 : K1) (t : T) (h : H) (H0 : ye5b (t 1) (t 10) (t 12) (t 26) (t 27) h Kn Kr Ke0) : Wp PG 47 (blkC (rest 1 (seqL (rest 4 (ygjk Tryz.f154.body))))) (mkQ (q1 Kn 12) (q2 Kr 8 9) (keAdd 0 (q1 Ke0 12) ke0)) t h :=
  yv0a (fun t => (t 1, t 10, t 12, t 26, t 27)) (by kernel_rfl) (fun t h K H1 => ykpa (fun y1 y10 y12 y26 y27 h => K (y1, y10, y12, y26, y27) h) Kr Ke0 t h H1) H0
def y1l8 (x1 x10 x12 x26 x27 : Value) (h : H) (Kn : K1) (Kr : K2) : Prop :=
  ye5b x1 x10 x12 x26 x27 h Kn Kr Kn
theorem yznh (Kn : K1) (Kr : K2) (t : T) (h : H) (H0 : y1l8 (t 1) (t 10) (t 12) (t 26) (t 27) h Kn Kr) : Wp PG 47 (rest 1 (seqL (rest 4 (ygjk Tryz.f154.body)))) (mkQ (q1 Kn 12) (q2 Kr 8 9) ke0) t h :=
  y6tu 0 (by kernel_rfl) (by kernel_rfl) (ygpz Kn Kr Kn t h H0)
def y7ix (x1 x2 x10 x12 : Value) (h : H) (Kn : K1) (Kr : K2) : Prop :=
  y2x6 .u32 x2 fun v26 => y1l8 x1 x10 x12 v26 (.int .u32 0) h Kn Kr
theorem ywvr (Kn : K1) (Kr : K2) (t : T) (h : H) (H0 : y7ix (t 1) (t 2) (t 10) (t 12) h Kn Kr) : Wp PG 47 (seqL (rest 4 (ygjk Tryz.f154.body))) (mkQ (q1 Kn 12) (q2 Kr 8 9) ke0) t h :=
  yvnp E5_ok 1 H0 (by kernel_rfl) (fun t h (H1 : y1l8 (t 1) (t 10) (t 12) (t 26) (t 27) h Kn Kr) => yznh Kn Kr t h H1) (by kernel_rfl)
def yevb (x12 : Value) (h : H) (Kn : K2) (Kr : K2) : Prop :=
  Kr x12 (.int .i64 0) h
theorem yfjh (Kn : K2) (Kr : K2) (t : T) (h : H) (H0 : yevb (t 12) h Kn Kr) : Wp PG 47 (seqR (rest 4 (ygjk Tryz.f154.body))) (mkQ (q2 Kn 8 9) (q2 Kr 8 9) ke0) t h :=
  wpEqC E5_ok H0 (by kernel_rfl)
def ynot (x1 x2 x10 x12 : Value) (h : H) (Kn : K2) (Kr : K2) : Prop :=
  y7ix x1 x2 x10 x12 h (fun y12 h => yevb y12 h Kn Kr) Kr
theorem y0ux (Kn : K2) (Kr : K2) (t : T) (h : H) (H0 : ynot (t 1) (t 2) (t 10) (t 12) h Kn Kr) : Wp PG 47 (rest 4 (ygjk Tryz.f154.body)) (mkQ (q2 Kn 8 9) (q2 Kr 8 9) ke0) t h :=
  ykv2 (by kernel_rfl) (fun t h H1 => yfjh Kn Kr t h H1) (ywvr (fun y12 h => yevb y12 h Kn Kr) Kr t h H0)
def yvxg (x0 x1 x2 x3 : Value) (h : H) (Kn : K2) (Kr : K2) : Prop :=
  yjdf PG yd5h [x0, x1, x2, x3] h fun v19 h => yvu8 v19 0 fun v20 => yvu8 v19 1 fun v21 => u_bin PG .neq yp70 v21 (.int .i64 0) fun v23 => u_if v23 (Kr (.int .u32 0) v21 h) (ynot x1 x2 v20 (.int .u32 0) h Kn Kr)
theorem y5ts (Kn : K2) (Kr : K2) (t : T) (h : H) (H0 : yvxg (t 0) (t 1) (t 2) (t 3) h Kn Kr) : Wp PG 47 (ygjk Tryz.f154.body) (mkQ (q2 Kn 8 9) (q2 Kr 8 9) ke0) t h :=
  yvnp E5_ok 4 H0 (by kernel_rfl) (fun t h (H1 : ynot (t 1) (t 2) (t 10) (t 12) h Kn Kr) => y0ux Kn Kr t h H1) (by kernel_rfl)
def yyx4 (x0 x1 x2 x3 : Value) (h : H) (Q : K1) : Prop := yvxg x0 x1 x2 x3 h (fun y8 y9 h => bif [y8, y9].all boxV then Q (.tuple #[y8, y9]) h else False) (fun y8 y9 h => bif [y8, y9].all boxV then Q (.tuple #[y8, y9]) h else False)
theorem yrmj (x0 x1 x2 x3 : Value) (h : H) (Q : K1) (H0 : yyx4 x0 x1 x2 x3 h Q) : AM.Spec PG yvz0 [x0, x1, x2, x3] h Q :=
  yqxt mixed (fn := Tryz.f154) Tryz.func154 (c := ygjk Tryz.f154.body) (rs := [8, 9]) (N := 47) (by kernel_rfl) (by kernel_rfl) (by kernel_rfl) (by kernel_rfl) (by kernel_rfl) (Nat.le_of_ble_eq_true rfl) (y5ts (fun y8 y9 h => bif [y8, y9].all boxV then Q (.tuple #[y8, y9]) h else False) (fun y8 y9 h => bif [y8, y9].all boxV then Q (.tuple #[y8, y9]) h else False) (tinit [x0, x1, x2, x3]) h H0) (by kernel_rfl)
def y7mt (x0 x1 x31 : Value) (h : H) (Kn : K3) (Kr : K3) : Prop :=
  u_new [.int .i64 0, .int .i64 0, .int .i64 0, .int .i64 0, .int .i32 0] yc0x .exact h fun b4 h => u_new [.int .i64 0, .int .u32 0, .int .i64 0] ys2z .exact h fun b5 h => yjdf PG yvz0 [x0, x1, (.int .i64 4), (.int .i64 4)] h fun v12 h => yvu8 v12 0 fun v13 => yvu8 v12 1 fun v14 => u_bin PG .neq yp70 v14 (.int .i64 0) fun v16 => u_if v16 (ysnr PG yc0x [] fun v17 => ysnr PG ys2z [(0, (.int .i64 1)), (1, x1), (2, v14)] fun v20 => ylel 5 (.pointer (some ⟨b4, 0, none⟩)) v17 h fun h => ylel 3 (.pointer (some ⟨b5, 0, none⟩)) v20 h fun h => Kr (.pointer (some ⟨b4, 0, none⟩)) (.pointer (some ⟨b5, 0, none⟩)) x31 h) (u_ct yevm [v13] h fun v22 h => u_new [.int .i64 0, .int .i64 0, .int .i64 0, .int .i64 0, .int .i32 0] yc0x .exact h fun b8 h => ylel 5 (.pointer (some ⟨b8, 0, none⟩)) v22 h fun h => u_bf false 1 0 (.pointer (some ⟨b8, 0, none⟩)) h fun v24 => u_bin PG .eql T_int v24 (.int .i64 0) fun v25 => u_if v25 (ysnr PG yc0x [] fun v26 => ysnr PG ys2z [(0, (.int .i64 2)), (1, x1)] fun v28 => ylel 5 (.pointer (some ⟨b4, 0, none⟩)) v26 h fun h => ylel 3 (.pointer (some ⟨b5, 0, none⟩)) v28 h fun h => Kr (.pointer (some ⟨b4, 0, none⟩)) (.pointer (some ⟨b5, 0, none⟩)) x31 h) (ybqh true 5 (.pointer (some ⟨b8, 0, none⟩)) h fun v29 => ysnr PG ys2z [] fun v30 => ylel 5 (.pointer (some ⟨b4, 0, none⟩)) v29 h fun h => ylel 3 (.pointer (some ⟨b5, 0, none⟩)) v30 h fun h => Kr (.pointer (some ⟨b4, 0, none⟩)) (.pointer (some ⟨b5, 0, none⟩)) x31 h))
theorem yx8c (Kn : K3) (Kr : K3) (t : T) (h : H) (H0 : y7mt (t 0) (t 1) (t 31) h Kn Kr) : Wp PG 31 (ygjk Tryz.f49.body) (mkQ (q3 Kn 4 5 31) (q3 Kr 4 5 31) ke0) t h :=
  wpEqC E5_ok H0 (by kernel_rfl)
def yk52 (x0 x1 : Value) (h : H) (Q : K1) : Prop := y7mt x0 x1 undef h (fun y4 y5 y31 h => o_ret y31 h (fun h => ybqh true 5 y4 h fun v0 => ybqh true 3 y5 h fun v1 => [v0, v1].all boxV = true ∧ Q (.tuple #[v0, v1]) h)) (fun y4 y5 y31 h => o_ret y31 h (fun h => ybqh true 5 y4 h fun v0 => ybqh true 3 y5 h fun v1 => [v0, v1].all boxV = true ∧ Q (.tuple #[v0, v1]) h))
theorem yr69 (x0 x1 : Value) (h : H) (Q : K1) (H0 : yk52 x0 x1 h Q) : AM.Spec PG y0l5 [x0, x1] h Q :=
  ytyr mixed (fn := Tryz.f49) Tryz.func49 (c := ygjk Tryz.f49.body) (ds := [.cell 4 119 true 5, .cell 5 45 true 3]) (N := 31) (by kernel_rfl) (by kernel_rfl) (by kernel_rfl) (by kernel_rfl) (by kernel_rfl) (by kernel_rfl) (by kernel_rfl) (Nat.le_of_ble_eq_true rfl) (yx8c (fun y4 y5 y31 h => o_ret y31 h (fun h => ybqh true 5 y4 h fun v0 => ybqh true 3 y5 h fun v1 => [v0, v1].all boxV = true ∧ Q (.tuple #[v0, v1]) h)) (fun y4 y5 y31 h => o_ret y31 h (fun h => ybqh true 5 y4 h fun v0 => ybqh true 3 y5 h fun v1 => [v0, v1].all boxV = true ∧ Q (.tuple #[v0, v1]) h)) (tinit [x0, x1]) h H0) (by kernel_rfl)
def y7yi (x6 x7 x11 x60 : Value) (h : H) (Kn : K3) (Kr : K3) (Ke1 : K8) (Ke0 : K4) : Prop :=
  ysnr PG yrjx [] fun v48 => (ybqh true 3 x11 h fun v49 => ylel 3 x6 v48 h fun h => ylel 3 x7 v49 h fun h => Kn x6 x7 x60 h) ∧ (ylel 3 x6 v48 h fun h => ybqh true 3 x11 h fun v49 => ylel 3 x7 v49 h fun h => Kn x6 x7 x60 h)
theorem yoc0 (Kn : K3) (Kr : K3) (Ke1 : K8) (Ke0 : K4) (t : T) (h : H) (H0 : y7yi (t 6) (t 7) (t 11) (t 60) h Kn Kr Ke1 Ke0) : Wp PG 60 (seqL (cndX (rest 1 (seqL (cndX (rest 1 (seqL (rest 1 (blkC (seqL (rest 1 (lopC (blkC (rest 1 (seqL (rest 3 (ygjk Tryz.f12.body))))))))))))))))) (mkQ (q3 Kn 6 7 60) (q3 Kr 6 7 60) (keAdd 1 (fun t h => Ke1 (t 0) (t 1) (t 2) (t 6) (t 7) (t 8) (t 9) (t 60) h) (keAdd 0 (q4 Ke0 6 7 8 60) ke0))) t h :=
  ya9i E5_ok [0] 1 2 [3] (by kernel_rfl) (by kernel_rfl) H0 (by kernel_rfl)
def yxgf (x6 x7 x60 : Value) (h : H) (Kn : K4) (Kr : K3) (Ke1 : K8) (Ke0 : K4) : Prop :=
  Kr x6 x7 x60 h
theorem y0u7 (Kn : K4) (Kr : K3) (Ke1 : K8) (Ke0 : K4) (t : T) (h : H) (H0 : yxgf (t 6) (t 7) (t 60) h Kn Kr Ke1 Ke0) : Wp PG 60 (seqR (cndX (rest 1 (seqL (cndX (rest 1 (seqL (rest 1 (blkC (seqL (rest 1 (lopC (blkC (rest 1 (seqL (rest 3 (ygjk Tryz.f12.body))))))))))))))))) (mkQ (q4 Kn 6 7 8 60) (q3 Kr 6 7 60) (keAdd 1 (fun t h => Ke1 (t 0) (t 1) (t 2) (t 6) (t 7) (t 8) (t 9) (t 60) h) (keAdd 0 (q4 Ke0 6 7 8 60) ke0))) t h :=
  wpEqC E5_ok H0 (by kernel_rfl)
def y6lp (x6 x7 x11 x60 : Value) (h : H) (Kn : K4) (Kr : K3) (Ke1 : K8) (Ke0 : K4) : Prop :=
  y7yi x6 x7 x11 x60 h (fun y6 y7 y60 h => yxgf y6 y7 y60 h Kn Kr Ke1 Ke0) Kr Ke1 Ke0
theorem y47m (Kn : K4) (Kr : K3) (Ke1 : K8) (Ke0 : K4) (t : T) (h : H) (H0 : y6lp (t 6) (t 7) (t 11) (t 60) h Kn Kr Ke1 Ke0) : Wp PG 60 (cndX (rest 1 (seqL (cndX (rest 1 (seqL (rest 1 (blkC (seqL (rest 1 (lopC (blkC (rest 1 (seqL (rest 3 (ygjk Tryz.f12.body)))))))))))))))) (mkQ (q4 Kn 6 7 8 60) (q3 Kr 6 7 60) (keAdd 1 (fun t h => Ke1 (t 0) (t 1) (t 2) (t 6) (t 7) (t 8) (t 9) (t 60) h) (keAdd 0 (q4 Ke0 6 7 8 60) ke0))) t h :=
  ykv2 (by kernel_rfl) (fun t h H1 => y0u7 Kn Kr Ke1 Ke0 t h H1) (yoc0 (fun y6 y7 y60 h => yxgf y6 y7 y60 h Kn Kr Ke1 Ke0) Kr Ke1 Ke0 t h H0)
def yhwb (x6 x7 x8 x60 : Value) (h : H) (Kn : K4) (Kr : K3) (Ke1 : K8) (Ke0 : K4) : Prop :=
  Kn x6 x7 x8 x60 h
theorem yhn0 (Kn : K4) (Kr : K3) (Ke1 : K8) (Ke0 : K4) (t : T) (h : H) (H0 : yhwb (t 6) (t 7) (t 8) (t 60) h Kn Kr Ke1 Ke0) : Wp PG 60 (cndY (rest 1 (seqL (cndX (rest 1 (seqL (rest 1 (blkC (seqL (rest 1 (lopC (blkC (rest 1 (seqL (rest 3 (ygjk Tryz.f12.body)))))))))))))))) (mkQ (q4 Kn 6 7 8 60) (q3 Kr 6 7 60) (keAdd 1 (fun t h => Ke1 (t 0) (t 1) (t 2) (t 6) (t 7) (t 8) (t 9) (t 60) h) (keAdd 0 (q4 Ke0 6 7 8 60) ke0))) t h :=
  wpEqC E5_ok H0 (by kernel_rfl)
def y5bu (x6 x7 x8 x11 x47 x60 : Value) (h : H) (Kn : K4) (Kr : K3) (Ke1 : K8) (Ke0 : K4) : Prop :=
  u_if x47 (y6lp x6 x7 x11 x60 h Kn Kr Ke1 Ke0) (yhwb x6 x7 x8 x60 h Kn Kr Ke1 Ke0)
theorem yti9 (Kn : K4) (Kr : K3) (Ke1 : K8) (Ke0 : K4) (t : T) (h : H) (H0 : y5bu (t 6) (t 7) (t 8) (t 11) (t 47) (t 60) h Kn Kr Ke1 Ke0) : Wp PG 60 (rest 1 (seqL (cndX (rest 1 (seqL (rest 1 (blkC (seqL (rest 1 (lopC (blkC (rest 1 (seqL (rest 3 (ygjk Tryz.f12.body))))))))))))))) (mkQ (q4 Kn 6 7 8 60) (q3 Kr 6 7 60) (keAdd 1 (fun t h => Ke1 (t 0) (t 1) (t 2) (t 6) (t 7) (t 8) (t 9) (t 60) h) (keAdd 0 (q4 Ke0 6 7 8 60) ke0))) t h :=
  yh47 H0 (by kernel_rfl) (y47m Kn Kr Ke1 Ke0 t h) (yhn0 Kn Kr Ke1 Ke0 t h) (by kernel_rfl)
def yfne (x6 x7 x8 x11 x60 : Value) (h : H) (Kn : K4) (Kr : K3) (Ke1 : K8) (Ke0 : K4) : Prop :=
  u_bf false 1 1 x8 h fun v45 => ywmm v45 fun v46 => u_bin PG .eql T_int v46 (.int .i64 0) fun v47 => y5bu x6 x7 x8 x11 v47 x60 h Kn Kr Ke1 Ke0
theorem yjk1 (Kn : K4) (Kr : K3) (Ke1 : K8) (Ke0 : K4) (t : T) (h : H) (H0 : yfne (t 6) (t 7) (t 8) (t 11) (t 60) h Kn Kr Ke1 Ke0) : Wp PG 60 (seqL (cndX (rest 1 (seqL (rest 1 (blkC (seqL (rest 1 (lopC (blkC (rest 1 (seqL (rest 3 (ygjk Tryz.f12.body)))))))))))))) (mkQ (q4 Kn 6 7 8 60) (q3 Kr 6 7 60) (keAdd 1 (fun t h => Ke1 (t 0) (t 1) (t 2) (t 6) (t 7) (t 8) (t 9) (t 60) h) (keAdd 0 (q4 Ke0 6 7 8 60) ke0))) t h :=
  yvnp E5_ok 1 H0 (by kernel_rfl) (fun t h (H1 : y5bu (t 6) (t 7) (t 8) (t 11) (t 47) (t 60) h Kn Kr Ke1 Ke0) => yti9 Kn Kr Ke1 Ke0 t h H1) (by kernel_rfl)
def y9i3 (x6 x7 x8 x60 : Value) (h : H) (Kn : (Value → Value → Value → Value → Value → Value → Value → Value → Value → H → Prop)) (Kr : K3) (Ke1 : K8) (Ke0 : K4) : Prop :=
  Ke0 x6 x7 x8 x60 h
theorem ygha (Kn : (Value → Value → Value → Value → Value → Value → Value → Value → Value → H → Prop)) (Kr : K3) (Ke1 : K8) (Ke0 : K4) (t : T) (h : H) (H0 : y9i3 (t 6) (t 7) (t 8) (t 60) h Kn Kr Ke1 Ke0) : Wp PG 60 (seqR (cndX (rest 1 (seqL (rest 1 (blkC (seqL (rest 1 (lopC (blkC (rest 1 (seqL (rest 3 (ygjk Tryz.f12.body)))))))))))))) (mkQ (fun t h => Kn (t 0) (t 1) (t 2) (t 6) (t 7) (t 8) (t 9) (t 10) (t 60) h) (q3 Kr 6 7 60) (keAdd 1 (fun t h => Ke1 (t 0) (t 1) (t 2) (t 6) (t 7) (t 8) (t 9) (t 60) h) (keAdd 0 (q4 Ke0 6 7 8 60) ke0))) t h :=
  wpEqC E5_ok H0 (by kernel_rfl)
def yt27 (x6 x7 x8 x11 x60 : Value) (h : H) (Kn : (Value → Value → Value → Value → Value → Value → Value → Value → Value → H → Prop)) (Kr : K3) (Ke1 : K8) (Ke0 : K4) : Prop :=
  yfne x6 x7 x8 x11 x60 h (fun y6 y7 y8 y60 h => y9i3 y6 y7 y8 y60 h Kn Kr Ke1 Ke0) Kr Ke1 Ke0
theorem y7m2 (Kn : (Value → Value → Value → Value → Value → Value → Value → Value → Value → H → Prop)) (Kr : K3) (Ke1 : K8) (Ke0 : K4) (t : T) (h : H) (H0 : yt27 (t 6) (t 7) (t 8) (t 11) (t 60) h Kn Kr Ke1 Ke0) : Wp PG 60 (cndX (rest 1 (seqL (rest 1 (blkC (seqL (rest 1 (lopC (blkC (rest 1 (seqL (rest 3 (ygjk Tryz.f12.body))))))))))))) (mkQ (fun t h => Kn (t 0) (t 1) (t 2) (t 6) (t 7) (t 8) (t 9) (t 10) (t 60) h) (q3 Kr 6 7 60) (keAdd 1 (fun t h => Ke1 (t 0) (t 1) (t 2) (t 6) (t 7) (t 8) (t 9) (t 60) h) (keAdd 0 (q4 Ke0 6 7 8 60) ke0))) t h :=
  ykv2 (by kernel_rfl) (fun t h H1 => ygha Kn Kr Ke1 Ke0 t h H1) (yjk1 (fun y6 y7 y8 y60 h => y9i3 y6 y7 y8 y60 h Kn Kr Ke1 Ke0) Kr Ke1 Ke0 t h H0)
def yq4b (x0 x1 x2 x6 x7 x8 x9 x10 x60 : Value) (h : H) (Kn : (Value → Value → Value → Value → Value → Value → Value → Value → Value → H → Prop)) (Kr : K3) (Ke1 : K8) (Ke0 : K4) : Prop :=
  Kn x0 x1 x2 x6 x7 x8 x9 x10 x60 h
theorem y8ul (Kn : (Value → Value → Value → Value → Value → Value → Value → Value → Value → H → Prop)) (Kr : K3) (Ke1 : K8) (Ke0 : K4) (t : T) (h : H) (H0 : yq4b (t 0) (t 1) (t 2) (t 6) (t 7) (t 8) (t 9) (t 10) (t 60) h Kn Kr Ke1 Ke0) : Wp PG 60 (cndY (rest 1 (seqL (rest 1 (blkC (seqL (rest 1 (lopC (blkC (rest 1 (seqL (rest 3 (ygjk Tryz.f12.body))))))))))))) (mkQ (fun t h => Kn (t 0) (t 1) (t 2) (t 6) (t 7) (t 8) (t 9) (t 10) (t 60) h) (q3 Kr 6 7 60) (keAdd 1 (fun t h => Ke1 (t 0) (t 1) (t 2) (t 6) (t 7) (t 8) (t 9) (t 60) h) (keAdd 0 (q4 Ke0 6 7 8 60) ke0))) t h :=
  wpEqC E5_ok H0 (by kernel_rfl)
def ysyq (x0 x1 x2 x6 x7 x8 x9 x10 x11 x43 x60 : Value) (h : H) (Kn : (Value → Value → Value → Value → Value → Value → Value → Value → Value → H → Prop)) (Kr : K3) (Ke1 : K8) (Ke0 : K4) : Prop :=
  u_if x43 (yt27 x6 x7 x8 x11 x60 h Kn Kr Ke1 Ke0) (yq4b x0 x1 x2 x6 x7 x8 x9 x10 x60 h Kn Kr Ke1 Ke0)
theorem ykm9 (Kn : (Value → Value → Value → Value → Value → Value → Value → Value → Value → H → Prop)) (Kr : K3) (Ke1 : K8) (Ke0 : K4) (t : T) (h : H) (H0 : ysyq (t 0) (t 1) (t 2) (t 6) (t 7) (t 8) (t 9) (t 10) (t 11) (t 43) (t 60) h Kn Kr Ke1 Ke0) : Wp PG 60 (rest 1 (seqL (rest 1 (blkC (seqL (rest 1 (lopC (blkC (rest 1 (seqL (rest 3 (ygjk Tryz.f12.body)))))))))))) (mkQ (fun t h => Kn (t 0) (t 1) (t 2) (t 6) (t 7) (t 8) (t 9) (t 10) (t 60) h) (q3 Kr 6 7 60) (keAdd 1 (fun t h => Ke1 (t 0) (t 1) (t 2) (t 6) (t 7) (t 8) (t 9) (t 60) h) (keAdd 0 (q4 Ke0 6 7 8 60) ke0))) t h :=
  yh47 H0 (by kernel_rfl) (y7m2 Kn Kr Ke1 Ke0 t h) (y8ul Kn Kr Ke1 Ke0 t h) (by kernel_rfl)
def yqdk (x0 x1 x2 x6 x7 x8 x9 x10 x11 x60 : Value) (h : H) (Kn : (Value → Value → Value → Value → Value → Value → Value → Value → Value → H → Prop)) (Kr : K3) (Ke1 : K8) (Ke0 : K4) : Prop :=
  u_bf false 1 0 x11 h fun v42 => u_bin PG .neq T_int v42 (.int .i64 0) fun v43 => ysyq x0 x1 x2 x6 x7 x8 x9 x10 x11 v43 x60 h Kn Kr Ke1 Ke0
theorem yq9a (Kn : (Value → Value → Value → Value → Value → Value → Value → Value → Value → H → Prop)) (Kr : K3) (Ke1 : K8) (Ke0 : K4) (t : T) (h : H) (H0 : yqdk (t 0) (t 1) (t 2) (t 6) (t 7) (t 8) (t 9) (t 10) (t 11) (t 60) h Kn Kr Ke1 Ke0) : Wp PG 60 (seqL (rest 1 (blkC (seqL (rest 1 (lopC (blkC (rest 1 (seqL (rest 3 (ygjk Tryz.f12.body))))))))))) (mkQ (fun t h => Kn (t 0) (t 1) (t 2) (t 6) (t 7) (t 8) (t 9) (t 10) (t 60) h) (q3 Kr 6 7 60) (keAdd 1 (fun t h => Ke1 (t 0) (t 1) (t 2) (t 6) (t 7) (t 8) (t 9) (t 60) h) (keAdd 0 (q4 Ke0 6 7 8 60) ke0))) t h :=
  yvnp E5_ok 1 H0 (by kernel_rfl) (fun t h (H1 : ysyq (t 0) (t 1) (t 2) (t 6) (t 7) (t 8) (t 9) (t 10) (t 11) (t 43) (t 60) h Kn Kr Ke1 Ke0) => ykm9 Kn Kr Ke1 Ke0 t h H1) (by kernel_rfl)
def yrxt (x0 x1 x2 x6 x7 x8 x9 x10 x60 : Value) (h : H) (Kn : K8) (Kr : K3) (Ke1 : K8) (Ke0 : K4) : Prop :=
  u_bf false 1 1 x8 h fun v51 => ybqh true 5 x10 h fun v52 => ynqb PG ywqg 1 [(0, v52)] h fun v53 h => yx4h yc0x 5 40 v51 v53 h fun v54 h => u_st 1 1 x8 v54 h fun h => ybqh true 5 x10 h fun v56 => u_ct yuz9 [v56] h fun v57 h => u_if v57 (Ke0 x6 x7 x8 x60 h) (Kn x0 x1 x2 x6 x7 x8 x9 x60 h)
theorem yvsa (Kn : K8) (Kr : K3) (Ke1 : K8) (Ke0 : K4) (t : T) (h : H) (H0 : yrxt (t 0) (t 1) (t 2) (t 6) (t 7) (t 8) (t 9) (t 10) (t 60) h Kn Kr Ke1 Ke0) : Wp PG 60 (seqR (rest 1 (blkC (seqL (rest 1 (lopC (blkC (rest 1 (seqL (rest 3 (ygjk Tryz.f12.body))))))))))) (mkQ (fun t h => Kn (t 0) (t 1) (t 2) (t 6) (t 7) (t 8) (t 9) (t 60) h) (q3 Kr 6 7 60) (keAdd 1 (fun t h => Ke1 (t 0) (t 1) (t 2) (t 6) (t 7) (t 8) (t 9) (t 60) h) (keAdd 0 (q4 Ke0 6 7 8 60) ke0))) t h :=
  wpEqC E5_ok H0 (by kernel_rfl)
def ytml (x0 x1 x2 x6 x7 x8 x9 x10 x11 x60 : Value) (h : H) (Kn : K8) (Kr : K3) (Ke1 : K8) (Ke0 : K4) : Prop :=
  yqdk x0 x1 x2 x6 x7 x8 x9 x10 x11 x60 h (fun y0 y1 y2 y6 y7 y8 y9 y10 y60 h => yrxt y0 y1 y2 y6 y7 y8 y9 y10 y60 h Kn Kr Ke1 Ke0) Kr Ke1 Ke0
theorem ytjh (Kn : K8) (Kr : K3) (Ke1 : K8) (Ke0 : K4) (t : T) (h : H) (H0 : ytml (t 0) (t 1) (t 2) (t 6) (t 7) (t 8) (t 9) (t 10) (t 11) (t 60) h Kn Kr Ke1 Ke0) : Wp PG 60 (rest 1 (blkC (seqL (rest 1 (lopC (blkC (rest 1 (seqL (rest 3 (ygjk Tryz.f12.body)))))))))) (mkQ (fun t h => Kn (t 0) (t 1) (t 2) (t 6) (t 7) (t 8) (t 9) (t 60) h) (q3 Kr 6 7 60) (keAdd 1 (fun t h => Ke1 (t 0) (t 1) (t 2) (t 6) (t 7) (t 8) (t 9) (t 60) h) (keAdd 0 (q4 Ke0 6 7 8 60) ke0))) t h :=
  ykv2 (by kernel_rfl) (fun t h H1 => yvsa Kn Kr Ke1 Ke0 t h H1) (yq9a (fun y0 y1 y2 y6 y7 y8 y9 y10 y60 h => yrxt y0 y1 y2 y6 y7 y8 y9 y10 y60 h Kn Kr Ke1 Ke0) Kr Ke1 Ke0 t h H0)
def y6cd (x0 x1 x2 x6 x7 x8 x9 x60 : Value) (h : H) (Kn : K8) (Kr : K3) (Ke1 : K8) (Ke0 : K4) : Prop :=
  yjdf PG y0l5 [x0, x9] h fun v38 h => yvu8 v38 0 fun v39 => yvu8 v38 1 fun v40 => u_new [.int .i64 0, .int .i64 0, .int .i64 0, .int .i64 0, .int .i32 0] yc0x .exact h fun b10 h => u_new [.int .i64 0, .int .u32 0, .int .i64 0] ys2z .exact h fun b11 h => ylel 5 (.pointer (some ⟨b10, 0, none⟩)) v39 h fun h => ylel 3 (.pointer (some ⟨b11, 0, none⟩)) v40 h fun h => ytml x0 x1 x2 x6 x7 x8 x9 (.pointer (some ⟨b10, 0, none⟩)) (.pointer (some ⟨b11, 0, none⟩)) x60 h Kn Kr Ke1 Ke0
theorem y6ly (Kn : K8) (Kr : K3) (Ke1 : K8) (Ke0 : K4) (t : T) (h : H) (H0 : y6cd (t 0) (t 1) (t 2) (t 6) (t 7) (t 8) (t 9) (t 60) h Kn Kr Ke1 Ke0) : Wp PG 60 (blkC (seqL (rest 1 (lopC (blkC (rest 1 (seqL (rest 3 (ygjk Tryz.f12.body))))))))) (mkQ (fun t h => Kn (t 0) (t 1) (t 2) (t 6) (t 7) (t 8) (t 9) (t 60) h) (q3 Kr 6 7 60) (keAdd 1 (fun t h => Ke1 (t 0) (t 1) (t 2) (t 6) (t 7) (t 8) (t 9) (t 60) h) (keAdd 0 (q4 Ke0 6 7 8 60) ke0))) t h :=
  yvnp E5_ok 1 H0 (by kernel_rfl) (fun t h (H1 : ytml (t 0) (t 1) (t 2) (t 6) (t 7) (t 8) (t 9) (t 10) (t 11) (t 60) h Kn Kr Ke1 Ke0) => ytjh Kn Kr Ke1 Ke0 t h H1) (by kernel_rfl)
def y6bj (x0 x1 x2 x6 x7 x8 x9 x60 : Value) (h : H) (Kn : K8) (Kr : K3) (Ke0 : K4) : Prop :=
  y6cd x0 x1 x2 x6 x7 x8 x9 x60 h Kn Kr Kn Ke0
theorem ykc2 (Kn : K8) (Kr : K3) (Ke0 : K4) (t : T) (h : H) (H0 : y6bj (t 0) (t 1) (t 2) (t 6) (t 7) (t 8) (t 9) (t 60) h Kn Kr Ke0) : Wp PG 60 (seqL (rest 1 (lopC (blkC (rest 1 (seqL (rest 3 (ygjk Tryz.f12.body)))))))) (mkQ (fun t h => Kn (t 0) (t 1) (t 2) (t 6) (t 7) (t 8) (t 9) (t 60) h) (q3 Kr 6 7 60) (keAdd 0 (q4 Ke0 6 7 8 60) ke0)) t h :=
  y6tu 1 (by kernel_rfl) (by kernel_rfl) (y6ly Kn Kr Kn Ke0 t h H0)
def yoap (x0 x1 x2 x6 x7 x8 x9 x60 : Value) (h : H) (Kn : K8) (Kr : K3) (Ke0 : K4) : Prop :=
  u_bin PG .add ycpa x9 (.int .u32 4) fun v34 => Kn x0 x1 x2 x6 x7 x8 v34 x60 h
theorem y60r (Kn : K8) (Kr : K3) (Ke0 : K4) (t : T) (h : H) (H0 : yoap (t 0) (t 1) (t 2) (t 6) (t 7) (t 8) (t 9) (t 60) h Kn Kr Ke0) : Wp PG 60 (seqR (rest 1 (lopC (blkC (rest 1 (seqL (rest 3 (ygjk Tryz.f12.body)))))))) (mkQ (fun t h => Kn (t 0) (t 1) (t 2) (t 6) (t 7) (t 8) (t 9) (t 60) h) (q3 Kr 6 7 60) (keAdd 0 (q4 Ke0 6 7 8 60) ke0)) t h :=
  wpEqC E5_ok H0 (by kernel_rfl)
def ybfi (x0 x1 x2 x6 x7 x8 x9 x60 : Value) (h : H) (Kn : K8) (Kr : K3) (Ke0 : K4) : Prop :=
  y6bj x0 x1 x2 x6 x7 x8 x9 x60 h (fun y0 y1 y2 y6 y7 y8 y9 y60 h => yoap y0 y1 y2 y6 y7 y8 y9 y60 h Kn Kr Ke0) Kr Ke0
theorem ygnc (Kn : K8) (Kr : K3) (Ke0 : K4) (t : T) (h : H) (H0 : ybfi (t 0) (t 1) (t 2) (t 6) (t 7) (t 8) (t 9) (t 60) h Kn Kr Ke0) : Wp PG 60 (rest 1 (lopC (blkC (rest 1 (seqL (rest 3 (ygjk Tryz.f12.body))))))) (mkQ (fun t h => Kn (t 0) (t 1) (t 2) (t 6) (t 7) (t 8) (t 9) (t 60) h) (q3 Kr 6 7 60) (keAdd 0 (q4 Ke0 6 7 8 60) ke0)) t h :=
  ykv2 (by kernel_rfl) (fun t h H1 => y60r Kn Kr Ke0 t h H1) (ykc2 (fun y0 y1 y2 y6 y7 y8 y9 y60 h => yoap y0 y1 y2 y6 y7 y8 y9 y60 h Kn Kr Ke0) Kr Ke0 t h H0)
def y26c (x0 x1 x2 x6 x7 x8 x9 x60 : Value) (h : H) (Kn : K8) (Kr : K3) (Ke0 : K4) : Prop :=
  u_bf false 1 1 x8 h fun v22 => ywmm v22 fun v23 => u_bin PG .lss T_int v23 x2 fun v25 => ydv6 v25 true (fun k10 => u_bin PG .quo ycpa x9 (.int .u32 256) fun v28 => u_bin PG .quo ycpa x1 (.int .u32 256) fun v30 => u_bin PG .eql ycpa v28 v30 fun v31 => k10 v31 h) (fun v31 h => y9rg v25 v31 (.bool false) fun v32 => u_if v32 (ybfi x0 x1 x2 x6 x7 x8 x9 x60 h Kn Kr Ke0) (Ke0 x6 x7 x8 x60 h)) h
theorem yc7c (Kn : K8) (Kr : K3) (Ke0 : K4) (t : T) (h : H) (H0 : y26c (t 0) (t 1) (t 2) (t 6) (t 7) (t 8) (t 9) (t 60) h Kn Kr Ke0) : Wp PG 60 (lopC (blkC (rest 1 (seqL (rest 3 (ygjk Tryz.f12.body)))))) (mkQ (fun t h => Kn (t 0) (t 1) (t 2) (t 6) (t 7) (t 8) (t 9) (t 60) h) (q3 Kr 6 7 60) (keAdd 0 (q4 Ke0 6 7 8 60) ke0)) t h :=
  yvnp E5_ok 1 H0 (by kernel_rfl) (fun t h (H1 : ybfi (t 0) (t 1) (t 2) (t 6) (t 7) (t 8) (t 9) (t 60) h Kn Kr Ke0) => ygnc Kn Kr Ke0 t h H1) (by kernel_rfl)
def yogf (x0 x1 x2 x6 x7 x8 x9 x60 : Value) (h : H) (Kn : K4) (Kr : K3) (Ke0 : K4) : Prop :=
  sloop (S := Value × Value × Value × Value × Value × Value × Value × Value) (fun s h K => y26c s.1 s.2.1 s.2.2.1 s.2.2.2.1 s.2.2.2.2.1 s.2.2.2.2.2.1 s.2.2.2.2.2.2.1 s.2.2.2.2.2.2.2 h (fun y0 y1 y2 y6 y7 y8 y9 y60 h => K (y0, y1, y2, y6, y7, y8, y9, y60) h) Kr Ke0) (x0, x1, x2, x6, x7, x8, x9, x60) h
theorem y0we (Kn : K4) (Kr : K3) (Ke0 : K4) (t : T) (h : H) (H0 : yogf (t 0) (t 1) (t 2) (t 6) (t 7) (t 8) (t 9) (t 60) h Kn Kr Ke0) : Wp PG 60 (blkC (rest 1 (seqL (rest 3 (ygjk Tryz.f12.body))))) (mkQ (q4 Kn 6 7 8 60) (q3 Kr 6 7 60) (keAdd 0 (q4 Ke0 6 7 8 60) ke0)) t h :=
  yv0a (fun t => (t 0, t 1, t 2, t 6, t 7, t 8, t 9, t 60)) (by kernel_rfl) (fun t h K H1 => yc7c (fun y0 y1 y2 y6 y7 y8 y9 y60 h => K (y0, y1, y2, y6, y7, y8, y9, y60) h) Kr Ke0 t h H1) H0
def y4u0 (x0 x1 x2 x6 x7 x8 x9 x60 : Value) (h : H) (Kn : K4) (Kr : K3) : Prop :=
  yogf x0 x1 x2 x6 x7 x8 x9 x60 h Kn Kr Kn
theorem ylfs (Kn : K4) (Kr : K3) (t : T) (h : H) (H0 : y4u0 (t 0) (t 1) (t 2) (t 6) (t 7) (t 8) (t 9) (t 60) h Kn Kr) : Wp PG 60 (rest 1 (seqL (rest 3 (ygjk Tryz.f12.body)))) (mkQ (q4 Kn 6 7 8 60) (q3 Kr 6 7 60) ke0) t h :=
  y6tu 0 (by kernel_rfl) (by kernel_rfl) (y0we Kn Kr Kn t h H0)
def y0i9 (x0 x1 x2 x6 x7 x8 x60 : Value) (h : H) (Kn : K4) (Kr : K3) : Prop :=
  y4u0 x0 x1 x2 x6 x7 x8 x1 x60 h Kn Kr
theorem yidq (Kn : K4) (Kr : K3) (t : T) (h : H) (H0 : y0i9 (t 0) (t 1) (t 2) (t 6) (t 7) (t 8) (t 60) h Kn Kr) : Wp PG 60 (seqL (rest 3 (ygjk Tryz.f12.body))) (mkQ (q4 Kn 6 7 8 60) (q3 Kr 6 7 60) ke0) t h :=
  yvnp E5_ok 1 H0 (by kernel_rfl) (fun t h (H1 : y4u0 (t 0) (t 1) (t 2) (t 6) (t 7) (t 8) (t 9) (t 60) h Kn Kr) => ylfs Kn Kr t h H1) (by kernel_rfl)
def y3t4 (x6 x7 x8 x60 : Value) (h : H) (Kn : K3) (Kr : K3) : Prop :=
  ybqh true 3 x8 h fun v58 => ysnr PG ys2z [] fun v59 => ylel 3 x6 v58 h fun h => ylel 3 x7 v59 h fun h => Kr x6 x7 x60 h
theorem y364 (Kn : K3) (Kr : K3) (t : T) (h : H) (H0 : y3t4 (t 6) (t 7) (t 8) (t 60) h Kn Kr) : Wp PG 60 (seqR (rest 3 (ygjk Tryz.f12.body))) (mkQ (q3 Kn 6 7 60) (q3 Kr 6 7 60) ke0) t h :=
  wpEqC E5_ok H0 (by kernel_rfl)
def ynoy (x0 x1 x2 x6 x7 x8 x60 : Value) (h : H) (Kn : K3) (Kr : K3) : Prop :=
  y0i9 x0 x1 x2 x6 x7 x8 x60 h (fun y6 y7 y8 y60 h => y3t4 y6 y7 y8 y60 h Kn Kr) Kr
theorem yvvf (Kn : K3) (Kr : K3) (t : T) (h : H) (H0 : ynoy (t 0) (t 1) (t 2) (t 6) (t 7) (t 8) (t 60) h Kn Kr) : Wp PG 60 (rest 3 (ygjk Tryz.f12.body)) (mkQ (q3 Kn 6 7 60) (q3 Kr 6 7 60) ke0) t h :=
  ykv2 (by kernel_rfl) (fun t h H1 => y364 Kn Kr t h H1) (yidq (fun y6 y7 y8 y60 h => y3t4 y6 y7 y8 y60 h Kn Kr) Kr t h H0)
def yxge (x0 x1 x2 x60 : Value) (h : H) (Kn : K3) (Kr : K3) : Prop :=
  u_new [.int .u32 0, .slice none 0 0, .int .u32 0] yrjx .exact h fun b6 h => u_new [.int .i64 0, .int .u32 0, .int .i64 0] ys2z .exact h fun b7 h => ynco PG Builtin.max2 x2 (.int .i64 1) fun v13 => ynco PG Builtin.min2 v13 (.int .i64 64) fun v14 => yjdf PG yd4l [x0, x1] h fun v18 h => ysnr PG yrjx [(0, x1), (2, v18)] fun v19 => u_new [.int .u32 0, .slice none 0 0, .int .u32 0] yrjx .exact h fun b8 h => ylel 3 (.pointer (some ⟨b8, 0, none⟩)) v19 h fun h => ynoy x0 x1 v14 (.pointer (some ⟨b6, 0, none⟩)) (.pointer (some ⟨b7, 0, none⟩)) (.pointer (some ⟨b8, 0, none⟩)) x60 h Kn Kr
theorem ysst (Kn : K3) (Kr : K3) (t : T) (h : H) (H0 : yxge (t 0) (t 1) (t 2) (t 60) h Kn Kr) : Wp PG 60 (ygjk Tryz.f12.body) (mkQ (q3 Kn 6 7 60) (q3 Kr 6 7 60) ke0) t h :=
  yvnp E5_ok 3 H0 (by kernel_rfl) (fun t h (H1 : ynoy (t 0) (t 1) (t 2) (t 6) (t 7) (t 8) (t 60) h Kn Kr) => yvvf Kn Kr t h H1) (by kernel_rfl)
def y3fr (x0 x1 x2 : Value) (h : H) (Q : K1) : Prop := yxge x0 x1 x2 undef h (fun y6 y7 y60 h => o_ret y60 h (fun h => ybqh true 3 y6 h fun v0 => ybqh true 3 y7 h fun v1 => [v0, v1].all boxV = true ∧ Q (.tuple #[v0, v1]) h)) (fun y6 y7 y60 h => o_ret y60 h (fun h => ybqh true 3 y6 h fun v0 => ybqh true 3 y7 h fun v1 => [v0, v1].all boxV = true ∧ Q (.tuple #[v0, v1]) h))
theorem ysek (x0 x1 x2 : Value) (h : H) (Q : K1) (H0 : y3fr x0 x1 x2 h Q) : AM.Spec PG yvbn [x0, x1, x2] h Q :=
  ytyr mixed (fn := Tryz.f12) Tryz.func12 (c := ygjk Tryz.f12.body) (ds := [.cell 6 42 true 3, .cell 7 45 true 3]) (N := 60) (by kernel_rfl) (by kernel_rfl) (by kernel_rfl) (by kernel_rfl) (by kernel_rfl) (by kernel_rfl) (by kernel_rfl) (Nat.le_of_ble_eq_true rfl) (ysst (fun y6 y7 y60 h => o_ret y60 h (fun h => ybqh true 3 y6 h fun v0 => ybqh true 3 y7 h fun v1 => [v0, v1].all boxV = true ∧ Q (.tuple #[v0, v1]) h)) (fun y6 y7 y60 h => o_ret y60 h (fun h => ybqh true 3 y6 h fun v0 => ybqh true 3 y7 h fun v1 => [v0, v1].all boxV = true ∧ Q (.tuple #[v0, v1]) h)) (tinit [x0, x1, x2]) h H0) (by kernel_rfl)
end Go.Proofs.YtnckimioabkheaaGreat

set_option linter.unusedSimpArgs false
set_option linter.unusedVariables false
set_option maxRecDepth 100000
namespace Go.Proofs.YtnckimioabkheaaGreat
open AM
structure MD where
  q : Nat
  pm : Nat
  gm : Nat
  pg : Int → Nat
structure MS where
  budget : Int
  pages : List (Int × Int × List Int)
  gens : List (Int × Int)
def yapg (p : Int × List Int) : List Value := p.2.map (Value.int .u8) ++ [.int .i64 p.1]
structure MemAt (D : MD) (h : H) (μ : MS) : Prop where
  q : h D.q = some (.cells [.int .i64 μ.budget, .map (some D.pm), .map (some D.gm)] y7k4 .exact)
  pm : ∃ ck, h D.pm = some (.map (.int .u32) (μ.pages.map fun p => (.int .u32 p.1, ptr (D.pg p.1) 0)) ck)
  gm : ∃ ck, h D.gm = some (.map (.int .u32) (μ.gens.map fun p => (.int .u32 p.1, .int .u32 p.2)) ck)
  pg : ∀ p ∈ μ.pages, h (D.pg p.1) = some (.cells (yapg p.2) ynw2 .exact)
structure MSok (μ : MS) : Prop where
  len : ∀ p ∈ μ.pages, p.2.2.length = 256
  byte : ∀ p ∈ μ.pages, ∀ x ∈ p.2.2, 0 ≤ x ∧ x < 256
  gen : ∀ p ∈ μ.gens, 0 ≤ p.2 ∧ p.2 < 4294967296
@[simp] theorem yaxl {a : Option Addr} {K : Value → Prop} {u : Dm K} : u_bin PG .eql y14o (.pointer a) (.pointer none) K u = K (.bool a.isNone) := by
  cases a <;> kernel_rfl
def yovn (a : Int) : Int := IntKind.u32.wrap (a - a.tmod 256)
def lookF (μ : MS) (a size need : Int) : Int × Option (Int × List Int) :=
  if ¬ (size = 1 ∨ size = 2 ∨ size = 4) ∨ ¬ a.tmod (IntKind.u32.wrap size) = 0 then (3, none)
  else match fnd (yovn a) μ.pages with
    | none => (1, none)
    | some p => if IntKind.i64.wrap (BitVec.ofInt IntKind.i64.bits p.1 &&& BitVec.ofInt IntKind.i64.bits need).toNat = need then (0, some p) else (2, none)
section
variable {D : MD} {h : H} {μ : MS} {K : K1} {a size need : Int}
theorem yrxr (hm : MemAt D h μ) {b : Int} {okk : Bool} {z : Value} {K : Value → Prop} {u : Dm K} : ylsp (.int .u32) z (.map (some D.pm)) (.int .u32 b) okk h K u =
    K (match fnd b μ.pages with | some _ => (bif okk then .tuple #[ptr (D.pg b) 0, .bool true] else ptr (D.pg b) 0) | none => (bif okk then .tuple #[z, .bool false] else z)) := by
  obtain ⟨ck, hp⟩ := hm.pm
  have hf := ywya (k := .u32) (f := fun p : Int × Int × List Int => ptr (D.pg p.1) 0) (a := b) (l := μ.pages)
  cases hq : fnd b μ.pages with
  | none => rw [hq] at hf; rw [y2ml hp rfl hf]
  | some p => rw [hq] at hf; rw [y69s hp rfl hf]
theorem yur7 (hm : MemAt D h μ) {b : Int} {okk : Bool} {z : Value} {K : Value → Prop} {u : Dm K} : ylsp (.int .u32) z (.map (some D.gm)) (.int .u32 b) okk h K u =
    K (match fnd b μ.gens with | some g => (bif okk then .tuple #[.int .u32 g, .bool true] else .int .u32 g) | none => (bif okk then .tuple #[z, .bool false] else z)) := by
  obtain ⟨ck, hp⟩ := hm.gm
  have hf := y6z5 (k := .u32) (f := fun g => Value.int .u32 g) (a := b) (l := μ.gens)
  cases hq : fnd b μ.gens with
  | none => rw [hq] at hf; rw [y2ml hp rfl hf]
  | some p => rw [hq] at hf; rw [y69s hp rfl hf]
theorem yic4 (hm : MemAt D h μ) {i : Nat} : cellAt h D.q i = [Value.int .i64 μ.budget, .map (some D.pm), .map (some D.gm)][i]? := by simp [cellAt, hm.q]
theorem ycvw (hm : MemAt D h μ) (hk : K (.int .u32 ((fnd (yovn a) μ.gens).getD 0)) h) : AM.Spec PG yd4l [ptr D.q 0, .int .u32 a] h K := by
  refine ytx7 _ _ _ _ ?_
  simp (config := {dsimp := false}) [↓y3mp, ↓ytwj, ↓ypmw, ↓yugv, ↓yi3o, yic4 hm, yur7 hm, y68j]
  have e : yovn a = IntKind.u32.wrap (a - a.tmod 256) := rfl
  rw [← e]
  cases hf : fnd (yovn a) μ.gens <;> rw [hf] at hk <;> exact hk
theorem yps9 (hm : MemAt D h μ) {b : Int} {p : Int × List Int} (hf : fnd b μ.pages = some p) {i : Nat} : cellAt h (D.pg b) i = (yapg p)[i]? := by
  have := hm.pg (b, p) (y5ut hf)
  simp [cellAt, this]
theorem yvux {p : Int × List Int} (hl : p.2.length = 256) : (yapg p)[256]? = some (.int .i64 p.1) := by
  unfold yapg
  rw [List.getElem?_append_right (by simp [hl])]
  simp [hl]
theorem yuzk {p : Int × List Int} (hl : p.2.length = 256) {i : Nat} (hi : i < 256) : (yapg p)[i]? = some (.int .u8 (p.2.getD i 0)) := by
  unfold yapg
  rw [List.getElem?_append_left (by simp [hl, hi])]
  have : i < p.2.length := by omega
  simp [this]
theorem yhs0 (hm : MemAt D h μ) (hw : MSok μ) (hk : K (.tuple #[.pointer ((lookF μ a size need).2.map fun _ => ⟨D.pg (yovn a), 0, none⟩), .int .i64 (lookF μ a size need).1]) h) : AM.Spec PG yd5h [ptr D.q 0, .int .u32 a, .int .i64 size, .int .i64 need] h K := by
  refine ym2q _ _ _ _ _ _ ?_
  have e : IntKind.u32.wrap (a - a.tmod 256) = yovn a := rfl
  have fin : ∀ size, (¬ a.tmod (IntKind.u32.wrap size) = 0 → K (.tuple #[.pointer none, .int .i64 3]) h) → (a.tmod (IntKind.u32.wrap size) = 0 → ∀ Kn, ygob (ptr D.q 0) (.int .u32 a) (.int .i64 need) h Kn (fun y8 y9 h => (boxV y8 = true ∧ boxV y9 = true) ∧ K (.tuple #[y8, y9]) h)) →
      (size = 1 ∨ size = 2 ∨ size = 4) → y42a (ptr D.q 0) (.int .u32 a) (.int .i64 size) (.int .i64 need) h K := by
    rintro size h1 h2 (rfl | rfl | rfl)
    all_goals
      simp (config := {dsimp := false}) [↓y42a, ↓yw8q]
      first
        | exact h2 (by simp) _
        | (split <;> rename_i hq
           · exact h2 (by simpa using hq) _
           · exact h1 (by simpa using hq))
  by_cases hs : size = 1 ∨ size = 2 ∨ size = 4
  · refine fin size (fun hn => ?_) (fun hn Kn => ?_) hs
    · have : lookF μ a size need = (3, none) := by simp [lookF, hn]
      rw [this] at hk; exact hk
    · simp (config := {dsimp := false}) [↓ygob, ↓y8xn, ↓y74p, yic4 hm, yrxr hm, y68j, e]
      cases hf : fnd (yovn a) μ.pages with
      | none =>
        have : lookF μ a size need = (1, none) := by simp [lookF, hn, hs, hf]
        rw [this] at hk
        simpa using hk
      | some p =>
        have hl := hw.len _ (y5ut hf)
        simp (config := {dsimp := false}) [yps9 hm hf, yvux hl]
        have hl2 : lookF μ a size need = if IntKind.i64.wrap (BitVec.ofInt IntKind.i64.bits p.1 &&& BitVec.ofInt IntKind.i64.bits need).toNat = need then (0, some p) else (2, none) := by simp [lookF, hn, hs, hf]
        rw [hl2] at hk
        split <;> rename_i hq
        · rw [if_pos (by simpa using hq)] at hk; exact hk
        · rw [if_neg (by simpa using hq)] at hk; exact hk
  · have : lookF μ a size need = (3, none) := by simp [lookF, hs]
    rw [this] at hk
    have hs' : size ≠ 1 ∧ size ≠ 2 ∧ size ≠ 4 := by simpa [not_or] using hs
    simp (config := {dsimp := false}) [↓y42a, ↓yw8q, ysbf, hs'.1, hs'.2.1, hs'.2.2]
    exact hk
def ldv (xs : Nat → Int) : Nat → Int
  | 0 => 0
  | i + 1 => IntKind.u32.wrap (BitVec.ofInt IntKind.u32.bits (ldv xs i) ||| BitVec.ofInt IntKind.u32.bits (IntKind.u32.wrap (IntKind.u32.wrap (xs i) * 2 ^ (min (8 * (i : Int)).toNat IntKind.u32.bits)))).toNat
def loadF (μ : MS) (a size need : Int) : Int × Int :=
  match lookF μ a size need with
  | (f, none) => (0, f)
  | (f, some p) => (ldv (fun i => p.2.getD ((a.tmod 256).toNat + i) 0) size.toNat, f)
theorem ybj4 {a size need : Int} {μ : MS} : ((lookF μ a size need).1 = 0 ↔ ∃ p, (lookF μ a size need).2 = some p) := by
  unfold lookF
  split
  · simp
  · split
    · simp
    · split <;> simp
theorem yuhy {a size need : Int} {μ : MS} {f : Int} {p : Int × List Int} (h : lookF μ a size need = (f, some p)) : f = 0 ∧ fnd (yovn a) μ.pages = some p ∧ (size = 1 ∨ size = 2 ∨ size = 4) ∧ a.tmod size = 0 := by
  unfold lookF at h
  split at h
  · simp at h
  · rename_i hc
    split at h
    · simp at h
    · rename_i q hq
      split at h
      · simp only [Prod.mk.injEq, Option.some.injEq] at h
        have hc' : (size = 1 ∨ size = 2 ∨ size = 4) ∧ a.tmod (IntKind.u32.wrap size) = 0 := by
          constructor
          · exact Classical.byContradiction fun hn => hc (.inl hn)
          · exact Classical.byContradiction fun hn => hc (.inr hn)
        refine ⟨h.1.symm, by rw [hq, h.2], hc'.1, ?_⟩
        rcases hc'.1 with rfl | rfl | rfl
        · simp
        · exact hc'.2
        · exact hc'.2
      · simp at h
theorem yaqx (hm : MemAt D h μ) (hw : MSok μ) (ha : 0 ≤ a) (ha2 : a < 4294967296) (hk : K (.tuple #[.int .u32 (loadF μ a size need).1, .int .i64 (loadF μ a size need).2]) h) : AM.Spec PG yvz0 [ptr D.q 0, .int .u32 a, .int .i64 size, .int .i64 need] h K := by
  refine yrmj _ _ _ _ _ _ ?_
  unfold yyx4 yvxg
  refine ⟨rfl, yhs0 hm hw ?_⟩
  simp (config := {dsimp := false}) []
  cases hL : lookF μ a size need with
  | mk f o =>
    cases o with
    | none =>
      have hf : ¬ f = 0 := fun e => by
        have := (ybj4 (μ := μ) (a := a) (size := size) (need := need)).1 (by rw [hL]; exact e)
        rw [hL] at this; simp at this
      simp (config := {dsimp := false}) [hf]
      have : loadF μ a size need = (0, f) := by simp [loadF, hL]
      rw [this] at hk
      exact hk
    | some p =>
      obtain ⟨rfl, hp, hsz, hmod⟩ := yuhy hL
      have hl := hw.len _ (y5ut hp)
      have : loadF μ a size need = (ldv (fun i => p.2.getD ((a.tmod 256).toNat + i) 0) size.toNat, 0) := by simp [loadF, hL]
      rw [this] at hk
      obtain ⟨n, rfl⟩ : ∃ n : Nat, size = n := ⟨size.toNat, by omega⟩
      have hn4 : n ≤ 4 := by omega
      have hn0 : 0 < n := by omega
      obtain ⟨A, rfl⟩ : ∃ A : Nat, a = A := ⟨a.toNat, by omega⟩
      have e256 : (A : Int).tmod 256 = ((A % 256 : Nat) : Int) := by rw [Int.tmod_eq_emod_of_nonneg (by omega)]; omega
      rw [e256, Int.toNat_natCast, Int.toNat_natCast] at hk
      have hoff : A % 256 + n ≤ 256 := by
        rw [Int.tmod_eq_emod_of_nonneg (by omega)] at hmod
        rcases hsz with h1 | h1 | h1 <;> rw [h1] at hmod <;> omega
      have en : IntKind.u32.wrap (n : Int) = n := w_u32 (by omega) (by omega)
      simp (config := {dsimp := false}) [↓ynot, ↓y7ix, ↓y1l8, ↓ye5b, en]
      refine yo1k n (fun i s h' => h' = h ∧ s = (.int .u32 A, ptr (D.pg (yovn A)) 0, .int .u32 (ldv (fun i => p.2.getD (A % 256 + i) 0) i), .int .u32 (n : Nat), .int .u32 (i : Nat))) ⟨rfl, rfl⟩ ?_
      rintro i s h' K' hi ⟨rfl, rfl⟩ hk'
      have ei : IntKind.u32.wrap (((A % 256 : Nat) : Int) + (i : Int)) = ((A % 256 + i : Nat) : Int) := by rw [w_u32 (by omega) (by omega)]; omega
      simp (config := {dsimp := false}) only [↓y6qk, s_lss, s_if, e256]
      by_cases hlt : i < n
      · have d1 : decide ((i : Int) < n) = true := by simp; omega
        have e8 : IntKind.u32.wrap (8 * (i : Int)) = 8 * (i : Int) := w_u32 (by omega) (by omega)
        have e1 : IntKind.u32.wrap ((i : Int) + 1) = ((i + 1 : Nat) : Int) := by rw [w_u32 (by omega) (by omega)]; omega
        rw [d1, if_pos rfl]
        rw [s_rem (by decide), e256, s_add, ei, s_nil, s_fa, s_ixA]
        refine ⟨by omega, by omega, ?_⟩
        rw [y1rg, Int.toNat_natCast]
        have e0 : 0 + 0 + (A % 256 + i) * 1 = A % 256 + i := by omega
        rw [e0, yps9 hm hp, yuzk hl (by omega), s_opt, ym88, s_mul, e8, s_shl (by omega), s_bor, s_add, e1]
        exact hk' _ _ hlt ⟨rfl, rfl⟩
      · have d1 : decide ((i : Int) < n) = false := by simp; omega
        rw [d1, if_neg (by decide)]
        have : i = n := by omega
        subst this
        exact ⟨⟨rfl, rfl⟩, hk⟩
theorem MemAt.sub {h' : H} (hm : MemAt D h μ) (hs : Sub h h') : MemAt D h' μ where
  q := hs _ _ hm.q
  pm := hm.pm.imp fun _ hh => hs _ _ hh
  gm := hm.gm.imp fun _ hh => hs _ _ hh
  pg p hp := hs _ _ (hm.pg p hp)
def ysel (μ : MS) (pc : Int) : (Int × Int × Int × Int × Int) × (Int × Int × Int) :=
  if (loadF μ pc 4 4).2 ≠ 0 then ((0, 0, 0, 0, 0), (1, pc, (loadF μ pc 4 4).2))
  else if y1j0 (loadF μ pc 4 4).1 = 0 then ((0, 0, 0, 0, 0), (2, pc, 0))
  else ((y1j0 (loadF μ pc 4 4).1, y41m (loadF μ pc 4 4).1, ydwe (loadF μ pc 4 4).1, ybta (loadF μ pc 4 4).1, y31p (loadF μ pc 4 4).1), (0, 0, 0))
def insV (i : Int × Int × Int × Int × Int) : Value := .agg #[.int .i64 i.1, .int .i64 i.2.1, .int .i64 i.2.2.1, .int .i64 i.2.2.2.1, .int .i32 i.2.2.2.2]
def evV (e : Int × Int × Int) : Value := .agg #[.int .i64 e.1, .int .u32 e.2.1, .int .i64 e.2.2]
theorem ybes {pc : Int} (hm : MemAt D h μ) (hw : MSok μ) (ha : 0 ≤ pc) (ha2 : pc < 4294967296) (hk : K (.tuple #[insV (ysel μ pc).1, evV (ysel μ pc).2]) h) : AM.Spec PG y0l5 [ptr D.q 0, .int .u32 pc] h K := by
  refine yz7m (fun K hk => ?_) hk
  refine yr69 _ _ _ _ ?_
  unfold yk52 y7mt
  intro b4 _ hb4 b5 _ hb5
  have s1 : Sub h (upd h b4 (.cells [.int .i64 0, .int .i64 0, .int .i64 0, .int .i64 0, .int .i32 0] yc0x .exact)) := Sub.new hb4
  have s2 := s1.newer (q := .cells [.int .i64 0, .int .u32 0, .int .i64 0] ys2z .exact) hb5
  refine ⟨rfl, yaqx (hm.sub s2) hw ha ha2 ?_⟩
  rw [ynej] at hb5
  obtain ⟨n1, n2, hb5⟩ := hb5
  by_cases hf : (loadF μ pc 4 4).2 = 0
  · by_cases hd : y1j0 (loadF μ pc 4 4).1 = 0
    · have e : ysel μ pc = ((0, 0, 0, 0, 0), (2, pc, 0)) := by simp [ysel, hf, hd]
      rw [e] at hk
      simp (config := {dsimp := false, contextual := true}) [hf, hd, n1, n2, hb5]
      intros
      exact hk _ (by repeat (first | exact Sub.refl _ | refine Sub.upd ?_ (by assumption)))
    · have e : ysel μ pc = ((y1j0 (loadF μ pc 4 4).1, y41m (loadF μ pc 4 4).1, ydwe (loadF μ pc 4 4).1, ybta (loadF μ pc 4 4).1, y31p (loadF μ pc 4 4).1), (0, 0, 0)) := by simp [ysel, hf, hd]
      rw [e] at hk
      simp (config := {dsimp := false, contextual := true}) [hf, hd, n1, n2, hb5]
      intros
      exact hk _ (by repeat (first | exact Sub.refl _ | refine Sub.upd ?_ (by assumption)))
  · have e : ysel μ pc = ((0, 0, 0, 0, 0), (1, pc, (loadF μ pc 4 4).2)) := by simp [ysel, hf]
    rw [e] at hk
    simp (config := {dsimp := false, contextual := true}) [hf, n1, n2, hb5]
    exact hk _ (by repeat (first | exact Sub.refl _ | refine Sub.upd ?_ (by assumption)))
end
end Go.Proofs.YtnckimioabkheaaGreat

set_option linter.unusedSimpArgs false
set_option linter.unusedVariables false
set_option maxRecDepth 100000
namespace Go.Proofs.YtnckimioabkheaaGreat
open AM
def MOwn (D : MD) (μ : MS) (b : Nat) : Prop := b = D.q ∨ b = D.pm ∨ b = D.gm ∨ ∃ p ∈ μ.pages, b = D.pg p.1
structure MemIn (h0 : H) (D : MD) (h : H) (μ : MS) : Prop where
  at_ : MemAt D h μ
  new : ∀ b, MOwn D μ b → h0 b = none
  ne : D.pm ≠ D.gm
  inj : ∀ p ∈ μ.pages, ∀ p' ∈ μ.pages, D.pg p.1 = D.pg p'.1 → p.1 = p'.1
  nd : (μ.pages.map (·.1)).Nodup
def Fr (O : Nat → Prop) (h h' : H) : Prop := ∀ b o, ¬ O b → h b = some o → h' b = some o
theorem Fr.sub {O : Nat → Prop} {h0 h h' : H} (hf : Fr O h h') (hs : Sub h0 h) (hO : ∀ b, O b → h0 b = none) : Sub h0 h' := fun b o hb => by
  by_cases hq : O b
  · rw [hO b hq] at hb; cases hb
  · exact hf b o hq (hs _ _ hb)
section
variable {h0 h : H} {D : MD} {μ : MS} {K : K1}
theorem ymf4 {n : Int} (h1 : 1 ≤ n) (h2 : n ≤ 4096) (hk : ∀ D h', MemIn h D h' ⟨n, [], []⟩ → Sub h h' → K (.tuple #[ptr D.q 0, .int .i64 0]) h') : AM.Spec PG ynsj [.int .i64 n] h K := by
  refine y4wx _ _ _ ?_
  have c1 : ¬ n < 1 := by omega
  have c2 : ¬ 4096 < n := by omega
  simp (config := {dsimp := false}) [↓y91g, ↓yw17, c1, c2]
  intro b _ hb b1 _ n1 n2 hb1 b2 _ n3 n4 n5 n6 hb2
  refine hk ⟨b2, b, b1, fun _ => 0⟩ _ ⟨⟨by simp [upd], ⟨0, by simp [upd, n1, n2, n3, n4, n5, n6]⟩, ⟨0, by simp [upd, n1, n2, n3, n4, n5, n6]⟩, by simp⟩, ?_, n2, by simp, by simp⟩ (Sub.upd (Sub.upd (Sub.upd (Sub.refl _) hb) hb1) hb2)
  rintro x (rfl | rfl | rfl | ⟨p, hp, _⟩) <;> first | assumption | simp at hp
theorem yil7 {n : Int} (h1 : 0 ≤ n) (h2 : n ≤ 4096) (hk : ∀ q mp h', h q = none → h mp = none → q ≠ mp → h' q = some (.cells [.int .i64 n, .map (some mp)] y2um .exact) → h' mp = some (.map (.int .u32) [] 0) → Sub h h' → K (.tuple #[ptr q 0, .int .i64 0]) h') : AM.Spec PG yge9 [.int .i64 n] h K := by
  refine yx0m _ _ _ ?_
  have c1 : ¬ n < 0 := by omega
  have c2 : ¬ 4096 < n := by omega
  simp (config := {dsimp := false}) [↓ysj8, ↓yomw, c1, c2]
  intro b _ hb b1 _ n1 n2 hb1
  exact hk b1 b _ hb1 hb n1 (by simp [upd]) (by simp [upd, n1, n2]) (Sub.upd (Sub.upd (Sub.refl _) hb) hb1)
theorem ypcs : ∀ {es : List (Value × Value)} {k : Value}, (∃ e ∈ es, keyEq k e.1 = true) → ∃ w, mfind es k = some w
  | [], _, h => by obtain ⟨e, h, _⟩ := h; cases h
  | e :: r, k, h => by
    by_cases hk : keyEq k e.1 = true
    · exact ⟨e.2, by simp [mfind, hk]⟩
    · obtain ⟨e', h1, h2⟩ := h
      rcases List.mem_cons.1 h1 with rfl | h1
      · exact (hk h2).elim
      · obtain ⟨w, hw⟩ := ypcs ⟨e', h1, h2⟩
        exact ⟨w, by simp only [Bool.not_eq_true] at hk; simp [mfind, hk, hw]⟩
@[simp] theorem ywmf {v1 : Value} {K : Value → Prop} {u : Dm K} : yvu8 (.tuple #[v1]) 0 K u = K v1 := rfl
def inR (a many p : Int) : Prop := a ≤ p ∧ IntKind.u64.wrap p < IntKind.u64.wrap (IntKind.u64.wrap a + IntKind.u64.wrap (many * 256))
theorem yd1j {a many : Int} (hm : MemAt D h μ) (hpl : μ.pages.length ≤ 100000) (hk : ∀ v l h', Sub h h' → Gr (fun x : Int => [.int .u32 x]) 1 ycpa h h' v l → (l = [] ↔ ∀ p ∈ μ.pages, ¬ inR a many p.1) → K v h') : AM.Spec PG yoaz [ptr D.q 0, .int .u32 a, .int .u64 many] h K := by
  refine yrnn _ _ _ _ _ ?_
  obtain ⟨ck, hp⟩ := hm.pm
  simp (config := {dsimp := false}) [↓y2c4, ↓ypo0, ↓yk0t, ↓yw9j, yic4 hm]
  show y4p4 _ h _
  unfold y4p4
  simp only [hp]
  intro it _ hit
  have hpi : D.pm ≠ it := fun e => by rw [e, hit] at hp; cases hp
  unfold yw6s ypvj
  generalize hes : μ.pages.map (fun p => (Value.int .u32 p.1, ptr (D.pg p.1) 0)) = es at *
  refine yo1k es.length (fun i s h' => ∃ (v : Value) (l : List Int) (left : List Value) (cur : Option Value), s = (.int .u32 a, .int .u64 many, v, ptr it 0) ∧ left.length + i ≤ es.length ∧ h' it = some (.iter (some D.pm) left ck cur) ∧ Sub h h' ∧ Gr (fun x : Int => [.int .u32 x]) 1 ycpa h h' v l ∧ l.length ≤ i ∧
    (l ≠ [] → ∃ p ∈ μ.pages, inR a many p.1) ∧ (l = [] → ∀ p ∈ μ.pages, inR a many p.1 → left.any (keyEq (.int .u32 p.1)) = true)) ?_ ?_
  · refine ⟨_, [], _, none, rfl, by simp, yy0e _ _ _, Sub.new hit, Gr.empty, by simp, by simp, fun _ p hp' _ => ?_⟩
    rw [← hes]
    simp only [List.any_map, List.any_eq_true]
    exact ⟨p, hp', by simp [keyEq]⟩
  · rintro i s h' K' hi ⟨v, l, left, cur, rfl, hl, e, hs, hg, hli, q1, q2⟩ hk'
    unfold ymz0
    show y6k6 _ h' _
    unfold y6k6
    simp only [ptr, e, hs _ _ hp]
    refine ⟨trivial, fun en hen hany => ?_, fun hall => ?_⟩
    · obtain ⟨p, hpp, rfl⟩ : ∃ p ∈ μ.pages, (Value.int .u32 p.1, ptr (D.pg p.1) 0) = en := by rw [← hes] at hen; simpa using hen
      have hpm2 : ∀ q, upd h' it q D.pm = some (.map (.int .u32) es ck) := fun q => (yrkk _ _ hpi).trans (hs _ _ hp)
      simp (config := {dsimp := false})
      show yxwg _ _ _
      unfold yxwg
      obtain ⟨w, hw⟩ := ypcs (es := es) (k := .int .u32 p.1) ⟨_, hen, by simp [keyEq]⟩
      simp only [ptr, yy0e, hpm2, hw]
      refine ⟨trivial, ?_⟩
      have hflt : (left.filter fun k => !keyEq (.int .u32 p.1) k).length < left.length := by
        rw [List.length_filter_lt_length_iff_exists]
        simp only [List.any_eq_true] at hany
        obtain ⟨k, k1, k2⟩ := hany
        exact ⟨k, k1, by simp [k2]⟩
      have hit' : h it = none := hit
      have hgn : ∀ q, Gr (fun x : Int => [.int .u32 x]) 1 ycpa h (upd h' it q) v l := fun q => hg.over e (by simp)
      have hsn : ∀ q, Sub h (upd h' it q) := fun q => Sub.upd hs hit
      generalize hnew : (left.filter fun k => !keyEq (.int .u32 p.1) k) = nleft at *
      simp (config := {dsimp := false})
      split
      · rename_i c
        intro b hb2 m1 m2 hbn
        have hesl : es.length = μ.pages.length := by rw [← hes]; simp
        refine yw9z (x := p.1) (hgn _) (hsn _) rfl (by omega) (by omega) (by omega) (fun v' h3 g' s' hke hfr => ?_) rfl b hb2 ((yrkk _ _ m1).trans hbn)
        refine hk' _ _ (by omega) ⟨v', _, nleft, _, rfl, by omega, hke _ _ (yy0e _ _ _) ?_, s', g', by simp; omega, fun _ => ⟨p, hpp, c⟩, by simp⟩
        intro hb
        have := (hgn (.iter (some D.pm) nleft ck (some (.int .u32 p.1)))).isOpen hb
        rw [yy0e] at this
        cases this
      · rename_i c
        refine hk' _ _ (by omega) ⟨v, l, nleft, _, rfl, by omega, yy0e _ _ _, hsn _, hgn _, by omega, q1, fun hl0 p' hp' hin => ?_⟩
        have h1 := q2 hl0 p' hp' hin
        have hne : p'.1 ≠ p.1 := fun he => c (by have := hin; rw [he] at this; exact this)
        rw [← hnew]
        simp only [List.any_eq_true, List.mem_filter] at h1 ⊢
        obtain ⟨k, k1, k2⟩ := h1
        refine ⟨k, ⟨k1, ?_⟩, k2⟩
        cases k <;> simp [keyEq] at k2 ⊢
        exact .inr fun he => hne (k2.2.trans he.symm)
    · simp (config := {dsimp := false}) [↓ychg]
      refine hk v l h' hs hg ⟨fun hl0 p hp' hin => ?_, fun hno => ?_⟩
      · have := q2 hl0 p hp' hin
        rw [hall (.int .u32 p.1, ptr (D.pg p.1) 0) (by rw [← hes]; exact List.mem_map.2 ⟨p, hp', rfl⟩)] at this
        cases this
      · by_cases hl0 : l = []
        · exact hl0
        · obtain ⟨p, hp', hin⟩ := q1 hl0
          exact (hno p hp' hin).elim
end
end Go.Proofs.YtnckimioabkheaaGreat

set_option linter.unusedSimpArgs false
set_option linter.unusedVariables false
set_option maxRecDepth 100000
namespace Go.Proofs.YtnckimioabkheaaGreat
open AM
def yr1e : List Int := List.replicate 256 0
theorem ykdz {a1 : Int} {K : Value → Prop} {u : Dm K} : ysnr PG ynw2 [(1, .int .i64 a1)] K u = K (.agg (yapg (a1, yr1e)).toArray) := by
  rw [ygys]; rfl
theorem y56w {a n : Int} (h0 : 0 ≤ n) (h1 : n < 4294967296) : yte2 a n = (n + 255) / 256 := by
  unfold yte2
  rw [w_u64 (x := n) (by omega) (by omega), w_u64 (x := n + 256) (by omega) (by omega), w_u64 (x := n + 256 - 1) (by omega) (by omega), Int.tdiv_eq_ediv_of_nonneg (by omega), w_u64 (by omega) (by omega)]
  omega
theorem yb4q {a n : Int} (ha : 0 ≤ a) (ha2 : a < 4294967296) (h0 : 0 ≤ n) (h1 : n < 4294967296) : ywc5 a n = true ↔ (0 < n ∧ a % 256 = 0 ∧ a + (n + 255) / 256 * 256 ≤ 4294967296) := by
  have e := y56w (a := a) h0 h1
  unfold yte2 at e
  unfold ywc5
  rw [e, w_u64 (x := a) (by omega) (by omega), w_u64 (x := (n + 255) / 256 * 256) (by omega) (by omega), w_u64 (by omega) (by omega), Int.tmod_eq_emod_of_nonneg ha]
  simp [and_assoc]
def gset (l : List (Int × Int)) (p g : Int) : List (Int × Int) :=
  match l with
  | [] => [(p, g)]
  | e :: r => if p = e.1 then (p, g) :: r else e :: gset r p g
theorem ybxn {p g : Int} : ∀ {l : List (Int × Int)}, mset (l.map fun p => (Value.int .u32 p.1, Value.int .u32 p.2)) (.int .u32 p) (.int .u32 g) = (gset l p g).map fun p => (Value.int .u32 p.1, Value.int .u32 p.2)
  | [] => rfl
  | e :: r => by
    simp only [List.map_cons, mset, gset]
    by_cases h : p = e.1
    · simp [keyEq, h]
    · have hb : (p == e.1) = false := by simp [h]
      simp [keyEq, h, hb, ybxn (l := r)]
theorem y3iw {k v : Value} : ∀ {es : List (Value × Value)}, mfind es k = none → mset es k v = es ++ [(k, v)]
  | [], _ => rfl
  | e :: r, h => by
    simp only [mfind] at h
    cases hk : keyEq k e.1 with
    | true => rw [hk] at h; cases h
    | false => rw [hk] at h; simp [mset, hk, y3iw (es := r) h]
theorem yqwy {β : Type} {a : Int} : ∀ {l : List (Int × β)}, (∀ e ∈ l, e.1 ≠ a) → fnd a l = none
  | [], _ => rfl
  | e :: r, h => by
    have h1 := h e (by simp)
    simp [fnd, Ne.symm h1, yqwy (l := r) fun x hx => h x (by simp [hx])]
def pgA (a : Int) (i : Nat) : Int := IntKind.u32.wrap (a + IntKind.u32.wrap (i * 256))
def addP (μ : MS) (a perm : Int) : Nat → MS
  | 0 => μ
  | i + 1 => { addP μ a perm i with pages := (addP μ a perm i).pages ++ [(pgA a i, perm, yr1e)], gens := gset (addP μ a perm i).gens (pgA a i) (IntKind.u32.wrap ((fnd (pgA a i) (addP μ a perm i).gens).getD 0 + 1)) }
instance {a many p : Int} : Decidable (inR a many p) := inferInstanceAs (Decidable (_ ∧ _))
def mapE (μ : MS) (a n perm : Int) : Int :=
  if ¬ ywc5 a n = true ∨ perm < 0 ∨ 7 < perm then 1
  else if ∃ p ∈ μ.pages, inR a (yte2 a n) p.1 then 5
  else if IntKind.u64.wrap (IntKind.i64.wrap (μ.budget - μ.pages.length)) < yte2 a n then 6
  else 0
theorem yodx {μ : MS} {a perm : Int} : ∀ i, (addP μ a perm i).budget = μ.budget
  | 0 => rfl
  | i + 1 => by simp [addP, yodx i]
theorem yzgy {μ : MS} {a perm : Int} : ∀ {i} {p}, p ∈ (addP μ a perm i).pages → p ∈ μ.pages ∨ ∃ j, j < i ∧ p = (pgA a j, perm, yr1e)
  | 0, p, h => .inl h
  | i + 1, p, h => by
    simp only [addP, List.mem_append, List.mem_singleton] at h
    rcases h with h | rfl
    · rcases yzgy h with h | ⟨j, h1, h2⟩
      · exact .inl h
      · exact .inr ⟨j, by omega, h2⟩
    · exact .inr ⟨i, by omega, rfl⟩
section
variable {h0 h : H} {D : MD} {μ : MS} {K : K1}
theorem MemIn.sub (hm : MemIn h0 D h μ) {h' : H} (hs : Sub h h') : MemIn h0 D h' μ := ⟨hm.at_.sub hs, hm.new, hm.ne, hm.inj, hm.nd⟩
theorem MemIn.page (hm : MemIn h0 D h μ) {p perm g : Int} {bs : List Int} {b : Nat} (hp : ∀ e ∈ μ.pages, e.1 ≠ p) (hb : h b = none) (h0b : h0 b = none) {ck ck' : Nat} :
    MemIn h0 { D with pg := fun x => if x = p then b else D.pg x }
      (upd (upd (upd h b (.cells (yapg (perm, bs)) ynw2 .exact)) D.pm (.map (.int .u32) (mset (μ.pages.map fun p => (Value.int .u32 p.1, ptr (D.pg p.1) 0)) (.int .u32 p) (ptr b 0)) ck)) D.gm (.map (.int .u32) (mset (μ.gens.map fun p => (Value.int .u32 p.1, Value.int .u32 p.2)) (.int .u32 p) (.int .u32 g)) ck'))
      { μ with pages := μ.pages ++ [(p, perm, bs)], gens := gset μ.gens p g } := by
  obtain ⟨ck1, hpm⟩ := hm.at_.pm
  obtain ⟨ck2, hgm⟩ := hm.at_.gm
  have hq := hm.at_.q
  have a1 : D.q ≠ D.pm := fun e => by rw [e, hpm] at hq; cases hq
  have a2 : D.q ≠ D.gm := fun e => by rw [e, hgm] at hq; cases hq
  have a3 : D.pm ≠ b := fun e => by rw [e, hb] at hpm; cases hpm
  have a4 : D.gm ≠ b := fun e => by rw [e, hb] at hgm; cases hgm
  have a5 : D.q ≠ b := fun e => by rw [e, hb] at hq; cases hq
  have a6 := hm.ne
  have apg : ∀ e ∈ μ.pages, D.pg e.1 ≠ b ∧ D.pg e.1 ≠ D.pm ∧ D.pg e.1 ≠ D.gm := fun e he => by
    have h1 := hm.at_.pg e he
    exact ⟨fun x => (by rw [x, hb] at h1; cases h1), fun x => (by rw [x, hpm] at h1; cases h1), fun x => (by rw [x, hgm] at h1; cases h1)⟩
  have epg : (μ.pages ++ [(p, perm, bs)]).map (fun e => (Value.int .u32 e.1, ptr ((fun x => if x = p then b else D.pg x) e.1) 0)) = mset (μ.pages.map fun p => (Value.int .u32 p.1, ptr (D.pg p.1) 0)) (.int .u32 p) (ptr b 0) := by
    rw [y3iw (by rw [ywya (k := .u32) (f := fun p : Int × Int × List Int => ptr (D.pg p.1) 0), yqwy hp]; rfl), List.map_append]
    congr 1
    · refine List.map_congr_left fun e he => ?_
      simp [hp e he]
    · simp
  refine ⟨⟨?_, ⟨ck, ?_⟩, ⟨ck', ?_⟩, ?_⟩, ?_, hm.ne, ?_, ?_⟩
  · simp only
    rw [yrkk _ _ a2, yrkk _ _ a1, yrkk _ _ a5]; exact hq
  · simp only
    rw [yrkk _ _ a6, yy0e, epg]
  · simp only
    rw [yy0e, ybxn]
  · intro e he
    simp only [List.mem_append, List.mem_singleton] at he
    rcases he with he | rfl
    · obtain ⟨c1, c2, c3⟩ := apg e he
      simp only [if_neg (hp e he)]
      rw [yrkk _ _ c3, yrkk _ _ c2, yrkk _ _ c1]
      exact hm.at_.pg e he
    · simp only [if_true]
      rw [yrkk _ _ (Ne.symm a4), yrkk _ _ (Ne.symm a3), yy0e]
  · rintro x (rfl | rfl | rfl | ⟨e, he, rfl⟩)
    · exact hm.new _ (.inl rfl)
    · exact hm.new _ (.inr (.inl rfl))
    · exact hm.new _ (.inr (.inr (.inl rfl)))
    · simp only [List.mem_append, List.mem_singleton] at he
      rcases he with he | rfl
      · simp only [if_neg (hp e he)]
        exact hm.new _ (.inr (.inr (.inr ⟨e, he, rfl⟩)))
      · simp only [if_true]; exact h0b
  · intro e he e' he' hee
    simp only [List.mem_append, List.mem_singleton] at he he'
    rcases he with he | rfl <;> rcases he' with he' | rfl
    · simp only [if_neg (hp e he), if_neg (hp e' he')] at hee
      exact hm.inj e he e' he' hee
    · simp only [if_neg (hp e he), if_true] at hee
      exact ((apg e he).1 hee).elim
    · simp only [if_neg (hp e' he'), if_true] at hee
      exact ((apg e' he').1 hee.symm).elim
    · rfl
  · simp only [List.map_append, List.map_cons, List.map_nil]
    rw [List.nodup_append]
    refine ⟨hm.nd, by simp, ?_⟩
    intro x hx y hy
    simp only [List.mem_singleton] at hy
    obtain ⟨e, he, rfl⟩ := List.mem_map.1 hx
    rw [hy]; exact hp e he
theorem yqjd {K : Value → Prop} {u : Dm K} (hm : MemAt D h μ) : y9gb (.map (some D.pm)) h K u = K (.int .i64 μ.pages.length) := by
  obtain ⟨ck, hp⟩ := hm.pm
  show y55i _ h K = _
  unfold y55i
  simp only [hp, List.length_map]
theorem yoi6 {b ck : Nat} {es : List (Value × Value)} {x : Int} {v : Value} {K : H → Prop} {u : Dm K} (hb : h b = some (.map (.int .u32) es ck)) :
    yw4g (.int .u32) (.map (some b)) (.int .u32 x) v h K u = (boxV v = true ∧ K (upd h b (.map (.int .u32) (mset es (.int .u32 x) v) (if mhas es (.int .u32 x) then ck else ck + 1)))) := by
  show ynew _ _ _ _ h K = _
  unfold ynew
  simp only [hb]
  simp [kkHas]
theorem yv6r {b ck : Nat} {gens : List (Int × Int)} {x : Int} {K : Value → Prop} {u : Dm K} (hb : h b = some (.map (.int .u32) (gens.map fun p => (Value.int .u32 p.1, Value.int .u32 p.2)) ck)) :
    ylsp (.int .u32) (.int .u32 0) (.map (some b)) (.int .u32 x) false h K u = K (.int .u32 ((fnd x gens).getD 0)) := by
  have hf := y6z5 (k := .u32) (f := fun g => Value.int .u32 g) (a := x) (l := gens)
  cases hq : fnd x gens with
  | none => rw [hq] at hf; rw [y2ml hb rfl hf]; rfl
  | some p => rw [hq] at hf; rw [y69s hb rfl hf]; rfl
def mapM (μ : MS) (a n perm : Int) : MS := if mapE μ a n perm = 0 then addP μ a perm (yte2 a n).toNat else μ
theorem yjn9 {a n perm : Int} (hm : MemIn h0 D h μ) (hsub : Sub h0 h) (hpl : μ.pages.length ≤ 100000) (ha : 0 ≤ a) (ha2 : a < 4294967296) (hn : 0 ≤ n) (hn2 : n < 4294967296)
    (hk : ∀ D' h', MemIn h0 D' h' (mapM μ a n perm) → D'.q = D.q → Fr (MOwn D μ) h h' → (∀ b, MOwn D' (mapM μ a n perm) b → MOwn D μ b ∨ h b = none) → K (.int .i64 (mapE μ a n perm)) h') :
    AM.Spec PG yhif [ptr D.q 0, .int .u32 a, .int .u32 n, .int .i64 perm] h K := by
  refine yxz0 _ _ _ _ _ _ ?_
  have hmany := y56w (a := a) hn hn2
  have hgood := yb4q ha ha2 hn hn2
  have kerr : ∀ e h', mapE μ a n perm = e → e ≠ 0 → Sub h h' → K (.int .i64 e) h' := fun e h' he hne hs => by
    have : mapM μ a n perm = μ := by simp [mapM, he, hne]
    rw [this, he] at hk
    exact hk D h' (hm.sub hs) rfl (fun b o _ hb => hs b o hb) fun b hb => .inl hb
  simp (config := {dsimp := false}) [↓yet8, ↓yldz, ↓ym1z, ↓yfsm, ↓ymln, ↓y7dc, ↓yqtw]
  generalize hmn : yte2 a n = many at *
  split
  · rename_i c
    refine kerr 1 h ?_ (by decide) (Sub.refl _)
    unfold mapE
    rw [if_pos]
    revert c; cases ywc5 a n <;> simp <;> omega
  rename_i c
  have c1 : ¬ (¬ ywc5 a n = true ∨ perm < 0 ∨ 7 < perm) := by
    revert c; cases ywc5 a n <;> simp <;> omega
  unfold ybav
  refine ⟨rfl, yd1j hm.at_ hpl fun v l h1 hs1 hg1 hl1 => ?_⟩
  simp (config := {dsimp := false}) [hg1.sl.ulen, ↓yix9, ↓yicm]
  split
  · rename_i c2
    refine kerr 5 h1 ?_ (by decide) hs1
    unfold mapE
    rw [if_neg c1, if_pos]
    rw [hmn]
    exact Classical.byContradiction fun hno => by
      have : l = [] := hl1.2 fun p hp hin => hno ⟨p, hp, hin⟩
      simp [this] at c2
  rename_i c2
  have hnin : ∀ p ∈ μ.pages, ¬ inR a many p.1 := hl1.1 (by cases l <;> simp at c2 ⊢)
  have c3 : ¬ ∃ p ∈ μ.pages, inR a many p.1 := fun ⟨p, hp, hin⟩ => hnin p hp hin
  have hm1 := hm.sub hs1
  generalize hbig : IntKind.u64.wrap (IntKind.i64.wrap (μ.budget - μ.pages.length)) = room at *
  simp (config := {dsimp := false}) [↓y8u0, ↓y9zl, ↓yqq2, ↓yye4, ↓ymna, ↓yw9c, yic4 hm1.at_, yqjd hm1.at_, hbig]
  split
  · rename_i c4
    refine kerr 6 h1 ?_ (by decide) hs1
    unfold mapE
    rw [if_neg c1, hmn, if_neg c3, hbig, if_pos c4]
  rename_i c4
  have he : mapE μ a n perm = 0 := by
    unfold mapE
    rw [if_neg c1, hmn, if_neg c3, hbig, if_neg c4]
  have heM : mapM μ a n perm = addP μ a perm many.toNat := by rw [mapM, if_pos he, hmn]
  rw [he, heM] at hk
  have hg : 0 < n ∧ a % 256 = 0 ∧ a + (n + 255) / 256 * 256 ≤ 4294967296 := hgood.1 (by simp only [not_or, Bool.not_eq_true, Bool.not_eq_false] at c1; simpa using c1.1)
  obtain ⟨g0, g1, g2⟩ := hg
  rw [← hmany] at g2
  have hmb : 0 ≤ many ∧ many ≤ 16777216 := by omega
  have hmw : IntKind.u32.wrap many = many := w_u32 (by omega) (by omega)
  have hpg : ∀ i : Nat, (i : Int) < many → pgA a i = a + i * 256 := fun i hi => by
    unfold pgA
    rw [w_u32 (x := (i : Int) * 256) (by omega) (by omega), w_u32 (by omega) (by omega)]
  have hin : ∀ i : Nat, (i : Int) < many → inR a many (pgA a i) := fun i hi => by
    rw [hpg i hi]
    refine ⟨by omega, ?_⟩
    rw [w_u64 (x := a) (by omega) (by omega), w_u64 (x := many * 256) (by omega) (by omega), w_u64 (x := a + many * 256) (by omega) (by omega), w_u64 (by omega) (by omega)]
    omega
  have hnew : ∀ i : Nat, (i : Int) < many → ∀ e ∈ (addP μ a perm i).pages, e.1 ≠ pgA a i := fun i hi e he hee => by
    rcases yzgy he with he | ⟨j, hj, rfl⟩
    · exact hnin e he (hee ▸ hin i hi)
    · have h1 := hpg i hi
      have h2 := hpg j (by omega)
      simp only at hee
      rw [h1, h2] at hee
      omega
  rw [hmw]
  unfold y9h0
  refine yo1k many.toNat (fun i s h' => s = (ptr D.q 0, .int .u32 a, .int .i64 perm, .int .u32 many, .int .u32 i) ∧ ∃ D', MemIn h0 D' h' (addP μ a perm i) ∧ D'.q = D.q ∧ D'.pm = D.pm ∧ D'.gm = D.gm ∧ Fr (MOwn D μ) h h' ∧ Sub h0 h' ∧ ∀ b, MOwn D' (addP μ a perm i) b → MOwn D μ b ∨ h b = none) ⟨rfl, D, hm1, rfl, rfl, rfl, fun b o _ hb => hs1 b o hb, hsub.trans hs1, fun b hb => .inl hb⟩ ?_
  rintro i s h' K' hi ⟨rfl, D', hm2, eq, epm, egm, hfr, hs2, hown⟩ hk'
  by_cases hlt : (i : Int) < many
  · have w1 : IntKind.u32.wrap ((i : Int) + 1) = (i : Int) + 1 := w_u32 (by omega) (by omega)
    simp (config := {dsimp := false}) [↓ywdw, hlt, ← eq, yic4 hm2.at_, -ygys, ykdz, w1]
    intro b _ hb
    have hpa : IntKind.u32.wrap (a + IntKind.u32.wrap (↑i * 256)) = pgA a i := rfl
    simp only [hpa]
    obtain ⟨ck1, hpm⟩ := hm2.at_.pm
    obtain ⟨ck2, hgm⟩ := hm2.at_.gm
    have hq := hm2.at_.q
    have a1 : D'.q ≠ D'.pm := fun e => by rw [e, hpm] at hq; cases hq
    have a3 : D'.pm ≠ b := fun e => by rw [e, hb] at hpm; cases hpm
    have a4 : D'.gm ≠ b := fun e => by rw [e, hb] at hgm; cases hgm
    have a5 : D'.q ≠ b := fun e => by rw [e, hb] at hq; cases hq
    have hpm1 : ∀ q, upd h' b q D'.pm = _ := fun q => (yrkk _ _ a3).trans hpm
    have hgm1 : ∀ q q', upd (upd h' b q) D'.pm q' D'.gm = _ := fun q q' => (yrkk _ _ (Ne.symm hm2.ne)).trans ((yrkk _ _ a4).trans hgm)
    have hq1 : ∀ q q', upd (upd h' b q) D'.pm q' D'.q = _ := fun q q' => (yrkk _ _ a1).trans ((yrkk _ _ a5).trans hq)
    simp (config := {dsimp := false}) [yoi6 (hpm1 _), yb3e (hq1 _ _), yv6r (hgm1 _ _), yoi6 (hgm1 _ _), w1, ← eq, hpa]
    refine hk' (ptr D'.q 0, .int .u32 a, .int .i64 perm, .int .u32 many, .int .u32 ((i : Int) + 1)) _ (by omega) ⟨by simp [eq], { D' with pg := fun x => if x = pgA a i then b else D'.pg x }, hm2.page (hnew i hlt) hb (Sub.none hs2 hb), eq, epm, egm, ?_, ?_, ?_⟩
    · intro x o hx ho
      have h3 := hfr x o hx ho
      have x1 : x ≠ b := fun e => by rw [e, hb] at h3; cases h3
      have x2 : x ≠ D'.pm := fun e => hx (.inr (.inl (e.trans epm)))
      have x3 : x ≠ D'.gm := fun e => hx (.inr (.inr (.inl (e.trans egm))))
      rw [yrkk _ _ x3, yrkk _ _ x2, yrkk _ _ x1]; exact h3
    · exact Sub.upd (Sub.upd (Sub.upd hs2 (Sub.none hs2 hb)) (hm2.new _ (.inr (.inl rfl)))) (hm2.new _ (.inr (.inr (.inl rfl))))
    · intro x hx
      by_cases ho : MOwn D μ x
      · exact .inl ho
      · refine .inr ?_
        rcases hx with rfl | rfl | rfl | ⟨e, he2, rfl⟩
        · exact (ho (.inl eq)).elim
        · exact (ho (.inr (.inl epm))).elim
        · exact (ho (.inr (.inr (.inl egm)))).elim
        · simp only at ho ⊢
          by_cases hep : e.1 = pgA a i
          · simp only [if_pos hep] at ho ⊢
            cases hhb : h b with
            | none => rfl
            | some o => have := hfr b o ho hhb; rw [hb] at this; cases this
          · simp only [if_neg hep] at ho ⊢
            simp only [addP, List.mem_append, List.mem_singleton] at he2
            rcases he2 with he2 | rfl
            · rcases hown _ (.inr (.inr (.inr ⟨e, he2, rfl⟩))) with h5 | h5
              · exact (ho h5).elim
              · exact h5
            · exact (hep rfl).elim
  · have hie : i = many.toNat := by omega
    simp (config := {dsimp := false}) [↓ywdw, hlt, ↓yfl6]
    subst hie
    exact hk D' h' hm2 eq hfr hown
end
end Go.Proofs.YtnckimioabkheaaGreat

set_option linter.unusedSimpArgs false
set_option linter.unusedVariables false
set_option maxRecDepth 100000
namespace Go.Proofs.YtnckimioabkheaaGreat
open AM
def yxdd (perm need : Int) : Prop := IntKind.i64.wrap (BitVec.ofInt IntKind.i64.bits perm &&& BitVec.ofInt IntKind.i64.bits need).toNat = need
instance {perm need : Int} : Decidable (yxdd perm need) := inferInstanceAs (Decidable (_ = _))
def allL (μ : MS) (need last : Int) : Nat → Int → Bool
  | 0, _ => false
  | f + 1, p => match fnd p μ.pages with
    | none => false
    | some q => if yxdd q.1 need then (if p = last then true else allL μ need last f (IntKind.u32.wrap (p + 256))) else false
def allF (μ : MS) (a n need : Int) : Bool :=
  if n = 0 then true
  else if 4294967296 < a + n then false
  else allL μ need (yovn (a + n - 1)) (((yovn (a + n - 1) - yovn a) / 256).toNat + 1) (yovn a)
theorem ydjw {a : Int} (h0 : 0 ≤ a) (h1 : a < 4294967296) : yovn a = a / 256 * 256 := by
  unfold yovn
  rw [Int.tmod_eq_emod_of_nonneg h0, w_u32 (by omega) (by omega)]
  omega
section
variable {h0 h : H} {D : MD} {μ : MS} {K : K1}
theorem ycmr {a n need : Int} (hm : MemAt D h μ) (hw : MSok μ) (ha : 0 ≤ a) (ha2 : a < 4294967296) (hn : 0 ≤ n) (hn2 : n < 9223372036854775808) (hk : K (.bool (allF μ a n need)) h) :
    AM.Spec PG y5ga [ptr D.q 0, .int .u32 a, .int .i64 n, .int .i64 need] h K := by
  refine y4nd _ _ _ _ _ _ ?_
  have e1 : IntKind.u64.wrap a = a := w_u64 (by omega) (by omega)
  have e2 : IntKind.u64.wrap n = n := w_u64 (by omega) (by omega)
  have e3 : IntKind.u64.wrap (a + n) = a + n := w_u64 (by omega) (by omega)
  unfold allF at hk
  simp (config := {dsimp := false}) [↓ys7u, ↓ymee, ↓yyrp, e1, e2, e3, y68j]
  split
  · rename_i c; rw [if_pos c] at hk; exact hk
  rename_i c; rw [if_neg c] at hk
  split
  · rename_i c; rw [if_pos c] at hk; exact hk
  rename_i c2; rw [if_neg c2] at hk
  have e4 : IntKind.i64.wrap (n - 1) = n - 1 := w_i64 (by omega) (by omega)
  have e5 : IntKind.u32.wrap (n - 1) = n - 1 := w_u32 (by omega) (by omega)
  have e6 : IntKind.u32.wrap (a + (n - 1)) = a + n - 1 := by rw [w_u32 (by omega) (by omega)]; omega
  rw [e4, e5, e6]
  have b1 : IntKind.u32.wrap (a + n - 1 - (a + n - 1).tmod 256) = yovn (a + n - 1) := rfl
  have b2 : IntKind.u32.wrap (a - a.tmod 256) = yovn a := rfl
  rw [b1, b2]
  have l1 := ydjw (a := a + n - 1) (by omega) (by omega)
  have l2 := ydjw ha ha2
  generalize yovn (a + n - 1) = last at *
  generalize yovn a = p at *
  generalize hN : ((last - p) / 256).toNat = N at *
  generalize hR : allL μ need last (N + 1) p = R at *
  unfold yein
  refine yo1k N (fun i s h' => h' = h ∧ s = (ptr D.q 0, .int .i64 need, .int .u32 last, .int .u32 (p + 256 * i)) ∧ R = allL μ need last (N + 1 - i) (p + 256 * i)) ⟨rfl, by simp, by simp [hR]⟩ ?_
  rintro i s h' K' hi ⟨rfl, rfl, hRi⟩ hk'
  have hf : N + 1 - i = (N - i) + 1 := by omega
  rw [hf, allL] at hRi
  unfold ykx0
  have hlk := fun (z : Value) (okk : Bool) (K : Value → Prop) (u : Dm K) => yrxr (h := h') hm (b := p + 256 * i) (z := z) (okk := okk) (K := K) (u := u)
  cases hfn : fnd (p + 256 * i) μ.pages with
  | none =>
    rw [hfn] at hRi hlk
    simp only at hRi hlk
    simp (config := {dsimp := false}) [yic4 hm, hlk]
    rw [hRi] at hk; exact hk
  | some q =>
    rw [hfn] at hRi hlk
    simp only at hRi hlk
    have hl := hw.len _ (y5ut hfn)
    simp (config := {dsimp := false}) [yic4 hm, hlk, yps9 hm hfn, yvux hl]
    have hpo : yxdd q.1 need ↔ IntKind.i64.wrap ((((q.1 % 2 ^ IntKind.i64.bits).toNat &&& (need % 2 ^ IntKind.i64.bits).toNat) : Nat) : Int) = need := by simp [yxdd]
    have hlast : last = p + 256 * N := by omega
    split
    · rename_i c5
      rw [if_pos (hpo.2 c5)] at hRi
      split
      · rename_i c6
        rw [if_pos c6] at hRi
        rw [hRi] at hk; exact hk
      · rename_i c6
        rw [if_neg c6] at hRi
        have hlt : i < N := by omega
        have w : IntKind.u32.wrap (p + 256 * i + 256) = p + 256 * ((i + 1 : Nat) : Int) := by rw [w_u32 (by omega) (by omega)]; omega
        rw [w] at hRi ⊢
        refine hk' _ _ hlt ⟨rfl, rfl, ?_⟩
        have : N + 1 - (i + 1) = N - i := by omega
        rw [this]; exact hRi
    · rename_i c5
      rw [if_neg (fun x => c5 (hpo.1 x))] at hRi
      rw [hRi] at hk; exact hk
end
end Go.Proofs.YtnckimioabkheaaGreat

set_option linter.unusedSimpArgs false
set_option linter.unusedVariables false
set_option maxRecDepth 100000
namespace Go.Proofs.YtnckimioabkheaaGreat
open AM
def setB (μ : MS) (p : Int) (o : Nat) (x : Int) : MS := { μ with pages := μ.pages.map fun e => if e.1 = p then (e.1, e.2.1, e.2.2.set o x) else e }
def bumpG (μ : MS) (p : Int) : MS := { μ with gens := gset μ.gens p (IntKind.u32.wrap ((fnd p μ.gens).getD 0 + 1)) }
def wrA (a : Int) (i : Nat) : Int := IntKind.u32.wrap (a + IntKind.u32.wrap i)
def wrM (μ : MS) (a : Int) (bs : List Int) : Nat → MS
  | 0 => μ
  | i + 1 =>
    if i = 0 ∨ (wrA a i).tmod 256 = 0 then bumpG (setB (wrM μ a bs i) (yovn (wrA a i)) ((wrA a i).tmod 256).toNat (bs.getD i 0)) (yovn (wrA a i))
    else setB (wrM μ a bs i) (yovn (wrA a i)) ((wrA a i).tmod 256).toNat (bs.getD i 0)
def keysM (μ : MS) : List Int := μ.pages.map (·.1)
theorem yhcc {μ : MS} {p : Int} {o : Nat} {x : Int} : keysM (setB μ p o x) = keysM μ := by
  unfold keysM setB
  simp only [List.map_map]
  refine List.map_congr_left fun e _ => ?_
  simp only [Function.comp]
  split <;> rfl
theorem ynn2 {μ : MS} {a : Int} {bs : List Int} : ∀ i, keysM (wrM μ a bs i) = keysM μ
  | 0 => rfl
  | i + 1 => by
    rw [wrM]
    split
    · exact yhcc.trans (ynn2 i)
    · exact yhcc.trans (ynn2 i)
theorem yzro {β : Type} {p : Int} : ∀ {l : List (Int × β)}, p ∈ l.map (·.1) → ∃ q, fnd p l = some q
  | [], h => by simp at h
  | e :: r, h => by
    by_cases hp : p = e.1
    · exact ⟨e.2, by simp [fnd, hp]⟩
    · simp only [List.map_cons, List.mem_cons, hp, false_or] at h
      obtain ⟨q, hq⟩ := yzro h
      exact ⟨q, by simp [fnd, hp, hq]⟩
theorem y0ms {β : Type} : ∀ {l : List (Int × β)}, (l.map (·.1)).Nodup → ∀ {e}, e ∈ l → fnd e.1 l = some e.2
  | [], _, e, h => by cases h
  | x :: r, hn, e, h => by
    simp only [List.map_cons, List.nodup_cons] at hn
    rcases List.mem_cons.1 h with rfl | h
    · simp [fnd]
    · have : e.1 ≠ x.1 := fun he => hn.1 (he ▸ List.mem_map.2 ⟨e, h, rfl⟩)
      simp [fnd, this, y0ms hn.2 h]
theorem yygn {μ : MS} {need last : Int} : ∀ {f : Nat} {p : Int} {k : Nat}, 0 ≤ p → last < 4294967296 → last = p + 256 * k → allL μ need last f p = true → ∀ j ≤ k, ∃ q, fnd (p + 256 * j) μ.pages = some q
  | 0, p, k, _, _, _, h => by cases h
  | f + 1, p, k, hp, hb, hl, h => by
    intro j hj
    rw [allL] at h
    cases hf : fnd p μ.pages with
    | none => rw [hf] at h; cases h
    | some q =>
      rw [hf] at h
      simp only at h
      split at h
      · split at h
        · rename_i h1 h2
          have : j = 0 := by omega
          subst this
          exact ⟨q, by simpa using hf⟩
        · rename_i h1 h2
          cases j with
          | zero => exact ⟨q, by simpa using hf⟩
          | succ j =>
            have w : IntKind.u32.wrap (p + 256) = p + 256 := w_u32 (by omega) (by omega)
            rw [w] at h
            obtain ⟨q', hq'⟩ := yygn (k := k - 1) (by omega) hb (by omega) h j (by omega)
            refine ⟨q', ?_⟩
            rw [← hq']; congr 1; omega
      · cases h
theorem ysm4 {μ : MS} {a n need : Int} (ha : 0 ≤ a) (ha2 : a < 4294967296) (h : allF μ a n need = true) {i : Nat} (hi : (i : Int) < n) : wrA a i = a + i ∧ 0 ≤ wrA a i ∧ wrA a i < 4294967296 ∧ yovn (wrA a i) ∈ keysM μ := by
  unfold allF at h
  rw [if_neg (by omega)] at h
  split at h
  · cases h
  rename_i c
  have e1 : IntKind.u32.wrap (i : Int) = i := w_u32 (by omega) (by omega)
  have e : wrA a i = a + i := by unfold wrA; rw [e1, w_u32 (by omega) (by omega)]
  refine ⟨e, by omega, by omega, ?_⟩
  rw [e, ydjw (by omega) (by omega)]
  rw [ydjw (a := a + n - 1) (by omega) (by omega), ydjw ha ha2] at h
  obtain ⟨q, hq⟩ := yygn (k := (((a + n - 1) / 256 * 256 - a / 256 * 256) / 256).toNat) (by omega) (by omega) (by omega) h ((((a + i) / 256 - a / 256)).toNat) (by omega)
  have := y5ut hq
  refine List.mem_map.2 ⟨_, this, ?_⟩
  simp only
  omega
theorem MSok.setB {μ : MS} (hw : MSok μ) {p : Int} {o : Nat} {x : Int} (h0 : 0 ≤ x) (h1 : x < 256) : MSok (setB μ p o x) := by
  refine ⟨?_, ?_, hw.gen⟩
  · intro e he
    obtain ⟨e', h2, rfl⟩ := List.mem_map.1 he
    split
    · simpa using hw.len e' h2
    · exact hw.len e' h2
  · intro e he y hy
    obtain ⟨e', h2, rfl⟩ := List.mem_map.1 he
    split at hy
    · simp only at hy
      rcases List.mem_or_eq_of_mem_set hy with hy | rfl
      · exact hw.byte e' h2 y hy
      · exact ⟨h0, h1⟩
    · exact hw.byte e' h2 y hy
theorem yik3 {l : List (Int × Int)} {p g : Int} (hg : 0 ≤ g ∧ g < 4294967296) (hl : ∀ e ∈ l, 0 ≤ e.2 ∧ e.2 < 4294967296) : ∀ e ∈ gset l p g, 0 ≤ e.2 ∧ e.2 < 4294967296 := by
  induction l with
  | nil => intro e he; simp [gset] at he; rw [he]; exact hg
  | cons x r ih =>
    intro e he
    rw [gset] at he
    split at he
    · rcases List.mem_cons.1 he with rfl | he
      · exact hg
      · exact hl e (by simp [he])
    · rcases List.mem_cons.1 he with rfl | he
      · exact hl _ (by simp)
      · exact ih (fun e he => hl e (by simp [he])) e he
theorem MSok.bump {μ : MS} (hw : MSok μ) {p : Int} : MSok (bumpG μ p) := ⟨hw.len, hw.byte, yik3 ⟨yd12, yina⟩ hw.gen⟩
theorem MSok.wrM {μ : MS} (hw : MSok μ) {a : Int} {bs : List Int} (hb : ∀ x ∈ bs, 0 ≤ x ∧ x < 256) : ∀ i, MSok (wrM μ a bs i)
  | 0 => hw
  | i + 1 => by
    have hx : 0 ≤ bs.getD i 0 ∧ bs.getD i 0 < 256 := by
      by_cases h : i < bs.length
      · simp only [List.getD_eq_getElem?_getD, List.getElem?_eq_getElem h, Option.getD_some]; exact hb _ (List.getElem_mem h)
      · simp [List.getD_eq_getElem?_getD, List.getElem?_eq_none (by omega : bs.length ≤ i)]
    have := (MSok.wrM (a := a) hw hb i).setB (p := yovn (wrA a i)) (o := ((wrA a i).tmod 256).toNat) hx.1 hx.2
    rw [Go.Proofs.YtnckimioabkheaaGreat.wrM]
    split
    · exact this.bump
    · exact this
theorem yvba {p : Int × List Int} {o : Nat} {x : Int} (hl : p.2.length = 256) (ho : o < 256) : setL (yapg p) o [.int .u8 x] = yapg (p.1, p.2.set o x) := by
  unfold yapg
  simp only [setL]
  rw [List.set_append_left _ _ (by simp [hl, ho]), List.map_set]
section
variable {h0 h : H} {D : MD} {μ : MS} {K : K1}
theorem MemIn.setB (hm : MemIn h0 D h μ) {p : Int} {q : Int × List Int} {o : Nat} {x : Int} (hf : fnd p μ.pages = some q) :
    MemIn h0 D (upd h (D.pg p) (.cells (yapg (q.1, q.2.set o x)) ynw2 .exact)) (setB μ p o x) := by
  obtain ⟨ck1, hpm⟩ := hm.at_.pm
  obtain ⟨ck2, hgm⟩ := hm.at_.gm
  have hq := hm.at_.q
  have hmem := y5ut hf
  have hp := hm.at_.pg _ hmem
  simp only at hp
  have a1 : D.q ≠ D.pg p := fun e => by
    rw [e, hp] at hq
    simp only [Option.some.injEq, AObj.cells.injEq] at hq
    exact absurd hq.2.1 (by decide)
  have a2 : D.pm ≠ D.pg p := fun e => by rw [e, hp] at hpm; cases hpm
  have a3 : D.gm ≠ D.pg p := fun e => by rw [e, hp] at hgm; cases hgm
  have epg : (Go.Proofs.YtnckimioabkheaaGreat.setB μ p o x).pages.map (fun e => (Value.int .u32 e.1, ptr (D.pg e.1) 0)) = μ.pages.map fun e => (Value.int .u32 e.1, ptr (D.pg e.1) 0) := by
    simp only [Go.Proofs.YtnckimioabkheaaGreat.setB, List.map_map]
    refine List.map_congr_left fun e _ => ?_
    simp only [Function.comp]
    split <;> rfl
  have hkeys : (Go.Proofs.YtnckimioabkheaaGreat.setB μ p o x).pages.map (·.1) = μ.pages.map (·.1) := yhcc
  have hfrom : ∀ e ∈ (Go.Proofs.YtnckimioabkheaaGreat.setB μ p o x).pages, ∃ e' ∈ μ.pages, e'.1 = e.1 := fun e he => by
    have : e.1 ∈ (Go.Proofs.YtnckimioabkheaaGreat.setB μ p o x).pages.map (·.1) := List.mem_map.2 ⟨e, he, rfl⟩
    rw [hkeys] at this
    obtain ⟨e', h1, h2⟩ := List.mem_map.1 this
    exact ⟨e', h1, h2⟩
  refine ⟨⟨?_, ⟨ck1, ?_⟩, ⟨ck2, ?_⟩, ?_⟩, ?_, hm.ne, ?_, ?_⟩
  · rw [yrkk _ _ a1]; exact hq
  · rw [yrkk _ _ a2, epg]; exact hpm
  · rw [yrkk _ _ a3]; exact hgm
  · intro e he
    obtain ⟨e', h2, rfl⟩ := List.mem_map.1 he
    by_cases hep : e'.1 = p
    · have h3 := y0ms hm.nd h2
      rw [hep, hf] at h3
      simp only [if_pos hep, hep, if_true, Option.some.injEq] at h3 ⊢
      rw [yy0e, h3]
    · simp only [if_neg hep]
      have : D.pg e'.1 ≠ D.pg p := fun hh => hep (hm.inj e' h2 _ hmem hh)
      rw [yrkk _ _ this]
      exact hm.at_.pg e' h2
  · rintro y (rfl | rfl | rfl | ⟨e, he, rfl⟩)
    · exact hm.new _ (.inl rfl)
    · exact hm.new _ (.inr (.inl rfl))
    · exact hm.new _ (.inr (.inr (.inl rfl)))
    · obtain ⟨e', h1, h2⟩ := hfrom e he
      rw [← h2]
      exact hm.new _ (.inr (.inr (.inr ⟨e', h1, rfl⟩)))
  · intro e he e2 he2 hee
    obtain ⟨e', h1, h2⟩ := hfrom e he
    obtain ⟨e2', h12, h22⟩ := hfrom e2 he2
    rw [← h2, ← h22] at hee ⊢
    exact hm.inj e' h1 e2' h12 hee
  · rw [hkeys]; exact hm.nd
theorem MemIn.bump (hm : MemIn h0 D h μ) {p : Int} {ck : Nat} :
    MemIn h0 D (upd h D.gm (.map (.int .u32) (mset (μ.gens.map fun p => (Value.int .u32 p.1, Value.int .u32 p.2)) (.int .u32 p) (.int .u32 (IntKind.u32.wrap ((fnd p μ.gens).getD 0 + 1)))) ck)) (bumpG μ p) := by
  obtain ⟨ck1, hpm⟩ := hm.at_.pm
  obtain ⟨ck2, hgm⟩ := hm.at_.gm
  have hq := hm.at_.q
  have a1 : D.q ≠ D.gm := fun e => by rw [e, hgm] at hq; cases hq
  refine ⟨⟨?_, ⟨ck1, ?_⟩, ⟨ck, ?_⟩, ?_⟩, hm.new, hm.ne, hm.inj, hm.nd⟩
  · rw [yrkk _ _ a1]; exact hq
  · rw [yrkk _ _ hm.ne]; exact hpm
  · rw [yy0e, ybxn]; rfl
  · intro e he
    have h1 := hm.at_.pg e he
    have : D.pg e.1 ≠ D.gm := fun x => by rw [x, hgm] at h1; cases h1
    rw [yrkk _ _ this]; exact h1
theorem y2rr {μ' : MS} (hk : keysM μ' = keysM μ) {b : Nat} : MOwn D μ' b ↔ MOwn D μ b := by
  have : ∀ {μ μ' : MS}, keysM μ' = keysM μ → MOwn D μ' b → MOwn D μ b := by
    rintro μ μ' hk (h | h | h | ⟨e, he, h⟩)
    · exact .inl h
    · exact .inr (.inl h)
    · exact .inr (.inr (.inl h))
    · have : e.1 ∈ keysM μ' := List.mem_map.2 ⟨e, he, rfl⟩
      rw [hk] at this
      obtain ⟨e', h1, h2⟩ := List.mem_map.1 this
      exact .inr (.inr (.inr ⟨e', h1, by rw [h2]; exact h⟩))
  exact ⟨this hk, this hk.symm⟩
def wrE (μ : MS) (a most need : Int) (bs : List Int) : Int := if most < bs.length then 1 else if allF μ a bs.length need = true then 0 else 8
def wrR (μ : MS) (a most need : Int) (bs : List Int) : MS := if wrE μ a most need bs = 0 then wrM μ a bs bs.length else μ
theorem ytus {a most need : Int} {v : Value} {bs : List Int} (hm : MemIn h0 D h μ) (hw : MSok μ) (hsub : Sub h0 h) (ha : 0 ≤ a) (ha2 : a < 4294967296) (hbs : ∀ x ∈ bs, 0 ≤ x ∧ x < 256)
    (hv : Sl (fun x : Int => [.int .u8 x]) 1 h0 v bs) (hlen : bs.length < 9223372036854775808)
    (hk : ∀ h', MemIn h0 D h' (wrR μ a most need bs) → Fr (MOwn D μ) h h' → K (.int .i64 (wrE μ a most need bs)) h') :
    AM.Spec PG yuzq [ptr D.q 0, .int .u32 a, v, .int .i64 most, .int .i64 need] h K := by
  refine yeyj _ _ _ _ _ _ _ ?_
  have hv1 := hv.mono hsub
  have kerr : ∀ e, wrE μ a most need bs = e → e ≠ 0 → K (.int .i64 e) h := fun e he hne => by
    have : wrR μ a most need bs = μ := by simp [wrR, he, hne]
    rw [this, he] at hk
    exact hk h hm fun b o _ hb => hb
  simp (config := {dsimp := false}) [↓yzwx, ↓ys96, hv1.ulen]
  split
  · rename_i c
    exact kerr 1 (by simp [wrE, c]) (by decide)
  rename_i c
  refine ⟨by simp [hv1.box], ycmr hm.at_ hw ha ha2 (by omega) (by omega) ?_⟩
  by_cases hall : allF μ a bs.length need = true
  case neg =>
    simp only [Bool.not_eq_true] at hall
    simp (config := {dsimp := false}) [hall]
    exact kerr 8 (by simp [wrE, c, hall]) (by decide)
  simp (config := {dsimp := false}) [↓y3i9, ↓ylg6, ↓ypn0, hv1.ulen, hall]
  have he : wrE μ a most need bs = 0 := by simp [wrE, c, hall]
  have heR : wrR μ a most need bs = wrM μ a bs bs.length := by simp [wrR, he]
  rw [he, heR] at hk
  unfold ynbe
  refine yo1k bs.length (fun i s h' => s = (ptr D.q 0, .int .u32 a, v, .int .i64 bs.length, .int .i64 i) ∧ MemIn h0 D h' (wrM μ a bs i) ∧ Fr (MOwn D μ) h h' ∧ Sub h0 h') ⟨rfl, hm, fun b o _ hb => hb, hsub⟩ ?_
  rintro i s h' K' hi ⟨rfl, hm2, hfr, hs2⟩ hk'
  by_cases hlt : i < bs.length
  · have hix := fun (K : Value → Prop) (u : Dm K) => (hv.mono hs2).ix1 (k := .i64) hlt (K := K) (u := u)
    obtain ⟨w0, w1, w2, w3⟩ := ysm4 ha ha2 hall (i := i) (by omega)
    have wx : IntKind.u32.wrap (a + IntKind.u32.wrap (i : Int)) = wrA a i := rfl
    have wb : IntKind.u32.wrap (wrA a i - (wrA a i).tmod 256) = yovn (wrA a i) := rfl
    rw [← ynn2 (μ := μ) (a := a) (bs := bs) i] at w3
    obtain ⟨q, hq⟩ := yzro w3
    have hlk := fun (z : Value) (okk : Bool) (K : Value → Prop) (u : Dm K) => yrxr hm2.at_ (b := yovn (wrA a i)) (z := z) (okk := okk) (K := K) (u := u)
    rw [hq] at hlk
    simp only at hlk
    simp (config := {dsimp := false}) [↓ygfq, ↓yy9m, ↓yciq, ↓yk5g, ↓yspp, ↓yfgr, hlt, hix, wx, wb, yic4 hm2.at_, hlk, y68j]
    have hpg := hm2.at_.pg _ (y5ut hq)
    simp only at hpg
    have hl := (hw.wrM (a := a) hbs i).len _ (y5ut hq)
    simp only at hl
    have t0 : 0 ≤ (wrA a i).tmod 256 := by rw [Int.tmod_eq_emod_of_nonneg w1]; omega
    have t1 : (wrA a i).tmod 256 < 256 := by rw [Int.tmod_eq_emod_of_nonneg w1]; omega
    have hset : (yapg q).set ((wrA a i).tmod 256).toNat (.int .u8 bs[i]) = yapg (q.1, q.2.set ((wrA a i).tmod 256).toNat bs[i]) := yvba hl (by omega)
    have hmS := hm2.setB (o := ((wrA a i).tmod 256).toNat) (x := bs[i]) hq
    have hgD : bs.getD i 0 = bs[i] := by simp [List.getD_eq_getElem?_getD, List.getElem?_eq_getElem hlt]
    have hown : MOwn D μ (D.pg (yovn (wrA a i))) := (y2rr (ynn2 i)).1 (.inr (.inr (.inr ⟨_, y5ut hq, rfl⟩)))
    have hfS : ∀ o, Fr (MOwn D μ) h (upd h' (D.pg (yovn (wrA a i))) o) := fun o x y hx hy => by
      rw [yrkk _ _ (fun e => hx (by rw [e]; exact hown))]; exact hfr x y hx hy
    have hsS : ∀ o, Sub h0 (upd h' (D.pg (yovn (wrA a i))) o) := fun o => Sub.upd hs2 (hm.new _ hown)
    have hf2 := hfS (.cells (yapg (q.1, q.2.set ((wrA a i).tmod 256).toNat bs[i])) ynw2 .exact)
    have hs3 := hsS (.cells (yapg (q.1, q.2.set ((wrA a i).tmod 256).toNat bs[i])) ynw2 .exact)
    refine ⟨t0, t1, ?_⟩
    rw [hpg]
    simp only
    refine ⟨by decide, by simp [yapg, hl]; omega, ?_⟩
    rw [hset]
    generalize upd h' (D.pg (yovn (wrA a i))) _ = h2 at *
    obtain ⟨ck2, hgm⟩ := hmS.at_.gm
    have w4 : IntKind.i64.wrap ((i : Int) + 1) = (i : Int) + 1 := w_i64 (by omega) (by omega)
    by_cases hc : i = 0 ∨ (wrA a i).tmod 256 = 0
    · have hs : wrM μ a bs (i + 1) = bumpG (setB (wrM μ a bs i) (yovn (wrA a i)) ((wrA a i).tmod 256).toNat bs[i]) (yovn (wrA a i)) := by rw [wrM, if_pos hc, hgD]
      rw [hs] at hk'
      simp (config := {dsimp := false}) [↓y5yv, ↓ykez, ↓yxcz, ↓yrlv, hc, yic4 hmS.at_, wb, y68j, yv6r hgm, yoi6 hgm, w4]
      refine hk' (ptr D.q 0, .int .u32 a, v, .int .i64 bs.length, .int .i64 ((i : Int) + 1)) _ hlt ⟨by simp, hmS.bump, fun x y hx hy => ?_, Sub.upd hs3 (hm2.new _ (.inr (.inr (.inl rfl))))⟩
      rw [yrkk _ _ (fun e => hx (by rw [e]; exact .inr (.inr (.inl rfl))))]; exact hf2 x y hx hy
    · have hs : wrM μ a bs (i + 1) = setB (wrM μ a bs i) (yovn (wrA a i)) ((wrA a i).tmod 256).toNat bs[i] := by rw [wrM, if_neg hc, hgD]
      rw [hs] at hk'
      simp (config := {dsimp := false}) [↓y5yv, ↓ykez, ↓ynls, ↓yrlv, hc, w4]
      exact hk' (ptr D.q 0, .int .u32 a, v, .int .i64 bs.length, .int .i64 ((i : Int) + 1)) _ hlt ⟨by simp, hmS, hf2, hs3⟩
  · simp (config := {dsimp := false}) [↓ygfq, hlt, ↓yn0i]
    have hie : i = bs.length := by omega
    subst hie
    exact hk h' hm2 hfr
end
end Go.Proofs.YtnckimioabkheaaGreat

set_option linter.unusedSimpArgs false
set_option linter.unusedVariables false
set_option maxRecDepth 100000
namespace Go.Proofs.YtnckimioabkheaaGreat
open AM
theorem yn2f {α : Type} {enc : α → List Value} {sz : Nat} {e : TypeId} {bytes : Nat} {h0 h : H} {v : Value} {l m : List α} {K : K1} (hg : Gr enc sz e h0 h v l) (hsub : Sub h0 h) (hx : ∀ x ∈ m, (enc x).length = sz) (hm : m ≠ []) (h0z : 0 < sz)
    (hb : (l.length + m.length) * bytes ≤ 140737488355328) (hn : l.length + m.length < 9223372036854775808)
    (hk : ∀ v' h', Gr enc sz e h0 h' v' (l ++ m) → Sub h0 h' → (∀ c o, h c = some o → yc20 v ≠ some c → h' c = some o) → (∀ c, yc20 v' = some c → h c = none) → K v' h') {cs : List Value} (hcs : cs = m.flatMap enc) {k : Nat} (hkm : k = m.length) :
    u_new cs e .exact h (fun b h => yx4h e sz bytes v (.slice (some ⟨b, 0, none⟩) k k) h K) := by
  subst hcs hkm
  intro b hb2 hbn
  have hg' : Gr enc sz e h0 (upd h b (.cells (m.flatMap enc) e .exact)) v l := hg.keep fun c hc => yrkk _ _ fun he => by
    rw [he] at hc; exact hg.there hc hbn
  have hz : ∀ x ∈ m, (enc x).length = sz := hx
  refine Gr.append (m := m) hg' (Sl.of_block (b := b) (o := 0) (l := m) (c := m.length) hz (yy0e _ _ _) (by rw [List.drop_zero, ← yr37 hz, List.take_length]) (by rw [yr37 hz]; omega)) hm h0z hb hn (hsub.upd (hsub.none hbn)) fun v' h' g1 g2 g3 g4 => ?_
  refine hk v' h' g1 g2 (fun c o hc hv => g3 c o ?_ hv) fun c hc => ?_
  · rw [yrkk _ _ fun he => by rw [he, hbn] at hc; cases hc]; exact hc
  · have := g4 c hc
    rw [ynej] at this
    exact this.2.2
abbrev u8V : Int → List Value := fun x => [.int .u8 x]
abbrev u32V : Int → List Value := fun x => [.int .u32 x]
def word4 (w : Int) : List Int := [IntKind.u8.wrap w, IntKind.u8.wrap (w.fdiv (2 ^ min 8 IntKind.u32.bits)), IntKind.u8.wrap (w.fdiv (2 ^ min 16 IntKind.u32.bits)), IntKind.u8.wrap (w.fdiv (2 ^ min 24 IntKind.u32.bits))]
def ytw8 (ws : List Int) : List Int := ws.flatMap word4
section
variable {h0 h : H} {D : MD} {μ : MS} {K : K1}
theorem y91f {a : Int} {v : Value} {bs : List Int} (hm : MemIn h0 D h μ) (hw : MSok μ) (hsub : Sub h0 h) (ha : 0 ≤ a) (ha2 : a < 4294967296) (hbs : ∀ x ∈ bs, 0 ≤ x ∧ x < 256)
    (hv : Sl (fun x : Int => [.int .u8 x]) 1 h0 v bs) (hlen : bs.length < 9223372036854775808)
    (hk : ∀ h', MemIn h0 D h' (wrR μ a 65536 0 bs) → Fr (MOwn D μ) h h' → K (.int .i64 (wrE μ a 65536 0 bs)) h') :
    AM.Spec PG ylv9 [ptr D.q 0, .int .u32 a, v] h K := by
  refine ygwh _ _ _ _ _ ?_
  unfold y9oh yex1
  exact ⟨by simp [hv.box], ytus hm hw hsub ha ha2 hbs hv hlen hk⟩
theorem ywub {v : Value} {ws : List Int} (hv : Sl u32V 1 h v ws) (hw : ∀ x ∈ ws, 0 ≤ x ∧ x < 4294967296) (hlen : ws.length ≤ 1000000)
    (hk : ∀ v' h', Sub h h' → Gr u8V 1 yoj6 h h' v' (ytw8 ws) → K v' h') : AM.Spec PG yqrg [v] h K := by
  refine yoqc _ _ _ ?_
  unfold ymuy yf7f yd6n ynst yaaf y38d
  refine yo1k ws.length (fun i s h' => ∃ w, s = (v, w, .int .i64 i) ∧ Sub h h' ∧ Gr u8V 1 yoj6 h h' w (ytw8 (ws.take i))) ⟨_, rfl, Sub.refl _, by simpa [ytw8] using Gr.empty⟩ ?_
  rintro i s h' K' hi ⟨w, rfl, hs, hg⟩ hk'
  have hv2 := hv.mono hs
  by_cases hlt : i < ws.length
  · have hix := fun (K : Value → Prop) (u : Dm K) => hv2.ix1 (k := .i64) hlt (K := K) (u := u)
    have hb := hw _ (List.getElem_mem hlt)
    have htk : ytw8 (ws.take (i + 1)) = ytw8 (ws.take i) ++ word4 ws[i] := by
      rw [List.take_succ_eq_append_getElem hlt, ytw8, List.flatMap_append]; simp only [List.flatMap_cons, List.flatMap_nil, List.append_nil]; rfl
    have hl4 : (ytw8 (ws.take i)).length = 4 * i := by
      have : ∀ l : List Int, (ytw8 l).length = 4 * l.length := fun l => by
        induction l with
        | nil => rfl
        | cons x r ih => simp [ytw8, word4] at ih ⊢; omega
      rw [this]; simp; omega
    rw [htk] at hk'
    generalize ws[i] = x at *
    have w1 : IntKind.i64.wrap ((i : Int) + 1) = (i : Int) + 1 := w_i64 (by omega) (by omega)
    simp (config := {dsimp := false}) [↓ykuu, hv2.ulen, hlt, hix]
    refine yn2f (m := word4 x) hg hs (by simp [word4]) (by simp [word4]) (by omega) (by simp [word4]; omega) (by simp [word4]; omega) (fun v' h3 g' s' _ _ => ?_) rfl rfl
    simp (config := {dsimp := false}) [w1]
    exact hk' (v, v', .int .i64 ((i : Int) + 1)) _ hlt ⟨v', by simp, s', g'⟩
  · simp (config := {dsimp := false}) [↓ykuu, hv2.ulen, hlt, ↓yqt0]
    have hie : i = ws.length := by omega
    subst hie
    rw [List.take_length] at hg
    exact hk w h' hs hg
abbrev Sg := Int × Int × Int × Value
def sgC (s : Sg) : List Value := [.int .u32 s.1, .int .u32 s.2.1, .int .i64 s.2.2.1, s.2.2.2]
theorem Sl.form {α : Type} {enc : α → List Value} {sz : Nat} {v : Value} {l : List α} (hs : Sl enc sz h v l) : ∃ a n c, v = .slice a n c := by
  obtain ⟨_, ⟨_, rfl⟩ | ⟨b, o, c, rfl, _⟩⟩ := hs
  · exact ⟨_, _, _, rfl⟩
  · exact ⟨_, _, _, rfl⟩
theorem y3pc {h : H} {b b1 : Nat} {q q' r : AObj} (hn : ¬ b = b1) : upd (upd (upd h b q) b1 r) b q' = upd (upd h b q') b1 r := by
  funext c
  unfold upd
  by_cases h1 : c = b
  · subst h1; simp [hn]
  · simp [h1]
theorem yj7q {v vd : Value} {ws data : List Int} {all : Bool} (hv : Sl u32V 1 h v ws) (hw : ∀ x ∈ ws, 0 ≤ x ∧ x < 4294967296) (hlen : ws.length ≤ 1000000) (hd : Sl u8V 1 h vd data)
    (hk : ∀ vs vb h', Sub h h' → (∃ q, vs = .slice (some ⟨q, 0, none⟩) 2 2) → Sl u8V 1 h' vb (ytw8 ws) → Sl sgC 4 h' vs [(4096, 1024, (if all = true then 7 else 5), vb), (65536, 512, 3, vd)] → K (.agg #[.int .u32 4096, vs]) h') :
    AM.Spec PG y1z6 [v, vd, .bool all] h K := by
  refine ymx3 _ _ _ _ _ ?_
  unfold ybgv yql2
  intro b6 _ hb6
  have s1 : Sub h (upd h b6 (.cells [.int .u32 0, .slice none 0 0] y33u .exact)) := Sub.new hb6
  refine ⟨by simp [hv.box], ywub (hv.mono s1) hw hlen fun vb h1 hs1 hg1 => ?_⟩
  have hsb := hg1.sl
  have hd1 := hd.mono (s1.trans hs1)
  have e6 := hs1 _ _ (yy0e h b6 (.cells [.int .u32 0, .slice none 0 0] y33u .exact))
  obtain ⟨ab, nb, cb, rfl⟩ := Sl.form hsb
  obtain ⟨ad, nd, cd, rfl⟩ := Sl.form hd1
  have hs2 := s1.trans hs1
  simp (config := {dsimp := false})
  intro b _ hb b1 _ n1 n2 hb1
  have m1 : b6 ≠ b := fun e => by rw [e, hb] at e6; cases e6
  have m2 : b6 ≠ b1 := fun e => by rw [e, hb1] at e6; cases e6
  have hn0 := Sub.none hs2 hb
  have hn1 := Sub.none hs2 hb1
  have hgf : ∀ q1 q2 q3, Gr u8V 1 yoj6 (upd h b6 (.cells [.int .u32 0, .slice none 0 0] y33u .exact)) (upd (upd (upd h1 b q1) b1 q2) b6 q3) (.slice ab nb cb) (ytw8 ws) := fun q1 q2 q3 => by
    refine (hg1.over e6 (q' := q3) (by simp)).keep fun c hc => ?_
    have hcn := hg1.there hc
    have c1 : c ≠ b := fun e => hcn (e ▸ hb)
    have c2 : c ≠ b1 := fun e => hcn (e ▸ hb1)
    by_cases c3 : c = b6
    · subst c3; simp [upd]
    · simp [upd, c1, c2, c3]
  have hsub : ∀ q1 q2 q3, Sub h (upd (upd (upd h1 b q1) b1 q2) b6 q3) := fun q1 q2 q3 => Sub.upd (Sub.upd (Sub.upd hs2 hn0) hn1) hb6
  cases all
  · simp (config := {dsimp := false}) [n1, n2, m1, m2, Ne.symm m1, Ne.symm m2, e6]
    refine hk _ (.slice ab nb cb) _ (hsub _ _ _) ⟨b, rfl⟩ (hgf _ _ _).sl ?_
    refine Sl.of_block (b := b) (o := 0) (c := 2) (by simp [sgC]) ((yrkk _ _ (Ne.symm m1)).trans ((yrkk _ _ n2).trans (yy0e _ _ _))) (by simp [sgC]) (by simp)
  · simp (config := {dsimp := false}) [n1, n2, m1, m2, Ne.symm m1, Ne.symm m2, e6]
    rw [y3pc n2]
    refine hk _ (.slice ab nb cb) _ (hsub _ _ _) ⟨b, rfl⟩ (hgf _ _ _).sl ?_
    refine Sl.of_block (b := b) (o := 0) (c := 2) (by simp [sgC]) ((yrkk _ _ (Ne.symm m1)).trans ((yrkk _ _ n2).trans (yy0e _ _ _))) (by simp [sgC]) (by simp)
end
end Go.Proofs.YtnckimioabkheaaGreat

set_option linter.unusedSimpArgs false
set_option linter.unusedVariables false
set_option maxRecDepth 100000
namespace Go.Proofs.YtnckimioabkheaaGreat
open AM
def MSz (μ : MS) : Prop := (μ.pages.length : Int) ≤ μ.budget ∧ μ.budget ≤ 4096
theorem yqqr {μ : MS} {a perm : Int} : ∀ i, (addP μ a perm i).pages.length = μ.pages.length + i
  | 0 => rfl
  | i + 1 => by simp [addP, yqqr i]; omega
theorem MSz.map {μ : MS} (hz : MSz μ) {a n perm : Int} (hn : 0 ≤ n) (hn2 : n < 4294967296) : MSz (mapM μ a n perm) := by
  unfold mapM
  split
  · rename_i he
    have hm := y56w (a := a) hn hn2
    unfold mapE at he
    split at he
    · cases he
    split at he
    · cases he
    split at he
    · cases he
    rename_i c
    obtain ⟨z1, z2⟩ := hz
    rw [w_i64 (by omega) (by omega), w_u64 (by omega) (by omega)] at c
    refine ⟨?_, by rw [yodx]; exact z2⟩
    rw [yodx, yqqr]
    omega
  · exact hz
theorem MSz.wr {μ : MS} (hz : MSz μ) {a most need : Int} {bs : List Int} : MSz (wrR μ a most need bs) := by
  have hb : ∀ i, (wrM μ a bs i).budget = μ.budget := fun i => by
    induction i with
    | zero => rfl
    | succ i ih => rw [wrM]; split <;> simp [bumpG, setB, ih]
  have hl : ∀ i, (wrM μ a bs i).pages.length = μ.pages.length := fun i => by
    have := congrArg List.length (ynn2 (μ := μ) (a := a) (bs := bs) i)
    simpa [keysM] using this
  unfold wrR
  split
  · exact ⟨by rw [hl, hb]; exact hz.1, by rw [hb]; exact hz.2⟩
  · exact hz
theorem MSok.addP {μ : MS} (hw : MSok μ) {a perm : Int} : ∀ i, MSok (addP μ a perm i)
  | 0 => hw
  | i + 1 => by
    have ih := MSok.addP (a := a) (perm := perm) hw i
    refine ⟨?_, ?_, yik3 ⟨yd12, yina⟩ ih.gen⟩
    · intro e he
      simp only [Go.Proofs.YtnckimioabkheaaGreat.addP, List.mem_append, List.mem_singleton] at he
      rcases he with he | rfl
      · exact ih.len e he
      · simp [yr1e]
    · intro e he x hx
      simp only [Go.Proofs.YtnckimioabkheaaGreat.addP, List.mem_append, List.mem_singleton] at he
      rcases he with he | rfl
      · exact ih.byte e he x hx
      · have := (List.mem_replicate.1 hx).2
        omega
theorem MSok.map {μ : MS} (hw : MSok μ) {a n perm : Int} : MSok (mapM μ a n perm) := by
  unfold mapM
  split
  · exact hw.addP _
  · exact hw
theorem MSok.wr {μ : MS} (hw : MSok μ) {a most need : Int} {bs : List Int} (hb : ∀ x ∈ bs, 0 ≤ x ∧ x < 256) : MSok (wrR μ a most need bs) := by
  unfold wrR
  split
  · exact hw.wrM hb _
  · exact hw
def layF : MS → List (Sg × List Int) → Int × MS
  | μ, [] => (0, μ)
  | μ, s :: r =>
    if mapE μ s.1.1 s.1.2.1 s.1.2.2.1 ≠ 0 then (mapE μ s.1.1 s.1.2.1 s.1.2.2.1, μ)
    else if wrE (mapM μ s.1.1 s.1.2.1 s.1.2.2.1) s.1.1 65536 0 s.2 ≠ 0 then (wrE (mapM μ s.1.1 s.1.2.1 s.1.2.2.1) s.1.1 65536 0 s.2, mapM μ s.1.1 s.1.2.1 s.1.2.2.1)
    else layF (wrR (mapM μ s.1.1 s.1.2.1 s.1.2.2.1) s.1.1 65536 0 s.2) r
section
variable {h0 h : H} {D : MD} {μ : MS} {K : K1}
theorem MemAt.other (hm : MemAt D h μ) {b : Nat} {cs : List Value} {E : TypeId} {m : AM.Own} (hb : h b = some (.cells cs E m)) (h1 : E ≠ y7k4) (h2 : E ≠ ynw2) : ¬ MOwn D μ b := by
  rintro (rfl | rfl | rfl | ⟨e, he, rfl⟩)
  · have := hm.q
    rw [hb] at this
    simp only [Option.some.injEq, AObj.cells.injEq] at this
    exact h1 this.2.1
  · obtain ⟨ck, this⟩ := hm.pm
    rw [hb] at this; cases this
  · obtain ⟨ck, this⟩ := hm.gm
    rw [hb] at this; cases this
  · have := hm.pg e he
    rw [hb] at this
    simp only [Option.some.injEq, AObj.cells.injEq] at this
    exact h2 this.2.1
structure Went (h0 : H) (D : MD) (μ : MS) (h : H) (D' : MD) (μ' : MS) (h' : H) : Prop where
  mem : MemIn h0 D' h' μ'
  q : D'.q = D.q
  fr : Fr (MOwn D μ) h h'
  own : ∀ b, MOwn D' μ' b → MOwn D μ b ∨ h b = none
theorem Went.refl (hm : MemIn h0 D h μ) : Went h0 D μ h D μ h := ⟨hm, rfl, fun _ _ _ h => h, fun _ h => .inl h⟩
theorem Went.trans {E1 E2 : MD} {μ1 μ2 : MS} {h1 h2 : H} (a : Went h0 D μ h E1 μ1 h1) (b : Went h0 E1 μ1 h1 E2 μ2 h2) : Went h0 D μ h E2 μ2 h2 := by
  have hfr : Fr (MOwn D μ) h h2 := fun x o hx ho => b.fr x o (fun hc => by
    rcases a.own x hc with h5 | h5
    · exact hx h5
    · rw [ho] at h5; cases h5) (a.fr x o hx ho)
  refine ⟨b.mem, b.q.trans a.q, hfr, fun x hx => ?_⟩
  rcases b.own x hx with h5 | h5
  · exact a.own x h5
  · by_cases hx2 : MOwn D μ x
    · exact .inl hx2
    · refine .inr ?_
      cases hh : h x with
      | none => rfl
      | some o => have := a.fr x o hx2 hh; rw [h5] at this; cases this
theorem Went.new {E1 : MD} {μ1 : MS} {h1 : H} (a : Went h0 D μ h E1 μ1 h1) {b : Nat} {q : AObj} (hb : h1 b = none) : Went h0 D μ h E1 μ1 (upd h1 b q) :=
  ⟨a.mem.sub (Sub.new hb), a.q, fun x o hx ho => Sub.new hb x o (a.fr x o hx ho), a.own⟩
theorem Went.sub0 {E1 : MD} {μ1 : MS} {h1 : H} (a : Went h0 D μ h E1 μ1 h1) (hm : MemIn h0 D h μ) (hs : Sub h0 h) : Sub h0 h1 := a.fr.sub hs hm.new
end
end Go.Proofs.YtnckimioabkheaaGreat

set_option linter.unusedSimpArgs false
set_option linter.unusedVariables false
namespace Go.Proofs.YtnckimioabkheaaGreat.AM
section
variable {α : Type} {enc : α → List Value} {sz : Nat} {e : TypeId} {h h' : H} {v x y : Value} {l m : List α} {b : Option Nat}
def OL (enc : α → List Value) (sz : Nat) (e : TypeId) (h : H) (v : Value) (l : List α) (b : Option Nat) : Prop :=
  (∀ x ∈ l, (enc x).length = sz) ∧ ((l = [] ∧ b = none ∧ v = .slice none 0 0) ∨
    ∃ c m, b = some c ∧ 2 ≤ c ∧ v = .slice (some ⟨c, 0, none⟩) l.length l.length ∧ h c = some (.cells (l.flatMap enc) e m) ∧ m ≠ .ro)
theorem OL.sl (ho : OL enc sz e h v l b) : Sl enc sz h v l := by
  obtain ⟨hz, ⟨rfl, _, rfl⟩ | ⟨c, m, _, _, rfl, hb, _⟩⟩ := ho
  · exact Sl.nil
  · refine Sl.of_block hz hb ?_ ?_
    · rw [List.drop_zero, ← yr37 hz, List.take_length]
    · rw [yr37 hz]; omega
theorem OL.none : OL enc sz e h (.slice none 0 0) ([] : List α) none := ⟨fun _ h => by simp at h, .inl ⟨rfl, rfl, rfl⟩⟩
theorem OL.there (ho : OL enc sz e h v l b) {c : Nat} (hc : b = some c) : h c ≠ Option.none := by
  obtain ⟨_, ⟨_, rfl, _⟩ | ⟨c', m, rfl, _, _, hb, _⟩⟩ := ho
  · cases hc
  · cases hc; rw [hb]; simp
theorem OL.keep (ho : OL enc sz e h v l b) (hk : ∀ c, b = some c → h' c = h c) : OL enc sz e h' v l b := by
  obtain ⟨hz, ⟨h1, h2, h3⟩ | ⟨c, m, h1, h2, h3, h4, h5⟩⟩ := ho
  · exact ⟨hz, .inl ⟨h1, h2, h3⟩⟩
  · exact ⟨hz, .inr ⟨c, m, h1, h2, h3, by rw [hk c h1]; exact h4, h5⟩⟩
def ChO (b b' : Option Nat) (h h' : H) : Prop := (∀ c o, h c = some o → b ≠ some c → h' c = some o) ∧ (∀ c, b' = some c → b = some c ∨ h c = Option.none)
theorem ChO.refl : ChO b b h h := ⟨fun _ _ h _ => h, fun _ h => .inl h⟩
theorem OL.app {bytes : Nat} {K : K1} (ho : OL enc sz e h v l b) (hx : Sl enc sz h x m) (hsz : 0 < sz) (hb : (l.length + m.length) * bytes ≤ 140737488355328) (hn : l.length + m.length < 9223372036854775808)
    (hk : ∀ v' h' b', OL enc sz e h' v' (l ++ m) b' → ChO b b' h h' → (m ≠ [] → ∀ c, b' = some c → h c = Option.none) → K v' h') {u : Dm K} : yx4h e sz bytes v x h K u := by
  show yc1n e sz bytes v x h K
  have hsl := hx.srcLen
  have hsrc := hx.src
  have hzm := hx.1
  have hlen := yr37 (l := m) hzm
  unfold yc1n
  by_cases hm : m = []
  · subst hm
    obtain ⟨hz, ⟨rfl, rfl, rfl⟩ | ⟨c, q, rfl, h2, rfl, hc, hq⟩⟩ := ho
    · simp only [hsl, hsrc]
      simp
      exact hk _ _ Option.none OL.none ChO.refl (by simp)
    · simp only [hsl, hsrc]
      simp
      refine hk _ _ (some c) ⟨by simpa using hz, .inr ⟨c, q, rfl, h2, by simp, by simpa using hc, hq⟩⟩ ChO.refl (by simp)
  have hm0 : 0 < m.length := by cases m <;> simp at hm ⊢
  have hz : ∀ x ∈ l ++ m, (enc x).length = sz := fun y hy => (List.mem_append.1 hy).elim (ho.1 y) (hzm y)
  obtain ⟨hzl, ⟨rfl, rfl, rfl⟩ | ⟨c, q, rfl, h2, rfl, hc, hq⟩⟩ := ho
  · simp only [hsl, hsrc]
    have hno : ¬ (0 + m.length ≤ 0) := by omega
    simp only [hno, if_false]
    simp only [List.length_nil, Nat.zero_add] at hb hn ⊢
    refine ⟨hb, hn, hlen, hm0, trivial, fun b' hb2 hbn => ?_⟩
    refine hk _ _ (some b') ⟨by simpa using hz, .inr ⟨b', .open, rfl, hb2, by simp, by simp [upd], by simp⟩⟩ ⟨fun c o hc _ => ?_, fun c hc => by cases hc; exact .inr hbn⟩ fun _ c hc => by cases hc; exact hbn
    have : c ≠ b' := fun he => by rw [he, hbn] at hc; cases hc
    rw [yrkk _ _ this]; exact hc
  · simp only [hsl, hsrc]
    have hno : ¬ (l.length + m.length ≤ l.length) := by omega
    simp only [hno, if_false]
    have hll := yr37 (l := l) hzl
    have hbz : ¬ c = 0 := by omega
    refine ⟨hb, hn, hlen, hm0, ?_⟩
    simp only [hbz, if_false, hc]
    have e1 : ((l.flatMap enc).drop 0).take (l.length * sz) = l.flatMap enc := by rw [List.drop_zero, ← hll, List.take_length]
    have go : ∀ b', 2 ≤ b' → h b' = Option.none → ∀ g : H, (∀ x, x ≠ c → g x = h x) → K (.slice (some ⟨b', 0, Option.none⟩) (l.length + m.length) (l.length + m.length)) (upd g b' (.cells (((l.flatMap enc).drop 0).take (l.length * sz) ++ m.flatMap enc) e .open)) := by
      intro b' hb2 hbn g hg
      rw [e1]
      have hcb : c ≠ b' := fun he => by rw [he, hbn] at hc; cases hc
      refine hk _ _ (some b') ⟨hz, .inr ⟨b', .open, rfl, hb2, by simp, by simp [upd], by simp⟩⟩ ⟨fun x o hx hne => ?_, fun x hx => by cases hx; exact .inr hbn⟩ fun _ x hx => by cases hx; exact hbn
      have h1 : x ≠ b' := fun he => by rw [he, hbn] at hx; cases hx
      have h2 : x ≠ c := fun he => hne (by rw [he])
      rw [yrkk _ _ h1, hg _ h2]; exact hx
    cases q with
    | ro => exact absurd rfl hq
    | exact => exact ⟨by omega, fun b' hb2 hbn => go b' hb2 hbn h fun _ _ => rfl⟩
    | «open» => exact ⟨by omega, trivial, by omega, hsz, fun b' hb2 hbn => go b' hb2 hbn (del h c) fun x hx => ybsf h hx⟩
theorem OL.empty {c : Nat} (h2 : 2 ≤ c) {q : Own} (hq : q ≠ .ro) : OL enc sz e (upd h c (.cells [] e q)) (.slice (some ⟨c, 0, Option.none⟩) 0 0) ([] : List α) (some c) :=
  ⟨fun _ h => by simp at h, .inr ⟨c, q, rfl, h2, rfl, by simp [upd], hq⟩⟩
theorem OL.ia (ho : OL enc sz e h v l b) {i : Nat} (hi : i < l.length) : ∃ c q, b = some c ∧ 2 ≤ c ∧ v = .slice (some ⟨c, 0, Option.none⟩) l.length l.length ∧ h c = some (.cells (l.flatMap enc) e q) ∧ q ≠ .ro := by
  obtain ⟨_, ⟨rfl, _⟩ | ⟨c, m, h1, h2, h3, h4, h5⟩⟩ := ho
  · exact absurd hi (by simp)
  · exact ⟨c, m, h1, h2, h3, h4, h5⟩
theorem y5p0 : ∀ {vs p cs : List Value} {o : Nat}, setL (p ++ cs) (p.length + o) vs = p ++ setL cs o vs
  | [], p, cs, o => by simp
  | v :: vs, p, cs, o => by
    rw [yf16, yf16]
    rw [List.set_append_right _ _ (by omega)]
    have : p.length + o + 1 = p.length + (o + 1) := by omega
    rw [this, y5p0]
    congr 3
    omega
theorem y8q6 : ∀ {vs p cs : List Value} {o : Nat}, o + vs.length ≤ p.length → setL (p ++ cs) o vs = setL p o vs ++ cs
  | [], p, cs, o, _ => by simp
  | v :: vs, p, cs, o, h => by
    simp only [List.length_cons] at h
    rw [yf16, yf16, List.set_append_left _ _ (by omega), y8q6 (by simp; omega)]
theorem ysvh : ∀ {l : List α} {i : Nat} (hi : i < l.length) {w : α} {vs : List Value} {o : Nat}, (∀ x ∈ l, (enc x).length = sz) → o + vs.length ≤ sz → enc w = setL (enc l[i]) o vs →
    (l.set i w).flatMap enc = setL (l.flatMap enc) (i * sz + o) vs
  | [], i, hi, _, _, _, _, _, _ => by simp at hi
  | x :: l, 0, hi, w, vs, o, hz, ho, hw => by
    have hx := hz x (List.mem_cons_self ..)
    simp only [List.set_cons_zero, List.flatMap_cons, Nat.zero_mul, Nat.zero_add]
    rw [y8q6 (by omega), hw]
    rfl
  | x :: l, i + 1, hi, w, vs, o, hz, ho, hw => by
    have hx := hz x (List.mem_cons_self ..)
    simp only [List.set_cons_succ, List.flatMap_cons]
    have : (i + 1) * sz + o = (enc x).length + (i * sz + o) := by rw [hx, Nat.add_mul]; omega
    rw [this, y5p0, ysvh (by simpa using hi) (fun y hy => hz y (List.mem_cons_of_mem _ hy)) ho (by simpa using hw)]
theorem OL.set (ho : OL enc sz e h v l b) {i : Nat} (hi : i < l.length) {w : α} {vs : List Value} {o : Nat} (hov : o + vs.length ≤ sz) (hw : enc w = setL (enc l[i]) o vs) {c : Nat} (hc : b = some c) {q : Own} (hq : q ≠ .ro) :
    OL enc sz e (upd h c (.cells (setL (l.flatMap enc) (i * sz + o) vs) e q)) v (l.set i w) b := by
  obtain ⟨hz, ⟨rfl, _⟩ | ⟨c', m, h1, h2, h3, h4, h5⟩⟩ := ho
  · exact absurd hi (by simp)
  · rw [hc] at h1; cases h1
    refine ⟨fun x hx => ?_, .inr ⟨c, q, hc, h2, by simpa using h3, ?_, hq⟩⟩
    · rcases List.mem_or_eq_of_mem_set hx with hx | rfl
      · exact hz _ hx
      · rw [hw, ydo0]; exact hz _ (List.getElem_mem hi)
    · rw [yy0e, ysvh hi hz hov hw]
def capOk : Value → Prop
  | .slice _ n c => n ≤ c
  | _ => True
theorem OL.cap (ho : OL enc sz e h v l b) : capOk v := by
  obtain ⟨_, ⟨_, _, rfl⟩ | ⟨c, m, _, _, rfl, _⟩⟩ := ho <;> exact Nat.le_refl _
theorem yvbk : ∀ {l : List α} {k : Nat}, (∀ x ∈ l, (enc x).length = sz) → (l.flatMap enc).take (k * sz) = (l.take k).flatMap enc
  | [], k, _ => by simp
  | x :: l, 0, _ => by simp
  | x :: l, k + 1, hz => by
    have hx := hz x (List.mem_cons_self ..)
    rw [List.take_succ_cons, List.flatMap_cons, List.flatMap_cons, Nat.add_mul, Nat.one_mul, Nat.add_comm, ← hx, List.take_append, hx]
    rw [List.take_of_length_le (by omega)]
    congr 1
    have : sz + k * sz - (enc x).length = k * sz := by omega
    rw [show sz + k * sz - sz = k * sz by omega]
    exact yvbk fun y hy => hz y (List.mem_cons_of_mem _ hy)
theorem yaxr : ∀ {l : List α} {k : Nat}, (∀ x ∈ l, (enc x).length = sz) → (l.flatMap enc).drop (k * sz) = (l.drop k).flatMap enc
  | [], k, _ => by simp
  | x :: l, 0, _ => by simp
  | x :: l, k + 1, hz => by
    have hx := hz x (List.mem_cons_self ..)
    rw [List.drop_succ_cons, List.flatMap_cons, Nat.add_mul, Nat.one_mul, Nat.add_comm, ← hx, List.drop_append, hx]
    rw [List.drop_of_length_le (by omega), List.nil_append, show sz + k * sz - sz = k * sz by omega]
    exact yaxr fun y hy => hz y (List.mem_cons_of_mem _ hy)
theorem Sl.cut (hs : Sl enc sz h v l) (hcap : capOk v) {lo hi : Option Value} {a n : Nat} (hlo : (lo = Option.none ∧ a = 0) ∨ ∃ k, lo = some (.int k a)) (hhi : (hi = Option.none ∧ n = l.length) ∨ ∃ k, hi = some (.int k n)) (ha : a ≤ n) (hn : n ≤ l.length) {K : Value → Prop}
    (hk : ∀ v', Sl enc sz h v' ((l.take n).drop a) → capOk v' → K v') {u : Dm K} : y4a7 sz v lo hi Option.none K u := by
  show ykvd sz v lo hi Option.none K
  obtain ⟨hz, ⟨rfl, rfl⟩ | ⟨b, o, c, rfl, hb⟩⟩ := hs
  · simp at hn
    subst hn
    have : a = 0 := by omega
    subst this
    refine ⟨?_, ?_, hk _ (by simpa using Sl.nil) (Nat.le_refl _)⟩
    · rcases hlo with ⟨rfl, _⟩ | ⟨k, rfl⟩
      · trivial
      · rfl
    · rcases hhi with ⟨rfl, _⟩ | ⟨k, rfl⟩
      · trivial
      · rfl
  · have hcap' : l.length ≤ c := hcap
    refine ⟨a, n, ?_, ?_, ha, by omega, ?_⟩
    · rcases hlo with ⟨rfl, rfl⟩ | ⟨k, rfl⟩ <;> rfl
    · rcases hhi with ⟨rfl, rfl⟩ | ⟨k, rfl⟩ <;> rfl
    have hzt : ∀ x ∈ (l.take n).drop a, (enc x).length = sz := fun x hx => hz x (List.mem_of_mem_take (List.mem_of_mem_drop hx))
    have hlen : ((l.take n).drop a).length = n - a := by simp; omega
    have key : n - a ≠ 0 → cellsAt h b (o + a * sz) ((n - a) * sz) = some (((l.take n).drop a).flatMap enc) := by
      intro hna
      have hl0 : l ≠ [] := fun he => by subst he; simp at hn; omega
      have h1 := hb hl0
      have hle : a * sz + (n - a) * sz ≤ l.length * sz := by rw [← Nat.add_mul]; exact Nat.mul_le_mul_right _ (by omega)
      rw [yt82 h1 hle, yaxr hz, yvbk fun x hx => hz x (List.mem_of_mem_drop hx), List.drop_take]
    split
    · rename_i h0
      subst h0
      refine hk _ ⟨hzt, .inr ⟨b, o, c, by rw [hlen]; rfl, fun hne => ?_⟩⟩ (by show n ≤ c; omega)
      have := key (by rw [← hlen]; exact fun he => hne (List.eq_nil_of_length_eq_zero he))
      rw [hlen]
      simpa using this
    · split
      · refine hk _ ⟨hzt, .inr ⟨b, o + a * sz, c - a, by rw [hlen], fun hne => ?_⟩⟩ (by show n - a ≤ c - a; omega)
        rw [hlen]
        exact key (by rw [← hlen]; exact fun he => hne (List.eq_nil_of_length_eq_zero he))
      · have : n - a = 0 := by omega
        have h5 : (l.take n).drop a = [] := List.eq_nil_of_length_eq_zero (by omega)
        rw [h5] at hk
        exact hk _ Sl.nil' (Nat.le_refl _)
end
end Go.Proofs.YtnckimioabkheaaGreat.AM

set_option linter.unusedSimpArgs false
set_option linter.unusedVariables false
set_option maxRecDepth 100000
namespace Go.Proofs.YtnckimioabkheaaGreat
open AM
theorem _root_.Go.Proofs.YtnckimioabkheaaGreat.AM.ChO.sub {b b' : Option Nat} {h0 h h' : H} (hc : ChO b b' h h') (hs : Sub h0 h) (hb : ∀ c, b = some c → h0 c = none) : Sub h0 h' ∧ ∀ c, b' = some c → h0 c = none :=
  ⟨fun c o ho => hc.1 c o (hs c o ho) (fun he => by rw [hb c he] at ho; cases ho), fun c hc' => (hc.2 c hc').elim (hb c) fun hn => Sub.none hs hn⟩
theorem _root_.Go.Proofs.YtnckimioabkheaaGreat.AM.OL.push {α : Type} {enc : α → List Value} {sz : Nat} {e : TypeId} {bytes : Nat} {h : H} {v : Value} {l m : List α} {b : Option Nat} {K : K1} (ho : OL enc sz e h v l b) (hx : ∀ x ∈ m, (enc x).length = sz) (h0z : 0 < sz)
    (hb : (l.length + m.length) * bytes ≤ 140737488355328) (hn : l.length + m.length < 9223372036854775808)
    (hk : ∀ v' h' b', OL enc sz e h' v' (l ++ m) b' → ChO b b' h h' → K v' h') {cs : List Value} (hcs : cs = m.flatMap enc) {k : Nat} (hkm : k = m.length) :
    u_new cs e .exact h (fun c h => yx4h e sz bytes v (.slice (some ⟨c, 0, none⟩) k k) h K) := by
  subst hcs hkm
  intro c hc2 hcn
  have ho' : OL enc sz e (upd h c (.cells (m.flatMap enc) e .exact)) v l b := ho.keep fun d hd => yrkk _ _ fun he => by rw [he] at hd; exact ho.there hd hcn
  have hsx : Sl enc sz (upd h c (.cells (m.flatMap enc) e .exact)) (.slice (some ⟨c, 0, none⟩) m.length m.length) m := Sl.of_block (b := c) (o := 0) (l := m) (c := m.length) hx (yy0e _ _ _) (by rw [List.drop_zero, ← yr37 hx, List.take_length]) (by rw [yr37 hx]; omega)
  refine OL.app (m := m) ho' hsx h0z hb hn fun v' h' b' g1 g2 g3 => hk v' h' b' g1 ⟨fun d o hd hne => g2.1 d o ?_ hne, fun d hd => ?_⟩
  · rw [yrkk _ _ fun he => by rw [he, hcn] at hd; cases hd]; exact hd
  · rcases g2.2 d hd with h5 | h5
    · exact .inl h5
    · rw [ynej] at h5; exact .inr h5.2.2
section
variable {h : H} {K : K1}
theorem y4fp {K : Value → Prop} {u : Dm K} : u_bin PG .eql y8f0 nilV nilV K u = K (.bool true) := by kernel_rfl
theorem yojm {K : Value → Prop} {u : Dm K} : u_bin PG .eql y7as nilV nilV K u = K (.bool true) := by kernel_rfl
theorem yets {K : Value → Prop} {u : Dm K} : u_bin PG .eql yoi5 nilV nilV K u = K (.bool true) := by kernel_rfl
theorem yzpg (hk : K nilV h) : AM.Spec PG y7ie [nilV] h K := by
  refine ylcn _ _ _ ?_
  simp (config := {dsimp := false}) [↓yg0z, ↓yqfw, y4fp]
  exact hk
theorem ymb9 (hk : K nilV h) : AM.Spec PG ynjv [nilV] h K := by
  refine yc3d _ _ _ ?_
  simp (config := {dsimp := false}) [↓yw05, ↓yzgu, yojm]
  exact hk
theorem ydgf (hk : K nilV h) : AM.Spec PG ydmm [nilV] h K := by
  refine yc5z _ _ _ ?_
  simp (config := {dsimp := false}) [↓yw4b, ↓ynh2, yets]
  exact hk
theorem ypmx (hk : ∀ v h', Sub h h' → boxV v = true → K (.tuple #[v, .int .i64 0]) h') : AM.Spec PG y8kn [noPol] h K := by
  refine y1r0 _ _ _ ?_
  simp (config := {dsimp := false}) [↓yiif, ↓yzcv]
  intro b _ hb
  have hs : Sub h (upd h b (.cells [.bool false, nilV, nilV] y4pp .exact)) := Sub.new hb
  have hc := yy0e h b (.cells [.bool false, nilV, nilV] y4pp .exact)
  generalize upd h b _ = h1 at *
  refine ⟨rfl, yvhg ?_⟩
  simp (config := {dsimp := false})
  intro c hc2 hcn
  have hcn0 := Sub.none hs hcn
  have ho : OL u8V 1 yoj6 (upd h1 c (.cells [.int .u8 84, .int .u8 80, .int .u8 49] yoj6 .exact)) (.slice (some ⟨c, 0, none⟩) 3 3) [84, 80, 49] (some c) :=
    ⟨by simp, .inr ⟨c, .exact, rfl, hc2, rfl, by simp [upd], by simp⟩⟩
  have hs1 : Sub h (upd h1 c (.cells [.int .u8 84, .int .u8 80, .int .u8 49] yoj6 .exact)) := Sub.upd hs hcn0
  have hb1 : (upd h1 c (.cells [.int .u8 84, .int .u8 80, .int .u8 49] yoj6 .exact)) b = some (.cells [.bool false, nilV, nilV] y4pp .exact) := by
    rw [yrkk _ _ fun he => by rw [he, hcn] at hc; cases hc]; exact hc
  generalize upd h1 c _ = h2 at *
  have hcb : b ≠ c := fun he => by rw [he, hcn] at hc; cases hc
  simp (config := {dsimp := false}) [↓y89z, ↓ylzg, yb3e hb1]
  refine OL.push (m := [0]) ho (by simp) (by omega) (by simp) (by simp) (fun v1 h3 b3 o3 c3 => ?_) rfl rfl
  have f3 := c3.sub hs1 (fun d hd => by cases hd; exact hcn0)
  have hb3 := c3.1 _ _ hb1 (fun he => hcb (by cases he; rfl))
  simp (config := {dsimp := false}) [↓yjfw, yb3e hb3]
  refine OL.push (m := [0]) o3 (by simp) (by omega) (by simp) (by simp) (fun v2 h4 b4 o4 c4 => ?_) rfl rfl
  have hbb3 : b3 ≠ some b := fun he => by
    rcases c3.2 b he with h5 | h5
    · cases h5; exact hcb rfl
    · rw [hb1] at h5; cases h5
  have f4 := c4.sub f3.1 f3.2
  have hb4 := c4.1 _ _ hb3 hbb3
  have hbb4 : b4 ≠ some b := fun he => by
    rcases c4.2 b he with h5 | h5
    · exact hbb3 h5
    · rw [hb3] at h5; cases h5
  simp (config := {dsimp := false}) [↓y575, ↓y6t1, ↓y63m, yb3e hb4]
  unfold yx32
  refine yq9z fun K' => ?_
  simp (config := {dsimp := false}) [↓ytw3, ↓ywvm, yb3e hb4]
  refine OL.push (m := [0]) o4 (by simp) (by omega) (by simp) (by simp) (fun v3 h5 b5 o5 c5 => ?_) rfl rfl
  have f5 := c5.sub f4.1 f4.2
  have hb5 := c5.1 _ _ hb4 hbb4
  simp (config := {dsimp := false}) [↓yahi, ↓yin7, ↓yzs2, yb3e hb5]
  unfold yk8a
  refine yq9z fun K' => ?_
  simp (config := {dsimp := false}) [↓yv99, ↓ytwq, o5.sl.box]
  exact hk _ _ f5.1 o5.sl.box
theorem y0fz (hk : ∀ q h', Sub h h' → h q = none → h' q = some (.cells [nilV, nilV, nilV, .int .i64 0, .int .i64 0, .int .i64 0] y1og .exact) → K (ptr q 0) h') : AM.Spec PG yxfw [yh6o] h K := by
  refine ymih _ _ _ ?_
  simp (config := {dsimp := false}) [↓ylot, ↓yzbs]
  intro b _ hb
  have hs : Sub h (upd h b (.cells [nilV, nilV, nilV, nilV, nilV, nilV] ylzr .exact)) := Sub.new hb
  have hc := yy0e h b (.cells [nilV, nilV, nilV, nilV, nilV, nilV] ylzr .exact)
  generalize upd h b _ = h1 at *
  refine ⟨rfl, ynul ?_⟩
  simp (config := {dsimp := false}) [↓y5p5, ↓yab4, yb3e hc]
  refine ⟨rfl, ymb9 ?_⟩
  simp (config := {dsimp := false}) [yb3e hc]
  refine ⟨rfl, yzpg ?_⟩
  simp (config := {dsimp := false}) [yb3e hc]
  refine ⟨rfl, ydgf ?_⟩
  simp (config := {dsimp := false}) [↓y3wn]
  intro q _ hq
  exact hk _ _ (Sub.upd hs (Sub.none hs hq)) (Sub.none hs hq) (yy0e _ _ _)
def fileC (inp : Value) (w : Bool) : Value := .agg #[inp, .int .i64 0, .bool w]
def yc18 (inp : Value) : List (Value × Value) := [(.int .i64 0, fileC inp false), (.int .i64 1, fileC nilV true), (.int .i64 2, fileC nilV true)]
theorem y2a2 (hk : ∀ f q mo mu h', Sub h h' → h f = none → h q = none → h mo = none → h mu = none → [f, q, mo, mu].Nodup →
    h' f = some (.cells [nilV, ptr q 0, .map (some mo), .map (some mu)] yxbe .exact) → h' q = some (.cells [nilV, nilV, nilV, .int .i64 0, .int .i64 0, .int .i64 0] y1og .exact) →
    (∃ ck, h' mo = some (.map (.int .i64) (yc18 nilV) ck)) → (∃ ck, h' mu = some (.map (.int .i64) [] ck)) → K (ptr f 0) h') : AM.Spec PG yrso [yh6o] h K := by
  refine yab1 _ _ _ ?_
  simp (config := {dsimp := false}) [↓y9r2, ↓yg0c]
  intro b _ hb
  have hs : Sub h (upd h b (.cells [nilV, nilV, nilV, nilV, nilV, nilV] ylzr .exact)) := Sub.new hb
  have hc := yy0e h b (.cells [nilV, nilV, nilV, nilV, nilV, nilV] ylzr .exact)
  generalize upd h b _ = h1 at *
  refine ⟨rfl, y0fz fun q h2 s2 hq hqc => ?_⟩
  have hc2 := s2 _ _ hc
  have hs2 := hs.trans s2
  have hq0 := Sub.none hs hq
  simp (config := {dsimp := false})
  intro mo _ hmo mu _ n1 n2 hmu f _ n3 n4 n5 n6 hf
  have m1 : q ≠ mo := fun e => by rw [← e, hqc] at hmo; cases hmo
  have m2 : q ≠ mu := fun e => by rw [← e, hqc] at hmu; cases hmu
  have m3 : q ≠ f := fun e => by rw [← e, hqc] at hf; cases hf
  have l1 : b ≠ mo := fun e => by rw [← e, hc2] at hmo; cases hmo
  have l2 : b ≠ mu := fun e => by rw [← e, hc2] at hmu; cases hmu
  have l3 : b ≠ f := fun e => by rw [← e, hc2] at hf; cases hf
  simp (config := {dsimp := false}) [↓y9pm, ↓yp7r, l1, l2, l3, yzql hc2]
  have s3 : Sub h2 (upd (upd (upd h2 mo (.map (.int .i64) [] 0)) mu (.map (.int .i64) [] 0)) f (.cells [nilV, ptr q 0, .map (some mo), .map (some mu)] yxbe .exact)) := Sub.upd (Sub.upd (Sub.new hmo) hmu) hf
  have e1 : upd (upd (upd h2 mo (.map (.int .i64) [] 0)) mu (.map (.int .i64) [] 0)) f (.cells [nilV, ptr q 0, .map (some mo), .map (some mu)] yxbe .exact) mo = some (.map (.int .i64) [] 0) := by
    rw [yrkk _ _ n6, yrkk _ _ n2, yy0e]
  have e2 : upd (upd (upd h2 mo (.map (.int .i64) [] 0)) mu (.map (.int .i64) [] 0)) f (.cells [nilV, ptr q 0, .map (some mo), .map (some mu)] yxbe .exact) mu = some (.map (.int .i64) [] 0) := by
    rw [yrkk _ _ n4, yy0e]
  have e3 := yy0e (upd (upd h2 mo (.map (.int .i64) [] 0)) mu (.map (.int .i64) [] 0)) f (.cells [nilV, ptr q 0, .map (some mo), .map (some mu)] yxbe .exact)
  generalize upd (upd (upd h2 mo _) mu _) f _ = h3 at *
  have hc3 := s3 _ _ hc2
  refine ⟨rfl, ynul ?_⟩
  simp (config := {dsimp := false}) [↓y3jh, ↓yh08, yb3e hc3]
  refine ⟨rfl, yzpg ?_⟩
  simp (config := {dsimp := false}) [↓yhsi, yb3e hc3]
  unfold y81e
  refine yq9z fun K' => ?_
  have up : ∀ {hh : H} {es : List (Value × Value)} {ck : Nat} {x : Int} {v : Value} {K : H → Prop} {u : Dm K}, hh mo = some (.map (.int .i64) es ck) → (yw4g (.int .i64) (.map (some mo)) (.int .i64 x) v hh K u = (boxV v = true ∧ K (upd hh mo (.map (.int .i64) (mset es (.int .i64 x) v) (if mhas es (.int .i64 x) then ck else ck + 1))))) := fun {hh es ck x v K u} hb => by
    show ynew _ _ _ _ hh K = _
    unfold ynew
    simp only [hb]
    simp [kkHas]
  simp (config := {dsimp := false}) only [↓yvun, ↓ygke, s_lss, s_if]
  simp (config := {dsimp := false}) [yb3e e3, n5]
  rw [up e1]
  refine ⟨rfl, ?_⟩
  simp (config := {dsimp := false}) [yb3e e3, n5]
  rw [up (yy0e _ _ _)]
  refine ⟨rfl, ?_⟩
  rw [yre8]
  simp (config := {dsimp := false}) [yb3e e3, n5]
  rw [up (yy0e _ _ _)]
  refine ⟨rfl, ?_⟩
  rw [yre8]
  have hmo0 := Sub.none hs2 hmo
  refine hk f q mo mu _ (Sub.upd (hs2.trans s3) hmo0) (Sub.none hs2 hf) hq0 hmo0 (Sub.none hs2 hmu) ?_ ((yrkk _ _ n5).trans e3) ((yrkk _ _ m1).trans (s3 _ _ hqc)) ⟨_, yy0e _ _ _⟩ ⟨_, (yrkk _ _ n1).trans e2⟩
  simp [n3, n4, n5, n6, m1, m2, m3, Ne.symm m3, n1, n2]
end
end Go.Proofs.YtnckimioabkheaaGreat

set_option linter.unusedSimpArgs false
set_option linter.unusedVariables false
set_option maxRecDepth 100000
namespace Go.Proofs.YtnckimioabkheaaGreat
open AM
section
variable {h0 h : H} {D : MD} {μ : MS} {K : K1}
structure SgOk (h0 : H) (s : Sg × List Int) : Prop where
  a : 0 ≤ s.1.1 ∧ s.1.1 < 4294967296
  n : 0 ≤ s.1.2.1 ∧ s.1.2.1 < 4294967296
  b : Sl (fun x : Int => [Value.int .u8 x]) 1 h0 s.1.2.2.2 s.2
  byte : ∀ x ∈ s.2, 0 ≤ x ∧ x < 256
  len : s.2.length < 9223372036854775808
theorem yk6i {a most need : Int} {bs : List Int} : keysM (wrR μ a most need bs) = keysM μ := by
  unfold wrR
  split
  · exact ynn2 _
  · rfl
theorem y5zb {bm : Nat} {cs : List Value} {vs : Value} {segs : List (Sg × List Int)} (hbm : h bm = some (.cells (ptr D.q 0 :: cs) ynne .exact)) (hm : MemIn h0 D h μ) (hw : MSok μ) (hz : MSz μ) (hsub : Sub h0 h)
    (hvs : Sl sgC 4 h0 vs (segs.map (·.1))) (hsg : ∀ s ∈ segs, SgOk h0 s) (hlen : segs.length ≤ 1000)
    (hk : ∀ D' h', Went h0 D μ h D' (layF μ segs).2 h' → K (.int .i64 (layF μ segs).1) h') :
    AM.Spec PG ysm3 [ptr bm 0, vs] h K := by
  refine yvg9 _ _ _ _ ?_
  unfold ypkn yubh yub3 yml8
  simp (config := {dsimp := false}) only [(hvs.mono hsub).ulen]
  unfold y5my yff1
  simp only [List.length_map]
  refine yo1k segs.length (fun i s h' => s = (ptr bm 0, vs, .int .i64 segs.length, .int .i64 i) ∧ ∃ D' μ', Went h0 D μ h D' μ' h' ∧ MSok μ' ∧ MSz μ' ∧ layF μ segs = layF μ' (segs.drop i)) ⟨rfl, D, μ, Went.refl hm, hw, hz, rfl⟩ ?_
  rintro i s h' K' hi ⟨rfl, D', μ', hwt, hw', hz', hly⟩ hk'
  have hs' := hwt.sub0 hm hsub
  have hbm' := hwt.fr _ _ (hm.at_.other hbm (by decide) (by decide)) hbm
  by_cases hlt : i < segs.length
  · have hlt' : i < (segs.map (·.1)).length := by simpa using hlt
    obtain ⟨sg, hsge⟩ : ∃ sg, segs[i] = sg := ⟨_, rfl⟩
    have hok := hsg segs[i] (List.getElem_mem hlt)
    have hix := fun (K : Value → Prop) (u : Dm K) => (hvs.mono hs').ixA (k := .i64) hlt' (K := K) (u := u)
    simp only [List.getElem_map] at hix
    have hdr : segs.drop i = segs[i] :: segs.drop (i + 1) := List.drop_eq_getElem_cons hlt
    rw [hdr, layF] at hly
    rw [hsge] at hix hok hly
    obtain ⟨⟨a, n, perm, vb⟩, bs⟩ := sg
    obtain ⟨oa, on, ob, oby, ol⟩ := hok
    simp only at oa on ob oby ol hly
    simp only [sgC] at hix
    have w1 : IntKind.i64.wrap ((i : Int) + 1) = (i : Int) + 1 := w_i64 (by omega) (by omega)
    obtain ⟨ab, nb, cb, rfl⟩ := Sl.form ob
    simp (config := {dsimp := false}) [↓yxhl, ↓yoek, ↓y85b, ↓ytdv, ↓yxcb, ↓y02s, hlt, hix]
    intro b _ hb
    have hwt1 := hwt.new (q := .cells [.int .u32 a, .int .u32 n, .int .i64 perm, .slice ab nb cb] ym0k .exact) hb
    have hs1 := hwt1.sub0 hm hsub
    have hbm1 := hwt1.fr _ _ (hm.at_.other hbm (by decide) (by decide)) hbm
    have hc := yy0e h' b (.cells [.int .u32 a, .int .u32 n, .int .i64 perm, .slice ab nb cb] ym0k .exact)
    generalize upd h' b _ = h1 at *
    simp (config := {dsimp := false}) [↓yzuv, yb3e hbm1, yb3e hc, ← hwt.q]
    refine ⟨rfl, yjn9 hwt1.mem hs1 (by obtain ⟨z1, z2⟩ := hz'; omega) oa.1 oa.2 on.1 on.2 fun E2 h2 m2 e2 f2 o2 => ?_⟩
    have hwA : Went h0 D' μ' h1 E2 (mapM μ' a n perm) h2 := ⟨m2, e2, f2, o2⟩
    have hwt2 := hwt1.trans hwA
    have hs2 := hwt2.sub0 hm hsub
    have hbm2 := hwt2.fr _ _ (hm.at_.other hbm (by decide) (by decide)) hbm
    have hc2 := f2 _ _ (hwt1.mem.at_.other hc (by decide) (by decide)) hc
    by_cases he : mapE μ' a n perm = 0
    case neg =>
      rw [if_pos he] at hly
      have hmm : mapM μ' a n perm = μ' := by simp [mapM, he]
      rw [hmm] at hwt2
      simp (config := {dsimp := false}) [↓y79q, he]
      rw [hly] at hk
      exact hk E2 h2 hwt2
    rw [if_neg (by simpa using he)] at hly
    have hcA := yb3e hbm2 (i := 0)
    have hq2 : D.q = E2.q := hwt2.q.symm
    simp (config := {dsimp := false}) [↓y79q, ↓ya6l, ↓ym52, he, hcA, yb3e hc2, hq2]
    refine ⟨rfl, y91f m2 hw'.map hs2 oa.1 oa.2 oby ob ol fun h3 m3 f3 => ?_⟩
    have hwB : Went h0 E2 (mapM μ' a n perm) h2 E2 (wrR (mapM μ' a n perm) a 65536 0 bs) h3 := ⟨m3, rfl, f3, fun b hb => .inl ((y2rr yk6i).1 hb)⟩
    have hwt3 := hwt2.trans hwB
    by_cases he2 : wrE (mapM μ' a n perm) a 65536 0 bs = 0
    case neg =>
      rw [if_pos he2] at hly
      have hmm : wrR (mapM μ' a n perm) a 65536 0 bs = mapM μ' a n perm := by simp [wrR, he2]
      rw [hmm] at hwt3
      simp (config := {dsimp := false}) [↓yp6m, he2]
      rw [hly] at hk
      exact hk E2 h3 hwt3
    rw [if_neg (by simpa using he2)] at hly
    simp (config := {dsimp := false}) [↓yp6m, ↓ycl4, he2, w1]
    exact hk' (ptr bm 0, vs, .int .i64 segs.length, .int .i64 ((i : Int) + 1)) _ hlt ⟨by simp, E2, _, hwt3, hw'.map.wr oby, (hz'.map on.1 on.2).wr, hly⟩
  · simp (config := {dsimp := false}) [↓yxhl, hlt, ↓ysa5]
    have hie : i = segs.length := by omega
    subst hie
    rw [List.drop_length, layF] at hly
    rw [hly] at hk
    exact hk D' h' hwt
end
end Go.Proofs.YtnckimioabkheaaGreat

set_option linter.unusedVariables false
set_option maxRecDepth 100000
namespace Go.Proofs.YtnckimioabkheaaGreat
open Go.Proofs.YtnckimioabkheaaGreat.AM
def y1pu (x0 x1 x7 x8 : Value) (h : H) (Kn : K4) (Kr : K1) (Ke0 : K0) : Prop :=
  u_bin PG .lss T_int x8 x7 fun v9 => u_if v9 (u_ix true 4 none x0 x8 h fun v15 => u_dyn PG x1 [v15] h fun v16 h => u_if v16 (Kr x8 h) (u_bin PG .add T_int x8 (.int .i64 1) fun v18 => Kn x0 x1 x7 v18 h)) (Ke0 h)
theorem y4fx (Kn : K4) (Kr : K1) (Ke0 : K0) (t : T) (h : H) (H0 : y1pu (t 0) (t 1) (t 7) (t 8) h Kn Kr Ke0) : Wp PG 19 (lopC (blkC (rest 1 (seqL (rest 1 (ygjk Tryz.f326.body)))))) (mkQ (q4 Kn 0 1 7 8) (q1 Kr 4) (keAdd 0 (q0 Ke0) ke0)) t h :=
  wpEqC E5_ok H0 (by kernel_rfl)
def ys1p (x0 x1 x7 x8 : Value) (h : H) (Kn : K0) (Kr : K1) (Ke0 : K0) : Prop :=
  sloop (S := Value × Value × Value × Value) (fun s h K => y1pu s.1 s.2.1 s.2.2.1 s.2.2.2 h (fun y0 y1 y7 y8 h => K (y0, y1, y7, y8) h) Kr Ke0) (x0, x1, x7, x8) h
theorem yehr (Kn : K0) (Kr : K1) (Ke0 : K0) (t : T) (h : H) (H0 : ys1p (t 0) (t 1) (t 7) (t 8) h Kn Kr Ke0) : Wp PG 19 (blkC (rest 1 (seqL (rest 1 (ygjk Tryz.f326.body))))) (mkQ (q0 Kn) (q1 Kr 4) (keAdd 0 (q0 Ke0) ke0)) t h :=
  yv0a (fun t => (t 0, t 1, t 7, t 8)) (by kernel_rfl) (fun t h K H1 => y4fx (fun y0 y1 y7 y8 h => K (y0, y1, y7, y8) h) Kr Ke0 t h H1) H0
def ykfk (x0 x1 x7 x8 : Value) (h : H) (Kn : K0) (Kr : K1) : Prop :=
  ys1p x0 x1 x7 x8 h Kn Kr Kn
theorem yvg1 (Kn : K0) (Kr : K1) (t : T) (h : H) (H0 : ykfk (t 0) (t 1) (t 7) (t 8) h Kn Kr) : Wp PG 19 (rest 1 (seqL (rest 1 (ygjk Tryz.f326.body)))) (mkQ (q0 Kn) (q1 Kr 4) ke0) t h :=
  y6tu 0 (by kernel_rfl) (by kernel_rfl) (yehr Kn Kr Kn t h H0)
def yu4k (x0 x1 : Value) (h : H) (Kn : K0) (Kr : K1) : Prop :=
  ywmm x0 fun v7 => ykfk x0 x1 v7 (.int .i64 0) h Kn Kr
theorem y4vd (Kn : K0) (Kr : K1) (t : T) (h : H) (H0 : yu4k (t 0) (t 1) h Kn Kr) : Wp PG 19 (seqL (rest 1 (ygjk Tryz.f326.body))) (mkQ (q0 Kn) (q1 Kr 4) ke0) t h :=
  yvnp E5_ok 1 H0 (by kernel_rfl) (fun t h (H1 : ykfk (t 0) (t 1) (t 7) (t 8) h Kn Kr) => yvg1 Kn Kr t h H1) (by kernel_rfl)
def y9q1 (h : H) (Kn : K1) (Kr : K1) : Prop :=
  False
theorem ytfb (Kn : K1) (Kr : K1) (t : T) (h : H) (H0 : y9q1  h Kn Kr) : Wp PG 19 (seqR (rest 1 (ygjk Tryz.f326.body))) (mkQ (q1 Kn 4) (q1 Kr 4) ke0) t h :=
  H0.elim
def yiqk (x0 x1 : Value) (h : H) (Kn : K1) (Kr : K1) : Prop :=
  yu4k x0 x1 h (fun  h => y9q1  h Kn Kr) Kr
theorem yjot (Kn : K1) (Kr : K1) (t : T) (h : H) (H0 : yiqk (t 0) (t 1) h Kn Kr) : Wp PG 19 (rest 1 (ygjk Tryz.f326.body)) (mkQ (q1 Kn 4) (q1 Kr 4) ke0) t h :=
  ykv2 (by kernel_rfl) (fun t h H1 => ytfb Kn Kr t h H1) (y4vd (fun  h => y9q1  h Kn Kr) Kr t h H0)
def ypgx (x0 x1 : Value) (h : H) (Kn : K1) (Kr : K1) : Prop :=
  yiqk x0 x1 h Kn Kr
theorem ytpg (Kn : K1) (Kr : K1) (t : T) (h : H) (H0 : ypgx (t 0) (t 1) h Kn Kr) : Wp PG 19 (ygjk Tryz.f326.body) (mkQ (q1 Kn 4) (q1 Kr 4) ke0) t h :=
  yvnp E5_ok 1 H0 (by kernel_rfl) (fun t h (H1 : yiqk (t 0) (t 1) h Kn Kr) => yjot Kn Kr t h H1) (by kernel_rfl)
def ysgb (x0 x1 : Value) (h : H) (Q : K1) : Prop := ypgx x0 x1 h Q Q
theorem y3hq (x0 x1 : Value) (h : H) (Q : K1) (H0 : ysgb x0 x1 h Q) : AM.Spec PG ypqi [x0, x1] h Q :=
  yqxt mixed (fn := Tryz.f326) Tryz.func326 (c := ygjk Tryz.f326.body) (rs := [4]) (N := 19) (by kernel_rfl) (by kernel_rfl) (by kernel_rfl) (by kernel_rfl) (by kernel_rfl) (Nat.le_of_ble_eq_true rfl) (ytpg Q Q (tinit [x0, x1]) h H0) (by kernel_rfl)
def ymv4 (x0 x1 : Value) (h : H) (Kn : K1) (Kr : K1) : Prop :=
  yjdf PG ypqi [x0, x1] h fun v7 h => u_bin PG .geq T_int v7 (.int .i64 0) fun v8 => Kr v8 h
theorem ylvh (Kn : K1) (Kr : K1) (t : T) (h : H) (H0 : ymv4 (t 0) (t 1) h Kn Kr) : Wp PG 9 (ygjk Tryz.f311.body) (mkQ (q1 Kn 4) (q1 Kr 4) ke0) t h :=
  wpEqC E5_ok H0 (by kernel_rfl)
def ynzg (x0 x1 : Value) (h : H) (Q : K1) : Prop := ymv4 x0 x1 h Q Q
theorem ygzv (x0 x1 : Value) (h : H) (Q : K1) (H0 : ynzg x0 x1 h Q) : AM.Spec PG yv5z [x0, x1] h Q :=
  yqxt mixed (fn := Tryz.f311) Tryz.func311 (c := ygjk Tryz.f311.body) (rs := [4]) (N := 9) (by kernel_rfl) (by kernel_rfl) (by kernel_rfl) (by kernel_rfl) (by kernel_rfl) (Nat.le_of_ble_eq_true rfl) (ylvh Q Q (tinit [x0, x1]) h H0) (by kernel_rfl)
def y0yj (x0 x1 : Value) (h : H) (Kn : K1) (Kr : K1) : Prop :=
  boxV x0 = true ∧ u_new (Value.cells x0).toList ym0k .exact h fun b2 h => u_bf false 1 2 (.pointer (some ⟨b2, 0, none⟩)) h fun v5 => u_bin PG .and T_int v5 (.int .i64 4) fun v6 => u_bin PG .neq T_int v6 (.int .i64 0) fun v7 => ydv6 v7 true (fun k9 => u_bf false 1 0 x1 h fun v10 => u_bf false 1 0 (.pointer (some ⟨b2, 0, none⟩)) h fun v12 => u_bin PG .geq ycpa v10 v12 fun v13 => k9 v13 h) (fun v13 h => y9rg v7 v13 (.bool false) fun v14 => ydv6 v14 true (fun k22 => u_bf false 1 0 x1 h fun v17 => y2x6 .u64 v17 fun v18 => u_bf false 1 0 (.pointer (some ⟨b2, 0, none⟩)) h fun v20 => y2x6 .u64 v20 fun v21 => u_bf false 1 1 (.pointer (some ⟨b2, 0, none⟩)) h fun v23 => y2x6 .u64 v23 fun v24 => u_bin PG .add yxjj v21 v24 fun v25 => u_bin PG .lss yxjj v18 v25 fun v26 => k22 v26 h) (fun v26 h => y9rg v14 v26 (.bool false) fun v27 => Kr v27 h) h) h
theorem yszh (Kn : K1) (Kr : K1) (t : T) (h : H) (H0 : y0yj (t 0) (t 1) h Kn Kr) : Wp PG 28 (ygjk Tryz.f312.body) (mkQ (q1 Kn 3) (q1 Kr 3) ke0) t h :=
  wpEqC E5_ok H0 (by kernel_rfl)
def yyug (x0 x1 : Value) (h : H) (Q : K1) : Prop := y0yj x0 x1 h Q Q
theorem y2xa (x0 x1 : Value) (h : H) (Q : K1) (H0 : yyug x0 x1 h Q) : AM.Spec PG yebs [x0, x1] h Q :=
  yqxt mixed (fn := Tryz.f312) Tryz.func312 (c := ygjk Tryz.f312.body) (rs := [3]) (N := 28) (by kernel_rfl) (by kernel_rfl) (by kernel_rfl) (by kernel_rfl) (by kernel_rfl) (Nat.le_of_ble_eq_true rfl) (yszh Q Q (tinit [x0, x1]) h H0) (by kernel_rfl)
def y20u (x0 : Value) (h : H) (Kn : K1) (Kr : K1) : Prop :=
  boxV x0 = true ∧ u_new (Value.cells x0).toList y33u .exact h fun b1 h => u_bf false 1 1 (.pointer (some ⟨b1, 0, none⟩)) h fun v5 => List.all [] ysqa = true ∧ List.all [(.pointer (some ⟨b1, 0, none⟩))] ysqa = true ∧ yjdf PG yv5z [v5, (.func (.func yebs) #[] #[(.pointer (some ⟨b1, 0, none⟩))])] h fun v7 h => ydv6 v7 true (fun k5 => u_bf false 1 0 (.pointer (some ⟨b1, 0, none⟩)) h fun v11 => u_bin PG .rem ycpa v11 (.int .u32 4) fun v12 => u_bin PG .eql ycpa v12 (.int .u32 0) fun v13 => k5 v13 h) (fun v13 h => y9rg v7 v13 (.bool false) fun v14 => Kr v14 h) h
theorem yku6 (Kn : K1) (Kr : K1) (t : T) (h : H) (H0 : y20u (t 0) h Kn Kr) : Wp PG 15 (ygjk Tryz.f266.body) (mkQ (q1 Kn 2) (q1 Kr 2) ke0) t h :=
  wpEqC E5_ok H0 (by kernel_rfl)
def y4bu (x0 : Value) (h : H) (Q : K1) : Prop := y20u x0 h Q Q
theorem y19z (x0 : Value) (h : H) (Q : K1) (H0 : y4bu x0 h Q) : AM.Spec PG yi8e [x0] h Q :=
  yqxt mixed (fn := Tryz.f266) Tryz.func266 (c := ygjk Tryz.f266.body) (rs := [2]) (N := 15) (by kernel_rfl) (by kernel_rfl) (by kernel_rfl) (by kernel_rfl) (by kernel_rfl) (Nat.le_of_ble_eq_true rfl) (yku6 Q Q (tinit [x0]) h H0) (by kernel_rfl)
def yqw3 (x1 x3 x4 x16 x17 x18 : Value) (h : H) (Kn : K6) (Kr : K1) (Ke0 : K3) : Prop :=
  u_bin PG .lss T_int x18 x17 fun v19 => u_if v19 (u_ix true 4 none x16 x18 h fun v21 => u_new [.int .u32 0, .int .u32 0, .int .i64 0, .slice none 0 0] ym0k .exact h fun b6 h => ylel 4 (.pointer (some ⟨b6, 0, none⟩)) v21 h fun h => ybqh true 4 (.pointer (some ⟨b6, 0, none⟩)) h fun v22 => u_ct y76m [v22] h fun v23 h => u_un PG .not v23 fun v24 => u_if v24 (Kr (.int .i64 1) h) (u_bf false 1 3 (.pointer (some ⟨b6, 0, none⟩)) h fun v27 => ywmm v27 fun v28 => y2x6 .u64 v28 fun v29 => u_bin PG .add yxjj x3 v29 fun v30 => u_bf false 1 1 (.pointer (some ⟨b6, 0, none⟩)) h fun v33 => y2x6 .u64 v33 fun v34 => u_bin PG .add yxjj x4 v34 fun v35 => u_bin PG .add T_int x18 (.int .i64 1) fun v36 => Kn x1 v30 v35 x16 x17 v36 h)) (Ke0 x1 x3 x4 h)
theorem yp0s (Kn : K6) (Kr : K1) (Ke0 : K3) (t : T) (h : H) (H0 : yqw3 (t 1) (t 3) (t 4) (t 16) (t 17) (t 18) h Kn Kr Ke0) : Wp PG 75 (lopC (blkC (rest 1 (seqL (rest 3 (ygjk Tryz.f208.body)))))) (mkQ (q6 Kn 1 3 4 16 17 18) (q1 Kr 2) (keAdd 0 (q3 Ke0 1 3 4) ke0)) t h :=
  wpEqC E5_ok H0 (by kernel_rfl)
def yuff (x1 x3 x4 x16 x17 x18 : Value) (h : H) (Kn : K3) (Kr : K1) (Ke0 : K3) : Prop :=
  sloop (S := Value × Value × Value × Value × Value × Value) (fun s h K => yqw3 s.1 s.2.1 s.2.2.1 s.2.2.2.1 s.2.2.2.2.1 s.2.2.2.2.2 h (fun y1 y3 y4 y16 y17 y18 h => K (y1, y3, y4, y16, y17, y18) h) Kr Ke0) (x1, x3, x4, x16, x17, x18) h
theorem yiu7 (Kn : K3) (Kr : K1) (Ke0 : K3) (t : T) (h : H) (H0 : yuff (t 1) (t 3) (t 4) (t 16) (t 17) (t 18) h Kn Kr Ke0) : Wp PG 75 (blkC (rest 1 (seqL (rest 3 (ygjk Tryz.f208.body))))) (mkQ (q3 Kn 1 3 4) (q1 Kr 2) (keAdd 0 (q3 Ke0 1 3 4) ke0)) t h :=
  yv0a (fun t => (t 1, t 3, t 4, t 16, t 17, t 18)) (by kernel_rfl) (fun t h K H1 => yp0s (fun y1 y3 y4 y16 y17 y18 h => K (y1, y3, y4, y16, y17, y18) h) Kr Ke0 t h H1) H0
def y9fv (x1 x3 x4 x16 x17 x18 : Value) (h : H) (Kn : K3) (Kr : K1) : Prop :=
  yuff x1 x3 x4 x16 x17 x18 h Kn Kr Kn
theorem yoxa (Kn : K3) (Kr : K1) (t : T) (h : H) (H0 : y9fv (t 1) (t 3) (t 4) (t 16) (t 17) (t 18) h Kn Kr) : Wp PG 75 (rest 1 (seqL (rest 3 (ygjk Tryz.f208.body)))) (mkQ (q3 Kn 1 3 4) (q1 Kr 2) ke0) t h :=
  y6tu 0 (by kernel_rfl) (by kernel_rfl) (yiu7 Kn Kr Kn t h H0)
def y92v (x1 x3 x4 : Value) (h : H) (Kn : K3) (Kr : K1) : Prop :=
  u_bf false 1 1 x1 h fun v16 => ywmm v16 fun v17 => y9fv x1 x3 x4 v16 v17 (.int .i64 0) h Kn Kr
theorem y6zz (Kn : K3) (Kr : K1) (t : T) (h : H) (H0 : y92v (t 1) (t 3) (t 4) h Kn Kr) : Wp PG 75 (seqL (rest 3 (ygjk Tryz.f208.body))) (mkQ (q3 Kn 1 3 4) (q1 Kr 2) ke0) t h :=
  yvnp E5_ok 1 H0 (by kernel_rfl) (fun t h (H1 : y9fv (t 1) (t 3) (t 4) (t 16) (t 17) (t 18) h Kn Kr) => yoxa Kn Kr t h H1) (by kernel_rfl)
def yw83 (x1 x8 x50 x51 x52 x60 x61 x62 : Value) (h : H) (Kn : K8) (Kr : K1) (Ke5 : K4) (Ke4 : K4) (Ke3 : K1) : Prop :=
  u_bin PG .lss T_int x62 x61 fun v63 => u_if v63 (u_ix true 4 none x60 x62 h fun v65 => u_new [.int .u32 0, .int .u32 0, .int .i64 0, .slice none 0 0] ym0k .exact h fun b10 h => ylel 4 (.pointer (some ⟨b10, 0, none⟩)) v65 h fun h => ybqh true 4 x8 h fun v66 => ybqh true 4 (.pointer (some ⟨b10, 0, none⟩)) h fun v67 => u_ct ynwe [v66, v67] h fun v68 h => u_un PG .not v68 fun v69 => u_if v69 (Kr (.int .i64 1) h) (u_bin PG .add T_int x62 (.int .i64 1) fun v70 => Kn x1 x8 x50 x51 x52 x60 x61 v70 h)) (Ke5 x1 x50 x51 x52 h)
theorem ybte (Kn : K8) (Kr : K1) (Ke5 : K4) (Ke4 : K4) (Ke3 : K1) (t : T) (h : H) (H0 : yw83 (t 1) (t 8) (t 50) (t 51) (t 52) (t 60) (t 61) (t 62) h Kn Kr Ke5 Ke4 Ke3) : Wp PG 75 (lopC (blkC (rest 2 (blkC (seqL (rest 2 (lopC (blkC (rest 1 (seqL (rest 1 (seqR (rest 3 (ygjk Tryz.f208.body)))))))))))))) (mkQ (fun t h => Kn (t 1) (t 8) (t 50) (t 51) (t 52) (t 60) (t 61) (t 62) h) (q1 Kr 2) (keAdd 5 (q4 Ke5 1 50 51 52) (keAdd 4 (q4 Ke4 1 50 51 52) (keAdd 3 (q1 Ke3 1) ke0)))) t h :=
  wpEqC E5_ok H0 (by kernel_rfl)
def yh3o (x1 x8 x50 x51 x52 x60 x61 x62 : Value) (h : H) (Kn : K4) (Kr : K1) (Ke5 : K4) (Ke4 : K4) (Ke3 : K1) : Prop :=
  sloop (S := Value × Value × Value × Value × Value × Value × Value × Value) (fun s h K => yw83 s.1 s.2.1 s.2.2.1 s.2.2.2.1 s.2.2.2.2.1 s.2.2.2.2.2.1 s.2.2.2.2.2.2.1 s.2.2.2.2.2.2.2 h (fun y1 y8 y50 y51 y52 y60 y61 y62 h => K (y1, y8, y50, y51, y52, y60, y61, y62) h) Kr Ke5 Ke4 Ke3) (x1, x8, x50, x51, x52, x60, x61, x62) h
theorem ys6m (Kn : K4) (Kr : K1) (Ke5 : K4) (Ke4 : K4) (Ke3 : K1) (t : T) (h : H) (H0 : yh3o (t 1) (t 8) (t 50) (t 51) (t 52) (t 60) (t 61) (t 62) h Kn Kr Ke5 Ke4 Ke3) : Wp PG 75 (blkC (rest 2 (blkC (seqL (rest 2 (lopC (blkC (rest 1 (seqL (rest 1 (seqR (rest 3 (ygjk Tryz.f208.body))))))))))))) (mkQ (q4 Kn 1 50 51 52) (q1 Kr 2) (keAdd 5 (q4 Ke5 1 50 51 52) (keAdd 4 (q4 Ke4 1 50 51 52) (keAdd 3 (q1 Ke3 1) ke0)))) t h :=
  yv0a (fun t => (t 1, t 8, t 50, t 51, t 52, t 60, t 61, t 62)) (by kernel_rfl) (fun t h K H1 => ybte (fun y1 y8 y50 y51 y52 y60 y61 y62 h => K (y1, y8, y50, y51, y52, y60, y61, y62) h) Kr Ke5 Ke4 Ke3 t h H1) H0
def yw6q (x1 x8 x50 x51 x52 x60 x61 x62 : Value) (h : H) (Kn : K4) (Kr : K1) (Ke4 : K4) (Ke3 : K1) : Prop :=
  yh3o x1 x8 x50 x51 x52 x60 x61 x62 h Kn Kr Kn Ke4 Ke3
theorem yam1 (Kn : K4) (Kr : K1) (Ke4 : K4) (Ke3 : K1) (t : T) (h : H) (H0 : yw6q (t 1) (t 8) (t 50) (t 51) (t 52) (t 60) (t 61) (t 62) h Kn Kr Ke4 Ke3) : Wp PG 75 (rest 2 (blkC (seqL (rest 2 (lopC (blkC (rest 1 (seqL (rest 1 (seqR (rest 3 (ygjk Tryz.f208.body)))))))))))) (mkQ (q4 Kn 1 50 51 52) (q1 Kr 2) (keAdd 4 (q4 Ke4 1 50 51 52) (keAdd 3 (q1 Ke3 1) ke0))) t h :=
  y6tu 5 (by kernel_rfl) (by kernel_rfl) (ys6m Kn Kr Kn Ke4 Ke3 t h H0)
def y0mn (x1 x50 x51 x52 : Value) (h : H) (Kn : K4) (Kr : K1) (Ke4 : K4) (Ke3 : K1) : Prop :=
  u_ix true 4 none x50 x52 h fun v56 => u_new [.int .u32 0, .int .u32 0, .int .i64 0, .slice none 0 0] ym0k .exact h fun b8 h => ylel 4 (.pointer (some ⟨b8, 0, none⟩)) v56 h fun h => u_bf false 1 1 x1 h fun v58 => y4a7 4 v58 none (some x52) none fun v60 => ywmm v60 fun v61 => yw6q x1 (.pointer (some ⟨b8, 0, none⟩)) x50 x51 x52 v60 v61 (.int .i64 0) h Kn Kr Ke4 Ke3
theorem yn8x (Kn : K4) (Kr : K1) (Ke4 : K4) (Ke3 : K1) (t : T) (h : H) (H0 : y0mn (t 1) (t 50) (t 51) (t 52) h Kn Kr Ke4 Ke3) : Wp PG 75 (blkC (seqL (rest 2 (lopC (blkC (rest 1 (seqL (rest 1 (seqR (rest 3 (ygjk Tryz.f208.body))))))))))) (mkQ (q4 Kn 1 50 51 52) (q1 Kr 2) (keAdd 4 (q4 Ke4 1 50 51 52) (keAdd 3 (q1 Ke3 1) ke0))) t h :=
  yvnp E5_ok 2 H0 (by kernel_rfl) (fun t h (H1 : yw6q (t 1) (t 8) (t 50) (t 51) (t 52) (t 60) (t 61) (t 62) h Kn Kr Ke4 Ke3) => yam1 Kn Kr Ke4 Ke3 t h H1) (by kernel_rfl)
def y2xm (x1 x50 x51 x52 : Value) (h : H) (Kn : K4) (Kr : K1) (Ke3 : K1) : Prop :=
  y0mn x1 x50 x51 x52 h Kn Kr Kn Ke3
theorem yzhw (Kn : K4) (Kr : K1) (Ke3 : K1) (t : T) (h : H) (H0 : y2xm (t 1) (t 50) (t 51) (t 52) h Kn Kr Ke3) : Wp PG 75 (seqL (rest 2 (lopC (blkC (rest 1 (seqL (rest 1 (seqR (rest 3 (ygjk Tryz.f208.body)))))))))) (mkQ (q4 Kn 1 50 51 52) (q1 Kr 2) (keAdd 3 (q1 Ke3 1) ke0)) t h :=
  y6tu 4 (by kernel_rfl) (by kernel_rfl) (yn8x Kn Kr Kn Ke3 t h H0)
def yyez (x1 x50 x51 x52 : Value) (h : H) (Kn : K4) (Kr : K1) (Ke3 : K1) : Prop :=
  u_bin PG .add T_int x52 (.int .i64 1) fun v71 => Kn x1 x50 x51 v71 h
theorem ypdh (Kn : K4) (Kr : K1) (Ke3 : K1) (t : T) (h : H) (H0 : yyez (t 1) (t 50) (t 51) (t 52) h Kn Kr Ke3) : Wp PG 75 (seqR (rest 2 (lopC (blkC (rest 1 (seqL (rest 1 (seqR (rest 3 (ygjk Tryz.f208.body)))))))))) (mkQ (q4 Kn 1 50 51 52) (q1 Kr 2) (keAdd 3 (q1 Ke3 1) ke0)) t h :=
  wpEqC E5_ok H0 (by kernel_rfl)
def ycnj (x1 x50 x51 x52 : Value) (h : H) (Kn : K4) (Kr : K1) (Ke3 : K1) : Prop :=
  y2xm x1 x50 x51 x52 h (fun y1 y50 y51 y52 h => yyez y1 y50 y51 y52 h Kn Kr Ke3) Kr Ke3
theorem yawn (Kn : K4) (Kr : K1) (Ke3 : K1) (t : T) (h : H) (H0 : ycnj (t 1) (t 50) (t 51) (t 52) h Kn Kr Ke3) : Wp PG 75 (rest 2 (lopC (blkC (rest 1 (seqL (rest 1 (seqR (rest 3 (ygjk Tryz.f208.body))))))))) (mkQ (q4 Kn 1 50 51 52) (q1 Kr 2) (keAdd 3 (q1 Ke3 1) ke0)) t h :=
  ykv2 (by kernel_rfl) (fun t h H1 => ypdh Kn Kr Ke3 t h H1) (yzhw (fun y1 y50 y51 y52 h => yyez y1 y50 y51 y52 h Kn Kr Ke3) Kr Ke3 t h H0)
def yhqq (x1 x50 x51 x52 : Value) (h : H) (Kn : K4) (Kr : K1) (Ke3 : K1) : Prop :=
  u_bin PG .lss T_int x52 x51 fun v53 => u_if v53 (ycnj x1 x50 x51 x52 h Kn Kr Ke3) (Ke3 x1 h)
theorem y5a7 (Kn : K4) (Kr : K1) (Ke3 : K1) (t : T) (h : H) (H0 : yhqq (t 1) (t 50) (t 51) (t 52) h Kn Kr Ke3) : Wp PG 75 (lopC (blkC (rest 1 (seqL (rest 1 (seqR (rest 3 (ygjk Tryz.f208.body)))))))) (mkQ (q4 Kn 1 50 51 52) (q1 Kr 2) (keAdd 3 (q1 Ke3 1) ke0)) t h :=
  yvnp E5_ok 2 H0 (by kernel_rfl) (fun t h (H1 : ycnj (t 1) (t 50) (t 51) (t 52) h Kn Kr Ke3) => yawn Kn Kr Ke3 t h H1) (by kernel_rfl)
def ydqv (x1 x50 x51 x52 : Value) (h : H) (Kn : K1) (Kr : K1) (Ke3 : K1) : Prop :=
  sloop (S := Value × Value × Value × Value) (fun s h K => yhqq s.1 s.2.1 s.2.2.1 s.2.2.2 h (fun y1 y50 y51 y52 h => K (y1, y50, y51, y52) h) Kr Ke3) (x1, x50, x51, x52) h
theorem yp30 (Kn : K1) (Kr : K1) (Ke3 : K1) (t : T) (h : H) (H0 : ydqv (t 1) (t 50) (t 51) (t 52) h Kn Kr Ke3) : Wp PG 75 (blkC (rest 1 (seqL (rest 1 (seqR (rest 3 (ygjk Tryz.f208.body))))))) (mkQ (q1 Kn 1) (q1 Kr 2) (keAdd 3 (q1 Ke3 1) ke0)) t h :=
  yv0a (fun t => (t 1, t 50, t 51, t 52)) (by kernel_rfl) (fun t h K H1 => y5a7 (fun y1 y50 y51 y52 h => K (y1, y50, y51, y52) h) Kr Ke3 t h H1) H0
def yof2 (x1 x50 x51 x52 : Value) (h : H) (Kn : K1) (Kr : K1) : Prop :=
  ydqv x1 x50 x51 x52 h Kn Kr Kn
theorem ykfo (Kn : K1) (Kr : K1) (t : T) (h : H) (H0 : yof2 (t 1) (t 50) (t 51) (t 52) h Kn Kr) : Wp PG 75 (rest 1 (seqL (rest 1 (seqR (rest 3 (ygjk Tryz.f208.body)))))) (mkQ (q1 Kn 1) (q1 Kr 2) ke0) t h :=
  y6tu 3 (by kernel_rfl) (by kernel_rfl) (yp30 Kn Kr Kn t h H0)
def yqhm (x1 : Value) (h : H) (Kn : K1) (Kr : K1) : Prop :=
  u_bf false 1 1 x1 h fun v50 => ywmm v50 fun v51 => yof2 x1 v50 v51 (.int .i64 0) h Kn Kr
theorem yzfi (Kn : K1) (Kr : K1) (t : T) (h : H) (H0 : yqhm (t 1) h Kn Kr) : Wp PG 75 (seqL (rest 1 (seqR (rest 3 (ygjk Tryz.f208.body))))) (mkQ (q1 Kn 1) (q1 Kr 2) ke0) t h :=
  yvnp E5_ok 1 H0 (by kernel_rfl) (fun t h (H1 : yof2 (t 1) (t 50) (t 51) (t 52) h Kn Kr) => ykfo Kn Kr t h H1) (by kernel_rfl)
def ypzm (x1 : Value) (h : H) (Kn : K1) (Kr : K1) : Prop :=
  ybqh true 2 x1 h fun v72 => yjdf PG yi8e [v72] h fun v73 h => u_un PG .not v73 fun v74 => u_if v74 (Kr (.int .i64 1) h) (Kr (.int .i64 0) h)
theorem yoql (Kn : K1) (Kr : K1) (t : T) (h : H) (H0 : ypzm (t 1) h Kn Kr) : Wp PG 75 (seqR (rest 1 (seqR (rest 3 (ygjk Tryz.f208.body))))) (mkQ (q1 Kn 2) (q1 Kr 2) ke0) t h :=
  wpEqC E5_ok H0 (by kernel_rfl)
def yagd (x1 : Value) (h : H) (Kn : K1) (Kr : K1) : Prop :=
  yqhm x1 h (fun y1 h => ypzm y1 h Kn Kr) Kr
theorem y3bb (Kn : K1) (Kr : K1) (t : T) (h : H) (H0 : yagd (t 1) h Kn Kr) : Wp PG 75 (rest 1 (seqR (rest 3 (ygjk Tryz.f208.body)))) (mkQ (q1 Kn 2) (q1 Kr 2) ke0) t h :=
  ykv2 (by kernel_rfl) (fun t h H1 => yoql Kn Kr t h H1) (yzfi (fun y1 h => ypzm y1 h Kn Kr) Kr t h H0)
def ypec (x1 x3 x4 : Value) (h : H) (Kn : K1) (Kr : K1) : Prop :=
  u_bf false 1 1 x1 h fun v39 => ywmm v39 fun v40 => u_bin PG .eql T_int v40 (.int .i64 0) fun v41 => u_if v41 (Kr (.int .i64 1) h) (u_bin PG .gtr yxjj x3 (.int .u64 65536) fun v44 => ydv6 v44 false (fun k4 => u_bin PG .gtr yxjj x4 (.int .u64 65536) fun v47 => k4 v47 h) (fun v47 h => y9rg v44 (.bool true) v47 fun v48 => u_if v48 (Kr (.int .i64 2) h) (yagd x1 h Kn Kr)) h)
theorem y6f3 (Kn : K1) (Kr : K1) (t : T) (h : H) (H0 : ypec (t 1) (t 3) (t 4) h Kn Kr) : Wp PG 75 (seqR (rest 3 (ygjk Tryz.f208.body))) (mkQ (q1 Kn 2) (q1 Kr 2) ke0) t h :=
  yvnp E5_ok 1 H0 (by kernel_rfl) (fun t h (H1 : yagd (t 1) h Kn Kr) => y3bb Kn Kr t h H1) (by kernel_rfl)
def y6t9 (x1 x3 x4 : Value) (h : H) (Kn : K1) (Kr : K1) : Prop :=
  y92v x1 x3 x4 h (fun y1 y3 y4 h => ypec y1 y3 y4 h Kn Kr) Kr
theorem y3x7 (Kn : K1) (Kr : K1) (t : T) (h : H) (H0 : y6t9 (t 1) (t 3) (t 4) h Kn Kr) : Wp PG 75 (rest 3 (ygjk Tryz.f208.body)) (mkQ (q1 Kn 2) (q1 Kr 2) ke0) t h :=
  ykv2 (by kernel_rfl) (fun t h H1 => y6f3 Kn Kr t h H1) (y6zz (fun y1 y3 y4 h => ypec y1 y3 y4 h Kn Kr) Kr t h H0)
def yfmg (x0 : Value) (h : H) (Kn : K1) (Kr : K1) : Prop :=
  boxV x0 = true ∧ u_new (Value.cells x0).toList y33u .exact h fun b1 h => u_bf false 1 1 (.pointer (some ⟨b1, 0, none⟩)) h fun v12 => ywmm v12 fun v13 => u_bin PG .gtr T_int v13 (.int .i64 8) fun v14 => u_if v14 (Kr (.int .i64 2) h) (y6t9 (.pointer (some ⟨b1, 0, none⟩)) (.int .u64 0) (.int .u64 0) h Kn Kr)
theorem y7z7 (Kn : K1) (Kr : K1) (t : T) (h : H) (H0 : yfmg (t 0) h Kn Kr) : Wp PG 75 (ygjk Tryz.f208.body) (mkQ (q1 Kn 2) (q1 Kr 2) ke0) t h :=
  yvnp E5_ok 3 H0 (by kernel_rfl) (fun t h (H1 : y6t9 (t 1) (t 3) (t 4) h Kn Kr) => y3x7 Kn Kr t h H1) (by kernel_rfl)
def ydlt (x0 : Value) (h : H) (Q : K1) : Prop := yfmg x0 h Q Q
theorem yl4o (x0 : Value) (h : H) (Q : K1) (H0 : ydlt x0 h Q) : AM.Spec PG y45l [x0] h Q :=
  yqxt mixed (fn := Tryz.f208) Tryz.func208 (c := ygjk Tryz.f208.body) (rs := [2]) (N := 75) (by kernel_rfl) (by kernel_rfl) (by kernel_rfl) (by kernel_rfl) (by kernel_rfl) (Nat.le_of_ble_eq_true rfl) (y7z7 Q Q (tinit [x0]) h H0) (by kernel_rfl)
def y2l3 (x1 x3 x4 x5 x8 x9 x10 : Value) (h : H) (Kn : K7) (Kr : K1) (Ke1 : K5) (Ke0 : K2) : Prop :=
  u_bf false 1 0 x5 h fun v16 => u_bin PG .lss ycpa v16 (.int .u32 2147475456) fun v17 => ydv6 v17 true (fun k16 => u_bin PG .lss T_int x3 (.int .i64 0) fun v20 => ydv6 v20 false (fun k15 => u_bf false 1 0 x5 h fun v23 => u_bf false 1 1 x1 h fun v25 => u_ixf false 1 0 none 4 v25 x3 h fun v29 => u_bin PG .gtr ycpa v23 v29 fun v30 => k15 v30 h) (fun v30 h => y9rg v20 (.bool true) v30 fun v31 => k16 v31 h) h) (fun v31 h => y9rg v17 v31 (.bool false) fun v32 => Kn x1 x3 x4 x8 x9 x10 v32 h) h
theorem ytvq (Kn : K7) (Kr : K1) (Ke1 : K5) (Ke0 : K2) (t : T) (h : H) (H0 : y2l3 (t 1) (t 3) (t 4) (t 5) (t 8) (t 9) (t 10) h Kn Kr Ke1 Ke0) : Wp PG 51 (seqL (rest 1 (blkC (seqL (rest 2 (lopC (blkC (rest 1 (seqL (rest 2 (ygjk Tryz.f139.body))))))))))) (mkQ (fun t h => Kn (t 1) (t 3) (t 4) (t 8) (t 9) (t 10) (t 32) h) (q1 Kr 2) (keAdd 1 (q5 Ke1 1 3 8 9 10) (keAdd 0 (q2 Ke0 1 3) ke0))) t h :=
  ybop E5_ok [0, 1, 2, 3, 4, 5, 6, 7, 8, 9, 10, 11, 12, 13, 14, 15, 16, 17] (by kernel_rfl) (by kernel_rfl) H0 (by kernel_rfl)
def yl89 (x1 x3 x4 x8 x9 x10 x32 : Value) (h : H) (Kn : K5) (Kr : K1) (Ke1 : K5) (Ke0 : K2) : Prop :=
  u_if x32 (Kn x1 x4 x8 x9 x10 h) (Kn x1 x3 x8 x9 x10 h)
theorem yz45 (Kn : K5) (Kr : K1) (Ke1 : K5) (Ke0 : K2) (t : T) (h : H) (H0 : yl89 (t 1) (t 3) (t 4) (t 8) (t 9) (t 10) (t 32) h Kn Kr Ke1 Ke0) : Wp PG 51 (seqR (rest 1 (blkC (seqL (rest 2 (lopC (blkC (rest 1 (seqL (rest 2 (ygjk Tryz.f139.body))))))))))) (mkQ (q5 Kn 1 3 8 9 10) (q1 Kr 2) (keAdd 1 (q5 Ke1 1 3 8 9 10) (keAdd 0 (q2 Ke0 1 3) ke0))) t h :=
  wpEqC E5_ok H0 (by kernel_rfl)
def yrdl (x1 x3 x4 x5 x8 x9 x10 : Value) (h : H) (Kn : K5) (Kr : K1) (Ke1 : K5) (Ke0 : K2) : Prop :=
  y2l3 x1 x3 x4 x5 x8 x9 x10 h (fun y1 y3 y4 y8 y9 y10 y32 h => yl89 y1 y3 y4 y8 y9 y10 y32 h Kn Kr Ke1 Ke0) Kr Ke1 Ke0
theorem ygu8 (Kn : K5) (Kr : K1) (Ke1 : K5) (Ke0 : K2) (t : T) (h : H) (H0 : yrdl (t 1) (t 3) (t 4) (t 5) (t 8) (t 9) (t 10) h Kn Kr Ke1 Ke0) : Wp PG 51 (rest 1 (blkC (seqL (rest 2 (lopC (blkC (rest 1 (seqL (rest 2 (ygjk Tryz.f139.body)))))))))) (mkQ (q5 Kn 1 3 8 9 10) (q1 Kr 2) (keAdd 1 (q5 Ke1 1 3 8 9 10) (keAdd 0 (q2 Ke0 1 3) ke0))) t h :=
  ykv2 (by kernel_rfl) (fun t h H1 => yz45 Kn Kr Ke1 Ke0 t h H1) (ytvq (fun y1 y3 y4 y8 y9 y10 y32 h => yl89 y1 y3 y4 y8 y9 y10 y32 h Kn Kr Ke1 Ke0) Kr Ke1 Ke0 t h H0)
def yyu0 (x1 x3 x8 x9 x10 : Value) (h : H) (Kn : K5) (Kr : K1) (Ke1 : K5) (Ke0 : K2) : Prop :=
  u_ix true 4 none x8 x10 h fun v14 => u_new [.int .u32 0, .int .u32 0, .int .i64 0, .slice none 0 0] ym0k .exact h fun b5 h => ylel 4 (.pointer (some ⟨b5, 0, none⟩)) v14 h fun h => yrdl x1 x3 x10 (.pointer (some ⟨b5, 0, none⟩)) x8 x9 x10 h Kn Kr Ke1 Ke0
theorem ykkr (Kn : K5) (Kr : K1) (Ke1 : K5) (Ke0 : K2) (t : T) (h : H) (H0 : yyu0 (t 1) (t 3) (t 8) (t 9) (t 10) h Kn Kr Ke1 Ke0) : Wp PG 51 (blkC (seqL (rest 2 (lopC (blkC (rest 1 (seqL (rest 2 (ygjk Tryz.f139.body))))))))) (mkQ (q5 Kn 1 3 8 9 10) (q1 Kr 2) (keAdd 1 (q5 Ke1 1 3 8 9 10) (keAdd 0 (q2 Ke0 1 3) ke0))) t h :=
  yvnp E5_ok 1 H0 (by kernel_rfl) (fun t h (H1 : yrdl (t 1) (t 3) (t 4) (t 5) (t 8) (t 9) (t 10) h Kn Kr Ke1 Ke0) => ygu8 Kn Kr Ke1 Ke0 t h H1) (by kernel_rfl)
def yslf (x1 x3 x8 x9 x10 : Value) (h : H) (Kn : K5) (Kr : K1) (Ke0 : K2) : Prop :=
  yyu0 x1 x3 x8 x9 x10 h Kn Kr Kn Ke0
theorem yroc (Kn : K5) (Kr : K1) (Ke0 : K2) (t : T) (h : H) (H0 : yslf (t 1) (t 3) (t 8) (t 9) (t 10) h Kn Kr Ke0) : Wp PG 51 (seqL (rest 2 (lopC (blkC (rest 1 (seqL (rest 2 (ygjk Tryz.f139.body)))))))) (mkQ (q5 Kn 1 3 8 9 10) (q1 Kr 2) (keAdd 0 (q2 Ke0 1 3) ke0)) t h :=
  y6tu 1 (by kernel_rfl) (by kernel_rfl) (ykkr Kn Kr Kn Ke0 t h H0)
def y0ru (x1 x3 x8 x9 x10 : Value) (h : H) (Kn : K5) (Kr : K1) (Ke0 : K2) : Prop :=
  u_bin PG .add T_int x10 (.int .i64 1) fun v34 => Kn x1 x3 x8 x9 v34 h
theorem yij2 (Kn : K5) (Kr : K1) (Ke0 : K2) (t : T) (h : H) (H0 : y0ru (t 1) (t 3) (t 8) (t 9) (t 10) h Kn Kr Ke0) : Wp PG 51 (seqR (rest 2 (lopC (blkC (rest 1 (seqL (rest 2 (ygjk Tryz.f139.body)))))))) (mkQ (q5 Kn 1 3 8 9 10) (q1 Kr 2) (keAdd 0 (q2 Ke0 1 3) ke0)) t h :=
  wpEqC E5_ok H0 (by kernel_rfl)
def ybjp (x1 x3 x8 x9 x10 : Value) (h : H) (Kn : K5) (Kr : K1) (Ke0 : K2) : Prop :=
  yslf x1 x3 x8 x9 x10 h (fun y1 y3 y8 y9 y10 h => y0ru y1 y3 y8 y9 y10 h Kn Kr Ke0) Kr Ke0
theorem y6ow (Kn : K5) (Kr : K1) (Ke0 : K2) (t : T) (h : H) (H0 : ybjp (t 1) (t 3) (t 8) (t 9) (t 10) h Kn Kr Ke0) : Wp PG 51 (rest 2 (lopC (blkC (rest 1 (seqL (rest 2 (ygjk Tryz.f139.body))))))) (mkQ (q5 Kn 1 3 8 9 10) (q1 Kr 2) (keAdd 0 (q2 Ke0 1 3) ke0)) t h :=
  ykv2 (by kernel_rfl) (fun t h H1 => yij2 Kn Kr Ke0 t h H1) (yroc (fun y1 y3 y8 y9 y10 h => y0ru y1 y3 y8 y9 y10 h Kn Kr Ke0) Kr Ke0 t h H0)
def ytbn (x1 x3 x8 x9 x10 : Value) (h : H) (Kn : K5) (Kr : K1) (Ke0 : K2) : Prop :=
  u_bin PG .lss T_int x10 x9 fun v11 => u_if v11 (ybjp x1 x3 x8 x9 x10 h Kn Kr Ke0) (Ke0 x1 x3 h)
theorem yhzt (Kn : K5) (Kr : K1) (Ke0 : K2) (t : T) (h : H) (H0 : ytbn (t 1) (t 3) (t 8) (t 9) (t 10) h Kn Kr Ke0) : Wp PG 51 (lopC (blkC (rest 1 (seqL (rest 2 (ygjk Tryz.f139.body)))))) (mkQ (q5 Kn 1 3 8 9 10) (q1 Kr 2) (keAdd 0 (q2 Ke0 1 3) ke0)) t h :=
  yvnp E5_ok 2 H0 (by kernel_rfl) (fun t h (H1 : ybjp (t 1) (t 3) (t 8) (t 9) (t 10) h Kn Kr Ke0) => y6ow Kn Kr Ke0 t h H1) (by kernel_rfl)
def y2n4 (x1 x3 x8 x9 x10 : Value) (h : H) (Kn : K2) (Kr : K1) (Ke0 : K2) : Prop :=
  sloop (S := Value × Value × Value × Value × Value) (fun s h K => ytbn s.1 s.2.1 s.2.2.1 s.2.2.2.1 s.2.2.2.2 h (fun y1 y3 y8 y9 y10 h => K (y1, y3, y8, y9, y10) h) Kr Ke0) (x1, x3, x8, x9, x10) h
theorem ye84 (Kn : K2) (Kr : K1) (Ke0 : K2) (t : T) (h : H) (H0 : y2n4 (t 1) (t 3) (t 8) (t 9) (t 10) h Kn Kr Ke0) : Wp PG 51 (blkC (rest 1 (seqL (rest 2 (ygjk Tryz.f139.body))))) (mkQ (q2 Kn 1 3) (q1 Kr 2) (keAdd 0 (q2 Ke0 1 3) ke0)) t h :=
  yv0a (fun t => (t 1, t 3, t 8, t 9, t 10)) (by kernel_rfl) (fun t h K H1 => yhzt (fun y1 y3 y8 y9 y10 h => K (y1, y3, y8, y9, y10) h) Kr Ke0 t h H1) H0
def y45h (x1 x3 x8 x9 x10 : Value) (h : H) (Kn : K2) (Kr : K1) : Prop :=
  y2n4 x1 x3 x8 x9 x10 h Kn Kr Kn
theorem y7zp (Kn : K2) (Kr : K1) (t : T) (h : H) (H0 : y45h (t 1) (t 3) (t 8) (t 9) (t 10) h Kn Kr) : Wp PG 51 (rest 1 (seqL (rest 2 (ygjk Tryz.f139.body)))) (mkQ (q2 Kn 1 3) (q1 Kr 2) ke0) t h :=
  y6tu 0 (by kernel_rfl) (by kernel_rfl) (ye84 Kn Kr Kn t h H0)
def ygy9 (x1 x3 : Value) (h : H) (Kn : K2) (Kr : K1) : Prop :=
  u_bf false 1 1 x1 h fun v8 => ywmm v8 fun v9 => y45h x1 x3 v8 v9 (.int .i64 0) h Kn Kr
theorem y12x (Kn : K2) (Kr : K1) (t : T) (h : H) (H0 : ygy9 (t 1) (t 3) h Kn Kr) : Wp PG 51 (seqL (rest 2 (ygjk Tryz.f139.body))) (mkQ (q2 Kn 1 3) (q1 Kr 2) ke0) t h :=
  yvnp E5_ok 1 H0 (by kernel_rfl) (fun t h (H1 : y45h (t 1) (t 3) (t 8) (t 9) (t 10) h Kn Kr) => y7zp Kn Kr t h H1) (by kernel_rfl)
def ykxj (x1 x3 : Value) (h : H) (Kn : K1) (Kr : K1) : Prop :=
  u_bin PG .lss T_int x3 (.int .i64 0) fun v36 => u_if v36 (Kr (.int .u32 2147475456) h) (u_bf false 1 1 x1 h fun v38 => u_ix true 4 none v38 x3 h fun v41 => u_new [.int .u32 0, .int .u32 0, .int .i64 0, .slice none 0 0] ym0k .exact h fun b6 h => ylel 4 (.pointer (some ⟨b6, 0, none⟩)) v41 h fun h => u_bf false 1 0 (.pointer (some ⟨b6, 0, none⟩)) h fun v43 => u_bf false 1 1 (.pointer (some ⟨b6, 0, none⟩)) h fun v45 => u_bin PG .add ycpa v43 v45 fun v46 => u_bin PG .add ycpa v46 (.int .u32 256) fun v47 => u_bin PG .sub ycpa v47 (.int .u32 1) fun v48 => u_bin PG .quo ycpa v48 (.int .u32 256) fun v49 => u_bin PG .mul ycpa v49 (.int .u32 256) fun v50 => Kr v50 h)
theorem yhom (Kn : K1) (Kr : K1) (t : T) (h : H) (H0 : ykxj (t 1) (t 3) h Kn Kr) : Wp PG 51 (seqR (rest 2 (ygjk Tryz.f139.body))) (mkQ (q1 Kn 2) (q1 Kr 2) ke0) t h :=
  wpEqC E5_ok H0 (by kernel_rfl)
def y3f3 (x1 x3 : Value) (h : H) (Kn : K1) (Kr : K1) : Prop :=
  ygy9 x1 x3 h (fun y1 y3 h => ykxj y1 y3 h Kn Kr) Kr
theorem yqdv (Kn : K1) (Kr : K1) (t : T) (h : H) (H0 : y3f3 (t 1) (t 3) h Kn Kr) : Wp PG 51 (rest 2 (ygjk Tryz.f139.body)) (mkQ (q1 Kn 2) (q1 Kr 2) ke0) t h :=
  ykv2 (by kernel_rfl) (fun t h H1 => yhom Kn Kr t h H1) (y12x (fun y1 y3 h => ykxj y1 y3 h Kn Kr) Kr t h H0)
def y77w (x0 : Value) (h : H) (Kn : K1) (Kr : K1) : Prop :=
  boxV x0 = true ∧ u_new (Value.cells x0).toList y33u .exact h fun b1 h => y3f3 (.pointer (some ⟨b1, 0, none⟩)) (.int .i64 (-1)) h Kn Kr
theorem yz9l (Kn : K1) (Kr : K1) (t : T) (h : H) (H0 : y77w (t 0) h Kn Kr) : Wp PG 51 (ygjk Tryz.f139.body) (mkQ (q1 Kn 2) (q1 Kr 2) ke0) t h :=
  yvnp E5_ok 2 H0 (by kernel_rfl) (fun t h (H1 : y3f3 (t 1) (t 3) h Kn Kr) => yqdv Kn Kr t h H1) (by kernel_rfl)
def ygd5 (x0 : Value) (h : H) (Q : K1) : Prop := y77w x0 h Q Q
theorem yppr (x0 : Value) (h : H) (Q : K1) (H0 : ygd5 x0 h Q) : AM.Spec PG yl1q [x0] h Q :=
  yqxt mixed (fn := Tryz.f139) Tryz.func139 (c := ygjk Tryz.f139.body) (rs := [2]) (N := 51) (by kernel_rfl) (by kernel_rfl) (by kernel_rfl) (by kernel_rfl) (by kernel_rfl) (Nat.le_of_ble_eq_true rfl) (yz9l Q Q (tinit [x0]) h H0) (by kernel_rfl)
end Go.Proofs.YtnckimioabkheaaGreat

set_option linter.unusedSimpArgs false
set_option linter.unusedVariables false
set_option maxRecDepth 100000
namespace Go.Proofs.YtnckimioabkheaaGreat
open AM
section
variable {h : H} {K : K1}
theorem Sub.sl {α : Type} {enc : α → List Value} {sz : Nat} {h h' : H} {v : Value} {l : List α} (hs : Sub h h') (hl : Sl enc sz h v l) : Sl enc sz h' v l := hl.mono hs
theorem and_d {q : Prop} [Decidable q] {op : (Value → H → Prop) → Prop} {K : Value → H → Prop} {h : H} {u : Dm (Value.bool (decide q), K)} (hq : q) : u_and (.bool (decide q)) op K h u = op K := by
  show (bif decide q then op K else K (.bool false) h) = op K
  simp [hq]
theorem or_d {q : Prop} [Decidable q] {op : (Value → H → Prop) → Prop} {K : Value → H → Prop} {h : H} {u : Dm (Value.bool (decide q), K)} (hq : q) : u_or (.bool (decide q)) op K h u = K (.bool true) h := by
  show (bif decide q then K (.bool true) h else op K) = K (.bool true) h
  simp [hq]
theorem or_dn {q : Prop} [Decidable q] {op : (Value → H → Prop) → Prop} {K : Value → H → Prop} {h : H} {u : Dm (Value.bool (decide q), K)} (hq : ¬ q) : u_or (.bool (decide q)) op K h u = op K := by
  show (bif decide q then K (.bool true) h else op K) = op K
  simp [hq]
theorem y8iy {vs vb vd : Value} {p : Int} (hv : Sl sgC 4 h vs [(4096, 1024, p, vb), (65536, 512, 3, vd)]) (hk : K (.int .u32 66048) h) : AM.Spec PG yl1q [.agg #[.int .u32 4096, vs]] h K := by
  refine yz7m (fun K hk => ?_) hk
  refine yppr _ _ _ ?_
  have hb := hv.box
  unfold ygd5 y77w
  simp (config := {dsimp := false}) [hb]
  intro b _ hbn
  have hs : Sub h (upd h b (.cells [.int .u32 4096, vs] y33u .exact)) := Sub.new hbn
  have hc := yy0e h b (.cells [.int .u32 4096, vs] y33u .exact)
  generalize upd h b _ = h1 at *
  simp (config := {dsimp := false}) [↓y3f3, ↓ygy9, yb3e hc, (hv.mono hs).ulen]
  unfold y45h y2n4
  refine yo1k 2 (fun i s h' => s = (ptr b 0, .int .i64 ((i : Int) - 1), vs, .int .i64 2, .int .i64 i) ∧ Sub h h' ∧ h' b = some (.cells [.int .u32 4096, vs] y33u .exact)) ⟨rfl, hs, hc⟩ ?_
  rintro i s h' K' hi ⟨rfl, hs', hc'⟩ hk'
  have hv' := hv.mono hs'
  have i0 := fun (K : Value → Prop) (u : Dm K) => hv'.ixA (k := .i64) (i := 0) (by simp) (K := K) (u := u)
  have i1 := fun (K : Value → Prop) (u : Dm K) => hv'.ixA (k := .i64) (i := 1) (by simp) (K := K) (u := u)
  have f0 := fun (K : Value → Prop) (u : Dm K) => hv'.ixf (k := .i64) (i := 0) (off := 0) (w := .int .u32 4096) (by simp) rfl (K := K) (u := u)
  simp (config := {dsimp := false}) [sgC] at i0 i1 f0
  match i, hi with
  | 0, _ =>
    simp (config := {dsimp := false}) [↓ytbn, ↓ybjp, ↓yslf, ↓yyu0, ↓yrdl, ↓y2l3, ↓yl89, ↓y0ru, i0]
    intro b5 _ hb5
    rw [and_d (by decide), or_d (by decide)]
    simp (config := {dsimp := false}) [↓yl89, ↓y0ru]
    exact hk' (ptr b 0, .int .i64 0, vs, .int .i64 2, .int .i64 1) _ (by omega) ⟨by simp, Sub.newer hs' hb5, (yrkk _ _ (fun e => by rw [e, hb5] at hc'; cases hc')).trans hc'⟩
  | 1, _ =>
    simp (config := {dsimp := false}) [↓ytbn, ↓ybjp, ↓yslf, ↓yyu0, ↓yrdl, ↓y2l3, ↓yl89, ↓y0ru, i1, f0]
    intro b5 _ hb5
    have n5 : b ≠ b5 := fun e => by rw [e, hb5] at hc'; cases hc'
    rw [and_d (by decide), or_dn (by decide)]
    have f1 := fun q (K : Value → Prop) (u : Dm K) => (hv'.mono (Sub.new (o := q) hb5)).ixf (k := .i64) (i := 0) (off := 0) (w := .int .u32 4096) (by simp) rfl (K := K) (u := u)
    simp (config := {dsimp := false}) at f1
    simp (config := {dsimp := false}) [↓yl89, ↓y0ru, n5, yb3e hc', f1]
    exact hk' (ptr b 0, .int .i64 1, vs, .int .i64 2, .int .i64 2) _ (by omega) ⟨by simp, Sub.newer hs' hb5, (yrkk _ _ n5).trans hc'⟩
  | 2, _ =>
    simp (config := {dsimp := false}) [↓ytbn, ↓ykxj, yb3e hc', i1]
    exact fun b2 _ hb2 => hk _ (Sub.newer hs' hb2)
end
end Go.Proofs.YtnckimioabkheaaGreat

set_option linter.unusedSimpArgs false
set_option linter.unusedVariables false
set_option maxRecDepth 100000
namespace Go.Proofs.YtnckimioabkheaaGreat
open AM
section
variable {h : H} {K : K1}
theorem yde1 {q : Nat} {vs vb : Value} {p : Int} (hq : h q = some (.cells [.int .u32 4096, vs] y33u .exact)) (hp : p = 5 ∨ p = 7) (hb : boxV vb = true) (hk : ∀ h', Sub h h' → K (.bool true) h') :
    AM.Spec PG yebs [.agg #[.int .u32 4096, .int .u32 1024, .int .i64 p, vb], ptr q 0] h K := by
  refine y2xa _ _ _ _ ?_
  rcases hp with rfl | rfl
  · simp (config := {dsimp := false}) [↓yyug, ↓y0yj, hb]
    intro b _ hbn
    have n1 : q ≠ b := fun e => by rw [e, hbn] at hq; cases hq
    simp (config := {dsimp := false}) [n1, yb3e hq]
    exact hk _ (Sub.new hbn)
  · simp (config := {dsimp := false}) [↓yyug, ↓y0yj, hb]
    intro b _ hbn
    have n1 : q ≠ b := fun e => by rw [e, hbn] at hq; cases hq
    simp (config := {dsimp := false}) [n1, yb3e hq]
    exact hk _ (Sub.new hbn)
theorem yzpr {vs vb vd : Value} {p : Int} (hv : Sl sgC 4 h vs [(4096, 1024, p, vb), (65536, 512, 3, vd)]) (hp : p = 5 ∨ p = 7) (hb : boxV vb = true) (hk : K (.bool true) h) :
    AM.Spec PG yi8e [.agg #[.int .u32 4096, vs]] h K := by
  refine yz7m (fun K hk => ?_) hk
  refine y19z _ _ _ ?_
  have hvb := hv.box
  unfold y4bu y20u
  simp (config := {dsimp := false}) [hvb]
  intro b _ hbn
  have hs : Sub h (upd h b (.cells [.int .u32 4096, vs] y33u .exact)) := Sub.new hbn
  have hc := yy0e h b (.cells [.int .u32 4096, vs] y33u .exact)
  generalize upd h b _ = h1 at *
  have hv1 := hv.mono hs
  refine ⟨rfl, by simp [hvb], ygzv _ _ _ _ ?_⟩
  unfold ynzg ymv4
  refine ⟨by simp [hvb], y3hq _ _ _ _ ?_⟩
  simp (config := {dsimp := false}) [↓ysgb, ↓ypgx, ↓yiqk, ↓yu4k, hv1.ulen]
  unfold ykfk ys1p
  refine yq9z fun K' => ?_
  have i0 := fun (K : Value → Prop) (u : Dm K) => hv1.ixA (k := .i64) (i := 0) (by simp) (K := K) (u := u)
  simp (config := {dsimp := false}) [sgC] at i0
  simp (config := {dsimp := false}) [↓y1pu, i0]
  refine ⟨by simp [hb], by kernel_rfl, yde1 hc hp hb fun h2 hs2 => ?_⟩
  have hc2 := hs2 _ _ hc
  simp (config := {dsimp := false}) [yb3e hc2]
  exact hk _ (hs.trans hs2)
theorem Sl.formL {α : Type} {enc : α → List Value} {sz : Nat} {v : Value} {l : List α} (hs : Sl enc sz h v l) : ∃ a c, v = .slice a l.length c := by
  obtain ⟨_, ⟨rfl, rfl⟩ | ⟨b, o, c, rfl, _⟩⟩ := hs
  · exact ⟨_, _, rfl⟩
  · exact ⟨_, _, rfl⟩
theorem yjdc {q i n c sz : Nat} {k : IntKind} {K : Value → Prop} {u : Dm K} (hi : i ≤ c) : y4a7 sz (.slice (some ⟨q, 0, none⟩) n c) none (some (.int k i)) none K u = K (.slice (some ⟨q, 0, none⟩) i c) := by
  refine propext ⟨?_, fun hk => ⟨0, i, rfl, rfl, Nat.zero_le _, hi, by simpa using hk⟩⟩
  rintro ⟨l, u, h1, h2, _, _, h5⟩
  simp only at h1 h2
  subst h1
  have : i = u := by omega
  subst this
  simpa using h5
theorem y5xs {vs vb vd : Value} {p : Int} {bs data : List Int} (hv : Sl sgC 4 h vs [(4096, 1024, p, vb), (65536, 512, 3, vd)]) (hp : p = 5 ∨ p = 7) (hb : Sl u8V 1 h vb bs) (hd : Sl u8V 1 h vd data) (hvq : ∃ q, vs = .slice (some ⟨q, 0, none⟩) 2 2) (hbl : bs.length ≤ 1024) (hdl : data.length ≤ 512) (hk : K (.int .i64 0) h) :
    AM.Spec PG y45l [.agg #[.int .u32 4096, vs]] h K := by
  refine yz7m (fun K hk => ?_) hk
  refine yl4o _ _ _ ?_
  have hvb := hv.box
  obtain ⟨za, zc, rfl⟩ := Sl.formL hb
  obtain ⟨ya, yc, rfl⟩ := Sl.formL hd
  have hm0 : yaom 4096 1024 p za bs.length zc = true := by
    unfold yaom
    rw [w_u64 (x := (bs.length : Int)) (by omega) (by omega)]
    have e1 : IntKind.u64.wrap 1024 = 1024 := by decide
    have e2 : IntKind.u64.wrap (IntKind.u64.wrap 4096 + 1024) = 5120 := by decide
    rw [e1, e2]
    simp
    omega
  have hm1 : yaom 65536 512 3 ya data.length yc = true := by
    unfold yaom
    rw [w_u64 (x := (data.length : Int)) (by omega) (by omega)]
    have e1 : IntKind.u64.wrap 512 = 512 := by decide
    have e2 : IntKind.u64.wrap (IntKind.u64.wrap 65536 + 512) = 66048 := by decide
    rw [e1, e2]
    simp
    omega
  have wb : IntKind.u64.wrap (bs.length : Int) = bs.length := w_u64 (by omega) (by omega)
  have wd : IntKind.u64.wrap (data.length : Int) = data.length := w_u64 (by omega) (by omega)
  have wbd : IntKind.u64.wrap ((bs.length : Int) + data.length) = bs.length + data.length := w_u64 (by omega) (by omega)
  unfold ydlt yfmg
  simp (config := {dsimp := false}) [hvb]
  intro b _ hbn
  have hs : Sub h (upd h b (.cells [.int .u32 4096, vs] y33u .exact)) := Sub.new hbn
  have hc := yy0e h b (.cells [.int .u32 4096, vs] y33u .exact)
  generalize upd h b _ = h1 at *
  simp (config := {dsimp := false}) [↓y6t9, ↓y92v, yb3e hc, (hv.mono hs).ulen]
  unfold y9fv yuff
  refine yo1k 2 (fun i s h' => s = (ptr b 0, .int .u64 (if i = 0 then 0 else if i = 1 then bs.length else bs.length + data.length), .int .u64 (if i = 0 then 0 else if i = 1 then 1024 else 1536), vs, .int .i64 2, .int .i64 i) ∧ Sub h h' ∧ h' b = some (.cells [.int .u32 4096, vs] y33u .exact)) ⟨rfl, hs, hc⟩ ?_
  rintro i s h' K' hi ⟨rfl, hs', hc'⟩ hk'
  have hv' := hv.mono hs'
  have i0 := fun (K : Value → Prop) (u : Dm K) => hv'.ixA (k := .i64) (i := 0) (by simp) (K := K) (u := u)
  have i1 := fun (K : Value → Prop) (u : Dm K) => hv'.ixA (k := .i64) (i := 1) (by simp) (K := K) (u := u)
  simp (config := {dsimp := false}) [sgC] at i0 i1
  match i, hi with
  | 0, _ =>
    simp (config := {dsimp := false}) [↓yqw3, i0, hb.box, hm0, wb]
    intro b5 _ hb5
    have n5 : b ≠ b5 := fun e => by rw [e, hb5] at hc'; cases hc'
    exact hk' (ptr b 0, .int .u64 bs.length, .int .u64 1024, vs, .int .i64 2, .int .i64 1) _ (by omega) ⟨by simp, Sub.newer hs' hb5, (yrkk _ _ n5).trans hc'⟩
  | 1, _ =>
    simp (config := {dsimp := false}) [↓yqw3, i1, hd.box, hm1, wd, wbd]
    intro b5 _ hb5
    have n5 : b ≠ b5 := fun e => by rw [e, hb5] at hc'; cases hc'
    exact hk' (ptr b 0, .int .u64 (bs.length + data.length), .int .u64 1536, vs, .int .i64 2, .int .i64 2) _ (by omega) ⟨by simp, Sub.newer hs' hb5, (yrkk _ _ n5).trans hc'⟩
  | 2, _ =>
    have q1 : ¬ (65536 : Int) < (bs.length : Int) + data.length := by omega
    simp (config := {dsimp := false}) [↓yqw3, ↓ypec, ↓yagd, ↓yqhm, yb3e hc', hv'.ulen, q1]
    clear hk'
    unfold yof2 ydqv
    obtain ⟨q, rfl⟩ := hvq
    refine yo1k 2 (fun i s h' => s = (ptr b 0, .slice (some ⟨q, 0, none⟩) 2 2, .int .i64 2, .int .i64 i) ∧ Sub h h' ∧ h' b = some (.cells [.int .u32 4096, .slice (some ⟨q, 0, none⟩) 2 2] y33u .exact)) ⟨rfl, hs', hc'⟩ ?_
    clear hs' hc' hv' i0 i1
    rintro i s h' K' hi ⟨rfl, hs', hc'⟩ hk'
    have hv' := hv.mono hs'
    have i0 := fun (K : Value → Prop) (u : Dm K) => hv'.ixA (k := .i64) (i := 0) (by simp) (K := K) (u := u)
    have i1 := fun (K : Value → Prop) (u : Dm K) => hv'.ixA (k := .i64) (i := 1) (by simp) (K := K) (u := u)
    simp (config := {dsimp := false}) [sgC] at i0 i1
    obtain ⟨c0, c1⟩ : cellsAt h' q 0 4 = some [.int .u32 4096, .int .u32 1024, .int .i64 p, .slice za bs.length zc] ∧ cellsAt h' q 4 4 = some [.int .u32 65536, .int .u32 512, .int .i64 3, .slice ya data.length yc] := by
      obtain ⟨_, ⟨he, _⟩ | ⟨b', o', c', h1, h2⟩⟩ := hv'
      · cases he
      · simp only [Value.slice.injEq, Option.some.injEq, Addr.mk.injEq] at h1
        obtain ⟨⟨rfl, rfl, _⟩, _, rfl⟩ := h1
        have h3 := h2 (by simp)
        exact ⟨yt82 (m := 0) h3 (by simp), yt82 (o := 0) (m := 4) h3 (by simp)⟩
    match i, hi with
    | 0, _ =>
      simp (config := {dsimp := false}) [↓yhqq, ↓ycnj, ↓y2xm, ↓y0mn, c0]
      intro b8 _ hb8
      have n8 : b ≠ b8 := fun e => by rw [e, hb8] at hc'; cases hc'
      have hst := fun (K : Value → Prop) (u : Dm K) => yjdc (q := q) (i := 0) (n := 2) (c := 2) (sz := 4) (k := .i64) (K := K) (u := u) (by omega)
      simp (config := {dsimp := false}) at hst
      simp (config := {dsimp := false}) [n8, yb3e hc', hst]
      unfold yw6q yh3o
      refine yq9z fun K2 => ?_
      simp (config := {dsimp := false}) [↓yw83, ↓yyez]
      exact hk' (ptr b 0, .slice (some ⟨q, 0, none⟩) 2 2, .int .i64 2, .int .i64 1) _ (by omega) ⟨by simp, Sub.newer hs' hb8, (yrkk _ _ n8).trans hc'⟩
    | 1, _ =>
      simp (config := {dsimp := false}) [↓yhqq, ↓ycnj, ↓y2xm, ↓y0mn, c1]
      intro b8 _ hb8
      have n8 : b ≠ b8 := fun e => by rw [e, hb8] at hc'; cases hc'
      have hst := fun (K : Value → Prop) (u : Dm K) => yjdc (q := q) (i := 1) (n := 2) (c := 2) (sz := 4) (k := .i64) (K := K) (u := u) (by omega)
      simp (config := {dsimp := false}) at hst
      simp (config := {dsimp := false}) [n8, yb3e hc', hst]
      have s8 := Sub.new (o := .cells [.int .u32 65536, .int .u32 512, .int .i64 3, .slice ya data.length yc] ym0k .exact) hb8
      have e8 := yy0e h' b8 (.cells [.int .u32 65536, .int .u32 512, .int .i64 3, .slice ya data.length yc] ym0k .exact)
      have eb := s8 _ _ hc'
      have sx := Sub.trans hs' s8
      have d0 := s8.cellsAt c0
      generalize upd h' b8 _ = h8 at *
      unfold yw6q yh3o
      refine yo1k 1 (fun j s h2 => s = (ptr b 0, ptr b8 0, .slice (some ⟨q, 0, none⟩) 2 2, .int .i64 2, .int .i64 1, .slice (some ⟨q, 0, none⟩) 1 2, .int .i64 1, .int .i64 j) ∧ Sub h8 h2) ⟨rfl, Sub.refl _⟩ ?_
      rintro j s h2 K2 hj ⟨rfl, s2⟩ hk2
      have eb2 := s2 _ _ eb
      have e82 := s2 _ _ e8
      match j, hj with
      | 0, _ =>
        simp (config := {dsimp := false}) [↓yw83, s2.cellsAt d0]
        intro b10 _ hb10
        have n10 : b8 ≠ b10 := fun e => by rw [e, hb10] at e82; cases e82
        simp (config := {dsimp := false}) [n10, yzql e82]
        rw [if_pos (by unfold ym5a ywor; decide)]
        exact hk2 (ptr b 0, ptr b8 0, .slice (some ⟨q, 0, none⟩) 2 2, .int .i64 2, .int .i64 1, .slice (some ⟨q, 0, none⟩) 1 2, .int .i64 1, .int .i64 1) _ (by omega) ⟨by simp, Sub.newer s2 hb10⟩
      | 1, _ =>
        simp (config := {dsimp := false}) [↓yw83, ↓yyez]
        exact hk' (ptr b 0, .slice (some ⟨q, 0, none⟩) 2 2, .int .i64 2, .int .i64 2) _ (by omega) ⟨by simp, Sub.trans sx s2, eb2⟩
    | 2, _ =>
      simp (config := {dsimp := false}) [↓yhqq, ↓ypzm, yzql hc']
      refine ⟨rfl, yzpr hv' hp hb.box ?_⟩
      simp (config := {dsimp := false})
      exact hk _ hs'
end
end Go.Proofs.YtnckimioabkheaaGreat

set_option linter.unusedSimpArgs false
set_option linter.unusedVariables false
set_option maxRecDepth 100000
namespace Go.Proofs.YtnckimioabkheaaGreat
open AM
theorem y8k7 {h : H} {b : Nat} {o : AObj} (hb : h b = some o) : upd h b o = h := by
  funext c
  unfold upd
  by_cases hc : c = b
  · subst hc; simp [hb]
  · simp [hc]
def yadi (v : Int) (i : Nat) : Int := IntKind.u8.wrap (v.fdiv (2 ^ min (8 * i) 32))
def put4 (bs : List Int) (at_ : Nat) (v : Int) : Nat → List Int
  | 0 => bs
  | i + 1 => (put4 bs at_ v i).set (at_ + i) (yadi v i)
theorem yfw8 {bs : List Int} {at_ : Nat} {v : Int} : ∀ i, (put4 bs at_ v i).length = bs.length
  | 0 => rfl
  | i + 1 => by simp [put4, yfw8 i]
theorem yd4z {n at_ : Nat} : ∀ i, put4 (List.replicate n 0) at_ 0 i = List.replicate n 0
  | 0 => rfl
  | i + 1 => by
    rw [put4, yd4z i]
    have : yadi 0 i = 0 := by unfold yadi; simp
    rw [this]
    simp
def stkB : List Int := List.replicate 4096 0
theorem y5r7 : stkB.length = 4096 := List.length_replicate
theorem ynbh : ∀ x ∈ stkB, 0 ≤ x ∧ x < 256 := fun x hx => by have := (List.mem_replicate.1 hx).2; omega
theorem yk6e {at_ i : Nat} : put4 stkB at_ 0 i = stkB := yd4z i
section
variable {h : H} {K : K1}
theorem yaj7 {q c : Nat} {E : TypeId} {m : AM.Own} {bs : List Int} {at_ : Nat} {v : Int} (hq : h q = some (.cells (bs.map (.int .u8)) E m)) (hm : m ≠ .ro) (hat : at_ + 4 ≤ bs.length) (hl : bs.length < 1000000)
    (hk : K (.tuple #[]) (upd h q (.cells ((put4 bs at_ v 4).map (.int .u8)) E m))) : AM.Spec PG y3rk [.slice (some ⟨q, 0, none⟩) bs.length c, .int .i64 at_, .int .u32 v] h K := by
  refine y8pi _ _ _ _ _ ?_
  unfold y5cc yqvc yhj6 ypfd
  refine yo1k 4 (fun i s h' => s = (.slice (some ⟨q, 0, none⟩) bs.length c, .int .i64 at_, .int .u32 v, .int .i64 i) ∧ h' = upd h q (.cells ((put4 bs at_ v i).map (.int .u8)) E m)) ⟨rfl, (y8k7 hq).symm⟩ ?_
  rintro i s h' K' hi ⟨rfl, rfl⟩ hk'
  by_cases hlt : i < 4
  · have w1 : IntKind.i64.wrap ((at_ : Int) + i) = ((at_ + i : Nat) : Int) := by rw [w_i64 (by omega) (by omega)]; omega
    have w2 : IntKind.i64.wrap (8 * (i : Int)) = ((8 * i : Nat) : Int) := by rw [w_i64 (by omega) (by omega)]; omega
    have w3 : IntKind.i64.wrap ((i : Int) + 1) = ((i + 1 : Nat) : Int) := by rw [w_i64 (by omega) (by omega)]; omega
    have d1 : decide ((i : Int) < 4) = true := by simp; omega
    have hl2 := yfw8 (bs := bs) (at_ := at_) (v := v) i
    simp (config := {dsimp := false}) only [↓ybq4, s_lss, d1, s_if, if_true, s_add, w1, s_mul, w2]
    rw [s_shr (by omega), ym88, s_ia, w1, Int.toNat_natCast, Int.toNat_natCast]
    refine ⟨by omega, by omega, ?_⟩
    rw [ykdp, yy0e]
    refine ⟨hm, rfl, rfl, by simp; omega, ?_⟩
    rw [yre8]
    simp (config := {dsimp := false}) only [s_add, w3]
    refine hk' _ _ hlt ⟨rfl, ?_⟩
    rw [put4]
    congr 2
    have e0 : 0 + (at_ + i) * 1 = at_ + i := by omega
    rw [e0]
    simp [yadi, IntKind.bits]
  · have d1 : decide ((i : Int) < 4) = false := by simp; omega
    simp (config := {dsimp := false}) only [↓ybq4, s_lss, d1, s_if, if_false]
    have : i = 4 := by omega
    subst this
    simpa using hk
theorem yqp9 (hk : K (.bool true) h) : AM.Spec PG ygag [nilV] h K := by
  refine ypqv _ _ _ ?_
  simp (config := {dsimp := false}) [↓ymcy, ↓ygpf, ↓yf8n, ↓yh7p, ↓yoq9]
  unfold y5o2
  refine yq9z fun K' => ?_
  simp (config := {dsimp := false}) [↓ys8i, ↓yovo]
  exact hk
theorem ydbw {a : Option Addr} {c : Nat} {s : ByteArray} {u : Dm K} : yyhb 1 (.slice a 0 c) (.string s) h K u = K (.int .i64 0) h := by
  show y1uk 1 _ _ h K = _
  unfold y1uk
  simp [srcLen, yc23]
theorem yx25 : ∀ n, ybp0 [.int .u8 0] n = (List.replicate n (0 : Int)).map (Value.int .u8)
  | 0 => rfl
  | n + 1 => by rw [ybp0, yx25 n]; rfl
theorem ykv0 (hk : ∀ q h', Sub h h' → h q = none → 2 ≤ q → h' q = some (.cells (stkB.map (.int .u8)) yoj6 .exact) → K (.tuple #[.slice (some ⟨q, 0, none⟩) 4096 4096, .int .u32 2147479536, nilV, .int .i64 0]) h') :
    AM.Spec PG ybm3 [nilV] h K := by
  refine ybpt _ _ _ ?_
  unfold y2v2 y44k
  refine ⟨rfl, yqp9 ?_⟩
  simp (config := {dsimp := false}) [↓yfbt, ↓ygdq, ↓y6te]
  unfold yusv
  refine yq9z fun K' => ?_
  have e0 : (({ data := #[] } : ByteArray).size : Int) = 0 := rfl
  simp (config := {dsimp := false}) [↓ypsh, ↓ysxt, e0]
  refine ⟨rfl, by decide, by decide, by decide, by decide, by decide, fun q hq2 hq => ?_⟩
  rw [yx25]
  have e4 : Int.toNat 4096 = 4096 := rfl
  rw [e4]
  have eb : List.replicate 4096 (0 : Int) = stkB := rfl
  rw [eb]
  refine ⟨4096, 4096, rfl, rfl, by decide, by decide, ?_⟩
  have e1 : ¬ (4096 = 0) := by decide
  have e2 : ¬ (4096 < 4096) := by decide
  rw [if_neg e1, if_neg e2]
  have hqq := yy0e h q (.cells (stkB.map (.int .u8)) yoj6 .exact)
  have hsn : Sub h (upd h q (.cells (stkB.map (.int .u8)) yoj6 .exact)) := Sub.new hq
  have hlen := y5r7
  have hcc : ∀ {K : K1}, K (.tuple #[]) (upd h q (.cells (stkB.map (.int .u8)) yoj6 .exact)) → AM.Spec PG y3rk [.slice (some ⟨q, 0, none⟩) 4096 4096, .int .i64 4080, .int .u32 0] (upd h q (.cells (stkB.map (.int .u8)) yoj6 .exact)) K := fun {K} hk => by
    have := yaj7 (K := K) (c := 4096) (at_ := 4080) (v := 0) hqq (by simp) (by rw [hlen]; decide) (by rw [hlen]; decide) (by rw [yk6e, yre8]; exact hk)
    rw [hlen] at this
    exact this
  generalize stkB.map (Value.int .u8) = cs at *
  simp (config := {dsimp := false}) [ydbw, e0]
  refine ⟨rfl, hcc ?_⟩
  simp (config := {dsimp := false}) [↓yt2s, ↓y38p, ↓yxzz]
  unfold yh44
  refine yq9z fun K' => ?_
  simp (config := {dsimp := false}) [↓y8g9, ↓yh6i]
  exact hk q _ hsn hq hq2 hqq
end
end Go.Proofs.YtnckimioabkheaaGreat

set_option linter.unusedSimpArgs false
set_option linter.unusedVariables false
set_option maxRecDepth 100000
namespace Go.Proofs.YtnckimioabkheaaGreat
open AM
structure MC where
  q : Value
  s : Value
  x : List Int
  pc : Int
  ret : Int
  t : List Int
  f : Value
  pp : Bool
  src : Value
  snk : Value
  brk : Int
  flo : Int
  al : Value
def MC.rest (c : MC) : List Value := [c.f, .bool c.pp, c.src, c.snk, .int .u32 c.brk, .int .u32 c.flo, c.al]
def MC.cells (c : MC) : List Value := [c.q, c.s] ++ (c.x.map (.int .u32) ++ ([.int .u32 c.pc, .int .i64 c.ret] ++ (c.t.map (.int .u8) ++ c.rest)))
structure MC.Ok (c : MC) : Prop where
  x : c.x.length = 32
  t : c.t.length = 128
section
variable {c : MC}
theorem MC.len (h : c.Ok) : c.cells.length = 171 := by
  have h1 := h.x
  have h2 := h.t
  simp [MC.cells, MC.rest, h1, h2]
theorem MC.drop34 (h : c.Ok) : c.cells.drop 34 = [.int .u32 c.pc, .int .i64 c.ret] ++ (c.t.map (.int .u8) ++ c.rest) := by
  have h1 := h.x
  unfold MC.cells
  rw [← List.append_assoc]
  exact List.drop_left' (by simp [h1])
theorem MC.drop164 (h : c.Ok) : c.cells.drop 164 = c.rest := by
  have h1 := h.x
  have h2 := h.t
  unfold MC.cells
  rw [← List.append_assoc, ← List.append_assoc, ← List.append_assoc]
  exact List.drop_left' (by simp [h1, h2])
theorem MC.at_d (h : c.Ok) {i k : Nat} {l : List Value} (hd : c.cells.drop k = l) : c.cells[k + i]? = l[i]? := by rw [← hd, List.getElem?_drop]
theorem MC.at_0 : c.cells[0]? = some c.q := rfl
theorem MC.at_1 : c.cells[1]? = some c.s := rfl
theorem MC.at_pc (h : c.Ok) : c.cells[34]? = some (.int .u32 c.pc) := MC.at_d (i := 0) h (MC.drop34 h)
theorem MC.at_ret (h : c.Ok) : c.cells[35]? = some (.int .i64 c.ret) := MC.at_d (i := 1) h (MC.drop34 h)
theorem MC.at_src (h : c.Ok) : c.cells[166]? = some c.src := MC.at_d (i := 2) h (MC.drop164 h)
theorem MC.at_flo (h : c.Ok) : c.cells[169]? = some (.int .u32 c.flo) := MC.at_d (i := 5) h (MC.drop164 h)
theorem MC.set_q {v : Value} : c.cells.set 0 v = { c with q := v }.cells := rfl
theorem MC.set_s {v : Value} : c.cells.set 1 v = { c with s := v }.cells := rfl
theorem yavo {α : Type} {a b : List α} {i : Nat} {v : α} (h : a.length ≤ i) : (a ++ b).set i v = a ++ b.set (i - a.length) v := List.set_append_right _ _ h
theorem yeps {α : Type} {a b : List α} {i : Nat} {v : α} (h : i < a.length) : (a ++ b).set i v = a.set i v ++ b := List.set_append_left _ _ h
theorem MC.set_x (h : c.Ok) {i : Nat} (hi : i < 32) {v : Int} : c.cells.set (2 + i) (.int .u32 v) = { c with x := c.x.set i v }.cells := by
  have h1 := h.x
  unfold MC.cells
  rw [yavo (by simp), yeps (by simp; omega)]
  simp only [List.length_cons, List.length_nil, List.map_set]
  rw [show 2 + i - (0 + 1 + 1) = i by omega]
  rfl
theorem MC.set_pc (h : c.Ok) {v : Int} : c.cells.set 34 (.int .u32 v) = { c with pc := v }.cells := by
  have h1 := h.x
  unfold MC.cells
  rw [yavo (by simp), yavo (by simp [h1])]
  simp [h1, MC.rest]
theorem MC.set_r (h : c.Ok) {i : Nat} {v : Value} {c' : MC} (e : c'.q = c.q ∧ c'.s = c.s ∧ c'.x = c.x ∧ c'.pc = c.pc ∧ c'.ret = c.ret ∧ c'.t = c.t) (hr : c.rest.set i v = c'.rest) : c.cells.set (164 + i) v = c'.cells := by
  have h1 := h.x
  have h2 := h.t
  obtain ⟨e1, e2, e3, e4, e5, e6⟩ := e
  unfold MC.cells
  rw [yavo (by simp; omega), yavo (by simp [h1]; omega), yavo (by simp [h1]; omega), yavo (by simp [h1, h2]; omega), e1, e2, e3, e4, e5, e6, ← hr]
  congr 5
  simp [h1, h2]
  omega
theorem MC.set_brk (h : c.Ok) {v : Int} : c.cells.set 168 (.int .u32 v) = { c with brk := v }.cells := MC.set_r (i := 4) (c' := { c with brk := v }) h ⟨rfl, rfl, rfl, rfl, rfl, rfl⟩ rfl
end
section
variable {h0 h : H} {D : MD} {μ : MS} {K : K1}
theorem MemIn.base (hm : MemIn h0 D h μ) (hs : Sub h0 h) {q : Nat} {o : AObj} (hq : h q = some o) (hn : ¬ MOwn D μ q) : MemIn (upd h0 q o) D h μ ∧ Sub (upd h0 q o) h := by
  refine ⟨⟨hm.at_, fun b hb => ?_, hm.ne, hm.inj, hm.nd⟩, fun b x hb => ?_⟩
  · have hbq : b ≠ q := fun he => hn (by rw [← he]; exact hb)
    rw [yrkk _ _ hbq]; exact hm.new b hb
  · by_cases hbq : b = q
    · subst hbq; rw [yy0e] at hb; rw [hq]; exact hb
    · rw [yrkk _ _ hbq] at hb; exact hs _ _ hb
theorem MemIn.less {q : Nat} {o : AObj} (hm : MemIn (upd h0 q o) D h μ) : MemIn h0 D h μ := ⟨hm.at_, fun b hb => by
  have := hm.new b hb
  rw [ynej] at this
  exact this.2.2, hm.ne, hm.inj, hm.nd⟩
theorem MemIn.over (hm : MemIn h0 D h μ) {b : Nat} {q : AObj} (hb : ¬ MOwn D μ b) : MemIn h0 D (upd h b q) μ := by
  have e : ∀ c, MOwn D μ c → upd h b q c = h c := fun c hc => yrkk _ _ fun he => hb (he ▸ hc)
  refine ⟨⟨?_, ?_, ?_, ?_⟩, hm.new, hm.ne, hm.inj, hm.nd⟩
  · rw [e _ (.inl rfl)]; exact hm.at_.q
  · obtain ⟨ck, hh⟩ := hm.at_.pm
    exact ⟨ck, by rw [e _ (.inr (.inl rfl))]; exact hh⟩
  · obtain ⟨ck, hh⟩ := hm.at_.gm
    exact ⟨ck, by rw [e _ (.inr (.inr (.inl rfl)))]; exact hh⟩
  · intro p hp
    rw [e _ (.inr (.inr (.inr ⟨p, hp, rfl⟩)))]; exact hm.at_.pg p hp
theorem ys9b {h : H} {q c : Nat} {E : TypeId} {m : AM.Own} {f : Int → Value} {bs : List Int} (hq : h q = some (.cells (bs.map f) E m)) : Sl (fun x => [f x]) 1 h (.slice (some ⟨q, 0, none⟩) bs.length c) bs := by
  have hl : ∀ l : List Int, l.flatMap (fun x => [f x]) = l.map f := fun l => by induction l with | nil => rfl | cons x r ih => simp [ih]
  refine Sl.of_block (by simp) hq ?_ (by simp)
  rw [hl, List.drop_zero, Nat.mul_one]
  exact List.take_of_length_le (by simp)
def stkSg : Sg × List Int := ((2147475456, 4096, 3, nilV), stkB)
theorem yid5 (hm : MemIn h0 D h μ) (hw : MSok μ) (hz : MSz μ) (hsub : Sub h0 h)
    (hk : ∀ D' h', Went h0 D μ h D' (layF μ [stkSg]).2 h' → K (.tuple #[.int .u32 (if (layF μ [stkSg]).1 = 0 then 2147479536 else 0), nilV, .int .i64 (layF μ [stkSg]).1]) h') :
    AM.Spec PG yhhb [ptr D.q 0, nilV] h K := by
  refine y3ry _ _ _ _ ?_
  unfold yd9e yppp
  refine ⟨rfl, ykv0 fun q h1 s1 hq hq2 hqq => ?_⟩
  have hwt0 : Went h0 D μ h D μ h1 := ⟨hm.sub s1, rfl, fun b o _ hb => s1 b o hb, fun b hb => .inl hb⟩
  have hnq : ¬ MOwn D μ q := fun hc => by
    rcases hc with rfl | rfl | rfl | ⟨e, he, rfl⟩
    · have := hm.at_.q; rw [hq] at this; cases this
    · obtain ⟨ck, this⟩ := hm.at_.pm; rw [hq] at this; cases this
    · obtain ⟨ck, this⟩ := hm.at_.gm; rw [hq] at this; cases this
    · have := hm.at_.pg e he; rw [hq] at this; cases this
  obtain ⟨mb, sb⟩ := (hm.sub s1).base (hsub.trans s1) hqq hnq
  have hv : Sl (fun x : Int => [Value.int .u8 x]) 1 (upd h0 q (.cells (stkB.map (.int .u8)) yoj6 .exact)) (.slice (some ⟨q, 0, none⟩) 4096 4096) stkB := by
    have := ys9b (h := upd h0 q (.cells (stkB.map (.int .u8)) yoj6 .exact)) (c := 4096) (yy0e _ _ _)
    rw [y5r7] at this
    exact this
  simp only [layF, stkSg] at hk
  simp (config := {dsimp := false})
  refine ⟨rfl, yjn9 mb sb (by obtain ⟨z1, z2⟩ := hz; omega) (by decide) (by decide) (by decide) (by decide) fun E2 h2 m2 e2 f2 o2 => ?_⟩
  have hwA : Went h0 D μ h1 E2 (mapM μ 2147475456 4096 3) h2 := ⟨m2.less, e2, f2, o2⟩
  have hwt2 := hwt0.trans hwA
  by_cases he : mapE μ 2147475456 4096 3 = 0
  case neg =>
    have hmm : mapM μ 2147475456 4096 3 = μ := by simp [mapM, he]
    rw [hmm] at hwt2
    simp [he] at hk
    simp (config := {dsimp := false}) [he]
    exact hk E2 h2 hwt2
  simp only [he, ne_eq, not_true, if_false] at hk
  simp (config := {dsimp := false}) [he]
  have hq2' : D.q = E2.q := e2.symm
  rw [hq2']
  have s2 : Sub (upd h0 q (.cells (stkB.map (.int .u8)) yoj6 .exact)) h2 := f2.sub sb mb.new
  refine ⟨rfl, y91f m2 hw.map s2 (by decide) (by decide) ynbh hv (by rw [y5r7]; decide) fun h3 m3 f3 => ?_⟩
  have hwB : Went h0 E2 (mapM μ 2147475456 4096 3) h2 E2 (wrR (mapM μ 2147475456 4096 3) 2147475456 65536 0 stkB) h3 := ⟨m3.less, rfl, f3, fun b hb => .inl ((y2rr yk6i).1 hb)⟩
  have hwt3 := hwt2.trans hwB
  by_cases he2 : wrE (mapM μ 2147475456 4096 3) 2147475456 65536 0 stkB = 0
  case neg =>
    have hmm : wrR (mapM μ 2147475456 4096 3) 2147475456 65536 0 stkB = mapM μ 2147475456 4096 3 := by simp [wrR, he2]
    rw [hmm] at hwt3
    simp [he2] at hk
    simp (config := {dsimp := false}) [he2]
    exact hk E2 h3 hwt3
  simp [he2] at hk
  simp (config := {dsimp := false}) [he2]
  exact hk E2 h3 hwt3
end
end Go.Proofs.YtnckimioabkheaaGreat

set_option linter.unusedSimpArgs false
set_option linter.unusedVariables false
set_option maxRecDepth 100000
namespace Go.Proofs.YtnckimioabkheaaGreat
open AM
section
variable {h : H} {K : K1}
theorem yjhg (hk : K (.bool true) h) : AM.Spec PG ywke [noPol] h K := by
  refine yz7m (fun K hk => ?_) hk
  refine yxso _ _ _ ?_
  simp (config := {dsimp := false}) [↓y5ue, ↓y1gy]
  intro b _ hb
  have hs : Sub h (upd h b (.cells [.bool false, nilV, nilV] ysrv .exact)) := Sub.new hb
  have hc := yy0e h b (.cells [.bool false, nilV, nilV] ysrv .exact)
  generalize upd h b _ = h1 at *
  simp (config := {dsimp := false}) [↓y7gc, ↓y198, ↓yqes, yb3e hc]
  unfold y856
  refine yq9z fun K' => ?_
  simp (config := {dsimp := false}) [↓ylt6, ↓y56t, ↓yiih, ↓y5fc, yb3e hc]
  unfold yt3h
  refine yq9z fun K' => ?_
  simp (config := {dsimp := false}) [↓yrek, ↓ymcg, yb3e hc]
  exact hk _ hs
theorem y8mf (hk : K (.bool true) h) : AM.Spec PG yak4 [yh6o] h K := by
  refine yz7m (fun K hk => ?_) hk
  refine yrlf _ _ _ ?_
  simp (config := {dsimp := false}) [↓ykiw, ↓yukp]
  intro b _ hb
  have hs : Sub h (upd h b (.cells [nilV, nilV, nilV, nilV, nilV, nilV] y5c0 .exact)) := Sub.new hb
  have hc := yy0e h b (.cells [nilV, nilV, nilV, nilV, nilV, nilV] y5c0 .exact)
  generalize upd h b _ = h1 at *
  simp (config := {dsimp := false}) [↓ykqk, ↓yxd7, ↓yj7y, yb3e hc]
  unfold yecb
  refine yq9z fun K' => ?_
  simp (config := {dsimp := false}) [↓yzcq, ↓yrvm, ↓yctv, ↓y67r, yb3e hc]
  unfold y3g7
  refine yq9z fun K' => ?_
  simp (config := {dsimp := false}) [↓y5l6, ↓y1zn, ↓ym1c, ↓yq1z, yb3e hc]
  unfold y38c
  refine yq9z fun K' => ?_
  simp (config := {dsimp := false}) [↓y0rw, ↓yt7z, yb3e hc]
  exact hk _ hs
abbrev use7 : List Value := [nilV, nilV, nilV, nilV, nilV, nilV, .int .i64 0, .int .i64 0, .int .i64 0]
theorem yfsy (hk : ∀ q h', Sub h h' → h q = none → h' q = some (.cells use7 yxsr .exact) → K (ptr q 0) h') : AM.Spec PG ygvy [yh6o] h K := by
  refine y6h7 _ _ _ ?_
  simp (config := {dsimp := false}) [↓y8a3, ↓ylli]
  intro b _ hb
  have hs : Sub h (upd h b (.cells [nilV, nilV, nilV, nilV, nilV, nilV] y5c0 .exact)) := Sub.new hb
  have hc := yy0e h b (.cells [nilV, nilV, nilV, nilV, nilV, nilV] y5c0 .exact)
  generalize upd h b _ = h1 at *
  refine ⟨rfl, y8mf ?_⟩
  simp (config := {dsimp := false}) [yzql hc]
  intro q _ hq
  exact hk q _ (Sub.upd hs (Sub.none hs hq)) (Sub.none hs hq) (yy0e _ _ _)
def openC (fd file at_ : Int) : List Value := [.int .i64 fd, .int .i64 file, .int .i64 at_]
theorem yxk1 (hk : ∀ f q o h', Sub h h' → h f = none → h q = none → h o = none → h' f = some (.cells [ptr q 0, .slice (some ⟨o, 0, none⟩) 3 3, nilV, nilV] ydrn .exact) →
    h' q = some (.cells use7 yxsr .exact) → h' o = some (.cells (openC 0 (-1) 0 ++ openC 1 (-2) 0 ++ openC 2 (-2) 0) yukk .exact) → K (ptr f 0) h') : AM.Spec PG ybvf [yh6o] h K := by
  refine yigq _ _ _ ?_
  simp (config := {dsimp := false}) [↓y6jv, ↓y0it]
  intro b _ hb
  have hs : Sub h (upd h b (.cells [nilV, nilV, nilV, nilV, nilV, nilV] y5c0 .exact)) := Sub.new hb
  generalize upd h b _ = h1 at *
  refine ⟨rfl, yfsy fun q h2 s2 hq hqc => ?_⟩
  have hs2 := hs.trans s2
  simp (config := {dsimp := false})
  intro o _ ho f _ n1 n2 hf
  have m1 : q ≠ o := fun e => by rw [← e, hqc] at ho; cases ho
  have m2 : q ≠ f := fun e => by rw [← e, hqc] at hf; cases hf
  exact hk f q o _ (Sub.upd (Sub.upd hs2 (Sub.none hs2 ho)) (Sub.none hs2 hf)) (Sub.none hs2 hf) (Sub.none hs hq) (Sub.none hs2 ho) (yy0e _ _ _) (by rw [yrkk _ _ m2, yrkk _ _ m1]; exact hqc) (by rw [yrkk _ _ n2, yy0e]; rfl)
theorem yben {v : Int} (hk : ∀ w h', Sub h h' → Sl u8V 1 h' w (word4 v) → capOk w → K w h') : AM.Spec PG yfwh [nilV, .int .u32 v] h K := by
  refine y4po _ _ _ _ ?_
  simp (config := {dsimp := false}) [↓y3hh, ↓yvgt]
  intro c hc2 hcn
  refine OL.app (m := []) (OL.empty (enc := u8V) hc2 (by simp)) Sl.nil (by omega) (by simp) (by simp) fun v1 h1 b1 o1 c1 f1 => ?_
  have s1 : Sub h (upd h c (.cells [] yoj6 .exact)) := Sub.new hcn
  have k1 := c1.sub s1 (fun d hd => by cases hd; exact hcn)
  simp (config := {dsimp := false})
  refine OL.push (m := word4 v) o1 (by simp [word4]) (by omega) (by simp [word4]) (by simp [word4]) (fun v2 h2 b2 o2 c2 => ?_) rfl rfl
  have k2 := c2.sub k1.1 k1.2
  rw [List.append_nil, List.nil_append] at o2
  exact hk _ _ k2.1 o2.sl o2.cap
theorem ycqb {bs : List Int} {o n : Nat} (hb : bs = List.replicate n 0) : ∀ k, setL (bs.map (Value.int .u8)) o (List.replicate k (Value.int .u8 0)) = bs.map (Value.int .u8) := by
  intro k
  subst hb
  induction k generalizing o with
  | zero => simp
  | succ k ih =>
    rw [List.replicate_succ, yf16, List.map_replicate, List.set_replicate_self]
    have := ih (o := o + 1)
    rw [List.map_replicate] at this
    exact this
theorem yvad (hk : ∀ q h', Sub h h' → h q = none → 2 ≤ q → h' q = some (.cells (stkB.map (.int .u8)) yoj6 .exact) → K (.tuple #[.slice (some ⟨q, 0, none⟩) 4096 4096, .int .u32 2147479536, nilV, .int .i64 0]) h') :
    AM.Spec PG yujl [nilV] h K := by
  refine y8kb _ _ _ ?_
  simp (config := {dsimp := false}) [↓yy9w, ↓y6bz, ↓y0my, ↓yq1v, ↓ywwt]
  unfold yfef
  refine yq9z fun K' => ?_
  simp (config := {dsimp := false}) [↓y19o, ↓ys2n]
  refine ⟨rfl, by decide, by decide, by decide, by decide, by decide, fun q hq2 hq => ?_⟩
  rw [yx25]
  have e4 : Int.toNat 4096 = 4096 := rfl
  rw [e4]
  have eb : List.replicate 4096 (0 : Int) = stkB := rfl
  rw [eb]
  have hqq := yy0e h q (.cells (stkB.map (.int .u8)) yoj6 .exact)
  have hsn : Sub h (upd h q (.cells (stkB.map (.int .u8)) yoj6 .exact)) := Sub.new hq
  have hlen : (stkB.map (Value.int .u8)).length = 4096 := by rw [List.length_map]; exact y5r7
  have hset : ∀ o k, setL (stkB.map (Value.int .u8)) o (List.replicate k (Value.int .u8 0)) = stkB.map (Value.int .u8) := fun o k => ycqb (n := 4096) rfl k
  generalize stkB.map (Value.int .u8) = cs at *
  simp (config := {dsimp := false})
  refine ⟨rfl, yben fun w h2 s2 hw hcw => ?_⟩
  have hq2c := s2 _ _ hqq
  simp (config := {dsimp := false}) [↓ylwr, ↓yo7x, ↓ybpq]
  unfold ytbe
  refine yq9z fun K' => ?_
  simp (config := {dsimp := false}) [↓yd1i, ↓yvdo]
  refine ⟨4080, 4096, rfl, rfl, by decide, by decide, ?_⟩
  rw [if_neg (by decide), if_pos (by decide)]
  have ew : word4 0 = [0, 0, 0, 0] := rfl
  rw [ew] at hw
  have hl4 := hw.srcLen
  have hsrc := hw.src
  simp only [List.length_cons, List.length_nil] at hl4 hsrc
  show y1uk 1 (.slice (some ⟨q, 0 + 4080 * 1, none⟩) (4096 - 4080) (4096 - 4080)) w h2 _
  unfold y1uk
  simp only [hl4]
  have e5 : Nat.min 4 (4096 - 4080) = 4 := rfl
  rw [e5, hsrc]
  simp only [hq2c]
  rw [if_neg (by decide)]
  refine ⟨by decide, by rw [hlen]; decide, rfl, ?_⟩
  have e6 : [0, 0, 0, 0].flatMap u8V = List.replicate 4 (Value.int .u8 0) := rfl
  rw [e6, hset]
  have hself := y8k7 hq2c
  rw [hself]
  simp (config := {dsimp := false})
  exact hk q _ (hsn.trans s2) hq hq2 hq2c
end
end Go.Proofs.YtnckimioabkheaaGreat

set_option linter.unusedSimpArgs false
set_option linter.unusedVariables false
set_option maxRecDepth 100000
namespace Go.Proofs.YtnckimioabkheaaGreat
open AM
def y2g0 (h : H) (v : Value) : Prop := ∃ f q o, v = ptr f 0 ∧ h f = some (.cells [ptr q 0, .slice (some ⟨o, 0, none⟩) 3 3, nilV, nilV] ydrn .exact) ∧
  h q = some (.cells use7 yxsr .exact) ∧ h o = some (.cells (openC 0 (-1) 0 ++ openC 1 (-2) 0 ++ openC 2 (-2) 0) yukk .exact)
theorem y2g0.sub {h h' : H} {v : Value} (hs : Sub h h') (hf : y2g0 h v) : y2g0 h' v := by
  obtain ⟨f, q, o, h1, h2, h3, h4⟩ := hf
  exact ⟨f, q, o, h1, hs _ _ h2, hs _ _ h3, hs _ _ h4⟩
def y03k : CE := .grow (fun args _ => args = [yh6o]) (fun _ h v => y2g0 h v) (fun _ _ _ _ h => h) (fun _ _ _ _ hs h => h.sub hs)
@[simp] theorem ylv8 {args : List Value} {h : H} {K : K1} : CE.run y03k args h K = (args = [yh6o] ∧ ∀ v h', Sub h h' → y2g0 h' v → K v h') := rfl
def D6 : CT := ctOf [(ybvf, y03k)] E5
theorem D6_ok : CTOk PG D6 := yko4 E5_ok (by
  intro x hx args h K hr
  simp only [List.mem_cons, List.not_mem_nil, or_false] at hx
  subst hx
  obtain ⟨rfl, hr⟩ := hr
  exact yxk1 fun f q o h' hs _ _ _ h1 h2 h3 => hr _ _ hs ⟨f, q, o, rfl, h1, h2, h3⟩)
end Go.Proofs.YtnckimioabkheaaGreat

set_option linter.unusedVariables false
set_option maxRecDepth 100000
namespace Go.Proofs.YtnckimioabkheaaGreat
open Go.Proofs.YtnckimioabkheaaGreat.AM
@[simp] theorem yh5f {a0 : Int} {K : Value → Prop} {u : Dm K} : ysnr PG ycje [(0, .int .i64 a0)] K u = K (.agg #[.int .i64 a0, .slice none 0 0]) := by kernel_rfl
@[simp] theorem ysut {a0 : Int} {K : Value → Prop} {u : Dm K} : ysnr PG yxex [(0, .int .i64 a0)] K u = K (.agg #[.int .i64 a0, .slice none 0 0, .slice none 0 0]) := by kernel_rfl
@[simp] theorem y55d {a0 : Option Addr} {a1 : Option Addr} {a4 : Option Addr} {a5_0 : Bool} {a5_1a : Option Addr} {a5_1n : Nat} {a5_1c : Nat} {a5_2a : Option Addr} {a5_2n : Nat} {a5_2c : Nat} {K : Value → Prop} {u : Dm K} : ysnr PG yb54 [(0, .pointer a0), (1, .pointer a1), (4, .pointer a4), (5, .agg #[.bool a5_0, .slice a5_1a a5_1n a5_1c, .slice a5_2a a5_2n a5_2c])] K u = K (.agg #[.pointer a0, .pointer a1, .int .u32 0, .int .u32 0, .int .u32 0, .int .u32 0, .int .u32 0, .int .u32 0, .int .u32 0, .int .u32 0, .int .u32 0, .int .u32 0, .int .u32 0, .int .u32 0, .int .u32 0, .int .u32 0, .int .u32 0, .int .u32 0, .int .u32 0, .int .u32 0, .int .u32 0, .int .u32 0, .int .u32 0, .int .u32 0, .int .u32 0, .int .u32 0, .int .u32 0, .int .u32 0, .int .u32 0, .int .u32 0, .int .u32 0, .int .u32 0, .int .u32 0, .int .u32 0, .int .u32 0, .int .i64 0, .int .u8 0, .int .u8 0, .int .u8 0, .int .u8 0, .int .u8 0, .int .u8 0, .int .u8 0, .int .u8 0, .int .u8 0, .int .u8 0, .int .u8 0, .int .u8 0, .int .u8 0, .int .u8 0, .int .u8 0, .int .u8 0, .int .u8 0, .int .u8 0, .int .u8 0, .int .u8 0, .int .u8 0, .int .u8 0, .int .u8 0, .int .u8 0, .int .u8 0, .int .u8 0, .int .u8 0, .int .u8 0, .int .u8 0, .int .u8 0, .int .u8 0, .int .u8 0, .int .u8 0, .int .u8 0, .int .u8 0, .int .u8 0, .int .u8 0, .int .u8 0, .int .u8 0, .int .u8 0, .int .u8 0, .int .u8 0, .int .u8 0, .int .u8 0, .int .u8 0, .int .u8 0, .int .u8 0, .int .u8 0, .int .u8 0, .int .u8 0, .int .u8 0, .int .u8 0, .int .u8 0, .int .u8 0, .int .u8 0, .int .u8 0, .int .u8 0, .int .u8 0, .int .u8 0, .int .u8 0, .int .u8 0, .int .u8 0, .int .u8 0, .int .u8 0, .int .u8 0, .int .u8 0, .int .u8 0, .int .u8 0, .int .u8 0, .int .u8 0, .int .u8 0, .int .u8 0, .int .u8 0, .int .u8 0, .int .u8 0, .int .u8 0, .int .u8 0, .int .u8 0, .int .u8 0, .int .u8 0, .int .u8 0, .int .u8 0, .int .u8 0, .int .u8 0, .int .u8 0, .int .u8 0, .int .u8 0, .int .u8 0, .int .u8 0, .int .u8 0, .int .u8 0, .int .u8 0, .int .u8 0, .int .u8 0, .int .u8 0, .int .u8 0, .int .u8 0, .int .u8 0, .int .u8 0, .int .u8 0, .int .u8 0, .int .u8 0, .int .u8 0, .int .u8 0, .int .u8 0, .int .u8 0, .int .u8 0, .int .u8 0, .int .u8 0, .int .u8 0, .int .u8 0, .int .u8 0, .int .u8 0, .int .u8 0, .int .u8 0, .int .u8 0, .int .u8 0, .int .u8 0, .int .u8 0, .int .u8 0, .int .u8 0, .int .u8 0, .int .u8 0, .int .u8 0, .int .u8 0, .int .u8 0, .int .u8 0, .int .u8 0, .pointer a4, .bool a5_0, .slice a5_1a a5_1n a5_1c, .slice a5_2a a5_2n a5_2c, .int .u32 0, .int .u32 0, .slice none 0 0]) := by kernel_rfl
def y4to (x3 x4 x5 x6 x7 : Value) (h : H) (Kn : K4) (Kr : K2) : Prop :=
  ysnr PG yxex [(0, x3)] fun v53 => ysnr PG ycje [(0, x4)] fun v56 => ybqh true 6 x7 h fun v58 => ybqh true 3 x6 h fun v60 => (boxV v56 = true ∧ u_new (Value.cells v56).toList ycje .exact h fun b57 h => True) ∧ (u_ct y03k [v58] h fun v59 h => True) ∧ boxV v53 = true ∧ u_new (Value.cells v53).toList yxex .exact h fun b54 h => (u_ct y03k [v58] h fun v59 h => True) ∧ boxV v56 = true ∧ u_new (Value.cells v56).toList ycje .exact h fun b57 h => u_ct y03k [v58] h fun v59 h => ysnr PG yb54 [(0, (.pointer (some ⟨b54, 0, none⟩))), (1, (.pointer (some ⟨b57, 0, none⟩))), (4, v59), (5, v60)] fun v61 => boxV v61 = true ∧ u_new (Value.cells v61).toList yb54 .exact h fun b62 h => Kn x5 x6 x7 (.pointer (some ⟨b62, 0, none⟩)) h
theorem yf1v (Kn : K4) (Kr : K2) (t : T) (h : H) (H0 : y4to (t 3) (t 4) (t 5) (t 6) (t 7) h Kn Kr) : Wp PG 229 (seqL (rest 4 (ygjk Tryz.f44.body))) (mkQ (q4 Kn 5 6 7 13) (q2 Kr 10 11) ke0) t h :=
  ynwd D6_ok [(0, [], []), (1, [], []), (3, [], []), (4, [], []), (6, [], []), (8, [], []), (2, [], [5, 7]), (5, [], [7]), (7, [], []), (9, [], []), (10, [], []), (11, [], [])] (by kernel_rfl) (by kernel_rfl) H0 (by kernel_rfl)
def yuof (x5 x6 x7 x13 x14 x15 x16 : Value) (h : H) (Kn : K8) (Kr : K2) (Ke1 : K6) (Ke0 : K4) : Prop :=
  u_pf false 1 0 x13 h fun v81 => u_bf false 1 0 x16 h fun v83 => u_bf false 1 1 x16 h fun v85 => u_bf false 1 2 x16 h fun v87 => yjdf PG y0iw [v81, v83, v85, v87] h fun v88 h => Kn x5 x6 x7 v88 x13 x14 x15 x16 h
theorem ydd8 (Kn : K8) (Kr : K2) (Ke1 : K6) (Ke0 : K4) (t : T) (h : H) (H0 : yuof (t 5) (t 6) (t 7) (t 13) (t 14) (t 15) (t 16) h Kn Kr Ke1 Ke0) : Wp PG 229 (seqL (rest 1 (blkC (seqL (rest 1 (lopC (blkC (rest 1 (seqL (rest 2 (seqR (rest 4 (ygjk Tryz.f44.body))))))))))))) (mkQ (fun t h => Kn (t 5) (t 6) (t 7) (t 12) (t 13) (t 14) (t 15) (t 16) h) (q2 Kr 10 11) (keAdd 1 (q6 Ke1 5 6 7 13 14 15) (keAdd 0 (q4 Ke0 5 6 7 13) ke0))) t h :=
  ybop D6_ok [0, 1, 2, 3, 4, 5, 6, 7, 8, 9, 10, 11] (by kernel_rfl) (by kernel_rfl) H0 (by kernel_rfl)
def ytq5 (x5 x6 x7 x13 x14 x15 x16 : Value) (h : H) (Kn : K7) (Kr : K2) (Ke1 : K6) (Ke0 : K4) : Prop :=
  u_pf false 1 0 x13 h fun v95 => u_bf false 1 0 x16 h fun v97 => u_bf false 1 3 x16 h fun v99 => yjdf PG y3o4 [v95, v97, v99] h fun v100 h => Kn x5 x6 x7 x13 x14 x15 x16 h
theorem yl1o (Kn : K7) (Kr : K2) (Ke1 : K6) (Ke0 : K4) (t : T) (h : H) (H0 : ytq5 (t 5) (t 6) (t 7) (t 13) (t 14) (t 15) (t 16) h Kn Kr Ke1 Ke0) : Wp PG 229 (seqL (rest 1 (seqR (rest 1 (blkC (seqL (rest 1 (lopC (blkC (rest 1 (seqL (rest 2 (seqR (rest 4 (ygjk Tryz.f44.body))))))))))))))) (mkQ (fun t h => Kn (t 5) (t 6) (t 7) (t 13) (t 14) (t 15) (t 16) h) (q2 Kr 10 11) (keAdd 1 (q6 Ke1 5 6 7 13 14 15) (keAdd 0 (q4 Ke0 5 6 7 13) ke0))) t h :=
  ybop D6_ok [0, 1, 2, 3, 4, 5, 6, 7, 8] (by kernel_rfl) (by kernel_rfl) H0 (by kernel_rfl)
def y343 (x5 x6 x7 x13 x14 x15 x16 : Value) (h : H) (Kn : K6) (Kr : K2) (Ke1 : K6) (Ke0 : K4) : Prop :=
  u_bf false 1 0 x16 h fun v102 => u_bin PG .lss ycpa v102 (.int .u32 2147475456) fun v103 => ydv6 v103 true (fun k8 => u_bf false 1 0 x16 h fun v106 => y2x6 .i64 v106 fun v107 => u_bin PG .gtr yeb5 v107 x14 fun v109 => k8 v109 h) (fun v109 h => y9rg v103 v109 (.bool false) fun v110 => u_if v110 (u_bf false 1 0 x16 h fun v112 => y2x6 .i64 v112 fun v113 => u_bf false 1 0 x16 h fun v116 => y2x6 .i64 v116 fun v117 => u_bf false 1 1 x16 h fun v119 => y2x6 .i64 v119 fun v120 => u_bin PG .add yeb5 v117 v120 fun v121 => u_bin PG .add yeb5 v121 (.int .i64 255) fun v122 => u_bin PG .quo yeb5 v122 (.int .i64 256) fun v123 => u_bin PG .mul yeb5 v123 (.int .i64 256) fun v124 => y2x6 .u32 v124 fun v125 => y394 x13 fun v126 => u_st 1 169 v126 v125 h fun h => Kn x5 x6 x7 x13 v113 x15 h) (Kn x5 x6 x7 x13 x14 x15 h)) h
theorem yext (Kn : K6) (Kr : K2) (Ke1 : K6) (Ke0 : K4) (t : T) (h : H) (H0 : y343 (t 5) (t 6) (t 7) (t 13) (t 14) (t 15) (t 16) h Kn Kr Ke1 Ke0) : Wp PG 229 (seqR (rest 1 (seqR (rest 1 (blkC (seqL (rest 1 (lopC (blkC (rest 1 (seqL (rest 2 (seqR (rest 4 (ygjk Tryz.f44.body))))))))))))))) (mkQ (q6 Kn 5 6 7 13 14 15) (q2 Kr 10 11) (keAdd 1 (q6 Ke1 5 6 7 13 14 15) (keAdd 0 (q4 Ke0 5 6 7 13) ke0))) t h :=
  wpEqC D6_ok H0 (by kernel_rfl)
def yclc (x5 x6 x7 x13 x14 x15 x16 : Value) (h : H) (Kn : K6) (Kr : K2) (Ke1 : K6) (Ke0 : K4) : Prop :=
  ytq5 x5 x6 x7 x13 x14 x15 x16 h (fun y5 y6 y7 y13 y14 y15 y16 h => y343 y5 y6 y7 y13 y14 y15 y16 h Kn Kr Ke1 Ke0) Kr Ke1 Ke0
theorem yasy (Kn : K6) (Kr : K2) (Ke1 : K6) (Ke0 : K4) (t : T) (h : H) (H0 : yclc (t 5) (t 6) (t 7) (t 13) (t 14) (t 15) (t 16) h Kn Kr Ke1 Ke0) : Wp PG 229 (rest 1 (seqR (rest 1 (blkC (seqL (rest 1 (lopC (blkC (rest 1 (seqL (rest 2 (seqR (rest 4 (ygjk Tryz.f44.body)))))))))))))) (mkQ (q6 Kn 5 6 7 13 14 15) (q2 Kr 10 11) (keAdd 1 (q6 Ke1 5 6 7 13 14 15) (keAdd 0 (q4 Ke0 5 6 7 13) ke0))) t h :=
  ykv2 (by kernel_rfl) (fun t h H1 => yext Kn Kr Ke1 Ke0 t h H1) (yl1o (fun y5 y6 y7 y13 y14 y15 y16 h => y343 y5 y6 y7 y13 y14 y15 y16 h Kn Kr Ke1 Ke0) Kr Ke1 Ke0 t h H0)
def y03n (x5 x6 x7 x12 x13 x14 x15 x16 : Value) (h : H) (Kn : K6) (Kr : K2) (Ke1 : K6) (Ke0 : K4) : Prop :=
  u_bin PG .neq ya0f x12 (.int .i64 0) fun v90 => u_if v90 (Kr (.pointer none) x12 h) (yclc x5 x6 x7 x13 x14 x15 x16 h Kn Kr Ke1 Ke0)
theorem y0nn (Kn : K6) (Kr : K2) (Ke1 : K6) (Ke0 : K4) (t : T) (h : H) (H0 : y03n (t 5) (t 6) (t 7) (t 12) (t 13) (t 14) (t 15) (t 16) h Kn Kr Ke1 Ke0) : Wp PG 229 (seqR (rest 1 (blkC (seqL (rest 1 (lopC (blkC (rest 1 (seqL (rest 2 (seqR (rest 4 (ygjk Tryz.f44.body))))))))))))) (mkQ (q6 Kn 5 6 7 13 14 15) (q2 Kr 10 11) (keAdd 1 (q6 Ke1 5 6 7 13 14 15) (keAdd 0 (q4 Ke0 5 6 7 13) ke0))) t h :=
  yvnp D6_ok 1 H0 (by kernel_rfl) (fun t h (H1 : yclc (t 5) (t 6) (t 7) (t 13) (t 14) (t 15) (t 16) h Kn Kr Ke1 Ke0) => yasy Kn Kr Ke1 Ke0 t h H1) (by kernel_rfl)
def y4fd (x5 x6 x7 x13 x14 x15 x16 : Value) (h : H) (Kn : K6) (Kr : K2) (Ke1 : K6) (Ke0 : K4) : Prop :=
  yuof x5 x6 x7 x13 x14 x15 x16 h (fun y5 y6 y7 y12 y13 y14 y15 y16 h => y03n y5 y6 y7 y12 y13 y14 y15 y16 h Kn Kr Ke1 Ke0) Kr Ke1 Ke0
theorem yv0n (Kn : K6) (Kr : K2) (Ke1 : K6) (Ke0 : K4) (t : T) (h : H) (H0 : y4fd (t 5) (t 6) (t 7) (t 13) (t 14) (t 15) (t 16) h Kn Kr Ke1 Ke0) : Wp PG 229 (rest 1 (blkC (seqL (rest 1 (lopC (blkC (rest 1 (seqL (rest 2 (seqR (rest 4 (ygjk Tryz.f44.body)))))))))))) (mkQ (q6 Kn 5 6 7 13 14 15) (q2 Kr 10 11) (keAdd 1 (q6 Ke1 5 6 7 13 14 15) (keAdd 0 (q4 Ke0 5 6 7 13) ke0))) t h :=
  ykv2 (by kernel_rfl) (fun t h H1 => y0nn Kn Kr Ke1 Ke0 t h H1) (ydd8 (fun y5 y6 y7 y12 y13 y14 y15 y16 h => y03n y5 y6 y7 y12 y13 y14 y15 y16 h Kn Kr Ke1 Ke0) Kr Ke1 Ke0 t h H0)
def yiac (x5 x6 x7 x13 x14 x15 : Value) (h : H) (Kn : K6) (Kr : K2) (Ke1 : K6) (Ke0 : K4) : Prop :=
  u_bf false 1 1 x5 h fun v74 => u_ix true 4 none v74 x15 h fun v77 => u_new [.int .u32 0, .int .u32 0, .int .i64 0, .slice none 0 0] yhas .exact h fun b16 h => ylel 4 (.pointer (some ⟨b16, 0, none⟩)) v77 h fun h => y4fd x5 x6 x7 x13 x14 x15 (.pointer (some ⟨b16, 0, none⟩)) h Kn Kr Ke1 Ke0
theorem yis0 (Kn : K6) (Kr : K2) (Ke1 : K6) (Ke0 : K4) (t : T) (h : H) (H0 : yiac (t 5) (t 6) (t 7) (t 13) (t 14) (t 15) h Kn Kr Ke1 Ke0) : Wp PG 229 (blkC (seqL (rest 1 (lopC (blkC (rest 1 (seqL (rest 2 (seqR (rest 4 (ygjk Tryz.f44.body))))))))))) (mkQ (q6 Kn 5 6 7 13 14 15) (q2 Kr 10 11) (keAdd 1 (q6 Ke1 5 6 7 13 14 15) (keAdd 0 (q4 Ke0 5 6 7 13) ke0))) t h :=
  yvnp D6_ok 1 H0 (by kernel_rfl) (fun t h (H1 : y4fd (t 5) (t 6) (t 7) (t 13) (t 14) (t 15) (t 16) h Kn Kr Ke1 Ke0) => yv0n Kn Kr Ke1 Ke0 t h H1) (by kernel_rfl)
def y4w5 (x5 x6 x7 x13 x14 x15 : Value) (h : H) (Kn : K6) (Kr : K2) (Ke0 : K4) : Prop :=
  yiac x5 x6 x7 x13 x14 x15 h Kn Kr Kn Ke0
theorem yxcd (Kn : K6) (Kr : K2) (Ke0 : K4) (t : T) (h : H) (H0 : y4w5 (t 5) (t 6) (t 7) (t 13) (t 14) (t 15) h Kn Kr Ke0) : Wp PG 229 (seqL (rest 1 (lopC (blkC (rest 1 (seqL (rest 2 (seqR (rest 4 (ygjk Tryz.f44.body)))))))))) (mkQ (q6 Kn 5 6 7 13 14 15) (q2 Kr 10 11) (keAdd 0 (q4 Ke0 5 6 7 13) ke0)) t h :=
  y6tu 1 (by kernel_rfl) (by kernel_rfl) (yis0 Kn Kr Kn Ke0 t h H0)
def yvtw (x5 x6 x7 x13 x14 x15 : Value) (h : H) (Kn : K6) (Kr : K2) (Ke0 : K4) : Prop :=
  u_bin PG .add T_int x15 (.int .i64 1) fun v72 => Kn x5 x6 x7 x13 x14 v72 h
theorem y9mm (Kn : K6) (Kr : K2) (Ke0 : K4) (t : T) (h : H) (H0 : yvtw (t 5) (t 6) (t 7) (t 13) (t 14) (t 15) h Kn Kr Ke0) : Wp PG 229 (seqR (rest 1 (lopC (blkC (rest 1 (seqL (rest 2 (seqR (rest 4 (ygjk Tryz.f44.body)))))))))) (mkQ (q6 Kn 5 6 7 13 14 15) (q2 Kr 10 11) (keAdd 0 (q4 Ke0 5 6 7 13) ke0)) t h :=
  wpEqC D6_ok H0 (by kernel_rfl)
def y7ew (x5 x6 x7 x13 x14 x15 : Value) (h : H) (Kn : K6) (Kr : K2) (Ke0 : K4) : Prop :=
  y4w5 x5 x6 x7 x13 x14 x15 h (fun y5 y6 y7 y13 y14 y15 h => yvtw y5 y6 y7 y13 y14 y15 h Kn Kr Ke0) Kr Ke0
theorem yq62 (Kn : K6) (Kr : K2) (Ke0 : K4) (t : T) (h : H) (H0 : y7ew (t 5) (t 6) (t 7) (t 13) (t 14) (t 15) h Kn Kr Ke0) : Wp PG 229 (rest 1 (lopC (blkC (rest 1 (seqL (rest 2 (seqR (rest 4 (ygjk Tryz.f44.body))))))))) (mkQ (q6 Kn 5 6 7 13 14 15) (q2 Kr 10 11) (keAdd 0 (q4 Ke0 5 6 7 13) ke0)) t h :=
  ykv2 (by kernel_rfl) (fun t h H1 => y9mm Kn Kr Ke0 t h H1) (yxcd (fun y5 y6 y7 y13 y14 y15 h => yvtw y5 y6 y7 y13 y14 y15 h Kn Kr Ke0) Kr Ke0 t h H0)
def ybxa (x5 x6 x7 x13 x14 x15 : Value) (h : H) (Kn : K6) (Kr : K2) (Ke0 : K4) : Prop :=
  u_bf false 1 1 x5 h fun v68 => ywmm v68 fun v69 => u_bin PG .lss T_int x15 v69 fun v70 => u_if v70 (y7ew x5 x6 x7 x13 x14 x15 h Kn Kr Ke0) (Ke0 x5 x6 x7 x13 h)
theorem y53z (Kn : K6) (Kr : K2) (Ke0 : K4) (t : T) (h : H) (H0 : ybxa (t 5) (t 6) (t 7) (t 13) (t 14) (t 15) h Kn Kr Ke0) : Wp PG 229 (lopC (blkC (rest 1 (seqL (rest 2 (seqR (rest 4 (ygjk Tryz.f44.body)))))))) (mkQ (q6 Kn 5 6 7 13 14 15) (q2 Kr 10 11) (keAdd 0 (q4 Ke0 5 6 7 13) ke0)) t h :=
  yvnp D6_ok 1 H0 (by kernel_rfl) (fun t h (H1 : y7ew (t 5) (t 6) (t 7) (t 13) (t 14) (t 15) h Kn Kr Ke0) => yq62 Kn Kr Ke0 t h H1) (by kernel_rfl)
def yfqr (x5 x6 x7 x13 x14 x15 : Value) (h : H) (Kn : K4) (Kr : K2) (Ke0 : K4) : Prop :=
  sloop (S := Value × Value × Value × Value × Value × Value) (fun s h K => ybxa s.1 s.2.1 s.2.2.1 s.2.2.2.1 s.2.2.2.2.1 s.2.2.2.2.2 h (fun y5 y6 y7 y13 y14 y15 h => K (y5, y6, y7, y13, y14, y15) h) Kr Ke0) (x5, x6, x7, x13, x14, x15) h
theorem yxu3 (Kn : K4) (Kr : K2) (Ke0 : K4) (t : T) (h : H) (H0 : yfqr (t 5) (t 6) (t 7) (t 13) (t 14) (t 15) h Kn Kr Ke0) : Wp PG 229 (blkC (rest 1 (seqL (rest 2 (seqR (rest 4 (ygjk Tryz.f44.body))))))) (mkQ (q4 Kn 5 6 7 13) (q2 Kr 10 11) (keAdd 0 (q4 Ke0 5 6 7 13) ke0)) t h :=
  yv0a (fun t => (t 5, t 6, t 7, t 13, t 14, t 15)) (by kernel_rfl) (fun t h K H1 => y53z (fun y5 y6 y7 y13 y14 y15 h => K (y5, y6, y7, y13, y14, y15) h) Kr Ke0 t h H1) H0
def yag9 (x5 x6 x7 x13 x14 x15 : Value) (h : H) (Kn : K4) (Kr : K2) : Prop :=
  yfqr x5 x6 x7 x13 x14 x15 h Kn Kr Kn
theorem ykf0 (Kn : K4) (Kr : K2) (t : T) (h : H) (H0 : yag9 (t 5) (t 6) (t 7) (t 13) (t 14) (t 15) h Kn Kr) : Wp PG 229 (rest 1 (seqL (rest 2 (seqR (rest 4 (ygjk Tryz.f44.body)))))) (mkQ (q4 Kn 5 6 7 13) (q2 Kr 10 11) ke0) t h :=
  y6tu 0 (by kernel_rfl) (by kernel_rfl) (yxu3 Kn Kr Kn t h H0)
def yj9m (x5 x6 x7 x13 x14 : Value) (h : H) (Kn : K4) (Kr : K2) : Prop :=
  yag9 x5 x6 x7 x13 x14 (.int .i64 0) h Kn Kr
theorem y2s6 (Kn : K4) (Kr : K2) (t : T) (h : H) (H0 : yj9m (t 5) (t 6) (t 7) (t 13) (t 14) h Kn Kr) : Wp PG 229 (seqL (rest 2 (seqR (rest 4 (ygjk Tryz.f44.body))))) (mkQ (q4 Kn 5 6 7 13) (q2 Kr 10 11) ke0) t h :=
  yvnp D6_ok 1 H0 (by kernel_rfl) (fun t h (H1 : yag9 (t 5) (t 6) (t 7) (t 13) (t 14) (t 15) h Kn Kr) => ykf0 Kn Kr t h H1) (by kernel_rfl)
def ygjs (x5 x6 x12 x13 x18 x19 x20 : Value) (h : H) (Kn : K7) (Kr : K2) (Ke2 : K3) : Prop :=
  False
theorem ydnp (Kn : K7) (Kr : K2) (Ke2 : K3) (t : T) (h : H) (H0 : ygjs (t 5) (t 6) (t 12) (t 13) (t 18) (t 19) (t 20) h Kn Kr Ke2) : Wp PG 229 (rest 1 (lopC (blkC (rest 1 (seqL (rest 6 (seqR (rest 2 (seqR (rest 4 (ygjk Tryz.f44.body))))))))))) (mkQ (fun t h => Kn (t 5) (t 6) (t 12) (t 13) (t 18) (t 19) (t 20) h) (q2 Kr 10 11) (keAdd 2 (q3 Ke2 5 13 18) ke0)) t h :=
  H0.elim
def ytqz (x5 x6 x12 x13 x18 x19 x20 : Value) (h : H) (Kn : K7) (Kr : K2) (Ke2 : K3) : Prop :=
  u_bf false 1 1 x6 h fun v162 => ywmm v162 fun v163 => u_bin PG .lss T_int x20 v163 fun v164 => u_if v164 (ygjs x5 x6 x12 x13 x18 x19 x20 h Kn Kr Ke2) (Ke2 x5 x13 x18 h)
theorem y1lu (Kn : K7) (Kr : K2) (Ke2 : K3) (t : T) (h : H) (H0 : ytqz (t 5) (t 6) (t 12) (t 13) (t 18) (t 19) (t 20) h Kn Kr Ke2) : Wp PG 229 (lopC (blkC (rest 1 (seqL (rest 6 (seqR (rest 2 (seqR (rest 4 (ygjk Tryz.f44.body)))))))))) (mkQ (fun t h => Kn (t 5) (t 6) (t 12) (t 13) (t 18) (t 19) (t 20) h) (q2 Kr 10 11) (keAdd 2 (q3 Ke2 5 13 18) ke0)) t h :=
  yvnp D6_ok 1 H0 (by kernel_rfl) (fun t h (H1 : ygjs (t 5) (t 6) (t 12) (t 13) (t 18) (t 19) (t 20) h Kn Kr Ke2) => ydnp Kn Kr Ke2 t h H1) (by kernel_rfl)
def ywpg (x5 x6 x12 x13 x18 x19 x20 : Value) (h : H) (Kn : K3) (Kr : K2) (Ke2 : K3) : Prop :=
  sloop (S := Value × Value × Value × Value × Value × Value × Value) (fun s h K => ytqz s.1 s.2.1 s.2.2.1 s.2.2.2.1 s.2.2.2.2.1 s.2.2.2.2.2.1 s.2.2.2.2.2.2 h (fun y5 y6 y12 y13 y18 y19 y20 h => K (y5, y6, y12, y13, y18, y19, y20) h) Kr Ke2) (x5, x6, x12, x13, x18, x19, x20) h
theorem yt0f (Kn : K3) (Kr : K2) (Ke2 : K3) (t : T) (h : H) (H0 : ywpg (t 5) (t 6) (t 12) (t 13) (t 18) (t 19) (t 20) h Kn Kr Ke2) : Wp PG 229 (blkC (rest 1 (seqL (rest 6 (seqR (rest 2 (seqR (rest 4 (ygjk Tryz.f44.body))))))))) (mkQ (q3 Kn 5 13 18) (q2 Kr 10 11) (keAdd 2 (q3 Ke2 5 13 18) ke0)) t h :=
  yv0a (fun t => (t 5, t 6, t 12, t 13, t 18, t 19, t 20)) (by kernel_rfl) (fun t h K H1 => y1lu (fun y5 y6 y12 y13 y18 y19 y20 h => K (y5, y6, y12, y13, y18, y19, y20) h) Kr Ke2 t h H1) H0
def yf5q (x5 x6 x12 x13 x18 x19 x20 : Value) (h : H) (Kn : K3) (Kr : K2) : Prop :=
  ywpg x5 x6 x12 x13 x18 x19 x20 h Kn Kr Kn
theorem yyw7 (Kn : K3) (Kr : K2) (t : T) (h : H) (H0 : yf5q (t 5) (t 6) (t 12) (t 13) (t 18) (t 19) (t 20) h Kn Kr) : Wp PG 229 (rest 1 (seqL (rest 6 (seqR (rest 2 (seqR (rest 4 (ygjk Tryz.f44.body)))))))) (mkQ (q3 Kn 5 13 18) (q2 Kr 10 11) ke0) t h :=
  y6tu 2 (by kernel_rfl) (by kernel_rfl) (yt0f Kn Kr Kn t h H0)
def ygxc (x5 x6 x12 x13 x18 x19 : Value) (h : H) (Kn : K3) (Kr : K2) : Prop :=
  yf5q x5 x6 x12 x13 x18 x19 (.int .i64 0) h Kn Kr
theorem y346 (Kn : K3) (Kr : K2) (t : T) (h : H) (H0 : ygxc (t 5) (t 6) (t 12) (t 13) (t 18) (t 19) h Kn Kr) : Wp PG 229 (seqL (rest 6 (seqR (rest 2 (seqR (rest 4 (ygjk Tryz.f44.body))))))) (mkQ (q3 Kn 5 13 18) (q2 Kr 10 11) ke0) t h :=
  yvnp D6_ok 1 H0 (by kernel_rfl) (fun t h (H1 : yf5q (t 5) (t 6) (t 12) (t 13) (t 18) (t 19) (t 20) h Kn Kr) => yyw7 Kn Kr t h H1) (by kernel_rfl)
def yy4w (x5 x13 x18 : Value) (h : H) (Kn : K2) (Kr : K2) : Prop :=
  u_bf false 1 0 x5 h fun v218 => y394 x13 fun v219 => y0wt 2 v219 fun v220 => u_st 1 32 v220 v218 h fun h => y394 x13 fun v224 => y0wt 2 v224 fun v225 => y0wt 0 v225 fun v226 => yji6 (some 32) 1 v226 (.int .i64 2) fun v227 => ylel 1 v227 x18 h fun h => Kr x13 (.int .i64 0) h
theorem ypvm (Kn : K2) (Kr : K2) (t : T) (h : H) (H0 : yy4w (t 5) (t 13) (t 18) h Kn Kr) : Wp PG 229 (seqR (rest 6 (seqR (rest 2 (seqR (rest 4 (ygjk Tryz.f44.body))))))) (mkQ (q2 Kn 10 11) (q2 Kr 10 11) ke0) t h :=
  wpEqC D6_ok H0 (by kernel_rfl)
def yaz5 (x5 x6 x12 x13 x18 x19 : Value) (h : H) (Kn : K2) (Kr : K2) : Prop :=
  ygxc x5 x6 x12 x13 x18 x19 h (fun y5 y13 y18 h => yy4w y5 y13 y18 h Kn Kr) Kr
theorem y327 (Kn : K2) (Kr : K2) (t : T) (h : H) (H0 : yaz5 (t 5) (t 6) (t 12) (t 13) (t 18) (t 19) h Kn Kr) : Wp PG 229 (rest 6 (seqR (rest 2 (seqR (rest 4 (ygjk Tryz.f44.body)))))) (mkQ (q2 Kn 10 11) (q2 Kr 10 11) ke0) t h :=
  ykv2 (by kernel_rfl) (fun t h H1 => ypvm Kn Kr t h H1) (y346 (fun y5 y13 y18 h => yy4w y5 y13 y18 h Kn Kr) Kr t h H0)
def y241 (x5 x6 x7 x13 : Value) (h : H) (Kn : K2) (Kr : K2) : Prop :=
  u_bf false 1 0 x7 h fun v130 => yjdf PG yujl [v130] h fun v131 h => yvu8 v131 0 fun v132 => yvu8 v131 1 fun v133 => yvu8 v131 2 fun v134 => yvu8 v131 3 fun v135 => u_bin PG .neq ya0f v135 (.int .i64 0) fun v137 => u_if v137 (Kr (.pointer none) v135 h) (u_pf false 1 0 x13 h fun v142 => yjdf PG y0iw [v142, (.int .u32 2147475456), (.int .u32 4096), (.int .i64 3)] h fun v143 h => u_bin PG .neq ya0f v143 (.int .i64 0) fun v145 => u_if v145 (Kr (.pointer none) v143 h) (u_pf false 1 0 x13 h fun v150 => yjdf PG y3o4 [v150, (.int .u32 2147475456), v132] h fun v152 h => u_pf false 1 169 x13 h fun v157 => y394 x13 fun v158 => u_st 1 168 v158 v157 h fun h => yaz5 x5 x6 v143 x13 v133 v134 h Kn Kr))
theorem y5rd (Kn : K2) (Kr : K2) (t : T) (h : H) (H0 : y241 (t 5) (t 6) (t 7) (t 13) h Kn Kr) : Wp PG 229 (seqR (rest 2 (seqR (rest 4 (ygjk Tryz.f44.body))))) (mkQ (q2 Kn 10 11) (q2 Kr 10 11) ke0) t h :=
  yvnp D6_ok 6 H0 (by kernel_rfl) (fun t h (H1 : yaz5 (t 5) (t 6) (t 12) (t 13) (t 18) (t 19) h Kn Kr) => y327 Kn Kr t h H1) (by kernel_rfl)
def y2yo (x5 x6 x7 x13 x14 : Value) (h : H) (Kn : K2) (Kr : K2) : Prop :=
  yj9m x5 x6 x7 x13 x14 h (fun y5 y6 y7 y13 h => y241 y5 y6 y7 y13 h Kn Kr) Kr
theorem yxhs (Kn : K2) (Kr : K2) (t : T) (h : H) (H0 : y2yo (t 5) (t 6) (t 7) (t 13) (t 14) h Kn Kr) : Wp PG 229 (rest 2 (seqR (rest 4 (ygjk Tryz.f44.body)))) (mkQ (q2 Kn 10 11) (q2 Kr 10 11) ke0) t h :=
  ykv2 (by kernel_rfl) (fun t h H1 => y5rd Kn Kr t h H1) (y2s6 (fun y5 y6 y7 y13 h => y241 y5 y6 y7 y13 h Kn Kr) Kr t h H0)
def ylpr (x5 x6 x7 x13 : Value) (h : H) (Kn : K2) (Kr : K2) : Prop :=
  y394 x13 fun v64 => u_st 1 169 v64 (.int .u32 2147475456) h fun h => y2yo x5 x6 x7 x13 (.int .i64 (-1)) h Kn Kr
theorem y59b (Kn : K2) (Kr : K2) (t : T) (h : H) (H0 : ylpr (t 5) (t 6) (t 7) (t 13) h Kn Kr) : Wp PG 229 (seqR (rest 4 (ygjk Tryz.f44.body))) (mkQ (q2 Kn 10 11) (q2 Kr 10 11) ke0) t h :=
  yvnp D6_ok 2 H0 (by kernel_rfl) (fun t h (H1 : y2yo (t 5) (t 6) (t 7) (t 13) (t 14) h Kn Kr) => yxhs Kn Kr t h H1) (by kernel_rfl)
def yeh7 (x3 x4 x5 x6 x7 : Value) (h : H) (Kn : K2) (Kr : K2) : Prop :=
  y4to x3 x4 x5 x6 x7 h (fun y5 y6 y7 y13 h => ylpr y5 y6 y7 y13 h Kn Kr) Kr
theorem yn21 (Kn : K2) (Kr : K2) (t : T) (h : H) (H0 : yeh7 (t 3) (t 4) (t 5) (t 6) (t 7) h Kn Kr) : Wp PG 229 (rest 4 (ygjk Tryz.f44.body)) (mkQ (q2 Kn 10 11) (q2 Kr 10 11) ke0) t h :=
  ykv2 (by kernel_rfl) (fun t h H1 => y59b Kn Kr t h H1) (yf1v (fun y5 y6 y7 y13 h => ylpr y5 y6 y7 y13 h Kn Kr) Kr t h H0)
def yals (x0 x1 x2 x3 x4 : Value) (h : H) (Kn : K2) (Kr : K2) : Prop :=
  boxV x0 = true ∧ u_new (Value.cells x0).toList yr7r .exact h fun b5 h => boxV x1 = true ∧ u_new (Value.cells x1).toList ysrv .exact h fun b6 h => boxV x2 = true ∧ u_new (Value.cells x2).toList y5c0 .exact h fun b7 h => ybqh true 2 (.pointer (some ⟨b5, 0, none⟩)) h fun v23 => yjdf PG y3mv [v23] h fun v24 h => u_bin PG .neq ya0f v24 (.int .i64 0) fun v26 => u_if v26 (Kr (.pointer none) v24 h) (ybqh true 3 (.pointer (some ⟨b6, 0, none⟩)) h fun v28 => yjdf PG ywke [v28] h fun v29 h => u_un PG .not v29 fun v30 => ydv6 v30 false (fun k6 => ybqh true 6 (.pointer (some ⟨b7, 0, none⟩)) h fun v32 => yjdf PG yak4 [v32] h fun v33 h => u_un PG .not v33 fun v34 => k6 v34 h) (fun v34 h => y9rg v30 (.bool true) v34 fun v35 => ydv6 v35 false (fun k10 => u_bin PG .lss T_int x3 (.int .i64 1) fun v38 => k10 v38 h) (fun v38 h => y9rg v35 (.bool true) v38 fun v39 => ydv6 v39 false (fun k14 => u_bin PG .gtr T_int x3 (.int .i64 4096) fun v42 => k14 v42 h) (fun v42 h => y9rg v39 (.bool true) v42 fun v43 => ydv6 v43 false (fun k18 => u_bin PG .lss T_int x4 (.int .i64 0) fun v46 => k18 v46 h) (fun v46 h => y9rg v43 (.bool true) v46 fun v47 => ydv6 v47 false (fun k22 => u_bin PG .gtr T_int x4 (.int .i64 4096) fun v50 => k22 v50 h) (fun v50 h => y9rg v47 (.bool true) v50 fun v51 => u_if v51 (Kr (.pointer none) (.int .i64 1) h) (yeh7 x3 x4 (.pointer (some ⟨b5, 0, none⟩)) (.pointer (some ⟨b6, 0, none⟩)) (.pointer (some ⟨b7, 0, none⟩)) h Kn Kr)) h) h) h) h) h)
theorem y3fh (Kn : K2) (Kr : K2) (t : T) (h : H) (H0 : yals (t 0) (t 1) (t 2) (t 3) (t 4) h Kn Kr) : Wp PG 229 (ygjk Tryz.f44.body) (mkQ (q2 Kn 10 11) (q2 Kr 10 11) ke0) t h :=
  yvnp D6_ok 4 H0 (by kernel_rfl) (fun t h (H1 : yeh7 (t 3) (t 4) (t 5) (t 6) (t 7) h Kn Kr) => yn21 Kn Kr t h H1) (by kernel_rfl)
def yse5 (x0 x1 x2 x3 x4 : Value) (h : H) (Q : K1) : Prop := yals x0 x1 x2 x3 x4 h (fun y10 y11 h => bif [y10, y11].all boxV then Q (.tuple #[y10, y11]) h else False) (fun y10 y11 h => bif [y10, y11].all boxV then Q (.tuple #[y10, y11]) h else False)
theorem yulk (x0 x1 x2 x3 x4 : Value) (h : H) (Q : K1) (H0 : yse5 x0 x1 x2 x3 x4 h Q) : AM.Spec PG yvpi [x0, x1, x2, x3, x4] h Q :=
  yqxt mixed (fn := Tryz.f44) Tryz.func44 (c := ygjk Tryz.f44.body) (rs := [10, 11]) (N := 229) (by kernel_rfl) (by kernel_rfl) (by kernel_rfl) (by kernel_rfl) (by kernel_rfl) (Nat.le_of_ble_eq_true rfl) (y3fh (fun y10 y11 h => bif [y10, y11].all boxV then Q (.tuple #[y10, y11]) h else False) (fun y10 y11 h => bif [y10, y11].all boxV then Q (.tuple #[y10, y11]) h else False) (tinit [x0, x1, x2, x3, x4]) h H0) (by kernel_rfl)
def yq8h (x5 x6 x10 x11 x16 x17 x18 : Value) (h : H) (Kn : K4) (Kr : K2) : Prop :=
  ybqh true 2 x16 h fun v35 => ybqh true 3 x11 h fun v37 => ybqh true 6 x10 h fun v39 => yjdf PG yp9s [v35] h fun v36 h => (ybqh true 3 x11 h fun w37 => w37 = v37) ∧ (ybqh true 6 x10 h fun w39 => w39 = v39) ∧ yjdf PG y1vs [v37] h fun v38 h => (ybqh true 6 x10 h fun w39 => w39 = v39) ∧ yjdf PG y2xr [v39] h fun v40 h => yjdf PG yvpi [v36, v38, v40, x5, x6] h fun v43 h => yvu8 v43 0 fun v44 => yvu8 v43 1 fun v45 => Kn x17 x18 v44 v45 h
theorem yke0 (Kn : K4) (Kr : K2) (t : T) (h : H) (H0 : yq8h (t 5) (t 6) (t 10) (t 11) (t 16) (t 17) (t 18) h Kn Kr) : Wp PG 54 (seqL (rest 3 (ygjk Tryz.f11.body))) (mkQ (q4 Kn 17 18 19 20) (q2 Kr 14 15) ke0) t h :=
  ynwd D6_ok [(0, [], []), (2, [], []), (4, [], []), (6, [], []), (7, [], []), (1, [2, 4], []), (3, [4], []), (5, [], []), (8, [], []), (9, [], []), (10, [], []), (11, [], []), (12, [], []), (13, [], [])] (by kernel_rfl) (by kernel_rfl) H0 (by kernel_rfl)
def y3h7 (x17 x18 x19 x20 : Value) (h : H) (Kn : K2) (Kr : K2) : Prop :=
  u_bin PG .neq ya0f x18 (.int .i64 0) fun v47 => ydv6 v47 false (fun k4 => u_bin PG .neq ya0f x20 (.int .i64 0) fun v50 => k4 v50 h) (fun v50 h => y9rg v47 (.bool true) v50 fun v51 => u_if v51 (Kr (.pointer none) (.pointer none) h) (Kr x17 x19 h)) h
theorem y1ap (Kn : K2) (Kr : K2) (t : T) (h : H) (H0 : y3h7 (t 17) (t 18) (t 19) (t 20) h Kn Kr) : Wp PG 54 (seqR (rest 3 (ygjk Tryz.f11.body))) (mkQ (q2 Kn 14 15) (q2 Kr 14 15) ke0) t h :=
  wpEqC D6_ok H0 (by kernel_rfl)
def ycfc (x5 x6 x10 x11 x16 x17 x18 : Value) (h : H) (Kn : K2) (Kr : K2) : Prop :=
  yq8h x5 x6 x10 x11 x16 x17 x18 h (fun y17 y18 y19 y20 h => y3h7 y17 y18 y19 y20 h Kn Kr) Kr
theorem ym13 (Kn : K2) (Kr : K2) (t : T) (h : H) (H0 : ycfc (t 5) (t 6) (t 10) (t 11) (t 16) (t 17) (t 18) h Kn Kr) : Wp PG 54 (rest 3 (ygjk Tryz.f11.body)) (mkQ (q2 Kn 14 15) (q2 Kr 14 15) ke0) t h :=
  ykv2 (by kernel_rfl) (fun t h H1 => y1ap Kn Kr t h H1) (yke0 (fun y17 y18 y19 y20 h => y3h7 y17 y18 y19 y20 h Kn Kr) Kr t h H0)
def yw2t (x0 x1 x2 x3 x4 x5 x6 : Value) (h : H) (Kn : K2) (Kr : K2) : Prop :=
  boxV x3 = true ∧ u_new (Value.cells x3).toList ylzr .exact h fun b10 h => boxV x4 = true ∧ u_new (Value.cells x4).toList y4pp .exact h fun b11 h => yjdf PG y1z6 [x0, x1, x2] h fun v24 h => u_new [.int .u32 0, .slice none 0 0] y33u .exact h fun b16 h => ylel 2 (.pointer (some ⟨b16, 0, none⟩)) v24 h fun h => ybqh true 2 (.pointer (some ⟨b16, 0, none⟩)) h fun v26 => ybqh true 3 (.pointer (some ⟨b11, 0, none⟩)) h fun v27 => ybqh true 6 (.pointer (some ⟨b10, 0, none⟩)) h fun v28 => yjdf PG yuxz [v26, v27, v28, x5, x6] h fun v31 h => yvu8 v31 0 fun v32 => yvu8 v31 1 fun v33 => ycfc x5 x6 (.pointer (some ⟨b10, 0, none⟩)) (.pointer (some ⟨b11, 0, none⟩)) (.pointer (some ⟨b16, 0, none⟩)) v32 v33 h Kn Kr
theorem yv7q (Kn : K2) (Kr : K2) (t : T) (h : H) (H0 : yw2t (t 0) (t 1) (t 2) (t 3) (t 4) (t 5) (t 6) h Kn Kr) : Wp PG 54 (ygjk Tryz.f11.body) (mkQ (q2 Kn 14 15) (q2 Kr 14 15) ke0) t h :=
  yvnp D6_ok 3 H0 (by kernel_rfl) (fun t h (H1 : ycfc (t 5) (t 6) (t 10) (t 11) (t 16) (t 17) (t 18) h Kn Kr) => ym13 Kn Kr t h H1) (by kernel_rfl)
def ym31 (x0 x1 x2 x3 x4 x5 x6 : Value) (h : H) (Q : K1) : Prop := yw2t x0 x1 x2 x3 x4 x5 x6 h (fun y14 y15 h => bif [y14, y15].all boxV then Q (.tuple #[y14, y15]) h else False) (fun y14 y15 h => bif [y14, y15].all boxV then Q (.tuple #[y14, y15]) h else False)
theorem ye1o (x0 x1 x2 x3 x4 x5 x6 : Value) (h : H) (Q : K1) (H0 : ym31 x0 x1 x2 x3 x4 x5 x6 h Q) : AM.Spec PG ynh3 [x0, x1, x2, x3, x4, x5, x6] h Q :=
  yqxt mixed (fn := Tryz.f11) Tryz.func11 (c := ygjk Tryz.f11.body) (rs := [14, 15]) (N := 54) (by kernel_rfl) (by kernel_rfl) (by kernel_rfl) (by kernel_rfl) (by kernel_rfl) (Nat.le_of_ble_eq_true rfl) (yv7q (fun y14 y15 h => bif [y14, y15].all boxV then Q (.tuple #[y14, y15]) h else False) (fun y14 y15 h => bif [y14, y15].all boxV then Q (.tuple #[y14, y15]) h else False) (tinit [x0, x1, x2, x3, x4, x5, x6]) h H0) (by kernel_rfl)
end Go.Proofs.YtnckimioabkheaaGreat

