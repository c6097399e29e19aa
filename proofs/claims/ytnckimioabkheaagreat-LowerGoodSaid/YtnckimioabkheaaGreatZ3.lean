/-
  Part of a proof: several texts put together, long names shortened.
-/
import Derived.Test.YtnckimioabkheaaGreatZ2
import Derived.KernelRfl
set_option linter.unusedVariables false
set_option linter.unusedSimpArgs false
set_option maxRecDepth 100000
set_option maxHeartbeats 2000000
namespace Go.Proofs.YtnckimioabkheaaGreat
open Go.Proofs.YtnckimioabkheaaGreat.AM
def y9mj (x0 : Value) (h : H) (Kn : K1) (Kr : K1) : Prop :=
  u_bin PG .rem ycpa x0 (.int .u32 256) fun v5 => u_bin PG .sub ycpa x0 v5 fun v6 => Kr v6 h
theorem y83i (Kn : K1) (Kr : K1) (t : T) (h : H) (H0 : y9mj (t 0) h Kn Kr) : Wp PG 7 (ygjk Tryz.f153.body) (mkQ (q1 Kn 2) (q1 Kr 2) ke0) t h :=
  wpEqC ct0_ok H0 (by kernel_rfl)
def yp45 (x0 : Value) (h : H) (Q : K1) : Prop := y9mj x0 h Q Q
theorem y477 (x0 : Value) (h : H) (Q : K1) (H0 : yp45 x0 h Q) : AM.Spec PG yvsl [x0] h Q :=
  yqxt mixed (fn := Tryz.f153) Tryz.func153 (c := ygjk Tryz.f153.body) (rs := [2]) (N := 7) (by kernel_rfl) (by kernel_rfl) (by kernel_rfl) (by kernel_rfl) (by kernel_rfl) (Nat.le_of_ble_eq_true rfl) (y83i Q Q (tinit [x0]) h H0) (by kernel_rfl)
def y68j (a : Int) : Int := IntKind.u32.wrap (a - a.tmod 256)
theorem yy96 {a : Int} {K : K1} {h : H} (hk : K (.int .u32 (y68j a)) h) : AM.Spec PG yvsl [.int .u32 a] h K := by
  refine yz7m (fun K hk => ?_) hk
  refine y477 _ _ _ ?_
  simp (config := {contextual := true, dsimp := false, maxSteps := 1000000}) [↓y88o, ↓yp45, ↓y9mj]
  all_goals (intros; repeat' (refine ite_i (fun _ => ?_) (fun _ => ?_)))
  all_goals refine fin hk (by repeat (first | exact Sub.refl _ | refine Sub.upd ?_ (by assumption))) ?_
  all_goals first | rfl | (simp only [y68j, *, ↓reduceIte]; done) | (simp_all [y68j]; done) | (simp_all [y68j] <;> omega)
def yc4c (args : List Value) : Option Value := match args with
  | [.int .u32 a] => some (.int .u32 (y68j a))
  | _ => none
@[simp] theorem y3ps {a : Int} : yc4c [.int .u32 a] = some (.int .u32 (y68j a)) := rfl
def ya8v : CE := .val yc4c
@[simp] theorem yxs8 {args : List Value} {h : H} {K : K1} : CE.run ya8v args h K = u_opt (yc4c args) fun v => K v h := rfl
theorem y2t8 (args : List Value) (h : H) (K : K1) (hr : CE.run ya8v args h K) : AM.Spec PG yvsl args h K := by
  rw [yxs8] at hr
  unfold yc4c at hr
  split at hr
  · exact yy96 hr
  · exact hr.elim
def y7h1 (x0 x1 : Value) (h : H) (Kn : K2) (Kr : K2) : Prop :=
  y2x6 .u64 x1 fun v8 => u_bin PG .add yxjj v8 (.int .u64 256) fun v9 => u_bin PG .sub yxjj v9 (.int .u64 1) fun v10 => u_bin PG .quo yxjj v10 (.int .u64 256) fun v11 => u_bin PG .gtr ycpa x1 (.int .u32 0) fun v14 => ydv6 v14 true (fun k6 => u_bin PG .rem ycpa x0 (.int .u32 256) fun v17 => u_bin PG .eql ycpa v17 (.int .u32 0) fun v18 => k6 v18 h) (fun v18 h => y9rg v14 v18 (.bool false) fun v19 => ydv6 v19 true (fun k14 => y2x6 .u64 x0 fun v22 => u_bin PG .mul yxjj v11 (.int .u64 256) fun v24 => u_bin PG .add yxjj v22 v24 fun v25 => u_bin PG .leq yxjj v25 (.int .u64 4294967296) fun v26 => k14 v26 h) (fun v26 h => y9rg v19 v26 (.bool false) fun v27 => Kr v11 v27 h) h) h
theorem y0vd (Kn : K2) (Kr : K2) (t : T) (h : H) (H0 : y7h1 (t 0) (t 1) h Kn Kr) : Wp PG 28 (ygjk Tryz.f274.body) (mkQ (q2 Kn 4 5) (q2 Kr 4 5) ke0) t h :=
  wpEqC ct0_ok H0 (by kernel_rfl)
def yll7 (x0 x1 : Value) (h : H) (Q : K1) : Prop := y7h1 x0 x1 h (fun y4 y5 h => bif [y4, y5].all boxV then Q (.tuple #[y4, y5]) h else False) (fun y4 y5 h => bif [y4, y5].all boxV then Q (.tuple #[y4, y5]) h else False)
theorem ymhu (x0 x1 : Value) (h : H) (Q : K1) (H0 : yll7 x0 x1 h Q) : AM.Spec PG y4iq [x0, x1] h Q :=
  yqxt mixed (fn := Tryz.f274) Tryz.func274 (c := ygjk Tryz.f274.body) (rs := [4, 5]) (N := 28) (by kernel_rfl) (by kernel_rfl) (by kernel_rfl) (by kernel_rfl) (by kernel_rfl) (Nat.le_of_ble_eq_true rfl) (y0vd (fun y4 y5 h => bif [y4, y5].all boxV then Q (.tuple #[y4, y5]) h else False) (fun y4 y5 h => bif [y4, y5].all boxV then Q (.tuple #[y4, y5]) h else False) (tinit [x0, x1]) h H0) (by kernel_rfl)
def yte2 (a n : Int) : Int := IntKind.u64.wrap ((IntKind.u64.wrap (IntKind.u64.wrap (IntKind.u64.wrap n + 256) - 1)).tdiv 256)
def ywc5 (a n : Int) : Bool := decide (0 < n) && decide (a.tmod 256 = 0) && decide (IntKind.u64.wrap (IntKind.u64.wrap a + IntKind.u64.wrap (IntKind.u64.wrap ((IntKind.u64.wrap (IntKind.u64.wrap (IntKind.u64.wrap n + 256) - 1)).tdiv 256) * 256)) ≤ 4294967296)
theorem yh0x {a n : Int} {K : K1} {h : H} (hk : K (.tuple #[.int .u64 (yte2 a n), .bool (ywc5 a n)]) h) : AM.Spec PG y4iq [.int .u32 a, .int .u32 n] h K := by
  refine yz7m (fun K hk => ?_) hk
  refine ymhu _ _ _ _ ?_
  simp (config := {contextual := true, dsimp := false, maxSteps := 1000000}) [↓y88o, ↓yll7, ↓y7h1]
  all_goals (intros; repeat' (refine ite_i (fun _ => ?_) (fun _ => ?_)))
  all_goals refine fin hk (by repeat (first | exact Sub.refl _ | refine Sub.upd ?_ (by assumption))) ?_
  all_goals first | rfl | (simp only [yte2, ywc5, *, ↓reduceIte]; done) | (simp_all [yte2, ywc5]; done) | (simp_all [yte2, ywc5] <;> omega)
def yz9d (args : List Value) : Option Value := match args with
  | [.int .u32 a, .int .u32 n] => some (.tuple #[.int .u64 (yte2 a n), .bool (ywc5 a n)])
  | _ => none
@[simp] theorem yu8c {a n : Int} : yz9d [.int .u32 a, .int .u32 n] = some (.tuple #[.int .u64 (yte2 a n), .bool (ywc5 a n)]) := rfl
def yhwx : CE := .val yz9d
@[simp] theorem yn6s {args : List Value} {h : H} {K : K1} : CE.run yhwx args h K = u_opt (yz9d args) fun v => K v h := rfl
theorem y6k1 (args : List Value) (h : H) (K : K1) (hr : CE.run yhwx args h K) : AM.Spec PG y4iq args h K := by
  rw [yn6s] at hr
  unfold yz9d at hr
  split at hr
  · exact yh0x hr
  · exact hr.elim
def ysly (x0 : Value) (h : H) (Kn : K1) (Kr : K1) : Prop :=
  boxV x0 = true ∧ u_new (Value.cells x0).toList yqxz .exact h fun b1 h => u_bf false 1 0 (.pointer (some ⟨b1, 0, none⟩)) h fun v4 => u_bin PG .eql T_int v4 (.int .i64 1) fun v6 => u_if v6 (u_bf false 1 2 (.pointer (some ⟨b1, 0, none⟩)) h fun v8 => u_bin PG .eql ycpa v8 (.int .u32 0) fun v9 => ydv6 v9 true (fun k6 => u_bf false 1 3 (.pointer (some ⟨b1, 0, none⟩)) h fun v12 => u_bin PG .neq yoj6 v12 (.int .u8 0) fun v13 => k6 v13 h) (fun v13 h => y9rg v9 v13 (.bool false) fun v14 => Kr v14 h) h) (u_bin PG .eql T_int v4 (.int .i64 4) fun v16 => u_if v16 (u_bf false 1 2 (.pointer (some ⟨b1, 0, none⟩)) h fun v18 => u_bin PG .neq ycpa v18 (.int .u32 0) fun v19 => ydv6 v19 true (fun k11 => u_bf false 1 1 (.pointer (some ⟨b1, 0, none⟩)) h fun v22 => y2x6 .u64 v22 fun v23 => u_bf false 1 2 (.pointer (some ⟨b1, 0, none⟩)) h fun v25 => y2x6 .u64 v25 fun v26 => u_bin PG .add yxjj v23 v26 fun v27 => u_bin PG .leq yxjj v27 (.int .u64 4294967296) fun v28 => k11 v28 h) (fun v28 h => y9rg v19 v28 (.bool false) fun v29 => ydv6 v29 true (fun k16 => u_bf false 1 3 (.pointer (some ⟨b1, 0, none⟩)) h fun v32 => u_bin PG .neq yoj6 v32 (.int .u8 0) fun v33 => k16 v33 h) (fun v33 h => y9rg v29 v33 (.bool false) fun v34 => Kr v34 h) h) h) (yi4e PG T_int v4 [(.int .i64 2), (.int .i64 3), (.int .i64 5)] fun w35 => u_if w35 (u_bf false 1 1 (.pointer (some ⟨b1, 0, none⟩)) h fun v40 => u_bin PG .eql ycpa v40 (.int .u32 0) fun v41 => ydv6 v41 true (fun k6 => u_bf false 1 2 (.pointer (some ⟨b1, 0, none⟩)) h fun v44 => u_bin PG .eql ycpa v44 (.int .u32 0) fun v45 => k6 v45 h) (fun v45 h => y9rg v41 v45 (.bool false) fun v46 => ydv6 v46 true (fun k11 => u_bf false 1 3 (.pointer (some ⟨b1, 0, none⟩)) h fun v49 => u_bin PG .neq yoj6 v49 (.int .u8 0) fun v50 => k11 v50 h) (fun v50 h => y9rg v46 v50 (.bool false) fun v51 => Kr v51 h) h) h) (Kr (.bool false) h)))
theorem ygrb (Kn : K1) (Kr : K1) (t : T) (h : H) (H0 : ysly (t 0) h Kn Kr) : Wp PG 52 (ygjk Tryz.f313.body) (mkQ (q1 Kn 2) (q1 Kr 2) ke0) t h :=
  wpEqC ct0_ok H0 (by kernel_rfl)
def ywlp (x0 : Value) (h : H) (Q : K1) : Prop := ysly x0 h Q Q
theorem yxeu (x0 : Value) (h : H) (Q : K1) (H0 : ywlp x0 h Q) : AM.Spec PG y7ff [x0] h Q :=
  yqxt mixed (fn := Tryz.f313) Tryz.func313 (c := ygjk Tryz.f313.body) (rs := [2]) (N := 52) (by kernel_rfl) (by kernel_rfl) (by kernel_rfl) (by kernel_rfl) (by kernel_rfl) (Nat.le_of_ble_eq_true rfl) (ygrb Q Q (tinit [x0]) h H0) (by kernel_rfl)
def ympr (k a n l : Int) : Bool := if k = 1 then decide (n = 0) && !decide (l = 0) else if k = 4 then !decide (n = 0) && decide (IntKind.u64.wrap (IntKind.u64.wrap a + IntKind.u64.wrap n) ≤ 4294967296) && !decide (l = 0) else if (k = 2 ∨ k = 3) ∨ k = 5 then decide (a = 0) && decide (n = 0) && !decide (l = 0) else false
theorem ya8p {k a n l : Int} {K : K1} {h : H} (hk : K (.bool (ympr k a n l)) h) : AM.Spec PG y7ff [.agg #[.int .i64 k, .int .u32 a, .int .u32 n, .int .u8 l]] h K := by
  refine yz7m (fun K hk => ?_) hk
  refine yxeu _ _ _ ?_
  simp (config := {contextual := true, dsimp := false, maxSteps := 1000000}) [↓y88o, ↓ywlp, ↓ysly]
  all_goals (intros; repeat' (refine ite_i (fun _ => ?_) (fun _ => ?_)))
  all_goals refine fin hk (by repeat (first | exact Sub.refl _ | refine Sub.upd ?_ (by assumption))) ?_
  all_goals first | rfl | (simp only [ympr, *, ↓reduceIte]; done) | (simp_all [ympr]; done) | (simp_all [ympr] <;> omega)
def yd9q (args : List Value) : Option Value := match args with
  | [.agg ⟨[.int .i64 k, .int .u32 a, .int .u32 n, .int .u8 l]⟩] => some (.bool (ympr k a n l))
  | _ => none
@[simp] theorem ymr3 {k a n l : Int} : yd9q [.agg #[.int .i64 k, .int .u32 a, .int .u32 n, .int .u8 l]] = some (.bool (ympr k a n l)) := rfl
def y2dd : CE := .val yd9q
@[simp] theorem yhtj {args : List Value} {h : H} {K : K1} : CE.run y2dd args h K = u_opt (yd9q args) fun v => K v h := rfl
theorem ytwt (args : List Value) (h : H) (K : K1) (hr : CE.run y2dd args h K) : AM.Spec PG y7ff args h K := by
  rw [yhtj] at hr
  unfold yd9q at hr
  split at hr
  · exact ya8p hr
  · exact hr.elim
def yh25 (x0 : Value) (h : H) (Kn : K1) (Kr : K1) : Prop :=
  boxV x0 = true ∧ u_new (Value.cells x0).toList yti5 .exact h fun b1 h => u_bf false 1 0 (.pointer (some ⟨b1, 0, none⟩)) h fun v4 => u_bin PG .lss T_int v4 (.int .i64 1) fun v5 => ydv6 v5 false (fun k6 => u_bf false 1 0 (.pointer (some ⟨b1, 0, none⟩)) h fun v8 => u_bin PG .gtr T_int v8 (.int .i64 5) fun v9 => k6 v9 h) (fun v9 h => y9rg v5 (.bool true) v9 fun v10 => ydv6 v10 false (fun k11 => u_bf false 1 2 (.pointer (some ⟨b1, 0, none⟩)) h fun v13 => u_bin PG .eql yoj6 v13 (.int .u8 0) fun v14 => k11 v14 h) (fun v14 h => y9rg v10 (.bool true) v14 fun v15 => u_if v15 (Kr (.bool false) h) (u_bf false 1 1 (.pointer (some ⟨b1, 0, none⟩)) h fun v17 => u_bin PG .eql T_int v17 (.int .i64 0) fun v18 => ydv6 v18 false (fun k16 => u_bf false 1 0 (.pointer (some ⟨b1, 0, none⟩)) h fun v21 => u_bin PG .eql T_int v21 (.int .i64 4) fun v22 => ydv6 v22 true (fun k10 => u_bf false 1 1 (.pointer (some ⟨b1, 0, none⟩)) h fun v25 => u_bin PG .gtr T_int v25 (.int .i64 0) fun v26 => k10 v26 h) (fun v26 h => y9rg v22 v26 (.bool false) fun v27 => ydv6 v27 true (fun k15 => u_bf false 1 1 (.pointer (some ⟨b1, 0, none⟩)) h fun v30 => u_bin PG .leq T_int v30 (.int .i64 6) fun v31 => k15 v31 h) (fun v31 h => y9rg v27 v31 (.bool false) fun v32 => k16 v32 h) h) h) (fun v32 h => y9rg v18 (.bool true) v32 fun v33 => Kr v33 h) h)) h) h
theorem y2cn (Kn : K1) (Kr : K1) (t : T) (h : H) (H0 : yh25 (t 0) h Kn Kr) : Wp PG 34 (ygjk Tryz.f314.body) (mkQ (q1 Kn 2) (q1 Kr 2) ke0) t h :=
  wpEqC ct0_ok H0 (by kernel_rfl)
def yqa8 (x0 : Value) (h : H) (Q : K1) : Prop := yh25 x0 h Q Q
theorem ycs6 (x0 : Value) (h : H) (Q : K1) (H0 : yqa8 x0 h Q) : AM.Spec PG yij4 [x0] h Q :=
  yqxt mixed (fn := Tryz.f314) Tryz.func314 (c := ygjk Tryz.f314.body) (rs := [2]) (N := 34) (by kernel_rfl) (by kernel_rfl) (by kernel_rfl) (by kernel_rfl) (by kernel_rfl) (Nat.le_of_ble_eq_true rfl) (y2cn Q Q (tinit [x0]) h H0) (by kernel_rfl)
def yevx (k a m : Int) : Bool := if (k < 1 ∨ 5 < k) ∨ m = 0 then false else decide (a = 0) || decide (k = 4) && decide (0 < a) && decide (a ≤ 6)
theorem yr14 {k a m : Int} {K : K1} {h : H} (hk : K (.bool (yevx k a m)) h) : AM.Spec PG yij4 [.agg #[.int .i64 k, .int .i64 a, .int .u8 m]] h K := by
  refine yz7m (fun K hk => ?_) hk
  refine ycs6 _ _ _ ?_
  simp (config := {contextual := true, dsimp := false, maxSteps := 1000000}) [↓y88o, ↓yqa8, ↓yh25]
  all_goals (intros; repeat' (refine ite_i (fun _ => ?_) (fun _ => ?_)))
  all_goals refine fin hk (by repeat (first | exact Sub.refl _ | refine Sub.upd ?_ (by assumption))) ?_
  all_goals first | rfl | (simp only [yevx, *, ↓reduceIte]; done) | (simp_all [yevx]; done) | (simp_all [yevx] <;> omega)
def yhkw (args : List Value) : Option Value := match args with
  | [.agg ⟨[.int .i64 k, .int .i64 a, .int .u8 m]⟩] => some (.bool (yevx k a m))
  | _ => none
@[simp] theorem ym2c {k a m : Int} : yhkw [.agg #[.int .i64 k, .int .i64 a, .int .u8 m]] = some (.bool (yevx k a m)) := rfl
def yabu : CE := .val yhkw
@[simp] theorem ypxk {args : List Value} {h : H} {K : K1} : CE.run yabu args h K = u_opt (yhkw args) fun v => K v h := rfl
theorem ylm1 (args : List Value) (h : H) (K : K1) (hr : CE.run yabu args h K) : AM.Spec PG yij4 args h K := by
  rw [ypxk] at hr
  unfold yhkw at hr
  split at hr
  · exact yr14 hr
  · exact hr.elim
def yeln (x0 x1 x2 : Value) (h : H) (Kn : K1) (Kr : K1) : Prop :=
  u_bin PG .shr ycpa x0 x1 fun v9 => u_bin PG .shl ycpa (.int .u32 1) x2 fun v11 => u_bin PG .sub ycpa v11 (.int .u32 1) fun v12 => u_bin PG .and ycpa v9 v12 fun v13 => y2x6 .i64 v13 fun v14 => Kn v14 h
theorem yr1j (Kn : K1) (Kr : K1) (t : T) (h : H) (H0 : yeln (t 0) (t 1) (t 2) h Kn Kr) : Wp PG 15 (seqL (rest 1 (ygjk Tryz.f227.body))) (mkQ (q1 Kn 6) (q1 Kr 6) ke0) t h :=
  ybop ct0_ok [0, 1, 2, 3, 4, 5, 6, 7, 8] (by kernel_rfl) (by kernel_rfl) H0 (by kernel_rfl)
def yy25 (x6 : Value) (h : H) (Kn : K1) (Kr : K1) : Prop :=
  Kr x6 h
theorem yna5 (Kn : K1) (Kr : K1) (t : T) (h : H) (H0 : yy25 (t 6) h Kn Kr) : Wp PG 15 (seqR (rest 1 (ygjk Tryz.f227.body))) (mkQ (q1 Kn 6) (q1 Kr 6) ke0) t h :=
  wpEqC ct0_ok H0 (by kernel_rfl)
def y5lx (x0 x1 x2 : Value) (h : H) (Kn : K1) (Kr : K1) : Prop :=
  yeln x0 x1 x2 h (fun y6 h => yy25 y6 h Kn Kr) Kr
theorem yqch (Kn : K1) (Kr : K1) (t : T) (h : H) (H0 : y5lx (t 0) (t 1) (t 2) h Kn Kr) : Wp PG 15 (rest 1 (ygjk Tryz.f227.body)) (mkQ (q1 Kn 6) (q1 Kr 6) ke0) t h :=
  ykv2 (by kernel_rfl) (fun t h H1 => yna5 Kn Kr t h H1) (yr1j (fun y6 h => yy25 y6 h Kn Kr) Kr t h H0)
def y98s (x0 x1 x2 : Value) (h : H) (Kn : K1) (Kr : K1) : Prop :=
  y5lx x0 x1 x2 h Kn Kr
theorem yfts (Kn : K1) (Kr : K1) (t : T) (h : H) (H0 : y98s (t 0) (t 1) (t 2) h Kn Kr) : Wp PG 15 (ygjk Tryz.f227.body) (mkQ (q1 Kn 6) (q1 Kr 6) ke0) t h :=
  yvnp ct0_ok 1 H0 (by kernel_rfl) (fun t h (H1 : y5lx (t 0) (t 1) (t 2) h Kn Kr) => yqch Kn Kr t h H1) (by kernel_rfl)
def y1eb (x0 x1 x2 : Value) (h : H) (Q : K1) : Prop := y98s x0 x1 x2 h Q Q
theorem yki6 (x0 x1 x2 : Value) (h : H) (Q : K1) (H0 : y1eb x0 x1 x2 h Q) : AM.Spec PG y5fh [x0, x1, x2] h Q :=
  yqxt mixed (fn := Tryz.f227) Tryz.func227 (c := ygjk Tryz.f227.body) (rs := [6]) (N := 15) (by kernel_rfl) (by kernel_rfl) (by kernel_rfl) (by kernel_rfl) (by kernel_rfl) (Nat.le_of_ble_eq_true rfl) (yfts Q Q (tinit [x0, x1, x2]) h H0) (by kernel_rfl)
def yz4y (w f m : Int) : Int := IntKind.i64.wrap (IntKind.u32.wrap ↑((w.fdiv (2 ^ min f.toNat IntKind.u32.bits) % 2 ^ IntKind.u32.bits).toNat &&& (IntKind.u32.wrap (IntKind.u32.wrap (2 ^ min m.toNat IntKind.u32.bits) - 1) % 2 ^ IntKind.u32.bits).toNat))
theorem y2zy {w f m : Int} (hg : 0 ≤ f ∧ 0 ≤ m) {K : K1} {h : H} (hk : K (.int .i64 (yz4y w f m)) h) : AM.Spec PG y5fh [.int .u32 w, .int .i64 f, .int .i64 m] h K := by
  refine yz7m (fun K hk => ?_) hk
  refine yki6 _ _ _ _ _ ?_
  simp (config := {contextual := true, dsimp := false, maxSteps := 1000000}) [↓y88o, ↓y1eb, ↓y98s, ↓y5lx, ↓yeln, ↓yy25, hg]
  all_goals (intros; repeat' (refine ite_i (fun _ => ?_) (fun _ => ?_)))
  all_goals refine fin hk (by repeat (first | exact Sub.refl _ | refine Sub.upd ?_ (by assumption))) ?_
  all_goals first | rfl | (simp only [yz4y, *, ↓reduceIte]; done) | (simp_all [yz4y]; done) | (simp_all [yz4y] <;> omega)
def yfll (args : List Value) : Option Value := match args with
  | [.int .u32 w, .int .i64 f, .int .i64 m] => if 0 ≤ f ∧ 0 ≤ m then some (.int .i64 (yz4y w f m)) else none
  | _ => none
@[simp] theorem y023 {w f m : Int} (hg : 0 ≤ f ∧ 0 ≤ m) : yfll [.int .u32 w, .int .i64 f, .int .i64 m] = some (.int .i64 (yz4y w f m)) := if_pos hg
def yfwc : CE := .val yfll
@[simp] theorem y9ls {args : List Value} {h : H} {K : K1} : CE.run yfwc args h K = u_opt (yfll args) fun v => K v h := rfl
theorem yk74 (args : List Value) (h : H) (K : K1) (hr : CE.run yfwc args h K) : AM.Spec PG y5fh args h K := by
  rw [y9ls] at hr
  unfold yfll at hr
  split at hr
  · split at hr
    · rename_i hg
      exact y2zy hg hr
    · exact hr.elim
  · exact hr.elim
def yj1p (x0 : Value) (h : H) (Kn : K1) (Kr : K1) : Prop :=
  u_bin PG .eql ycpa x0 (.int .u32 115) fun v5 => u_if v5 (Kr (.int .i64 48) h) (u_bin PG .eql ycpa x0 (.int .u32 1048691) fun v7 => u_if v7 (Kr (.int .i64 49) h) (Kr (.int .i64 0) h))
theorem yabf (Kn : K1) (Kr : K1) (t : T) (h : H) (H0 : yj1p (t 0) h Kn Kr) : Wp PG 8 (ygjk Tryz.f286.body) (mkQ (q1 Kn 2) (q1 Kr 2) ke0) t h :=
  wpEqC ct0_ok H0 (by kernel_rfl)
def ysvv (x0 : Value) (h : H) (Q : K1) : Prop := yj1p x0 h Q Q
theorem y66v (x0 : Value) (h : H) (Q : K1) (H0 : ysvv x0 h Q) : AM.Spec PG yal3 [x0] h Q :=
  yqxt mixed (fn := Tryz.f286) Tryz.func286 (c := ygjk Tryz.f286.body) (rs := [2]) (N := 8) (by kernel_rfl) (by kernel_rfl) (by kernel_rfl) (by kernel_rfl) (by kernel_rfl) (Nat.le_of_ble_eq_true rfl) (yabf Q Q (tinit [x0]) h H0) (by kernel_rfl)
def yywu (w : Int) : Int := if w = 115 then 48 else if w = 1048691 then 49 else 0
theorem yuo0 {w : Int} {K : K1} {h : H} (hk : K (.int .i64 (yywu w)) h) : AM.Spec PG yal3 [.int .u32 w] h K := by
  refine yz7m (fun K hk => ?_) hk
  refine y66v _ _ _ ?_
  simp (config := {contextual := true, dsimp := false, maxSteps := 1000000}) [↓y88o, ↓ysvv, ↓yj1p]
  all_goals (intros; repeat' (refine ite_i (fun _ => ?_) (fun _ => ?_)))
  all_goals refine fin hk (by repeat (first | exact Sub.refl _ | refine Sub.upd ?_ (by assumption))) ?_
  all_goals first | rfl | (simp only [yywu, *, ↓reduceIte]; done) | (simp_all [yywu]; done) | (simp_all [yywu] <;> omega)
def ywck (args : List Value) : Option Value := match args with
  | [.int .u32 w] => some (.int .i64 (yywu w))
  | _ => none
@[simp] theorem yds6 {w : Int} : ywck [.int .u32 w] = some (.int .i64 (yywu w)) := rfl
def yci3 : CE := .val ywck
@[simp] theorem yuve {args : List Value} {h : H} {K : K1} : CE.run yci3 args h K = u_opt (ywck args) fun v => K v h := rfl
theorem y99r (args : List Value) (h : H) (K : K1) (hr : CE.run yci3 args h K) : AM.Spec PG yal3 args h K := by
  rw [yuve] at hr
  unfold ywck at hr
  split at hr
  · exact yuo0 hr
  · exact hr.elim
def y33i (x0 : Value) (h : H) (Kn : K1) (Kr : K1) : Prop :=
  y2x6 .i32 x0 fun v4 => u_bin PG .shr yqm3 v4 (.int .u64 20) fun v5 => Kr v5 h
theorem y3tz (Kn : K1) (Kr : K1) (t : T) (h : H) (H0 : y33i (t 0) h Kn Kr) : Wp PG 6 (ygjk Tryz.f231.body) (mkQ (q1 Kn 2) (q1 Kr 2) ke0) t h :=
  wpEqC ct0_ok H0 (by kernel_rfl)
def yfiw (x0 : Value) (h : H) (Q : K1) : Prop := y33i x0 h Q Q
theorem y2kx (x0 : Value) (h : H) (Q : K1) (H0 : yfiw x0 h Q) : AM.Spec PG yhez [x0] h Q :=
  yqxt mixed (fn := Tryz.f231) Tryz.func231 (c := ygjk Tryz.f231.body) (rs := [2]) (N := 6) (by kernel_rfl) (by kernel_rfl) (by kernel_rfl) (by kernel_rfl) (by kernel_rfl) (Nat.le_of_ble_eq_true rfl) (y3tz Q Q (tinit [x0]) h H0) (by kernel_rfl)
def yqpc (w : Int) : Int := (IntKind.i32.wrap w).fdiv (2 ^ min 20 IntKind.i32.bits)
theorem ywjg {w : Int} {K : K1} {h : H} (hk : K (.int .i32 (yqpc w)) h) : AM.Spec PG yhez [.int .u32 w] h K := by
  refine yz7m (fun K hk => ?_) hk
  refine y2kx _ _ _ ?_
  simp (config := {contextual := true, dsimp := false, maxSteps := 1000000}) [↓y88o, ↓yfiw, ↓y33i]
  all_goals (intros; repeat' (refine ite_i (fun _ => ?_) (fun _ => ?_)))
  all_goals refine fin hk (by repeat (first | exact Sub.refl _ | refine Sub.upd ?_ (by assumption))) ?_
  all_goals first | rfl | (simp only [yqpc, *, ↓reduceIte]; done) | (simp_all [yqpc]; done) | (simp_all [yqpc] <;> omega)
def ya64 (args : List Value) : Option Value := match args with
  | [.int .u32 w] => some (.int .i32 (yqpc w))
  | _ => none
@[simp] theorem ybha {w : Int} : ya64 [.int .u32 w] = some (.int .i32 (yqpc w)) := rfl
def ygp9 : CE := .val ya64
@[simp] theorem yyrd {args : List Value} {h : H} {K : K1} : CE.run ygp9 args h K = u_opt (ya64 args) fun v => K v h := rfl
theorem y5jv (args : List Value) (h : H) (K : K1) (hr : CE.run ygp9 args h K) : AM.Spec PG yhez args h K := by
  rw [yyrd] at hr
  unfold ya64 at hr
  split at hr
  · exact ywjg hr
  · exact hr.elim
def y6o5 (x0 : Value) (h : H) (Kn : K1) (Kr : K1) : Prop :=
  boxV x0 = true ∧ u_new (Value.cells x0).toList yc0x .exact h fun b1 h => u_bf false 1 0 (.pointer (some ⟨b1, 0, none⟩)) h fun v4 => u_bin PG .eql T_int v4 (.int .i64 0) fun v5 => ydv6 v5 false (fun k11 => u_bf false 1 0 (.pointer (some ⟨b1, 0, none⟩)) h fun v8 => u_bin PG .geq T_int v8 (.int .i64 3) fun v9 => ydv6 v9 true (fun k10 => u_bf false 1 0 (.pointer (some ⟨b1, 0, none⟩)) h fun v12 => u_bin PG .leq T_int v12 (.int .i64 10) fun v13 => k10 v13 h) (fun v13 h => y9rg v9 v13 (.bool false) fun v14 => k11 v14 h) h) (fun v14 h => y9rg v5 (.bool true) v14 fun v15 => ydv6 v15 false (fun k21 => u_bf false 1 0 (.pointer (some ⟨b1, 0, none⟩)) h fun v18 => u_bin PG .geq T_int v18 (.int .i64 47) fun v19 => ydv6 v19 true (fun k20 => u_bf false 1 0 (.pointer (some ⟨b1, 0, none⟩)) h fun v22 => u_bin PG .leq T_int v22 (.int .i64 49) fun v23 => k20 v23 h) (fun v23 h => y9rg v19 v23 (.bool false) fun v24 => k21 v24 h) h) (fun v24 h => y9rg v15 (.bool true) v24 fun v25 => Kr v25 h) h) h
theorem ye4v (Kn : K1) (Kr : K1) (t : T) (h : H) (H0 : y6o5 (t 0) h Kn Kr) : Wp PG 26 (ygjk Tryz.f50.body) (mkQ (q1 Kn 2) (q1 Kr 2) ke0) t h :=
  wpEqC ct0_ok H0 (by kernel_rfl)
def y77t (x0 : Value) (h : H) (Q : K1) : Prop := y6o5 x0 h Q Q
theorem ynvz (x0 : Value) (h : H) (Q : K1) (H0 : y77t x0 h Q) : AM.Spec PG yb75 [x0] h Q :=
  yqxt mixed (fn := Tryz.f50) Tryz.func50 (c := ygjk Tryz.f50.body) (rs := [2]) (N := 26) (by kernel_rfl) (by kernel_rfl) (by kernel_rfl) (by kernel_rfl) (by kernel_rfl) (Nat.le_of_ble_eq_true rfl) (ye4v Q Q (tinit [x0]) h H0) (by kernel_rfl)
def yesp (o a b c d : Int) : Bool := decide (o = 0) || decide (3 ≤ o) && decide (o ≤ 10) || decide (47 ≤ o) && decide (o ≤ 49)
theorem yy2h {o a b c d : Int} {K : K1} {h : H} (hk : K (.bool (yesp o a b c d)) h) : AM.Spec PG yb75 [.agg #[.int .i64 o, .int .i64 a, .int .i64 b, .int .i64 c, .int .i32 d]] h K := by
  refine yz7m (fun K hk => ?_) hk
  refine ynvz _ _ _ ?_
  simp (config := {contextual := true, dsimp := false, maxSteps := 1000000}) [↓y88o, ↓y77t, ↓y6o5]
  all_goals (intros; repeat' (refine ite_i (fun _ => ?_) (fun _ => ?_)))
  all_goals refine fin hk (by repeat (first | exact Sub.refl _ | refine Sub.upd ?_ (by assumption))) ?_
  all_goals first | rfl | (simp only [yesp, *, ↓reduceIte]; done) | (simp_all [yesp]; done) | (simp_all [yesp] <;> omega)
def yx0s (args : List Value) : Option Value := match args with
  | [.agg ⟨[.int .i64 o, .int .i64 a, .int .i64 b, .int .i64 c, .int .i32 d]⟩] => some (.bool (yesp o a b c d))
  | _ => none
@[simp] theorem yutd {o a b c d : Int} : yx0s [.agg #[.int .i64 o, .int .i64 a, .int .i64 b, .int .i64 c, .int .i32 d]] = some (.bool (yesp o a b c d)) := rfl
def yuz9 : CE := .val yx0s
@[simp] theorem yxw2 {args : List Value} {h : H} {K : K1} : CE.run yuz9 args h K = u_opt (yx0s args) fun v => K v h := rfl
theorem yefq (args : List Value) (h : H) (K : K1) (hr : CE.run yuz9 args h K) : AM.Spec PG yb75 args h K := by
  rw [yxw2] at hr
  unfold yx0s at hr
  split at hr
  · exact yy2h hr
  · exact hr.elim
def y02q (x0 : Value) (h : H) (Kn : K2) (Kr : K2) : Prop :=
  u_bin PG .eql T_int x0 (.int .i64 11) fun v6 => u_if v6 (Kr (.int .i64 1) (.bool true) h) (u_bin PG .eql T_int x0 (.int .i64 12) fun v8 => u_if v8 (Kr (.int .i64 2) (.bool true) h) (yi4e PG T_int x0 [(.int .i64 14), (.int .i64 16)] fun w9 => u_if w9 (Kr (.int .i64 1) (.bool false) h) (yi4e PG T_int x0 [(.int .i64 15), (.int .i64 17)] fun w12 => u_if w12 (Kr (.int .i64 2) (.bool false) h) (Kr (.int .i64 4) (.bool false) h))))
theorem yqn2 (Kn : K2) (Kr : K2) (t : T) (h : H) (H0 : y02q (t 0) h Kn Kr) : Wp PG 15 (ygjk Tryz.f234.body) (mkQ (q2 Kn 2 3) (q2 Kr 2 3) ke0) t h :=
  wpEqC ct0_ok H0 (by kernel_rfl)
def y3tq (x0 : Value) (h : H) (Q : K1) : Prop := y02q x0 h (fun y2 y3 h => bif [y2, y3].all boxV then Q (.tuple #[y2, y3]) h else False) (fun y2 y3 h => bif [y2, y3].all boxV then Q (.tuple #[y2, y3]) h else False)
theorem y86y (x0 : Value) (h : H) (Q : K1) (H0 : y3tq x0 h Q) : AM.Spec PG youq [x0] h Q :=
  yqxt mixed (fn := Tryz.f234) Tryz.func234 (c := ygjk Tryz.f234.body) (rs := [2, 3]) (N := 15) (by kernel_rfl) (by kernel_rfl) (by kernel_rfl) (by kernel_rfl) (by kernel_rfl) (Nat.le_of_ble_eq_true rfl) (yqn2 (fun y2 y3 h => bif [y2, y3].all boxV then Q (.tuple #[y2, y3]) h else False) (fun y2 y3 h => bif [y2, y3].all boxV then Q (.tuple #[y2, y3]) h else False) (tinit [x0]) h H0) (by kernel_rfl)
def y1g3 (o : Int) : Int := if o = 11 then 1 else if o = 12 then 2 else if o = 14 ∨ o = 16 then 1 else if o = 15 ∨ o = 17 then 2 else 4
def y7dv (o : Int) : Bool := if o = 11 then true else if o = 12 then true else false
theorem y1w9 {o : Int} {K : K1} {h : H} (hk : K (.tuple #[.int .i64 (y1g3 o), .bool (y7dv o)]) h) : AM.Spec PG youq [.int .i64 o] h K := by
  refine yz7m (fun K hk => ?_) hk
  refine y86y _ _ _ ?_
  simp (config := {contextual := true, dsimp := false, maxSteps := 1000000}) [↓y88o, ↓y3tq, ↓y02q]
  all_goals (intros; repeat' (refine ite_i (fun _ => ?_) (fun _ => ?_)))
  all_goals refine fin hk (by repeat (first | exact Sub.refl _ | refine Sub.upd ?_ (by assumption))) ?_
  all_goals first | rfl | (simp only [y1g3, y7dv, *, ↓reduceIte]; done) | (simp_all [y1g3, y7dv]; done) | (simp_all [y1g3, y7dv] <;> omega)
def yuef (args : List Value) : Option Value := match args with
  | [.int .i64 o] => some (.tuple #[.int .i64 (y1g3 o), .bool (y7dv o)])
  | _ => none
@[simp] theorem y3oz {o : Int} : yuef [.int .i64 o] = some (.tuple #[.int .i64 (y1g3 o), .bool (y7dv o)]) := rfl
def y3yw : CE := .val yuef
@[simp] theorem ydzj {args : List Value} {h : H} {K : K1} : CE.run y3yw args h K = u_opt (yuef args) fun v => K v h := rfl
theorem ynwr (args : List Value) (h : H) (K : K1) (hr : CE.run y3yw args h K) : AM.Spec PG youq args h K := by
  rw [ydzj] at hr
  unfold yuef at hr
  split at hr
  · exact y1w9 hr
  · exact hr.elim
def ypw7 (x0 : Value) (h : H) (Kn : K1) (Kr : K1) : Prop :=
  u_bin PG .geq T_int x0 (.int .i64 16) fun v4 => ydv6 v4 true (fun k4 => u_bin PG .leq T_int x0 (.int .i64 18) fun v7 => k4 v7 h) (fun v7 h => y9rg v4 v7 (.bool false) fun v8 => Kr v8 h) h
theorem yu2j (Kn : K1) (Kr : K1) (t : T) (h : H) (H0 : ypw7 (t 0) h Kn Kr) : Wp PG 9 (ygjk Tryz.f235.body) (mkQ (q1 Kn 2) (q1 Kr 2) ke0) t h :=
  wpEqC ct0_ok H0 (by kernel_rfl)
def yba3 (x0 : Value) (h : H) (Q : K1) : Prop := ypw7 x0 h Q Q
theorem yjpl (x0 : Value) (h : H) (Q : K1) (H0 : yba3 x0 h Q) : AM.Spec PG y83g [x0] h Q :=
  yqxt mixed (fn := Tryz.f235) Tryz.func235 (c := ygjk Tryz.f235.body) (rs := [2]) (N := 9) (by kernel_rfl) (by kernel_rfl) (by kernel_rfl) (by kernel_rfl) (by kernel_rfl) (Nat.le_of_ble_eq_true rfl) (yu2j Q Q (tinit [x0]) h H0) (by kernel_rfl)
def y3qc (o : Int) : Bool := decide (16 ≤ o) && decide (o ≤ 18)
theorem yis4 {o : Int} {K : K1} {h : H} (hk : K (.bool (y3qc o)) h) : AM.Spec PG y83g [.int .i64 o] h K := by
  refine yz7m (fun K hk => ?_) hk
  refine yjpl _ _ _ ?_
  simp (config := {contextual := true, dsimp := false, maxSteps := 1000000}) [↓y88o, ↓yba3, ↓ypw7]
  all_goals (intros; repeat' (refine ite_i (fun _ => ?_) (fun _ => ?_)))
  all_goals refine fin hk (by repeat (first | exact Sub.refl _ | refine Sub.upd ?_ (by assumption))) ?_
  all_goals first | rfl | (simp only [y3qc, *, ↓reduceIte]; done) | (simp_all [y3qc]; done) | (simp_all [y3qc] <;> omega)
def yn1z (args : List Value) : Option Value := match args with
  | [.int .i64 o] => some (.bool (y3qc o))
  | _ => none
@[simp] theorem yi97 {o : Int} : yn1z [.int .i64 o] = some (.bool (y3qc o)) := rfl
def yda5 : CE := .val yn1z
@[simp] theorem yy0b {args : List Value} {h : H} {K : K1} : CE.run yda5 args h K = u_opt (yn1z args) fun v => K v h := rfl
theorem yqcz (args : List Value) (h : H) (K : K1) (hr : CE.run yda5 args h K) : AM.Spec PG y83g args h K := by
  rw [yy0b] at hr
  unfold yn1z at hr
  split at hr
  · exact yis4 hr
  · exact hr.elim
def ylqy (x0 x1 : Value) (h : H) (Kn : K1) (Kr : K1) : Prop :=
  y2x6 .i64 x1 fun v7 => u_bin PG .add yeb5 v7 (.int .i64 255) fun v8 => u_bin PG .quo yeb5 v8 (.int .i64 256) fun v9 => u_bin PG .eql ycpa x1 (.int .u32 0) fun v11 => ydv6 v11 false (fun k5 => u_bin PG .rem ycpa x0 (.int .u32 256) fun v14 => u_bin PG .neq ycpa v14 (.int .u32 0) fun v15 => k5 v15 h) (fun v15 h => y9rg v11 (.bool true) v15 fun v16 => ydv6 v16 false (fun k13 => y2x6 .i64 x0 fun v19 => u_bin PG .mul yeb5 v9 (.int .i64 256) fun v21 => u_bin PG .add yeb5 v19 v21 fun v22 => u_bin PG .gtr yeb5 v22 (.int .i64 4294967296) fun v23 => k13 v23 h) (fun v23 h => y9rg v16 (.bool true) v23 fun v24 => u_if v24 (Kr (.int .i64 (-1)) h) (Kr v9 h)) h) h
theorem ybo2 (Kn : K1) (Kr : K1) (t : T) (h : H) (H0 : ylqy (t 0) (t 1) h Kn Kr) : Wp PG 26 (ygjk Tryz.f219.body) (mkQ (q1 Kn 4) (q1 Kr 4) ke0) t h :=
  wpEqC ct0_ok H0 (by kernel_rfl)
def yf0u (x0 x1 : Value) (h : H) (Q : K1) : Prop := ylqy x0 x1 h Q Q
theorem y6p0 (x0 x1 : Value) (h : H) (Q : K1) (H0 : yf0u x0 x1 h Q) : AM.Spec PG yr2c [x0, x1] h Q :=
  yqxt mixed (fn := Tryz.f219) Tryz.func219 (c := ygjk Tryz.f219.body) (rs := [4]) (N := 26) (by kernel_rfl) (by kernel_rfl) (by kernel_rfl) (by kernel_rfl) (by kernel_rfl) (Nat.le_of_ble_eq_true rfl) (ybo2 Q Q (tinit [x0, x1]) h H0) (by kernel_rfl)
def yht4 (a n : Int) : Int := if (n = 0 ∨ ¬a.tmod 256 = 0) ∨ 4294967296 < IntKind.i64.wrap (IntKind.i64.wrap a + IntKind.i64.wrap (IntKind.i64.wrap ((IntKind.i64.wrap (IntKind.i64.wrap n + 255)).tdiv 256) * 256)) then -1 else IntKind.i64.wrap ((IntKind.i64.wrap (IntKind.i64.wrap n + 255)).tdiv 256)
theorem y127 {a n : Int} {K : K1} {h : H} (hk : K (.int .i64 (yht4 a n)) h) : AM.Spec PG yr2c [.int .u32 a, .int .u32 n] h K := by
  refine yz7m (fun K hk => ?_) hk
  refine y6p0 _ _ _ _ ?_
  simp (config := {contextual := true, dsimp := false, maxSteps := 1000000}) [↓y88o, ↓yf0u, ↓ylqy]
  all_goals (intros; repeat' (refine ite_i (fun _ => ?_) (fun _ => ?_)))
  all_goals refine fin hk (by repeat (first | exact Sub.refl _ | refine Sub.upd ?_ (by assumption))) ?_
  all_goals first | rfl | (simp only [yht4, *, ↓reduceIte]; done) | (simp_all [yht4]; done) | (simp_all [yht4] <;> omega)
def yz60 (args : List Value) : Option Value := match args with
  | [.int .u32 a, .int .u32 n] => some (.int .i64 (yht4 a n))
  | _ => none
@[simp] theorem y2kh {a n : Int} : yz60 [.int .u32 a, .int .u32 n] = some (.int .i64 (yht4 a n)) := rfl
def yr9w : CE := .val yz60
@[simp] theorem y14l {args : List Value} {h : H} {K : K1} : CE.run yr9w args h K = u_opt (yz60 args) fun v => K v h := rfl
theorem ybg8 (args : List Value) (h : H) (K : K1) (hr : CE.run yr9w args h K) : AM.Spec PG yr2c args h K := by
  rw [y14l] at hr
  unfold yz60 at hr
  split at hr
  · exact y127 hr
  · exact hr.elim
def yyq7 (x0 x1 x2 : Value) (h : H) (Kn : K1) (Kr : K1) : Prop :=
  y2x6 .i64 x0 fun v8 => y2x6 .i64 x1 fun v10 => u_bin PG .geq yeb5 v8 v10 fun v11 => ydv6 v11 true (fun k13 => y2x6 .i64 x0 fun v14 => y2x6 .i64 x1 fun v16 => u_bin PG .mul yeb5 x2 (.int .i64 256) fun v18 => u_bin PG .add yeb5 v16 v18 fun v19 => u_bin PG .lss yeb5 v14 v19 fun v20 => k13 v20 h) (fun v20 h => y9rg v11 v20 (.bool false) fun v21 => Kr v21 h) h
theorem yonh (Kn : K1) (Kr : K1) (t : T) (h : H) (H0 : yyq7 (t 0) (t 1) (t 2) h Kn Kr) : Wp PG 22 (ygjk Tryz.f279.body) (mkQ (q1 Kn 6) (q1 Kr 6) ke0) t h :=
  wpEqC ct0_ok H0 (by kernel_rfl)
def ycli (x0 x1 x2 : Value) (h : H) (Q : K1) : Prop := yyq7 x0 x1 x2 h Q Q
theorem yd6z (x0 x1 x2 : Value) (h : H) (Q : K1) (H0 : ycli x0 x1 x2 h Q) : AM.Spec PG y4ct [x0, x1, x2] h Q :=
  yqxt mixed (fn := Tryz.f279) Tryz.func279 (c := ygjk Tryz.f279.body) (rs := [6]) (N := 22) (by kernel_rfl) (by kernel_rfl) (by kernel_rfl) (by kernel_rfl) (by kernel_rfl) (Nat.le_of_ble_eq_true rfl) (yonh Q Q (tinit [x0, x1, x2]) h H0) (by kernel_rfl)
def yp6c (b a p : Int) : Bool := decide (IntKind.i64.wrap a ≤ IntKind.i64.wrap b) && decide (IntKind.i64.wrap b < IntKind.i64.wrap (IntKind.i64.wrap a + IntKind.i64.wrap (p * 256)))
theorem yxte {b a p : Int} {K : K1} {h : H} (hk : K (.bool (yp6c b a p)) h) : AM.Spec PG y4ct [.int .u32 b, .int .u32 a, .int .i64 p] h K := by
  refine yz7m (fun K hk => ?_) hk
  refine yd6z _ _ _ _ _ ?_
  simp (config := {contextual := true, dsimp := false, maxSteps := 1000000}) [↓y88o, ↓ycli, ↓yyq7]
  all_goals (intros; repeat' (refine ite_i (fun _ => ?_) (fun _ => ?_)))
  all_goals refine fin hk (by repeat (first | exact Sub.refl _ | refine Sub.upd ?_ (by assumption))) ?_
  all_goals first | rfl | (simp only [yp6c, *, ↓reduceIte]; done) | (simp_all [yp6c]; done) | (simp_all [yp6c] <;> omega)
def yal6 (args : List Value) : Option Value := match args with
  | [.int .u32 b, .int .u32 a, .int .i64 p] => some (.bool (yp6c b a p))
  | _ => none
@[simp] theorem ylq2 {b a p : Int} : yal6 [.int .u32 b, .int .u32 a, .int .i64 p] = some (.bool (yp6c b a p)) := rfl
def yyxh : CE := .val yal6
@[simp] theorem yy43 {args : List Value} {h : H} {K : K1} : CE.run yyxh args h K = u_opt (yal6 args) fun v => K v h := rfl
theorem y08x (args : List Value) (h : H) (K : K1) (hr : CE.run yyxh args h K) : AM.Spec PG y4ct args h K := by
  rw [yy43] at hr
  unfold yal6 at hr
  split at hr
  · exact yxte hr
  · exact hr.elim
def ygyk (x0 : Value) (h : H) (Kn : K1) (Kr : K1) : Prop :=
  u_bin PG .add yeb5 x0 (.int .i64 255) fun v4 => u_bin PG .quo yeb5 v4 (.int .i64 256) fun v5 => u_bin PG .mul yeb5 v5 (.int .i64 256) fun v6 => Kr v6 h
theorem yhsq (Kn : K1) (Kr : K1) (t : T) (h : H) (H0 : ygyk (t 0) h Kn Kr) : Wp PG 7 (ygjk Tryz.f216.body) (mkQ (q1 Kn 2) (q1 Kr 2) ke0) t h :=
  wpEqC ct0_ok H0 (by kernel_rfl)
def y2y5 (x0 : Value) (h : H) (Q : K1) : Prop := ygyk x0 h Q Q
theorem yxle (x0 : Value) (h : H) (Q : K1) (H0 : y2y5 x0 h Q) : AM.Spec PG yl5e [x0] h Q :=
  yqxt mixed (fn := Tryz.f216) Tryz.func216 (c := ygjk Tryz.f216.body) (rs := [2]) (N := 7) (by kernel_rfl) (by kernel_rfl) (by kernel_rfl) (by kernel_rfl) (by kernel_rfl) (Nat.le_of_ble_eq_true rfl) (yhsq Q Q (tinit [x0]) h H0) (by kernel_rfl)
def yy7c (n : Int) : Int := IntKind.i64.wrap (IntKind.i64.wrap ((IntKind.i64.wrap (n + 255)).tdiv 256) * 256)
theorem ygjp {n : Int} {K : K1} {h : H} (hk : K (.int .i64 (yy7c n)) h) : AM.Spec PG yl5e [.int .i64 n] h K := by
  refine yz7m (fun K hk => ?_) hk
  refine yxle _ _ _ ?_
  simp (config := {contextual := true, dsimp := false, maxSteps := 1000000}) [↓y88o, ↓y2y5, ↓ygyk]
  all_goals (intros; repeat' (refine ite_i (fun _ => ?_) (fun _ => ?_)))
  all_goals refine fin hk (by repeat (first | exact Sub.refl _ | refine Sub.upd ?_ (by assumption))) ?_
  all_goals first | rfl | (simp only [yy7c, *, ↓reduceIte]; done) | (simp_all [yy7c]; done) | (simp_all [yy7c] <;> omega)
def yzq0 (args : List Value) : Option Value := match args with
  | [.int .i64 n] => some (.int .i64 (yy7c n))
  | _ => none
@[simp] theorem ynty {n : Int} : yzq0 [.int .i64 n] = some (.int .i64 (yy7c n)) := rfl
def yx7l : CE := .val yzq0
@[simp] theorem yex8 {args : List Value} {h : H} {K : K1} : CE.run yx7l args h K = u_opt (yzq0 args) fun v => K v h := rfl
theorem yyvw (args : List Value) (h : H) (K : K1) (hr : CE.run yx7l args h K) : AM.Spec PG yl5e args h K := by
  rw [yex8] at hr
  unfold yzq0 at hr
  split at hr
  · exact ygjp hr
  · exact hr.elim
def E1 : CT := ctOf [(yvsl, ya8v), (y4iq, yhwx), (y7ff, y2dd), (yij4, yabu), (y5fh, yfwc), (yal3, yci3), (yhez, ygp9), (yb75, yuz9), (youq, y3yw), (y83g, yda5), (yr2c, yr9w), (y4ct, yyxh), (yl5e, yx7l)] ct0
theorem E1_ok : CTOk PG E1 := yko4 ct0_ok (by
  intro x hx
  simp only [List.mem_cons, List.not_mem_nil, or_false] at hx
  rcases hx with rfl | rfl | rfl | rfl | rfl | rfl | rfl | rfl | rfl | rfl | rfl | rfl | rfl
  · exact y2t8
  · exact y6k1
  · exact ytwt
  · exact ylm1
  · exact yk74
  · exact y99r
  · exact y5jv
  · exact yefq
  · exact ynwr
  · exact yqcz
  · exact ybg8
  · exact y08x
  · exact yyvw)
end Go.Proofs.YtnckimioabkheaaGreat

set_option linter.unusedVariables false
set_option linter.unusedSimpArgs false
set_option maxRecDepth 100000
set_option maxHeartbeats 2000000
namespace Go.Proofs.YtnckimioabkheaaGreat
open Go.Proofs.YtnckimioabkheaaGreat.AM
def y0vn (x0 : Value) (h : H) (Kn : K1) (Kr : K1) : Prop :=
  boxV x0 = true ∧ u_new (Value.cells x0).toList ym0k .exact h fun b1 h => u_bf false 1 0 (.pointer (some ⟨b1, 0, none⟩)) h fun v4 => y2x6 .u64 v4 fun v5 => u_bf false 1 1 (.pointer (some ⟨b1, 0, none⟩)) h fun v7 => y2x6 .u64 v7 fun v8 => u_bin PG .add yxjj v5 v8 fun v9 => u_bin PG .add yxjj v9 (.int .u64 256) fun v10 => u_bin PG .sub yxjj v10 (.int .u64 1) fun v11 => u_bin PG .quo yxjj v11 (.int .u64 256) fun v12 => u_bin PG .mul yxjj v12 (.int .u64 256) fun v13 => Kr v13 h
theorem yfub (Kn : K1) (Kr : K1) (t : T) (h : H) (H0 : y0vn (t 0) h Kn Kr) : Wp PG 14 (ygjk Tryz.f310.body) (mkQ (q1 Kn 2) (q1 Kr 2) ke0) t h :=
  wpEqC E1_ok H0 (by kernel_rfl)
def ydz7 (x0 : Value) (h : H) (Q : K1) : Prop := y0vn x0 h Q Q
theorem yren (x0 : Value) (h : H) (Q : K1) (H0 : ydz7 x0 h Q) : AM.Spec PG ys0o [x0] h Q :=
  yqxt mixed (fn := Tryz.f310) Tryz.func310 (c := ygjk Tryz.f310.body) (rs := [2]) (N := 14) (by kernel_rfl) (by kernel_rfl) (by kernel_rfl) (by kernel_rfl) (by kernel_rfl) (Nat.le_of_ble_eq_true rfl) (yfub Q Q (tinit [x0]) h H0) (by kernel_rfl)
def ywor (a n p : Int) (za : Option Addr) (zn zc : Nat) : Int := IntKind.u64.wrap (IntKind.u64.wrap ((IntKind.u64.wrap (IntKind.u64.wrap (IntKind.u64.wrap (IntKind.u64.wrap a + IntKind.u64.wrap n) + 256) - 1)).tdiv 256) * 256)
theorem youm {a n p : Int} {za : Option Addr} {zn zc : Nat} {K : K1} {h : H} (hk : K (.int .u64 (ywor a n p za zn zc)) h) : AM.Spec PG ys0o [.agg #[.int .u32 a, .int .u32 n, .int .i64 p, .slice za zn zc]] h K := by
  refine yz7m (fun K hk => ?_) hk
  refine yren _ _ _ ?_
  simp (config := {contextual := true, dsimp := false, maxSteps := 1000000}) [↓y88o, ↓ydz7, ↓y0vn]
  all_goals (intros; repeat' (refine ite_i (fun _ => ?_) (fun _ => ?_)))
  all_goals refine fin hk (by repeat (first | exact Sub.refl _ | refine Sub.upd ?_ (by assumption))) ?_
  all_goals first | rfl | (simp only [ywor, *, ↓reduceIte]; done) | (simp_all [ywor]; done) | (simp_all [ywor] <;> omega)
def y26p (args : List Value) : Option Value := match args with
  | [.agg ⟨[.int .u32 a, .int .u32 n, .int .i64 p, .slice za zn zc]⟩] => some (.int .u64 (ywor a n p za zn zc))
  | _ => none
@[simp] theorem yt4t {a n p : Int} {za : Option Addr} {zn zc : Nat} : y26p [.agg #[.int .u32 a, .int .u32 n, .int .i64 p, .slice za zn zc]] = some (.int .u64 (ywor a n p za zn zc)) := rfl
def y0n6 : CE := .val y26p
@[simp] theorem ygwx {args : List Value} {h : H} {K : K1} : CE.run y0n6 args h K = u_opt (y26p args) fun v => K v h := rfl
theorem yd9f (args : List Value) (h : H) (K : K1) (hr : CE.run y0n6 args h K) : AM.Spec PG ys0o args h K := by
  rw [ygwx] at hr
  unfold y26p at hr
  split at hr
  · exact youm hr
  · exact hr.elim
def y6ht (x0 : Value) (h : H) (Kn : K1) (Kr : K1) : Prop :=
  boxV x0 = true ∧ u_new (Value.cells x0).toList ym0k .exact h fun b1 h => u_bf false 1 0 (.pointer (some ⟨b1, 0, none⟩)) h fun v4 => u_bin PG .rem ycpa v4 (.int .u32 256) fun v5 => u_bin PG .eql ycpa v5 (.int .u32 0) fun v6 => ydv6 v6 true (fun k7 => u_bf false 1 1 (.pointer (some ⟨b1, 0, none⟩)) h fun v9 => u_bin PG .gtr ycpa v9 (.int .u32 0) fun v10 => k7 v10 h) (fun v10 h => y9rg v6 v10 (.bool false) fun v11 => ydv6 v11 true (fun k17 => u_bf false 1 3 (.pointer (some ⟨b1, 0, none⟩)) h fun v14 => ywmm v14 fun v15 => y2x6 .u64 v15 fun v16 => u_bf false 1 1 (.pointer (some ⟨b1, 0, none⟩)) h fun v18 => y2x6 .u64 v18 fun v19 => u_bin PG .leq yxjj v16 v19 fun v20 => k17 v20 h) (fun v20 h => y9rg v11 v20 (.bool false) fun v21 => ydv6 v21 true (fun k27 => u_bf false 1 0 (.pointer (some ⟨b1, 0, none⟩)) h fun v24 => y2x6 .u64 v24 fun v25 => u_bf false 1 1 (.pointer (some ⟨b1, 0, none⟩)) h fun v27 => y2x6 .u64 v27 fun v28 => u_bin PG .add yxjj v25 v28 fun v29 => u_bin PG .leq yxjj v29 (.int .u64 4294967296) fun v30 => k27 v30 h) (fun v30 h => y9rg v21 v30 (.bool false) fun v31 => ydv6 v31 true (fun k32 => u_bf false 1 2 (.pointer (some ⟨b1, 0, none⟩)) h fun v34 => u_bin PG .geq T_int v34 (.int .i64 0) fun v35 => k32 v35 h) (fun v35 h => y9rg v31 v35 (.bool false) fun v36 => ydv6 v36 true (fun k37 => u_bf false 1 2 (.pointer (some ⟨b1, 0, none⟩)) h fun v39 => u_bin PG .leq T_int v39 (.int .i64 7) fun v40 => k37 v40 h) (fun v40 h => y9rg v36 v40 (.bool false) fun v41 => Kr v41 h) h) h) h) h) h
theorem y6ph (Kn : K1) (Kr : K1) (t : T) (h : H) (H0 : y6ht (t 0) h Kn Kr) : Wp PG 42 (ygjk Tryz.f264.body) (mkQ (q1 Kn 2) (q1 Kr 2) ke0) t h :=
  wpEqC E1_ok H0 (by kernel_rfl)
def yylw (x0 : Value) (h : H) (Q : K1) : Prop := y6ht x0 h Q Q
theorem y2lh (x0 : Value) (h : H) (Q : K1) (H0 : yylw x0 h Q) : AM.Spec PG yvnj [x0] h Q :=
  yqxt mixed (fn := Tryz.f264) Tryz.func264 (c := ygjk Tryz.f264.body) (rs := [2]) (N := 42) (by kernel_rfl) (by kernel_rfl) (by kernel_rfl) (by kernel_rfl) (by kernel_rfl) (Nat.le_of_ble_eq_true rfl) (y6ph Q Q (tinit [x0]) h H0) (by kernel_rfl)
def yaom (a n p : Int) (za : Option Addr) (zn zc : Nat) : Bool := decide (a.tmod 256 = 0) && decide (0 < n) && decide (IntKind.u64.wrap ↑zn ≤ IntKind.u64.wrap n) && decide (IntKind.u64.wrap (IntKind.u64.wrap a + IntKind.u64.wrap n) ≤ 4294967296) && decide (0 ≤ p) && decide (p ≤ 7)
theorem yswy {a n p : Int} {za : Option Addr} {zn zc : Nat} {K : K1} {h : H} (hk : K (.bool (yaom a n p za zn zc)) h) : AM.Spec PG yvnj [.agg #[.int .u32 a, .int .u32 n, .int .i64 p, .slice za zn zc]] h K := by
  refine yz7m (fun K hk => ?_) hk
  refine y2lh _ _ _ ?_
  simp (config := {contextual := true, dsimp := false, maxSteps := 1000000}) [↓y88o, ↓yylw, ↓y6ht]
  all_goals (intros; repeat' (refine ite_i (fun _ => ?_) (fun _ => ?_)))
  all_goals refine fin hk (by repeat (first | exact Sub.refl _ | refine Sub.upd ?_ (by assumption))) ?_
  all_goals first | rfl | (simp only [yaom, *, ↓reduceIte]; done) | (simp_all [yaom]; done) | (simp_all [yaom] <;> omega)
def yyub (args : List Value) : Option Value := match args with
  | [.agg ⟨[.int .u32 a, .int .u32 n, .int .i64 p, .slice za zn zc]⟩] => some (.bool (yaom a n p za zn zc))
  | _ => none
@[simp] theorem y4iu {a n p : Int} {za : Option Addr} {zn zc : Nat} : yyub [.agg #[.int .u32 a, .int .u32 n, .int .i64 p, .slice za zn zc]] = some (.bool (yaom a n p za zn zc)) := rfl
def y76m : CE := .val yyub
@[simp] theorem y183 {args : List Value} {h : H} {K : K1} : CE.run y76m args h K = u_opt (yyub args) fun v => K v h := rfl
theorem yc3z (args : List Value) (h : H) (K : K1) (hr : CE.run y76m args h K) : AM.Spec PG yvnj args h K := by
  rw [y183] at hr
  unfold yyub at hr
  split at hr
  · exact yswy hr
  · exact hr.elim
def ydc7 (x0 : Value) (h : H) (Kn : K1) (Kr : K1) : Prop :=
  y2x6 .i32 x0 fun v4 => u_bin PG .shr yqm3 v4 (.int .u64 31) fun v5 => u_bin PG .shl yqm3 v5 (.int .u64 20) fun v6 => u_ct yfwc [x0, (.int .i64 12), (.int .i64 8)] h fun v8 h => u_bin PG .shl T_int v8 (.int .u64 12) fun v9 => u_ct yfwc [x0, (.int .i64 20), (.int .i64 1)] h fun v11 h => u_bin PG .shl T_int v11 (.int .u64 11) fun v12 => u_bin PG .or T_int v9 v12 fun v13 => u_ct yfwc [x0, (.int .i64 21), (.int .i64 10)] h fun v15 h => u_bin PG .shl T_int v15 (.int .u64 1) fun v16 => u_bin PG .or T_int v13 v16 fun v17 => y2x6 .i32 v17 fun v18 => u_bin PG .or yqm3 v6 v18 fun v19 => Kr v19 h
theorem y9ln (Kn : K1) (Kr : K1) (t : T) (h : H) (H0 : ydc7 (t 0) h Kn Kr) : Wp PG 20 (ygjk Tryz.f228.body) (mkQ (q1 Kn 2) (q1 Kr 2) ke0) t h :=
  wpEqC E1_ok H0 (by kernel_rfl)
def y934 (x0 : Value) (h : H) (Q : K1) : Prop := ydc7 x0 h Q Q
theorem y3ji (x0 : Value) (h : H) (Q : K1) (H0 : y934 x0 h Q) : AM.Spec PG yzwv [x0] h Q :=
  yqxt mixed (fn := Tryz.f228) Tryz.func228 (c := ygjk Tryz.f228.body) (rs := [2]) (N := 20) (by kernel_rfl) (by kernel_rfl) (by kernel_rfl) (by kernel_rfl) (by kernel_rfl) (Nat.le_of_ble_eq_true rfl) (y9ln Q Q (tinit [x0]) h H0) (by kernel_rfl)
def yaez (w : Int) : Int := IntKind.i32.wrap ↑((IntKind.i32.wrap ((IntKind.i32.wrap w).fdiv (2 ^ min 31 IntKind.i32.bits) * 2 ^ min 20 IntKind.i32.bits) % 2 ^ IntKind.i32.bits).toNat ||| (IntKind.i32.wrap (IntKind.i64.wrap ↑((IntKind.i64.wrap ↑((IntKind.i64.wrap (yz4y w 12 8 * 2 ^ min 12 IntKind.i64.bits) % 2 ^ IntKind.i64.bits).toNat ||| (IntKind.i64.wrap (yz4y w 20 1 * 2 ^ min 11 IntKind.i64.bits) % 2 ^ IntKind.i64.bits).toNat) % 2 ^ IntKind.i64.bits).toNat ||| (IntKind.i64.wrap (yz4y w 21 10 * 2 ^ min 1 IntKind.i64.bits) % 2 ^ IntKind.i64.bits).toNat)) % 2 ^ IntKind.i32.bits).toNat)
theorem y5l2 {w : Int} {K : K1} {h : H} (hk : K (.int .i32 (yaez w)) h) : AM.Spec PG yzwv [.int .u32 w] h K := by
  refine yz7m (fun K hk => ?_) hk
  refine y3ji _ _ _ ?_
  simp (config := {contextual := true, dsimp := false, maxSteps := 1000000}) [↓y88o, ↓y934, ↓ydc7]
  all_goals (intros; repeat' (refine ite_i (fun _ => ?_) (fun _ => ?_)))
  all_goals refine fin hk (by repeat (first | exact Sub.refl _ | refine Sub.upd ?_ (by assumption))) ?_
  all_goals first | rfl | (simp only [yaez, *, ↓reduceIte]; done) | (simp_all [yaez]; done) | (simp_all [yaez] <;> omega)
def y3kq (args : List Value) : Option Value := match args with
  | [.int .u32 w] => some (.int .i32 (yaez w))
  | _ => none
@[simp] theorem y2h8 {w : Int} : y3kq [.int .u32 w] = some (.int .i32 (yaez w)) := rfl
def yawa : CE := .val y3kq
@[simp] theorem ylz5 {args : List Value} {h : H} {K : K1} : CE.run yawa args h K = u_opt (y3kq args) fun v => K v h := rfl
theorem ynwi (args : List Value) (h : H) (K : K1) (hr : CE.run yawa args h K) : AM.Spec PG yzwv args h K := by
  rw [ylz5] at hr
  unfold y3kq at hr
  split at hr
  · exact y5l2 hr
  · exact hr.elim
def ymii (x0 : Value) (h : H) (Kn : K1) (Kr : K1) : Prop :=
  y2x6 .i32 x0 fun v4 => u_bin PG .shr yqm3 v4 (.int .u64 31) fun v5 => u_bin PG .shl yqm3 v5 (.int .u64 12) fun v6 => u_ct yfwc [x0, (.int .i64 7), (.int .i64 1)] h fun v8 h => u_bin PG .shl T_int v8 (.int .u64 11) fun v9 => u_ct yfwc [x0, (.int .i64 25), (.int .i64 6)] h fun v11 h => u_bin PG .shl T_int v11 (.int .u64 5) fun v12 => u_bin PG .or T_int v9 v12 fun v13 => u_ct yfwc [x0, (.int .i64 8), (.int .i64 4)] h fun v15 h => u_bin PG .shl T_int v15 (.int .u64 1) fun v16 => u_bin PG .or T_int v13 v16 fun v17 => y2x6 .i32 v17 fun v18 => u_bin PG .or yqm3 v6 v18 fun v19 => Kr v19 h
theorem yfap (Kn : K1) (Kr : K1) (t : T) (h : H) (H0 : ymii (t 0) h Kn Kr) : Wp PG 20 (ygjk Tryz.f229.body) (mkQ (q1 Kn 2) (q1 Kr 2) ke0) t h :=
  wpEqC E1_ok H0 (by kernel_rfl)
def yxij (x0 : Value) (h : H) (Q : K1) : Prop := ymii x0 h Q Q
theorem y1aj (x0 : Value) (h : H) (Q : K1) (H0 : yxij x0 h Q) : AM.Spec PG y1u0 [x0] h Q :=
  yqxt mixed (fn := Tryz.f229) Tryz.func229 (c := ygjk Tryz.f229.body) (rs := [2]) (N := 20) (by kernel_rfl) (by kernel_rfl) (by kernel_rfl) (by kernel_rfl) (by kernel_rfl) (Nat.le_of_ble_eq_true rfl) (yfap Q Q (tinit [x0]) h H0) (by kernel_rfl)
def y5f6 (w : Int) : Int := IntKind.i32.wrap ↑((IntKind.i32.wrap ((IntKind.i32.wrap w).fdiv (2 ^ min 31 IntKind.i32.bits) * 2 ^ min 12 IntKind.i32.bits) % 2 ^ IntKind.i32.bits).toNat ||| (IntKind.i32.wrap (IntKind.i64.wrap ↑((IntKind.i64.wrap ↑((IntKind.i64.wrap (yz4y w 7 1 * 2 ^ min 11 IntKind.i64.bits) % 2 ^ IntKind.i64.bits).toNat ||| (IntKind.i64.wrap (yz4y w 25 6 * 2 ^ min 5 IntKind.i64.bits) % 2 ^ IntKind.i64.bits).toNat) % 2 ^ IntKind.i64.bits).toNat ||| (IntKind.i64.wrap (yz4y w 8 4 * 2 ^ min 1 IntKind.i64.bits) % 2 ^ IntKind.i64.bits).toNat)) % 2 ^ IntKind.i32.bits).toNat)
theorem y83d {w : Int} {K : K1} {h : H} (hk : K (.int .i32 (y5f6 w)) h) : AM.Spec PG y1u0 [.int .u32 w] h K := by
  refine yz7m (fun K hk => ?_) hk
  refine y1aj _ _ _ ?_
  simp (config := {contextual := true, dsimp := false, maxSteps := 1000000}) [↓y88o, ↓yxij, ↓ymii]
  all_goals (intros; repeat' (refine ite_i (fun _ => ?_) (fun _ => ?_)))
  all_goals refine fin hk (by repeat (first | exact Sub.refl _ | refine Sub.upd ?_ (by assumption))) ?_
  all_goals first | rfl | (simp only [y5f6, *, ↓reduceIte]; done) | (simp_all [y5f6]; done) | (simp_all [y5f6] <;> omega)
def yolf (args : List Value) : Option Value := match args with
  | [.int .u32 w] => some (.int .i32 (y5f6 w))
  | _ => none
@[simp] theorem yiet {w : Int} : yolf [.int .u32 w] = some (.int .i32 (y5f6 w)) := rfl
def yjzq : CE := .val yolf
@[simp] theorem yybt {args : List Value} {h : H} {K : K1} : CE.run yjzq args h K = u_opt (yolf args) fun v => K v h := rfl
theorem y9ah (args : List Value) (h : H) (K : K1) (hr : CE.run yjzq args h K) : AM.Spec PG y1u0 args h K := by
  rw [yybt] at hr
  unfold yolf at hr
  split at hr
  · exact y83d hr
  · exact hr.elim
def yuyh (x0 : Value) (h : H) (Kn : K1) (Kr : K1) : Prop :=
  y2x6 .i32 x0 fun v4 => u_bin PG .shr yqm3 v4 (.int .u64 25) fun v5 => u_bin PG .shl yqm3 v5 (.int .u64 5) fun v6 => u_ct yfwc [x0, (.int .i64 7), (.int .i64 5)] h fun v8 h => y2x6 .i32 v8 fun v9 => u_bin PG .or yqm3 v6 v9 fun v10 => Kr v10 h
theorem yj99 (Kn : K1) (Kr : K1) (t : T) (h : H) (H0 : yuyh (t 0) h Kn Kr) : Wp PG 11 (ygjk Tryz.f230.body) (mkQ (q1 Kn 2) (q1 Kr 2) ke0) t h :=
  wpEqC E1_ok H0 (by kernel_rfl)
def yz53 (x0 : Value) (h : H) (Q : K1) : Prop := yuyh x0 h Q Q
theorem ywkn (x0 : Value) (h : H) (Q : K1) (H0 : yz53 x0 h Q) : AM.Spec PG ykbd [x0] h Q :=
  yqxt mixed (fn := Tryz.f230) Tryz.func230 (c := ygjk Tryz.f230.body) (rs := [2]) (N := 11) (by kernel_rfl) (by kernel_rfl) (by kernel_rfl) (by kernel_rfl) (by kernel_rfl) (Nat.le_of_ble_eq_true rfl) (yj99 Q Q (tinit [x0]) h H0) (by kernel_rfl)
def y8ox (w : Int) : Int := IntKind.i32.wrap ↑((IntKind.i32.wrap ((IntKind.i32.wrap w).fdiv (2 ^ min 25 IntKind.i32.bits) * 2 ^ min 5 IntKind.i32.bits) % 2 ^ IntKind.i32.bits).toNat ||| (IntKind.i32.wrap (yz4y w 7 5) % 2 ^ IntKind.i32.bits).toNat)
theorem y3ad {w : Int} {K : K1} {h : H} (hk : K (.int .i32 (y8ox w)) h) : AM.Spec PG ykbd [.int .u32 w] h K := by
  refine yz7m (fun K hk => ?_) hk
  refine ywkn _ _ _ ?_
  simp (config := {contextual := true, dsimp := false, maxSteps := 1000000}) [↓y88o, ↓yz53, ↓yuyh]
  all_goals (intros; repeat' (refine ite_i (fun _ => ?_) (fun _ => ?_)))
  all_goals refine fin hk (by repeat (first | exact Sub.refl _ | refine Sub.upd ?_ (by assumption))) ?_
  all_goals first | rfl | (simp only [y8ox, *, ↓reduceIte]; done) | (simp_all [y8ox]; done) | (simp_all [y8ox] <;> omega)
def ykuc (args : List Value) : Option Value := match args with
  | [.int .u32 w] => some (.int .i32 (y8ox w))
  | _ => none
@[simp] theorem y2qa {w : Int} : ykuc [.int .u32 w] = some (.int .i32 (y8ox w)) := rfl
def yiso : CE := .val ykuc
@[simp] theorem ygqp {args : List Value} {h : H} {K : K1} : CE.run yiso args h K = u_opt (ykuc args) fun v => K v h := rfl
theorem ydrf (args : List Value) (h : H) (K : K1) (hr : CE.run yiso args h K) : AM.Spec PG ykbd args h K := by
  rw [ygqp] at hr
  unfold ykuc at hr
  split at hr
  · exact y3ad hr
  · exact hr.elim
def E2 : CT := ctOf [(ys0o, y0n6), (yvnj, y76m), (yzwv, yawa), (y1u0, yjzq), (ykbd, yiso)] E1
theorem E2_ok : CTOk PG E2 := yko4 E1_ok (by
  intro x hx
  simp only [List.mem_cons, List.not_mem_nil, or_false] at hx
  rcases hx with rfl | rfl | rfl | rfl | rfl
  · exact yd9f
  · exact yc3z
  · exact ynwi
  · exact y9ah
  · exact ydrf)
end Go.Proofs.YtnckimioabkheaaGreat

set_option linter.unusedVariables false
set_option linter.unusedSimpArgs false
set_option maxRecDepth 100000
set_option maxHeartbeats 2000000
namespace Go.Proofs.YtnckimioabkheaaGreat
open Go.Proofs.YtnckimioabkheaaGreat.AM
@[simp] theorem ym2o {a0 : Int} {a1 : Int} {a2 : Int} {K : Value → Prop} {u : Dm K} : ysnr PG y9pv [(0, .int .i64 a0), (1, .int .i64 a1), (2, .int .i64 a2)] K u = K (.agg #[.int .i64 a0, .int .i64 a1, .int .i64 a2, .int .i64 0, .int .i64 0, .int .i64 0, .int .i64 0, .int .i64 0]) := by kernel_rfl
@[simp] theorem yqhn {a0 : Int} {a1 : Int} {a2 : Int} {a3 : Int} {a4 : Int} {a5 : Int} {a6 : Int} {a7 : Int} {K : Value → Prop} {u : Dm K} : ysnr PG y9pv [(0, .int .i64 a0), (1, .int .i64 a1), (2, .int .i64 a2), (3, .int .i64 a3), (4, .int .i64 a4), (5, .int .i64 a5), (6, .int .i64 a6), (7, .int .i64 a7)] K u = K (.agg #[.int .i64 a0, .int .i64 a1, .int .i64 a2, .int .i64 a3, .int .i64 a4, .int .i64 a5, .int .i64 a6, .int .i64 a7]) := by kernel_rfl
theorem y0z8 {w f m : Int} {k : Nat} (e : (IntKind.u32.wrap (IntKind.u32.wrap (2 ^ min m.toNat IntKind.u32.bits) - 1) % 2 ^ IntKind.u32.bits).toNat = k) (hk : k < 2147483648) : 0 ≤ yz4y w f m ∧ yz4y w f m ≤ k := by
  unfold yz4y
  rw [e]
  generalize (w.fdiv (2 ^ min f.toNat IntKind.u32.bits) % 2 ^ IntKind.u32.bits).toNat = A
  have := Nat.and_le_right (n := A) (m := k)
  rw [w_u32 (by omega) (by omega), w_i64 (by omega) (by omega)]
  omega
theorem yk34 {w f : Int} : 0 ≤ yz4y w f 3 ∧ yz4y w f 3 ≤ 7 := y0z8 (k := 7) rfl (by omega)
@[simp] theorem y6q5 {w f : Int} : 0 ≤ yz4y w f 3 := yk34.1
@[simp] theorem yd73 {w f : Int} : yz4y w f 3 < 8 := by have := @yk34 w f; omega
@[simp] theorem y5um {b : Int} (h1 : 0 ≤ b) (h2 : b < 4294967296) (hb : ¬ b = 0) : (IntKind.i32.wrap b = 0) = False := by
  simp only [IntKind.wrap, IntKind.signed, IntKind.bits, eq_iff_iff, iff_false]
  simp
  split <;> omega
def yb94 (x0 : Value) (h : H) (Kn : K1) (Kr : K1) : Prop :=
  ysnr PG y9pv [(0, (.int .i64 5)), (1, (.int .i64 6)), (2, (.int .i64 0)), (3, (.int .i64 0)), (4, (.int .i64 7)), (5, (.int .i64 8)), (6, (.int .i64 9)), (7, (.int .i64 10))] fun v3 => ywq9 false 8 false 1 v3 x0 fun v5 => Kr v5 h
theorem yrth (Kn : K1) (Kr : K1) (t : T) (h : H) (H0 : yb94 (t 0) h Kn Kr) : Wp PG 6 (ygjk Tryz.f281.body) (mkQ (q1 Kn 2) (q1 Kr 2) ke0) t h :=
  wpEqC E2_ok H0 (by kernel_rfl)
def yz22 (x0 : Value) (h : H) (Q : K1) : Prop := yb94 x0 h Q Q
theorem y72m (x0 : Value) (h : H) (Q : K1) (H0 : yz22 x0 h Q) : AM.Spec PG yxof [x0] h Q :=
  yqxt mixed (fn := Tryz.f281) Tryz.func281 (c := ygjk Tryz.f281.body) (rs := [2]) (N := 6) (by kernel_rfl) (by kernel_rfl) (by kernel_rfl) (by kernel_rfl) (by kernel_rfl) (Nat.le_of_ble_eq_true rfl) (yrth Q Q (tinit [x0]) h H0) (by kernel_rfl)
def ylht (f : Int) : Int := tab f [5, 6, 0, 0, 7, 8, 9, 10]
theorem ytrh {f : Int} (hg : 0 ≤ f ∧ f < 8) {K : K1} {h : H} (hk : K (.int .i64 (ylht f)) h) : AM.Spec PG yxof [.int .i64 f] h K := by
  refine yz7m (fun K hk => ?_) hk
  refine y72m _ _ _ ?_
  simp (config := {contextual := true, dsimp := false, maxSteps := 1000000}) [↓y88o, ↓yz22, ↓yb94, hg]
  all_goals (intros; repeat' (refine ite_i (fun _ => ?_) (fun _ => ?_)))
  all_goals refine fin hk (by repeat (first | exact Sub.refl _ | refine Sub.upd ?_ (by assumption))) ?_
  all_goals first | rfl | (simp only [ylht, *, ↓reduceIte]; done) | (simp_all [ylht]; done) | (simp_all [ylht] <;> omega)
def ys0l (args : List Value) : Option Value := match args with
  | [.int .i64 f] => if 0 ≤ f ∧ f < 8 then some (.int .i64 (ylht f)) else none
  | _ => none
@[simp] theorem ys0i {f : Int} (hg : 0 ≤ f ∧ f < 8) : ys0l [.int .i64 f] = some (.int .i64 (ylht f)) := if_pos hg
def y2wv : CE := .val ys0l
@[simp] theorem y8ra {args : List Value} {h : H} {K : K1} : CE.run y2wv args h K = u_opt (ys0l args) fun v => K v h := rfl
theorem y5wd (args : List Value) (h : H) (K : K1) (hr : CE.run y2wv args h K) : AM.Spec PG yxof args h K := by
  rw [y8ra] at hr
  unfold ys0l at hr
  split at hr
  · split at hr
    · rename_i hg
      exact ytrh hg hr
    · exact hr.elim
  · exact hr.elim
def yu51 (x0 : Value) (h : H) (Kn : K1) (Kr : K1) : Prop :=
  ysnr PG y9pv [(0, (.int .i64 11)), (1, (.int .i64 12)), (2, (.int .i64 13)), (3, (.int .i64 0)), (4, (.int .i64 14)), (5, (.int .i64 15)), (6, (.int .i64 0)), (7, (.int .i64 0))] fun v3 => ywq9 false 8 false 1 v3 x0 fun v5 => Kr v5 h
theorem yez8 (Kn : K1) (Kr : K1) (t : T) (h : H) (H0 : yu51 (t 0) h Kn Kr) : Wp PG 6 (ygjk Tryz.f282.body) (mkQ (q1 Kn 2) (q1 Kr 2) ke0) t h :=
  wpEqC E2_ok H0 (by kernel_rfl)
def yzeq (x0 : Value) (h : H) (Q : K1) : Prop := yu51 x0 h Q Q
theorem ybim (x0 : Value) (h : H) (Q : K1) (H0 : yzeq x0 h Q) : AM.Spec PG y6v8 [x0] h Q :=
  yqxt mixed (fn := Tryz.f282) Tryz.func282 (c := ygjk Tryz.f282.body) (rs := [2]) (N := 6) (by kernel_rfl) (by kernel_rfl) (by kernel_rfl) (by kernel_rfl) (by kernel_rfl) (Nat.le_of_ble_eq_true rfl) (yez8 Q Q (tinit [x0]) h H0) (by kernel_rfl)
def y74a (f : Int) : Int := tab f [11, 12, 13, 0, 14, 15, 0, 0]
theorem yt9z {f : Int} (hg : 0 ≤ f ∧ f < 8) {K : K1} {h : H} (hk : K (.int .i64 (y74a f)) h) : AM.Spec PG y6v8 [.int .i64 f] h K := by
  refine yz7m (fun K hk => ?_) hk
  refine ybim _ _ _ ?_
  simp (config := {contextual := true, dsimp := false, maxSteps := 1000000}) [↓y88o, ↓yzeq, ↓yu51, hg]
  all_goals (intros; repeat' (refine ite_i (fun _ => ?_) (fun _ => ?_)))
  all_goals refine fin hk (by repeat (first | exact Sub.refl _ | refine Sub.upd ?_ (by assumption))) ?_
  all_goals first | rfl | (simp only [y74a, *, ↓reduceIte]; done) | (simp_all [y74a]; done) | (simp_all [y74a] <;> omega)
def y3h3 (args : List Value) : Option Value := match args with
  | [.int .i64 f] => if 0 ≤ f ∧ f < 8 then some (.int .i64 (y74a f)) else none
  | _ => none
@[simp] theorem yfn3 {f : Int} (hg : 0 ≤ f ∧ f < 8) : y3h3 [.int .i64 f] = some (.int .i64 (y74a f)) := if_pos hg
def ycb7 : CE := .val y3h3
@[simp] theorem yy1o {args : List Value} {h : H} {K : K1} : CE.run ycb7 args h K = u_opt (y3h3 args) fun v => K v h := rfl
theorem y6zm (args : List Value) (h : H) (K : K1) (hr : CE.run ycb7 args h K) : AM.Spec PG y6v8 args h K := by
  rw [yy1o] at hr
  unfold y3h3 at hr
  split at hr
  · split at hr
    · rename_i hg
      exact yt9z hg hr
    · exact hr.elim
  · exact hr.elim
def y8x9 (x0 : Value) (h : H) (Kn : K1) (Kr : K1) : Prop :=
  ysnr PG y9pv [(0, (.int .i64 16)), (1, (.int .i64 17)), (2, (.int .i64 18))] fun v3 => ywq9 false 8 false 1 v3 x0 fun v5 => Kr v5 h
theorem yaa6 (Kn : K1) (Kr : K1) (t : T) (h : H) (H0 : y8x9 (t 0) h Kn Kr) : Wp PG 6 (ygjk Tryz.f283.body) (mkQ (q1 Kn 2) (q1 Kr 2) ke0) t h :=
  wpEqC E2_ok H0 (by kernel_rfl)
def y5hs (x0 : Value) (h : H) (Q : K1) : Prop := y8x9 x0 h Q Q
theorem y1gu (x0 : Value) (h : H) (Q : K1) (H0 : y5hs x0 h Q) : AM.Spec PG y8s2 [x0] h Q :=
  yqxt mixed (fn := Tryz.f283) Tryz.func283 (c := ygjk Tryz.f283.body) (rs := [2]) (N := 6) (by kernel_rfl) (by kernel_rfl) (by kernel_rfl) (by kernel_rfl) (by kernel_rfl) (Nat.le_of_ble_eq_true rfl) (yaa6 Q Q (tinit [x0]) h H0) (by kernel_rfl)
def y4os (f : Int) : Int := tab f [16, 17, 18, 0, 0, 0, 0, 0]
theorem ymeo {f : Int} (hg : 0 ≤ f ∧ f < 8) {K : K1} {h : H} (hk : K (.int .i64 (y4os f)) h) : AM.Spec PG y8s2 [.int .i64 f] h K := by
  refine yz7m (fun K hk => ?_) hk
  refine y1gu _ _ _ ?_
  simp (config := {contextual := true, dsimp := false, maxSteps := 1000000}) [↓y88o, ↓y5hs, ↓y8x9, hg]
  all_goals (intros; repeat' (refine ite_i (fun _ => ?_) (fun _ => ?_)))
  all_goals refine fin hk (by repeat (first | exact Sub.refl _ | refine Sub.upd ?_ (by assumption))) ?_
  all_goals first | rfl | (simp only [y4os, *, ↓reduceIte]; done) | (simp_all [y4os]; done) | (simp_all [y4os] <;> omega)
def y0xa (args : List Value) : Option Value := match args with
  | [.int .i64 f] => if 0 ≤ f ∧ f < 8 then some (.int .i64 (y4os f)) else none
  | _ => none
@[simp] theorem yz8v {f : Int} (hg : 0 ≤ f ∧ f < 8) : y0xa [.int .i64 f] = some (.int .i64 (y4os f)) := if_pos hg
def y1md : CE := .val y0xa
@[simp] theorem y5yl {args : List Value} {h : H} {K : K1} : CE.run y1md args h K = u_opt (y0xa args) fun v => K v h := rfl
theorem yahq (args : List Value) (h : H) (K : K1) (hr : CE.run y1md args h K) : AM.Spec PG y8s2 args h K := by
  rw [y5yl] at hr
  unfold y0xa at hr
  split at hr
  · split at hr
    · rename_i hg
      exact ymeo hg hr
    · exact hr.elim
  · exact hr.elim
def y5dk (x0 x1 : Value) (h : H) (Kn : K1) (Kr : K1) : Prop :=
  u_bin PG .eql T_int x0 (.int .i64 1) fun v7 => ydv6 v7 true (fun k4 => u_bin PG .eql T_int x1 (.int .i64 0) fun v10 => k4 v10 h) (fun v10 h => y9rg v7 v10 (.bool false) fun v11 => u_if v11 (Kr (.int .i64 25) h) (u_bin PG .eql T_int x0 (.int .i64 5) fun v14 => ydv6 v14 true (fun k4 => u_bin PG .eql T_int x1 (.int .i64 0) fun v17 => k4 v17 h) (fun v17 h => y9rg v14 v17 (.bool false) fun v18 => u_if v18 (Kr (.int .i64 26) h) (u_bin PG .eql T_int x0 (.int .i64 5) fun v21 => ydv6 v21 true (fun k4 => u_bin PG .eql T_int x1 (.int .i64 32) fun v24 => k4 v24 h) (fun v24 h => y9rg v21 v24 (.bool false) fun v25 => u_if v25 (Kr (.int .i64 27) h) (ysnr PG y9pv [(0, (.int .i64 19)), (1, (.int .i64 0)), (2, (.int .i64 20)), (3, (.int .i64 21)), (4, (.int .i64 22)), (5, (.int .i64 0)), (6, (.int .i64 23)), (7, (.int .i64 24))] fun v26 => ywq9 false 8 false 1 v26 x0 fun v28 => Kr v28 h)) h)) h)) h
theorem ymrm (Kn : K1) (Kr : K1) (t : T) (h : H) (H0 : y5dk (t 0) (t 1) h Kn Kr) : Wp PG 29 (ygjk Tryz.f284.body) (mkQ (q1 Kn 4) (q1 Kr 4) ke0) t h :=
  wpEqC E2_ok H0 (by kernel_rfl)
def yaea (x0 x1 : Value) (h : H) (Q : K1) : Prop := y5dk x0 x1 h Q Q
theorem yai7 (x0 x1 : Value) (h : H) (Q : K1) (H0 : yaea x0 x1 h Q) : AM.Spec PG yosk [x0, x1] h Q :=
  yqxt mixed (fn := Tryz.f284) Tryz.func284 (c := ygjk Tryz.f284.body) (rs := [4]) (N := 29) (by kernel_rfl) (by kernel_rfl) (by kernel_rfl) (by kernel_rfl) (by kernel_rfl) (Nat.le_of_ble_eq_true rfl) (ymrm Q Q (tinit [x0, x1]) h H0) (by kernel_rfl)
def y35s (f t : Int) : Int := if f = 1 ∧ t = 0 then 25 else if f = 5 ∧ t = 0 then 26 else if f = 5 ∧ t = 32 then 27 else tab f [19, 0, 20, 21, 22, 0, 23, 24]
theorem y537 {f t : Int} (hg : 0 ≤ f ∧ f < 8) {K : K1} {h : H} (hk : K (.int .i64 (y35s f t)) h) : AM.Spec PG yosk [.int .i64 f, .int .i64 t] h K := by
  refine yz7m (fun K hk => ?_) hk
  refine yai7 _ _ _ _ ?_
  simp (config := {contextual := true, dsimp := false, maxSteps := 1000000}) [↓y88o, ↓yaea, ↓y5dk, hg]
  all_goals (intros; repeat' (refine ite_i (fun _ => ?_) (fun _ => ?_)))
  all_goals refine fin hk (by repeat (first | exact Sub.refl _ | refine Sub.upd ?_ (by assumption))) ?_
  all_goals first | rfl | (simp only [y35s, *, ↓reduceIte]; done) | (simp_all [y35s]; done) | (simp_all [y35s] <;> omega)
def yg8d (args : List Value) : Option Value := match args with
  | [.int .i64 f, .int .i64 t] => if 0 ≤ f ∧ f < 8 then some (.int .i64 (y35s f t)) else none
  | _ => none
@[simp] theorem y8jd {f t : Int} (hg : 0 ≤ f ∧ f < 8) : yg8d [.int .i64 f, .int .i64 t] = some (.int .i64 (y35s f t)) := if_pos hg
def y4cl : CE := .val yg8d
@[simp] theorem yxtx {args : List Value} {h : H} {K : K1} : CE.run y4cl args h K = u_opt (yg8d args) fun v => K v h := rfl
theorem ygsh (args : List Value) (h : H) (K : K1) (hr : CE.run y4cl args h K) : AM.Spec PG yosk args h K := by
  rw [yxtx] at hr
  unfold yg8d at hr
  split at hr
  · split at hr
    · rename_i hg
      exact y537 hg hr
    · exact hr.elim
  · exact hr.elim
def y2fg (x0 x1 : Value) (h : H) (Kn : K1) (Kr : K1) : Prop :=
  u_bin PG .eql T_int x1 (.int .i64 0) fun v7 => u_if v7 (ysnr PG y9pv [(0, (.int .i64 28)), (1, (.int .i64 30)), (2, (.int .i64 31)), (3, (.int .i64 32)), (4, (.int .i64 33)), (5, (.int .i64 34)), (6, (.int .i64 36)), (7, (.int .i64 37))] fun v8 => ywq9 false 8 false 1 v8 x0 fun v10 => Kr v10 h) (u_bin PG .eql T_int x1 (.int .i64 1) fun v13 => u_if v13 (u_bin PG .add T_int (.int .i64 38) x0 fun v15 => Kr v15 h) (u_bin PG .eql T_int x1 (.int .i64 32) fun v18 => ydv6 v18 true (fun k4 => u_bin PG .eql T_int x0 (.int .i64 0) fun v21 => k4 v21 h) (fun v21 h => y9rg v18 v21 (.bool false) fun v22 => u_if v22 (Kr (.int .i64 29) h) (u_bin PG .eql T_int x1 (.int .i64 32) fun v25 => ydv6 v25 true (fun k4 => u_bin PG .eql T_int x0 (.int .i64 5) fun v28 => k4 v28 h) (fun v28 h => y9rg v25 v28 (.bool false) fun v29 => u_if v29 (Kr (.int .i64 35) h) (Kr (.int .i64 0) h)) h)) h))
theorem yqwv (Kn : K1) (Kr : K1) (t : T) (h : H) (H0 : y2fg (t 0) (t 1) h Kn Kr) : Wp PG 30 (ygjk Tryz.f285.body) (mkQ (q1 Kn 4) (q1 Kr 4) ke0) t h :=
  wpEqC E2_ok H0 (by kernel_rfl)
def yvqc (x0 x1 : Value) (h : H) (Q : K1) : Prop := y2fg x0 x1 h Q Q
theorem yxd6 (x0 x1 : Value) (h : H) (Q : K1) (H0 : yvqc x0 x1 h Q) : AM.Spec PG ye3p [x0, x1] h Q :=
  yqxt mixed (fn := Tryz.f285) Tryz.func285 (c := ygjk Tryz.f285.body) (rs := [4]) (N := 30) (by kernel_rfl) (by kernel_rfl) (by kernel_rfl) (by kernel_rfl) (by kernel_rfl) (Nat.le_of_ble_eq_true rfl) (yqwv Q Q (tinit [x0, x1]) h H0) (by kernel_rfl)
def ytcn (f t : Int) : Int := if t = 0 then tab f [28, 30, 31, 32, 33, 34, 36, 37] else if t = 1 then IntKind.i64.wrap (38 + f) else if t = 32 ∧ f = 0 then 29 else if t = 32 ∧ f = 5 then 35 else 0
theorem y9kd {f t : Int} (hg : 0 ≤ f ∧ f < 8) {K : K1} {h : H} (hk : K (.int .i64 (ytcn f t)) h) : AM.Spec PG ye3p [.int .i64 f, .int .i64 t] h K := by
  refine yz7m (fun K hk => ?_) hk
  refine yxd6 _ _ _ _ ?_
  simp (config := {contextual := true, dsimp := false, maxSteps := 1000000}) [↓y88o, ↓yvqc, ↓y2fg, hg]
  all_goals (intros; repeat' (refine ite_i (fun _ => ?_) (fun _ => ?_)))
  all_goals refine fin hk (by repeat (first | exact Sub.refl _ | refine Sub.upd ?_ (by assumption))) ?_
  all_goals first | rfl | (simp only [ytcn, *, ↓reduceIte]; done) | (simp_all [ytcn]; done) | (simp_all [ytcn] <;> omega)
def yrtm (args : List Value) : Option Value := match args with
  | [.int .i64 f, .int .i64 t] => if 0 ≤ f ∧ f < 8 then some (.int .i64 (ytcn f t)) else none
  | _ => none
@[simp] theorem y9lw {f t : Int} (hg : 0 ≤ f ∧ f < 8) : yrtm [.int .i64 f, .int .i64 t] = some (.int .i64 (ytcn f t)) := if_pos hg
def ym5j : CE := .val yrtm
@[simp] theorem yopt {args : List Value} {h : H} {K : K1} : CE.run ym5j args h K = u_opt (yrtm args) fun v => K v h := rfl
theorem y6qo (args : List Value) (h : H) (K : K1) (hr : CE.run ym5j args h K) : AM.Spec PG ye3p args h K := by
  rw [yopt] at hr
  unfold yrtm at hr
  split at hr
  · split at hr
    · rename_i hg
      exact y9kd hg hr
    · exact hr.elim
  · exact hr.elim
def yide (x2 x3 : Value) (h : H) (Kn : K1) (Kr : K1) : Prop :=
  ybqh true 4 x2 h fun v5 => u_ct y0n6 [v5] h fun v6 h => u_bf false 1 0 x3 h fun v8 => y2x6 .u64 v8 fun v9 => u_bin PG .leq yxjj v6 v9 fun v10 => ydv6 v10 false (fun k12 => ybqh true 4 x3 h fun v12 => u_ct y0n6 [v12] h fun v13 h => u_bf false 1 0 x2 h fun v15 => y2x6 .u64 v15 fun v16 => u_bin PG .leq yxjj v13 v16 fun v17 => k12 v17 h) (fun v17 h => y9rg v10 (.bool true) v17 fun v18 => Kn v18 h) h
theorem y02w (Kn : K1) (Kr : K1) (t : T) (h : H) (H0 : yide (t 2) (t 3) h Kn Kr) : Wp PG 19 (seqL (rest 1 (ygjk Tryz.f265.body))) (mkQ (q1 Kn 4) (q1 Kr 4) ke0) t h :=
  ybop E2_ok [0, 1, 2, 3, 4, 5, 6, 7, 8, 9, 10, 11, 12, 13, 14] (by kernel_rfl) (by kernel_rfl) H0 (by kernel_rfl)
def y1as (x4 : Value) (h : H) (Kn : K1) (Kr : K1) : Prop :=
  Kr x4 h
theorem yzh2 (Kn : K1) (Kr : K1) (t : T) (h : H) (H0 : y1as (t 4) h Kn Kr) : Wp PG 19 (seqR (rest 1 (ygjk Tryz.f265.body))) (mkQ (q1 Kn 4) (q1 Kr 4) ke0) t h :=
  wpEqC E2_ok H0 (by kernel_rfl)
def yltv (x2 x3 : Value) (h : H) (Kn : K1) (Kr : K1) : Prop :=
  yide x2 x3 h (fun y4 h => y1as y4 h Kn Kr) Kr
theorem yjzz (Kn : K1) (Kr : K1) (t : T) (h : H) (H0 : yltv (t 2) (t 3) h Kn Kr) : Wp PG 19 (rest 1 (ygjk Tryz.f265.body)) (mkQ (q1 Kn 4) (q1 Kr 4) ke0) t h :=
  ykv2 (by kernel_rfl) (fun t h H1 => yzh2 Kn Kr t h H1) (y02w (fun y4 h => y1as y4 h Kn Kr) Kr t h H0)
def y0a8 (x0 x1 : Value) (h : H) (Kn : K1) (Kr : K1) : Prop :=
  boxV x0 = true ∧ u_new (Value.cells x0).toList ym0k .exact h fun b2 h => boxV x1 = true ∧ u_new (Value.cells x1).toList ym0k .exact h fun b3 h => yltv (.pointer (some ⟨b2, 0, none⟩)) (.pointer (some ⟨b3, 0, none⟩)) h Kn Kr
theorem ylor (Kn : K1) (Kr : K1) (t : T) (h : H) (H0 : y0a8 (t 0) (t 1) h Kn Kr) : Wp PG 19 (ygjk Tryz.f265.body) (mkQ (q1 Kn 4) (q1 Kr 4) ke0) t h :=
  yvnp E2_ok 1 H0 (by kernel_rfl) (fun t h (H1 : yltv (t 2) (t 3) h Kn Kr) => yjzz Kn Kr t h H1) (by kernel_rfl)
def yegg (x0 x1 : Value) (h : H) (Q : K1) : Prop := y0a8 x0 x1 h Q Q
theorem yrbj (x0 x1 : Value) (h : H) (Q : K1) (H0 : yegg x0 x1 h Q) : AM.Spec PG yc6m [x0, x1] h Q :=
  yqxt mixed (fn := Tryz.f265) Tryz.func265 (c := ygjk Tryz.f265.body) (rs := [4]) (N := 19) (by kernel_rfl) (by kernel_rfl) (by kernel_rfl) (by kernel_rfl) (by kernel_rfl) (Nat.le_of_ble_eq_true rfl) (ylor Q Q (tinit [x0, x1]) h H0) (by kernel_rfl)
def ym5a (a n p b m q : Int) (za ya : Option Addr) (zn zc yn yc : Nat) : Bool := decide (ywor a n p za zn zc ≤ IntKind.u64.wrap b) || decide (ywor b m q ya yn yc ≤ IntKind.u64.wrap a)
theorem y60a {a n p b m q : Int} {za ya : Option Addr} {zn zc yn yc : Nat} {K : K1} {h : H} (hk : K (.bool (ym5a a n p b m q za ya zn zc yn yc)) h) : AM.Spec PG yc6m [.agg #[.int .u32 a, .int .u32 n, .int .i64 p, .slice za zn zc], .agg #[.int .u32 b, .int .u32 m, .int .i64 q, .slice ya yn yc]] h K := by
  refine yz7m (fun K hk => ?_) hk
  refine yrbj _ _ _ _ ?_
  simp (config := {contextual := true, dsimp := false, maxSteps := 1000000}) [↓y88o, ↓yegg, ↓y0a8, ↓yltv, ↓yide, ↓y1as]
  all_goals (intros; repeat' (refine ite_i (fun _ => ?_) (fun _ => ?_)))
  all_goals refine fin hk (by repeat (first | exact Sub.refl _ | refine Sub.upd ?_ (by assumption))) ?_
  all_goals first | rfl | (simp only [ym5a, *, ↓reduceIte]; done) | (simp_all [ym5a]; done) | (simp_all [ym5a] <;> omega)
def yamz (args : List Value) : Option Value := match args with
  | [.agg ⟨[.int .u32 a, .int .u32 n, .int .i64 p, .slice za zn zc]⟩, .agg ⟨[.int .u32 b, .int .u32 m, .int .i64 q, .slice ya yn yc]⟩] => some (.bool (ym5a a n p b m q za ya zn zc yn yc))
  | _ => none
@[simp] theorem y00f {a n p b m q : Int} {za ya : Option Addr} {zn zc yn yc : Nat} : yamz [.agg #[.int .u32 a, .int .u32 n, .int .i64 p, .slice za zn zc], .agg #[.int .u32 b, .int .u32 m, .int .i64 q, .slice ya yn yc]] = some (.bool (ym5a a n p b m q za ya zn zc yn yc)) := rfl
def ynwe : CE := .val yamz
@[simp] theorem yfd8 {args : List Value} {h : H} {K : K1} : CE.run ynwe args h K = u_opt (yamz args) fun v => K v h := rfl
theorem yjfo (args : List Value) (h : H) (K : K1) (hr : CE.run ynwe args h K) : AM.Spec PG yc6m args h K := by
  rw [yfd8] at hr
  unfold yamz at hr
  split at hr
  · exact y60a hr
  · exact hr.elim
def E3 : CT := ctOf [(yxof, y2wv), (y6v8, ycb7), (y8s2, y1md), (yosk, y4cl), (ye3p, ym5j), (yc6m, ynwe)] E2
theorem E3_ok : CTOk PG E3 := yko4 E2_ok (by
  intro x hx
  simp only [List.mem_cons, List.not_mem_nil, or_false] at hx
  rcases hx with rfl | rfl | rfl | rfl | rfl | rfl
  · exact y5wd
  · exact y6zm
  · exact yahq
  · exact ygsh
  · exact y6qo
  · exact yjfo)
end Go.Proofs.YtnckimioabkheaaGreat

set_option linter.unusedVariables false
set_option linter.unusedSimpArgs false
set_option maxRecDepth 100000
set_option maxHeartbeats 2000000
namespace Go.Proofs.YtnckimioabkheaaGreat
open Go.Proofs.YtnckimioabkheaaGreat.AM
@[simp] theorem yjzv {a0 : Int} {a1 : Int} {a2 : Int} {a3 : Int} {a4 : Int} {a5 : Int} {a6 : Int} {a7 : Int} {a8 : Int} {K : Value → Prop} {u : Dm K} : ysnr PG y6aa [(0, .int .i64 a0), (1, .int .i64 a1), (2, .int .i64 a2), (3, .int .i64 a3), (4, .int .i64 a4), (5, .int .i64 a5), (6, .int .i64 a6), (7, .int .i64 a7), (8, .int .i64 a8)] K u = K (.agg #[.int .i64 a0, .int .i64 a1, .int .i64 a2, .int .i64 a3, .int .i64 a4, .int .i64 a5, .int .i64 a6, .int .i64 a7, .int .i64 a8]) := by kernel_rfl
@[simp] theorem yrec {a0 : Int} {a1 : Int} {a2 : Int} {a3 : Int} {a4 : Int} {a5 : Int} {a6 : Int} {a7 : Int} {a8 : Int} {a9 : Int} {K : Value → Prop} {u : Dm K} : ysnr PG yx8p [(0, .int .i64 a0), (1, .int .i64 a1), (2, .int .i64 a2), (3, .int .i64 a3), (4, .int .i64 a4), (5, .int .i64 a5), (6, .int .i64 a6), (7, .int .i64 a7), (8, .int .i64 a8), (9, .int .i64 a9)] K u = K (.agg #[.int .i64 a0, .int .i64 a1, .int .i64 a2, .int .i64 a3, .int .i64 a4, .int .i64 a5, .int .i64 a6, .int .i64 a7, .int .i64 a8, .int .i64 a9]) := by kernel_rfl
@[simp] theorem kd1 {o : Int} (h1 : 19 ≤ o) (h2 : o ≤ 27) : IntKind.i64.wrap (o - 19) = o - 19 := w_i64 (by omega) (by omega)
@[simp] theorem kd2 {o : Int} (h2 : o ≤ 27) : o - 19 < 9 := by omega
@[simp] theorem kd3 {o : Int} (h1 : 28 ≤ o) (h2 : o ≤ 37) : IntKind.i64.wrap (o - 28) = o - 28 := w_i64 (by omega) (by omega)
@[simp] theorem kd4 {o : Int} (h2 : o ≤ 37) : o - 28 < 10 := by omega
def yy6q (x0 : Value) (h : H) (Kn : K1) (Kr : K1) : Prop :=
  u_ct yfwc [x0, (.int .i64 12), (.int .i64 3)] h fun v6 h => u_ct yfwc [x0, (.int .i64 25), (.int .i64 7)] h fun v8 h => u_bin PG .and ycpa x0 (.int .u32 127) fun v10 => u_bin PG .eql ycpa v10 (.int .u32 55) fun v12 => u_if v12 (Kr (.int .i64 1) h) (u_bin PG .eql ycpa v10 (.int .u32 23) fun v14 => u_if v14 (Kr (.int .i64 2) h) (u_bin PG .eql ycpa v10 (.int .u32 111) fun v16 => u_if v16 (Kr (.int .i64 3) h) (u_bin PG .eql ycpa v10 (.int .u32 103) fun v18 => u_if v18 (u_bin PG .eql T_int v6 (.int .i64 0) fun v20 => u_if v20 (Kr (.int .i64 4) h) (u_ct yci3 [x0] h fun v50 h => Kr v50 h)) (u_bin PG .eql ycpa v10 (.int .u32 99) fun v22 => u_if v22 (u_ct y2wv [v6] h fun v24 h => Kr v24 h) (u_bin PG .eql ycpa v10 (.int .u32 3) fun v26 => u_if v26 (u_ct ycb7 [v6] h fun v28 h => Kr v28 h) (u_bin PG .eql ycpa v10 (.int .u32 35) fun v30 => u_if v30 (u_ct y1md [v6] h fun v32 h => Kr v32 h) (u_bin PG .eql ycpa v10 (.int .u32 19) fun v34 => u_if v34 (u_ct y4cl [v6, v8] h fun v37 h => Kr v37 h) (u_bin PG .eql ycpa v10 (.int .u32 51) fun v39 => u_if v39 (u_ct ym5j [v6, v8] h fun v42 h => Kr v42 h) (u_bin PG .eql ycpa v10 (.int .u32 15) fun v44 => u_if v44 (u_bin PG .lss T_int v6 (.int .i64 2) fun v46 => u_if v46 (u_bin PG .add T_int (.int .i64 46) v6 fun v48 => Kr v48 h) (u_ct yci3 [x0] h fun v50 h => Kr v50 h)) (u_ct yci3 [x0] h fun v50 h => Kr v50 h))))))))))
theorem ybkb (Kn : K1) (Kr : K1) (t : T) (h : H) (H0 : yy6q (t 0) h Kn Kr) : Wp PG 51 (ygjk Tryz.f226.body) (mkQ (q1 Kn 2) (q1 Kr 2) ke0) t h :=
  wpEqC E3_ok H0 (by kernel_rfl)
def yvz6 (x0 : Value) (h : H) (Q : K1) : Prop := yy6q x0 h Q Q
theorem yxwv (x0 : Value) (h : H) (Q : K1) (H0 : yvz6 x0 h Q) : AM.Spec PG yt2y [x0] h Q :=
  yqxt mixed (fn := Tryz.f226) Tryz.func226 (c := ygjk Tryz.f226.body) (rs := [2]) (N := 51) (by kernel_rfl) (by kernel_rfl) (by kernel_rfl) (by kernel_rfl) (by kernel_rfl) (Nat.le_of_ble_eq_true rfl) (ybkb Q Q (tinit [x0]) h H0) (by kernel_rfl)
def y550 (w : Int) : Int := if IntKind.u32.wrap ↑((w % 2 ^ IntKind.u32.bits).toNat &&& 127 % 2 ^ IntKind.u32.bits) = 55 then 1 else if IntKind.u32.wrap ↑((w % 2 ^ IntKind.u32.bits).toNat &&& 127 % 2 ^ IntKind.u32.bits) = 23 then 2 else if IntKind.u32.wrap ↑((w % 2 ^ IntKind.u32.bits).toNat &&& 127 % 2 ^ IntKind.u32.bits) = 111 then 3 else if IntKind.u32.wrap ↑((w % 2 ^ IntKind.u32.bits).toNat &&& 127 % 2 ^ IntKind.u32.bits) = 103 then if yz4y w 12 3 = 0 then 4 else yywu w else if IntKind.u32.wrap ↑((w % 2 ^ IntKind.u32.bits).toNat &&& 127 % 2 ^ IntKind.u32.bits) = 99 then ylht (yz4y w 12 3) else if IntKind.u32.wrap ↑((w % 2 ^ IntKind.u32.bits).toNat &&& 127 % 2 ^ IntKind.u32.bits) = 3 then y74a (yz4y w 12 3) else if IntKind.u32.wrap ↑((w % 2 ^ IntKind.u32.bits).toNat &&& 127 % 2 ^ IntKind.u32.bits) = 35 then y4os (yz4y w 12 3) else if IntKind.u32.wrap ↑((w % 2 ^ IntKind.u32.bits).toNat &&& 127 % 2 ^ IntKind.u32.bits) = 19 then y35s (yz4y w 12 3) (yz4y w 25 7) else if IntKind.u32.wrap ↑((w % 2 ^ IntKind.u32.bits).toNat &&& 127 % 2 ^ IntKind.u32.bits) = 51 then ytcn (yz4y w 12 3) (yz4y w 25 7) else if IntKind.u32.wrap ↑((w % 2 ^ IntKind.u32.bits).toNat &&& 127 % 2 ^ IntKind.u32.bits) = 15 then if yz4y w 12 3 < 2 then IntKind.i64.wrap (46 + yz4y w 12 3) else yywu w else yywu w
theorem yycp {w : Int} {K : K1} {h : H} (hk : K (.int .i64 (y550 w)) h) : AM.Spec PG yt2y [.int .u32 w] h K := by
  refine yz7m (fun K hk => ?_) hk
  refine yxwv _ _ _ ?_
  simp (config := {contextual := true, dsimp := false, maxSteps := 1000000}) [↓y88o, ↓yvz6, ↓yy6q]
  all_goals (intros; repeat' (refine ite_i (fun _ => ?_) (fun _ => ?_)))
  all_goals refine fin hk (by repeat (first | exact Sub.refl _ | refine Sub.upd ?_ (by assumption))) ?_
  all_goals first | rfl | (simp only [y550, *, ↓reduceIte]; done) | (simp_all [y550]; done) | (simp_all [y550] <;> omega)
def yl8m (args : List Value) : Option Value := match args with
  | [.int .u32 w] => some (.int .i64 (y550 w))
  | _ => none
@[simp] theorem ywng {w : Int} : yl8m [.int .u32 w] = some (.int .i64 (y550 w)) := rfl
def yldw : CE := .val yl8m
@[simp] theorem y7vn {args : List Value} {h : H} {K : K1} : CE.run yldw args h K = u_opt (yl8m args) fun v => K v h := rfl
theorem y3io (args : List Value) (h : H) (K : K1) (hr : CE.run yldw args h K) : AM.Spec PG yt2y args h K := by
  rw [y7vn] at hr
  unfold yl8m at hr
  split at hr
  · exact yycp hr
  · exact hr.elim
def yey8 (x0 : Value) (h : H) (Kn : K2) (Kr : K2) : Prop :=
  u_bin PG .geq T_int x0 (.int .i64 19) fun v6 => ydv6 v6 true (fun k4 => u_bin PG .leq T_int x0 (.int .i64 27) fun v9 => k4 v9 h) (fun v9 h => y9rg v6 v9 (.bool false) fun v10 => u_if v10 (ysnr PG y6aa [(0, (.int .i64 0)), (1, (.int .i64 3)), (2, (.int .i64 4)), (3, (.int .i64 5)), (4, (.int .i64 8)), (5, (.int .i64 9)), (6, (.int .i64 2)), (7, (.int .i64 6)), (8, (.int .i64 7))] fun v11 => u_bin PG .sub T_int x0 (.int .i64 19) fun v13 => ywq9 false 9 false 1 v11 v13 fun v14 => Kr v14 (.bool true) h) (u_bin PG .geq T_int x0 (.int .i64 28) fun v17 => ydv6 v17 true (fun k4 => u_bin PG .leq T_int x0 (.int .i64 37) fun v20 => k4 v20 h) (fun v20 h => y9rg v17 v20 (.bool false) fun v21 => u_if v21 (ysnr PG yx8p [(0, (.int .i64 0)), (1, (.int .i64 1)), (2, (.int .i64 2)), (3, (.int .i64 3)), (4, (.int .i64 4)), (5, (.int .i64 5)), (6, (.int .i64 6)), (7, (.int .i64 7)), (8, (.int .i64 8)), (9, (.int .i64 9))] fun v22 => u_bin PG .sub T_int x0 (.int .i64 28) fun v24 => ywq9 false 10 false 1 v22 v24 fun v25 => Kr v25 (.bool true) h) (u_bin PG .geq T_int x0 (.int .i64 38) fun v28 => ydv6 v28 true (fun k4 => u_bin PG .leq T_int x0 (.int .i64 45) fun v31 => k4 v31 h) (fun v31 h => y9rg v28 v31 (.bool false) fun v32 => u_if v32 (u_bin PG .sub T_int x0 (.int .i64 38) fun v34 => u_bin PG .add T_int v34 (.int .i64 10) fun v35 => Kr v35 (.bool true) h) (Kr (.int .i64 0) (.bool false) h)) h)) h)) h
theorem yt93 (Kn : K2) (Kr : K2) (t : T) (h : H) (H0 : yey8 (t 0) h Kn Kr) : Wp PG 36 (ygjk Tryz.f236.body) (mkQ (q2 Kn 2 3) (q2 Kr 2 3) ke0) t h :=
  wpEqC E3_ok H0 (by kernel_rfl)
def yhc5 (x0 : Value) (h : H) (Q : K1) : Prop := yey8 x0 h (fun y2 y3 h => bif [y2, y3].all boxV then Q (.tuple #[y2, y3]) h else False) (fun y2 y3 h => bif [y2, y3].all boxV then Q (.tuple #[y2, y3]) h else False)
theorem ybz8 (x0 : Value) (h : H) (Q : K1) (H0 : yhc5 x0 h Q) : AM.Spec PG yf1u [x0] h Q :=
  yqxt mixed (fn := Tryz.f236) Tryz.func236 (c := ygjk Tryz.f236.body) (rs := [2, 3]) (N := 36) (by kernel_rfl) (by kernel_rfl) (by kernel_rfl) (by kernel_rfl) (by kernel_rfl) (Nat.le_of_ble_eq_true rfl) (yt93 (fun y2 y3 h => bif [y2, y3].all boxV then Q (.tuple #[y2, y3]) h else False) (fun y2 y3 h => bif [y2, y3].all boxV then Q (.tuple #[y2, y3]) h else False) (tinit [x0]) h H0) (by kernel_rfl)
def ych0 (o : Int) : Int := if 19 ≤ o ∧ o ≤ 27 then tab (o - 19) [0, 3, 4, 5, 8, 9, 2, 6, 7] else if 28 ≤ o ∧ o ≤ 37 then tab (o - 28) [0, 1, 2, 3, 4, 5, 6, 7, 8, 9] else if 38 ≤ o ∧ o ≤ 45 then IntKind.i64.wrap (IntKind.i64.wrap (o - 38) + 10) else 0
def y9oy (o : Int) : Bool := if 19 ≤ o ∧ o ≤ 27 then true else if 28 ≤ o ∧ o ≤ 37 then true else if 38 ≤ o ∧ o ≤ 45 then true else false
theorem yq5s {o : Int} {K : K1} {h : H} (hk : K (.tuple #[.int .i64 (ych0 o), .bool (y9oy o)]) h) : AM.Spec PG yf1u [.int .i64 o] h K := by
  refine yz7m (fun K hk => ?_) hk
  refine ybz8 _ _ _ ?_
  simp (config := {contextual := true, dsimp := false, maxSteps := 1000000}) [↓y88o, ↓yhc5, ↓yey8]
  all_goals (intros; repeat' (refine ite_i (fun _ => ?_) (fun _ => ?_)))
  all_goals refine fin hk (by repeat (first | exact Sub.refl _ | refine Sub.upd ?_ (by assumption))) ?_
  all_goals first | rfl | (simp only [ych0, y9oy, *, ↓reduceIte]; done) | (simp_all [ych0, y9oy]; done) | (simp_all [ych0, y9oy] <;> omega)
def yhvz (args : List Value) : Option Value := match args with
  | [.int .i64 o] => some (.tuple #[.int .i64 (ych0 o), .bool (y9oy o)])
  | _ => none
@[simp] theorem yjaa {o : Int} : yhvz [.int .i64 o] = some (.tuple #[.int .i64 (ych0 o), .bool (y9oy o)]) := rfl
def ywpv : CE := .val yhvz
@[simp] theorem yyuy {args : List Value} {h : H} {K : K1} : CE.run ywpv args h K = u_opt (yhvz args) fun v => K v h := rfl
theorem yc25 (args : List Value) (h : H) (K : K1) (hr : CE.run ywpv args h K) : AM.Spec PG yf1u args h K := by
  rw [yyuy] at hr
  unfold yhvz at hr
  split at hr
  · exact yq5s hr
  · exact hr.elim
def E4 : CT := ctOf [(yt2y, yldw), (yf1u, ywpv)] E3
theorem E4_ok : CTOk PG E4 := yko4 E3_ok (by
  intro x hx
  simp only [List.mem_cons, List.not_mem_nil, or_false] at hx
  rcases hx with rfl | rfl
  · exact y3io
  · exact yc25)
end Go.Proofs.YtnckimioabkheaaGreat

set_option linter.unusedVariables false
set_option linter.unusedSimpArgs false
set_option maxRecDepth 100000
set_option maxHeartbeats 2000000
namespace Go.Proofs.YtnckimioabkheaaGreat
open Go.Proofs.YtnckimioabkheaaGreat.AM
@[simp] theorem y4v0 {a0 : Int} {K : Value → Prop} {u : Dm K} : ysnr PG yc0x [(0, .int .i64 a0)] K u = K (.agg #[.int .i64 a0, .int .i64 0, .int .i64 0, .int .i64 0, .int .i32 0]) := by kernel_rfl
def youv (x0 x102 : Value) (h : H) (Kn : K2) (Kr : K2) : Prop :=
  u_new [.int .i64 0, .int .i64 0, .int .i64 0, .int .i64 0, .int .i32 0] yc0x .exact h fun b2 h => u_ct yldw [x0] h fun v9 h => ysnr PG yc0x [(0, v9)] fun v10 => u_new [.int .i64 0, .int .i64 0, .int .i64 0, .int .i64 0, .int .i32 0] yc0x .exact h fun b3 h => ylel 5 (.pointer (some ⟨b3, 0, none⟩)) v10 h fun h => u_ct yfwc [x0, (.int .i64 7), (.int .i64 5)] h fun v12 h => u_ct yfwc [x0, (.int .i64 15), (.int .i64 5)] h fun v14 h => u_ct yfwc [x0, (.int .i64 20), (.int .i64 5)] h fun v16 h => u_bf false 1 0 (.pointer (some ⟨b3, 0, none⟩)) h fun v18 => u_bin PG .eql T_int v18 (.int .i64 0) fun v28 => ydv6 v28 false (fun k4 => u_bin PG .geq T_int v18 (.int .i64 46) fun v31 => k4 v31 h) (fun v31 h => y9rg v28 (.bool true) v31 fun v32 => u_if v32 (ybqh true 5 (.pointer (some ⟨b3, 0, none⟩)) h fun v101 => ylel 5 (.pointer (some ⟨b2, 0, none⟩)) v101 h fun h => Kr (.pointer (some ⟨b2, 0, none⟩)) x102 h) (u_bin PG .leq T_int v18 (.int .i64 2) fun v35 => u_if v35 (u_bin PG .and ycpa x0 (.int .u32 4294963200) fun v38 => y2x6 .i32 v38 fun v39 => u_st 1 1 (.pointer (some ⟨b3, 0, none⟩)) v12 h fun h => u_st 1 4 (.pointer (some ⟨b3, 0, none⟩)) v39 h fun h => ybqh true 5 (.pointer (some ⟨b3, 0, none⟩)) h fun v101 => ylel 5 (.pointer (some ⟨b2, 0, none⟩)) v101 h fun h => Kr (.pointer (some ⟨b2, 0, none⟩)) x102 h) (u_bin PG .eql T_int v18 (.int .i64 3) fun v44 => u_if v44 (u_ct yawa [x0] h fun v47 h => u_st 1 1 (.pointer (some ⟨b3, 0, none⟩)) v12 h fun h => u_st 1 4 (.pointer (some ⟨b3, 0, none⟩)) v47 h fun h => ybqh true 5 (.pointer (some ⟨b3, 0, none⟩)) h fun v101 => ylel 5 (.pointer (some ⟨b2, 0, none⟩)) v101 h fun h => Kr (.pointer (some ⟨b2, 0, none⟩)) x102 h) (u_bin PG .geq T_int v18 (.int .i64 5) fun v52 => ydv6 v52 true (fun k4 => u_bin PG .leq T_int v18 (.int .i64 10) fun v55 => k4 v55 h) (fun v55 h => y9rg v52 v55 (.bool false) fun v56 => u_if v56 (u_ct yjzq [x0] h fun v60 h => u_st 1 2 (.pointer (some ⟨b3, 0, none⟩)) v14 h fun h => u_st 1 3 (.pointer (some ⟨b3, 0, none⟩)) v16 h fun h => u_st 1 4 (.pointer (some ⟨b3, 0, none⟩)) v60 h fun h => ybqh true 5 (.pointer (some ⟨b3, 0, none⟩)) h fun v101 => ylel 5 (.pointer (some ⟨b2, 0, none⟩)) v101 h fun h => Kr (.pointer (some ⟨b2, 0, none⟩)) x102 h) (u_bin PG .geq T_int v18 (.int .i64 16) fun v66 => ydv6 v66 true (fun k4 => u_bin PG .leq T_int v18 (.int .i64 18) fun v69 => k4 v69 h) (fun v69 h => y9rg v66 v69 (.bool false) fun v70 => u_if v70 (u_ct yiso [x0] h fun v74 h => u_st 1 2 (.pointer (some ⟨b3, 0, none⟩)) v14 h fun h => u_st 1 3 (.pointer (some ⟨b3, 0, none⟩)) v16 h fun h => u_st 1 4 (.pointer (some ⟨b3, 0, none⟩)) v74 h fun h => ybqh true 5 (.pointer (some ⟨b3, 0, none⟩)) h fun v101 => ylel 5 (.pointer (some ⟨b2, 0, none⟩)) v101 h fun h => Kr (.pointer (some ⟨b2, 0, none⟩)) x102 h) (u_bin PG .geq T_int v18 (.int .i64 25) fun v80 => ydv6 v80 true (fun k4 => u_bin PG .leq T_int v18 (.int .i64 27) fun v83 => k4 v83 h) (fun v83 h => y9rg v80 v83 (.bool false) fun v84 => u_if v84 (y2x6 .i32 v16 fun v88 => u_st 1 1 (.pointer (some ⟨b3, 0, none⟩)) v12 h fun h => u_st 1 2 (.pointer (some ⟨b3, 0, none⟩)) v14 h fun h => u_st 1 4 (.pointer (some ⟨b3, 0, none⟩)) v88 h fun h => ybqh true 5 (.pointer (some ⟨b3, 0, none⟩)) h fun v101 => ylel 5 (.pointer (some ⟨b2, 0, none⟩)) v101 h fun h => Kr (.pointer (some ⟨b2, 0, none⟩)) x102 h) (u_bin PG .geq T_int v18 (.int .i64 28) fun v94 => u_if v94 (u_st 1 1 (.pointer (some ⟨b3, 0, none⟩)) v12 h fun h => u_st 1 2 (.pointer (some ⟨b3, 0, none⟩)) v14 h fun h => u_st 1 3 (.pointer (some ⟨b3, 0, none⟩)) v16 h fun h => ybqh true 5 (.pointer (some ⟨b3, 0, none⟩)) h fun v101 => ylel 5 (.pointer (some ⟨b2, 0, none⟩)) v101 h fun h => Kr (.pointer (some ⟨b2, 0, none⟩)) x102 h) (u_ct ygp9 [x0] h fun v22 h => u_st 1 1 (.pointer (some ⟨b3, 0, none⟩)) v12 h fun h => u_st 1 2 (.pointer (some ⟨b3, 0, none⟩)) v14 h fun h => u_st 1 4 (.pointer (some ⟨b3, 0, none⟩)) v22 h fun h => ybqh true 5 (.pointer (some ⟨b3, 0, none⟩)) h fun v101 => ylel 5 (.pointer (some ⟨b2, 0, none⟩)) v101 h fun h => Kr (.pointer (some ⟨b2, 0, none⟩)) x102 h))) h)) h)) h)))) h
theorem ybqp (Kn : K2) (Kr : K2) (t : T) (h : H) (H0 : youv (t 0) (t 102) h Kn Kr) : Wp PG 102 (ygjk Tryz.f155.body) (mkQ (q2 Kn 2 102) (q2 Kr 2 102) ke0) t h :=
  wpEqC E4_ok H0 (by kernel_rfl)
def ykji (x0 : Value) (h : H) (Q : K1) : Prop := youv x0 undef h (fun y2 y102 h => o_ret y102 h (fun h => ybqh true 5 y2 h fun v => Q v h)) (fun y2 y102 h => o_ret y102 h (fun h => ybqh true 5 y2 h fun v => Q v h))
theorem y37w (x0 : Value) (h : H) (Q : K1) (H0 : ykji x0 h Q) : AM.Spec PG yte1 [x0] h Q :=
  ysgf mixed (fn := Tryz.f155) Tryz.func155 (c := ygjk Tryz.f155.body) (a := 2) (ty := 119) (ag := true) (n := 5) (N := 102) (by kernel_rfl) (by kernel_rfl) (by kernel_rfl) (by kernel_rfl) (by kernel_rfl) (by kernel_rfl) (Nat.le_of_ble_eq_true rfl) (ybqp (fun y2 y102 h => o_ret y102 h (fun h => ybqh true 5 y2 h fun v => Q v h)) (fun y2 y102 h => o_ret y102 h (fun h => ybqh true 5 y2 h fun v => Q v h)) (tinit [x0]) h H0) (by kernel_rfl)
def y1j0 (w : Int) : Int := if y550 w = 0 ∨ 46 ≤ y550 w then y550 w else if y550 w ≤ 2 then y550 w else if y550 w = 3 then 3 else y550 w
def y41m (w : Int) : Int := if y550 w = 0 ∨ 46 ≤ y550 w then 0 else if y550 w ≤ 2 then yz4y w 7 5 else if y550 w = 3 then yz4y w 7 5 else if 5 ≤ y550 w ∧ y550 w ≤ 10 then 0 else if 16 ≤ y550 w ∧ y550 w ≤ 18 then 0 else yz4y w 7 5
def ydwe (w : Int) : Int := if y550 w = 0 ∨ 46 ≤ y550 w then 0 else if y550 w ≤ 2 then 0 else if y550 w = 3 then 0 else yz4y w 15 5
def ybta (w : Int) : Int := if y550 w = 0 ∨ 46 ≤ y550 w then 0 else if y550 w ≤ 2 then 0 else if y550 w = 3 then 0 else if 5 ≤ y550 w ∧ y550 w ≤ 10 then yz4y w 20 5 else if 16 ≤ y550 w ∧ y550 w ≤ 18 then yz4y w 20 5 else if 25 ≤ y550 w ∧ y550 w ≤ 27 then 0 else if 28 ≤ y550 w then yz4y w 20 5 else 0
def y31p (w : Int) : Int := if y550 w = 0 ∨ 46 ≤ y550 w then 0 else if y550 w ≤ 2 then IntKind.i32.wrap (IntKind.u32.wrap ↑((w % 2 ^ IntKind.u32.bits).toNat &&& 4294963200 % 2 ^ IntKind.u32.bits)) else if y550 w = 3 then yaez w else if 5 ≤ y550 w ∧ y550 w ≤ 10 then y5f6 w else if 16 ≤ y550 w ∧ y550 w ≤ 18 then y8ox w else if 25 ≤ y550 w ∧ y550 w ≤ 27 then IntKind.i32.wrap (yz4y w 20 5) else if 28 ≤ y550 w then 0 else yqpc w
theorem y3eg {w : Int} {K : K1} {h : H} (hk : K (.agg #[.int .i64 (y1j0 w), .int .i64 (y41m w), .int .i64 (ydwe w), .int .i64 (ybta w), .int .i32 (y31p w)]) h) : AM.Spec PG yte1 [.int .u32 w] h K := by
  refine yz7m (fun K hk => ?_) hk
  refine y37w _ _ _ ?_
  simp (config := {contextual := true, dsimp := false, maxSteps := 1000000}) [↓y88o, ↓ykji, ↓youv]
  all_goals (intros; repeat' (refine ite_i (fun _ => ?_) (fun _ => ?_)))
  all_goals refine fin hk (by repeat (first | exact Sub.refl _ | refine Sub.upd ?_ (by assumption))) ?_
  all_goals first | rfl | (simp only [y1j0, y41m, ydwe, ybta, y31p, *, ↓reduceIte]; done) | (simp_all [y1j0, y41m, ydwe, ybta, y31p]; done) | (simp_all [y1j0, y41m, ydwe, ybta, y31p] <;> omega)
def yj62 (args : List Value) : Option Value := match args with
  | [.int .u32 w] => some (.agg #[.int .i64 (y1j0 w), .int .i64 (y41m w), .int .i64 (ydwe w), .int .i64 (ybta w), .int .i32 (y31p w)])
  | _ => none
@[simp] theorem yraw {w : Int} : yj62 [.int .u32 w] = some (.agg #[.int .i64 (y1j0 w), .int .i64 (y41m w), .int .i64 (ydwe w), .int .i64 (ybta w), .int .i32 (y31p w)]) := rfl
def yevm : CE := .val yj62
@[simp] theorem yqh3 {args : List Value} {h : H} {K : K1} : CE.run yevm args h K = u_opt (yj62 args) fun v => K v h := rfl
theorem ye7d (args : List Value) (h : H) (K : K1) (hr : CE.run yevm args h K) : AM.Spec PG yte1 args h K := by
  rw [yqh3] at hr
  unfold yj62 at hr
  split at hr
  · exact y3eg hr
  · exact hr.elim
def E5 : CT := ctOf [(yte1, yevm)] E4
theorem E5_ok : CTOk PG E5 := yko4 E4_ok (by
  intro x hx
  simp only [List.mem_cons, List.not_mem_nil, or_false] at hx
  rcases hx with rfl
  · exact ye7d)
end Go.Proofs.YtnckimioabkheaaGreat

set_option linter.unusedSimpArgs false
set_option linter.unusedVariables false
namespace Go.Proofs.YtnckimioabkheaaGreat.AM
section
variable {P : Program} {D : CT}
def reOne (P : Program) (D : CT) (ops : Array Oper) (r : Nat) (t : T) (h : H) : Prop :=
  match (ops[r]?).bind (·.dst) with
  | some d => cStep P D ops r (fun t2 _ => t2 d = t d) t h
  | none => False
def reAll (P : Program) (D : CT) (ops : Array Oper) : List Nat → (T → H → Prop) → T → H → Prop
  | [], K, t, h => K t h
  | r :: rs, K, t, h => reOne P D ops r t h ∧ reAll P D ops rs K t h
theorem y6xd {ops : Array Oper} {K : T → H → Prop} {t : T} {h : H} : ∀ {rs : List Nat}, reAll P D ops rs K t h ↔ (∀ r ∈ rs, reOne P D ops r t h) ∧ K t h
  | [] => by simp [reAll]
  | r :: rs => by simp [reAll, y6xd (rs := rs), and_assoc]
def ymqp (ops : Array Oper) (z x : Oper) : Bool := match x.dst with
  | none => true
  | some d => !memB d (z.looksAt ops) && (match z.dst with | some e => !Nat.beq e d | none => true)
theorem yoe7 {ops : Array Oper} {z x : Oper} (h : ymqp ops z x = true) : ∀ d, x.dst = some d → d ∉ z.looksAt ops ∧ z.dst ≠ some d := by
  intro d hd
  unfold ymqp at h
  rw [hd] at h
  simp only [Bool.and_eq_true, Bool.not_eq_true'] at h
  refine ⟨fun hm => ?_, fun he => ?_⟩
  · rw [ye6g.2 hm] at h; exact absurd h.1 (by decide)
  · rw [he] at h
    simp only [Nat.beq_refl] at h
    exact absurd h.2 (by decide)
def asOne (P : Program) (D : CT) (ops : Array Oper) (k : Nat) (t : T) (h : H) : Prop := cStep P D ops k (fun _ _ => True) t h
def asAll (P : Program) (D : CT) (ops : Array Oper) : List Nat → (T → H → Prop) → T → H → Prop
  | [], K, t, h => K t h
  | k :: ks, K, t, h => asOne P D ops k t h ∧ asAll P D ops ks K t h
theorem y1sc {ops : Array Oper} {K : T → H → Prop} {t : T} {h : H} : ∀ {ks : List Nat}, asAll P D ops ks K t h ↔ (∀ k ∈ ks, asOne P D ops k t h) ∧ K t h
  | [] => by simp [asAll]
  | k :: ks => by simp [asAll, y1sc (ks := ks), and_assoc]
abbrev OE := Nat × List Nat × List Nat
def cOpsR (P : Program) (D : CT) (ops : Array Oper) : List OE → (T → H → Prop) → T → H → Prop
  | [], K, t, h => K t h
  | (i, rs, az) :: l, K, t, h => asAll P D ops az (cStep P D ops i (reAll P D ops rs (cOpsR P D ops l K))) t h
def aftB : List Nat → Nat → Nat → Bool
  | [], _, _ => false
  | a :: l, j, r => bif Nat.beq a j then memB r l else aftB l j r
def posOk (full : List Nat) : List Nat → Bool
  | [] => true
  | a :: l => l.all (fun b => !aftB full b a) && posOk full l
theorem y5mf {full : List Nat} {q : Nat → Bool} : ∀ {l : List Nat}, posOk full l = true → posOk full (l.filter q) = true
  | [], _ => rfl
  | a :: l, h => by
    simp only [posOk, Bool.and_eq_true] at h
    have ih := y5mf (q := q) h.2
    rw [List.filter_cons]
    split
    · simp only [posOk, Bool.and_eq_true, ih, and_true]
      exact List.all_eq_true.2 fun b hb => List.all_eq_true.1 h.1 b (List.mem_filter.1 hb).1
    · exact ih
def condO (full : List Nat) (P : Program) (D : CT) (ops : Array Oper) (j : Nat) (x : Oper) (rsj : List Nat) (y : Oper) (rsi : List Nat) : Bool :=
  rsj.isEmpty && (bif memB j rsi then Nat.beq (kindC P D x.op) 1 && x.apart ops y && (match x.dst with | some d => !memB d (x.looksAt ops) | none => false)
    else freeC P D ops x y && (rsi.isEmpty || Nat.beq (kindC P D x.op) 0)) &&
    rsi.all fun r => Nat.beq r j || aftB full j r || match ops[r]? with | some z => ymqp ops z x | none => false
theorem yffn {ops : Array Oper} {r : Nat} {z : Oper} (hz : ops[r]? = some z) {t2 t3 : T} {h : H} (h1 : ∀ d ∈ z.looksAt ops, t2 d = t3 d) (h2 : ∀ d, z.dst = some d → t2 d = t3 d) (hr : reOne P D ops r t2 h) : reOne P D ops r t3 h := by
  unfold reOne at hr ⊢
  simp only [hz, Option.bind_some] at hr ⊢
  cases hd : z.dst with
  | none => rw [hd] at hr; exact hr
  | some d =>
    rw [hd] at hr
    simp only at hr ⊢
    refine ye63 hz h1 (fun v h' hk => ?_) hr
    rw [hd] at hk ⊢
    simp only [tput, tset, Nat.beq_refl, cond_true] at hk ⊢
    rw [hk, h2 d hd]
theorem swapO {ops : Array Oper} {i j : Nat} {K : T → H → Prop} {t : T} {h : H} {x y : Oper} (hj : ops[j]? = some x) (hi : ops[i]? = some y) {rsi A : List Nat} {full : List Nat} (hA : ∀ r ∈ A, r ∈ rsi ∧ r ≠ j ∧ aftB full j r = false) (hc : condO full P D ops j x [] y rsi = true)
    (hs : cStep P D ops j (cStep P D ops i (reAll P D ops (bif memB j rsi then j :: A else A) K)) t h) : cStep P D ops i (reAll P D ops A (cStep P D ops j K)) t h := by
  simp only [condO, Bool.and_eq_true, List.isEmpty_nil, true_and] at hc
  obtain ⟨hc1, hc2⟩ := hc
  have hot : ∀ r ∈ A, ∃ z, ops[r]? = some z ∧ ymqp ops z x = true := fun r hr => by
    obtain ⟨a1, a2, a3⟩ := hA r hr
    have := List.all_eq_true.1 hc2 r a1
    simp only [a3, Bool.or_false, Bool.or_eq_true] at this
    rcases this with h5 | h5
    · exact absurd (Nat.eq_of_beq_eq_true h5) a2
    · cases hz : ops[r]? with
      | none => rw [hz] at h5; exact absurd h5 Bool.false_ne_true
      | some z => rw [hz] at h5; exact ⟨z, rfl, h5⟩
  by_cases hemp : memB j rsi = false ∧ A = []
  · obtain ⟨e1, e2⟩ := hemp
    rw [e1, cond_false] at hc1 hs
    subst e2
    simp only [Bool.and_eq_true] at hc1
    exact yh7l hj hi hc1.1 hs
  have hap : x.apart ops y = true ∧ kindC P D x.op < 2 := by
    cases hm : memB j rsi with
    | true =>
      rw [hm, cond_true] at hc1
      simp only [Bool.and_eq_true] at hc1
      exact ⟨hc1.1.2, by have := Nat.eq_of_beq_eq_true hc1.1.1; omega⟩
    | false =>
      rw [hm, cond_false] at hc1
      simp only [Bool.and_eq_true, Bool.or_eq_true] at hc1
      refine ⟨?_, ?_⟩
      · have := hc1.1
        simp only [freeC, Bool.and_eq_true] at this
        exact this.1
      · rcases hc1.2 with h5 | h5
        · exfalso
          rw [List.isEmpty_iff] at h5
          refine hemp ⟨hm, ?_⟩
          cases A with
          | nil => rfl
          | cons a r => have := (hA a (List.mem_cons_self ..)).1; rw [h5] at this; cases this
        · have := Nat.eq_of_beq_eq_true h5; omega
  obtain ⟨f1, f2, f3⟩ := Oper.apart_spec hap.1
  have ec : ∀ vj vi, tput (tput t x.dst vj) y.dst vi = tput (tput t y.dst vi) x.dst vj := fun vj vi => y7cf f2
  have ei : ∀ vj, ∀ d ∈ y.looksAt ops, tput t x.dst vj d = t d := fun vj d hd => yjcn fun he => f1 d he hd
  have ej : ∀ vi, ∀ d ∈ x.looksAt ops, t d = tput t y.dst vi d := fun vi d hd => (yjcn fun he => f3 d he hd).symm
  obtain ⟨vj, h', a1, a2, a3⟩ := yz9e hj (by omega) hs
  have e1 := a2 hap.2
  subst e1
  refine ye63 hi (ei vj) (fun w h2 hk => ?_) a1
  rw [ec] at hk
  have hold : ∀ d, x.dst ≠ some d → tput (tput t y.dst w) x.dst vj d = tput t y.dst w d := fun d hd => yjcn hd
  have hre : ∀ r ∈ A, reOne P D ops r (tput (tput t y.dst w) x.dst vj) h2 → reOne P D ops r (tput t y.dst w) h2 := fun r hr hh => by
    obtain ⟨z, hz, hzx⟩ := hot r hr
    have hsp := yoe7 hzx
    refine yffn hz (fun d hd => hold d fun he => (hsp d he).1 hd) (fun d hd => hold d fun he => (hsp d he).2 hd) hh
  cases hm : memB j rsi with
  | false =>
    rw [hm, cond_false] at hk hc1
    simp only [Bool.and_eq_true, Bool.or_eq_true] at hc1
    obtain ⟨k1, k2⟩ := y6xd.1 hk
    refine y6xd.2 ⟨fun r hr => hre r hr (k1 r hr), ?_⟩
    have hk0 : kindC P D x.op = 0 := by
      rcases hc1.2 with h5 | h5
      · exfalso
        rw [List.isEmpty_iff] at h5
        refine hemp ⟨hm, ?_⟩
        cases A with
        | nil => rfl
        | cons a r => have := (hA a (List.mem_cons_self ..)).1; rw [h5] at this; cases this
      · exact Nat.eq_of_beq_eq_true h5
    exact (a3 _ (ej w)).2 hk0 _ _ k2
  | true =>
    rw [hm, cond_true] at hk hc1
    simp only [Bool.and_eq_true] at hc1
    obtain ⟨k1, k2⟩ := y6xd.1 hk
    refine y6xd.2 ⟨fun r hr => hre r hr (k1 r (List.mem_cons_of_mem _ hr)), ?_⟩
    have hx1 := Nat.eq_of_beq_eq_true hc1.1.1
    have k0 := k1 j (List.mem_cons_self ..)
    unfold reOne at k0
    simp only [hj, Option.bind_some] at k0
    cases hd : x.dst with
    | none => rw [hd] at k0; exact k0.elim
    | some d =>
      have hself : d ∉ x.looksAt ops := fun hm2 => by
        have := hc1.2
        rw [hd] at this
        simp only [ye6g.2 hm2] at this
        exact absurd this (by decide)
      rw [hd] at k0
      simp only at k0
      have ev : tput (tput t y.dst w) (some d) vj d = vj := by simp [tput, tset]
      rw [ev] at k0
      have k3 : cStep P D ops j (fun ta _ => ta d = vj) (tput t y.dst w) h2 := by
        refine ye63 hj (fun q hq => yjcn fun he => hself (by injection he with he; rw [he]; exact hq)) (fun v' h' hk => ?_) k0
        rw [hd] at hk ⊢
        simp only [tput, tset, Nat.beq_refl, cond_true] at hk ⊢
        exact hk
      obtain ⟨v', h3, b1, b2, b3⟩ := yz9e hj (by omega) k3
      have e2 := b2 (by omega)
      subst e2
      rw [hd] at b1
      simp only [tput, tset, Nat.beq_refl, cond_true] at b1
      subst b1
      exact (b3 _ (fun _ _ => rfl)).1 _ k2
theorem ybwa {size : Nat} {h h2 : H} {x : Value} {n : Nat} {l : List Value} (hs : Sub h h2) (h1 : yc23 size h x n = some l) : yc23 size h2 x n = some l := by
  unfold yc23 at h1 ⊢
  split at h1
  · exact h1
  · rename_i n' b o _ _
    by_cases hn : n = 0
    · rw [if_pos hn] at h1; simp only [if_pos hn]; exact h1
    · rw [if_neg hn] at h1
      simp only [if_neg hn]
      exact hs.cellsAt h1
  · exact h1
  · cases h1
theorem y524 {h : H} {b c : Nat} {o o' : AObj} (hn : b ≠ c) : upd (upd h b o) c o' = upd (upd h c o') b o := by
  funext d
  unfold upd
  by_cases h1 : d = b <;> by_cases h2 : d = c <;> simp_all
theorem yj13 {h : H} {b c : Nat} {o : AObj} (hn : b ≠ c) : del (upd h b o) c = upd (del h c) b o := by
  funext d
  unfold upd del
  by_cases h1 : d = b <;> by_cases h2 : d = c <;> simp_all
theorem yx26 {e : TypeId} {size bytes : Nat} {s x : Value} {h : H} {K : Value → H → Prop} {b : Nat} {o : AObj} (hb : h b = none) (ha : yc1n e size bytes s x h K) :
    yc1n e size bytes s x (upd h b o) fun v h2 => ∃ h1, h2 = upd h1 b o ∧ h1 b = none ∧ K v h1 := by
  have hs : Sub h (upd h b o) := Sub.new hb
  have hne : ∀ {c : Nat} {q : AObj}, h c = some q → b ≠ c := fun hc he => by rw [← he, hb] at hc; cases hc
  have new : ∀ {cs : List Value} {E : TypeId} {m : Own} {K' : Value → H → Prop} {f : Nat → Value}, o_new cs E m h (fun b h => K' (f b) h) → o_new cs E m (upd h b o) fun c h2 => ∃ h1, h2 = upd h1 b o ∧ h1 b = none ∧ K' (f c) h1 := by
    intro cs E m K' f ho c hc2 hcn
    rw [ynej] at hcn
    exact ⟨_, y524 hcn.2.1, by rw [yrkk _ _ hcn.2.1]; exact hb, ho c hc2 hcn.2.2⟩
  unfold yc1n at ha ⊢
  revert ha
  split
  · rename_i base len cap n hn
    cases hsrc : yc23 size h x n with
    | none => exact fun hf => hf.elim
    | some new' =>
      simp only [ybwa hs hsrc]
      by_cases hc : len + n ≤ cap
      · simp only [if_pos hc]
        split
        · rename_i c p
          by_cases hn0 : n = 0
          · simp only [if_pos hn0]; exact fun hk => ⟨h, rfl, hb, hk⟩
          · simp only [if_neg hn0]
            cases hcc : h c with
            | none => exact fun hf => hf.elim
            | some q =>
              simp only [hs _ _ hcc]
              cases q with
              | cells cs E m =>
                simp only
                rintro ⟨h1, h2, h3, h4⟩
                exact ⟨h1, h2, h3, _, y524 (hne hcc), by rw [yrkk _ _ (hne hcc)]; exact hb, h4⟩
              | _ => exact fun hf => hf.elim
        · rintro ⟨h1, h2⟩; exact ⟨h1, h, rfl, hb, h2⟩
        · exact fun hf => hf.elim
      · simp only [if_neg hc]
        rintro ⟨h1, h2, h3, h4, h5⟩
        refine ⟨h1, h2, h3, h4, ?_⟩
        revert h5
        split
        · rintro ⟨h6, h7⟩; exact ⟨h6, new (f := fun c => .slice (some ⟨c, 0, Option.none⟩) n n) h7⟩
        · rename_i c p
          by_cases hc0 : c = 0
          · simp only [if_pos hc0]
            rintro ⟨h6, h7⟩; exact ⟨h6, new (f := fun c => .slice (some ⟨c, 0, Option.none⟩) n n) h7⟩
          · simp only [if_neg hc0]
            cases hcc : h c with
            | none => exact fun hf => hf.elim
            | some q =>
              simp only [hs _ _ hcc]
              cases q with
              | cells cs E m =>
                cases m with
                | «open» =>
                  simp only
                  rintro ⟨h6, h7, h8, h9, h10⟩
                  refine ⟨h6, h7, h8, h9, fun d hd2 hdn => ?_⟩
                  rw [ynej] at hdn
                  refine ⟨_, ?_, ?_, h10 d hd2 hdn.2.2⟩
                  · rw [yj13 (hne hcc), y524 hdn.2.1]
                  · rw [yrkk _ _ hdn.2.1, ybsf _ (hne hcc)]; exact hb
                | ro => simp only; rintro ⟨h6, h7⟩; exact ⟨h6, new (f := fun c => .slice (some ⟨c, 0, Option.none⟩) (len + n) (len + n)) h7⟩
                | exact => simp only; rintro ⟨h6, h7⟩; exact ⟨h6, new (f := fun c => .slice (some ⟨c, 0, Option.none⟩) (len + n) (len + n)) h7⟩
              | _ => exact fun hf => hf.elim
        · exact fun hf => hf.elim
  · exact fun hf => hf.elim
def isApp : Op → Bool
  | .call c => match c.callee with
    | .builtin .append => true
    | _ => false
  | _ => false
theorem yegs {op : Op} {ρ : Operand → Value} (hx : isApp op = true) {h : H} {K : Value → H → Prop} {b : Nat} {o : AObj} (hb : h b = none) (ha : cop P D op ρ h K) :
    cop P D op ρ (upd h b o) fun v h2 => ∃ h1, h2 = upd h1 b o ∧ h1 b = none ∧ K v h1 := by
  cases op <;> simp only [isApp, Bool.false_eq_true] at hx
  rename_i c
  have hcal : c.callee = .builtin .append := by
    revert hx
    split
    · rename_i h; exact fun _ => h
    · exact fun hf => by cases hf
  unfold cop at ha ⊢
  simp only [hcal] at ha ⊢
  unfold aCall at ha ⊢
  simp only [hcal] at ha ⊢
  generalize c.args.toList = az at *
  generalize c.argTypes.toList = ts at *
  rcases az with _ | ⟨s, _ | ⟨x, _ | ⟨y, az⟩⟩⟩
  · exact ha.elim
  · exact ha.elim
  · rcases ts with _ | ⟨t, _ | ⟨v, _ | ⟨w, ts⟩⟩⟩
    · exact ha.elim
    · exact ha.elim
    · simp only at ha ⊢
      have key : ∀ e, (match P.info? e, y7rv P e with
          | some i, some z => bif z.cells.size == i.size then yc1n e i.size i.bytes (ρ s) (ρ x) h K else False
          | _, _ => False) → (match P.info? e, y7rv P e with
          | some i, some z => bif z.cells.size == i.size then yc1n e i.size i.bytes (ρ s) (ρ x) (upd h b o) (fun v h2 => ∃ h1, h2 = upd h1 b o ∧ h1 b = none ∧ K v h1) else False
          | _, _ => False) := by
        intro e
        cases P.info? e with
        | none => exact id
        | some i =>
          cases y7rv P e with
          | none => exact id
          | some z =>
            simp only
            cases (z.cells.size == i.size)
            · exact id
            · exact yx26 hb
      revert ha
      split
      · exact key _
      · exact key _
      · exact fun hf => hf.elim
    · exact ha.elim
  · exact ha.elim
def condA (P : Program) (D : CT) (ops : Array Oper) (x : Oper) (rsj : List Nat) (y : Oper) (rsi : List Nat) : Bool :=
  rsi.isEmpty && x.apart ops y && x.guard.isNone && y.guard.isNone &&
    ((Nat.beq (kindC P D y.op) 4 && isApp x.op && rsj.all fun r => match ops[r]? with | some z => ymqp ops z y && Nat.blt (kindC P D z.op) 2 | none => false) ||
      (rsj.isEmpty && Nat.beq (kindC P D x.op) 4 && (Nat.beq (kindC P D y.op) 4 || Nat.beq (kindC P D y.op) 5)))
def keepA (P : Program) (D : CT) (ops : Array Oper) (y : Oper) (k : Nat) : Bool :=
  match ops[k]? with
  | some z => apartL ops z y && (Nat.beq (kindC P D z.op) 4 || (Nat.beq (kindC P D z.op) 5 && (Nat.blt (kindC P D y.op) 2 || Nat.beq (kindC P D y.op) 4 || Nat.beq (kindC P D y.op) 5)))
  | none => false
where apartL (ops : Array Oper) (z y : Oper) : Bool := match y.dst with
  | none => true
  | some d => !memB d (z.looksAt ops)
def condR (full : List Nat) (P : Program) (D : CT) (ops : Array Oper) (j : Nat) (x : Oper) (rsj asj : List Nat) (i : Nat) (y : Oper) (rsi : List Nat) : Bool :=
  (bif memB i asj then condA P D ops x rsj y rsi else condO full P D ops j x rsj y rsi) && asj.all (keepA P D ops y)
theorem yn6n {ops : Array Oper} {i : Nat} {y : Oper} (hi : ops[i]? = some y) {Z : T → H → Prop} {t : T} {h : H} (hs : cStep P D ops i Z t h) :
    cStep P D ops i (fun t' h' => Z t' h' ∧ (∃ w, t' = tput t y.dst w) ∧ (kindC P D y.op < 2 ∨ kindC P D y.op = 4 ∨ kindC P D y.op = 5 → Sub h h')) t h := by
  rw [yg7j hi] at hs ⊢
  cases hact : yys9 ops y t with
  | false =>
    rw [hact, cond_false] at hs
    simp only [cond_false]
    exact ⟨hs, ⟨_, rfl⟩, fun _ => Sub.refl _⟩
  | true =>
    rw [hact, cond_true] at hs
    simp only [cond_true]
    by_cases h2 : kindC P D y.op < 2
    · obtain ⟨v, h', a1, a2, a3, _⟩ := y339 (by omega) _ _ hs
      have := a2 h2
      subst this
      exact a3 _ ⟨a1, ⟨_, rfl⟩, fun _ => Sub.refl _⟩
    · by_cases h4 : kindC P D y.op = 4 ∨ kindC P D y.op = 5
      · exact ybom (fun v h' hk => ⟨hk.2, ⟨_, rfl⟩, fun _ => hk.1⟩) (yjff h4 hs)
      · exact ybom (fun v h' hk => ⟨hk, ⟨_, rfl⟩, fun hh => absurd hh (by omega)⟩) hs
theorem y5em {ops : Array Oper} {k : Nat} {y : Oper} (hk : keepA P D ops y k = true) {t : T} {h : H} (ha : asOne P D ops k t h) {w : Value} {h' : H} (hs : kindC P D y.op < 2 ∨ kindC P D y.op = 4 ∨ kindC P D y.op = 5 → Sub h h') : asOne P D ops k (tput t y.dst w) h' := by
  unfold keepA at hk
  cases hz : ops[k]? with
  | none => rw [hz] at hk; cases hk
  | some z =>
    rw [hz] at hk
    simp only [Bool.and_eq_true, Bool.or_eq_true] at hk
    obtain ⟨k1, k2⟩ := hk
    have hl : ∀ d ∈ z.looksAt ops, t d = tput t y.dst w d := fun d hd => (yjcn fun he => by
      unfold keepA.apartL at k1
      rw [he] at k1
      simp only [ye6g.2 hd] at k1
      exact absurd k1 (by decide)).symm
    unfold asOne at ha ⊢
    rw [yg7j hz] at ha ⊢
    rw [yp5a hl]
    cases hact : yys9 ops z t with
    | false => trivial
    | true =>
      rw [hact, cond_true] at ha
      simp only [cond_true]
      have e : cop P D z.op (aev (tput t y.dst w)) = cop P D z.op (aev t) := (ywsc (yig2 hl)).symm
      rw [e]
      rcases k2 with k2 | k2
      · rcases yrnt (P := P) (D := D) (ρ := aev t) (Nat.eq_of_beq_eq_true k2) with hf | ⟨f, q, hf⟩
        · exact absurd ha (hf _ _)
        · rw [hf]; exact fun _ _ _ => trivial
      · have h5 := Nat.eq_of_beq_eq_true k2.1
        have hsub : Sub h h' := hs (by
          rcases k2.2 with (q | q) | q
          · exact .inl (by simpa using q)
          · exact .inr (.inl (Nat.eq_of_beq_eq_true q))
          · exact .inr (.inr (Nat.eq_of_beq_eq_true q)))
        rcases ytzp (P := P) (D := D) (ρ := aev t) h5 with hf | ⟨p, R, u1, u2, hf⟩
        · exact absurd ha (hf _ _)
        · rw [hf] at ha ⊢
          exact ⟨u1 _ _ hsub ha.1, fun _ _ _ _ => trivial⟩
theorem ykt1 {ops : Array Oper} {r : Nat} {z : Oper} (hz : ops[r]? = some z) (hk : kindC P D z.op < 2) {t : T} {h h2 : H} (hs : Sub h h2) (hr : reOne P D ops r t h) : reOne P D ops r t h2 := by
  unfold reOne at hr ⊢
  simp only [hz, Option.bind_some] at hr ⊢
  cases hd : z.dst with
  | none => rw [hd] at hr; exact hr
  | some d =>
    rw [hd] at hr
    simp only at hr ⊢
    rw [yg7j hz] at hr ⊢
    cases hact : yys9 ops z t with
    | false => rw [hact, cond_false] at hr; exact hr
    | true =>
      rw [hact, cond_true] at hr
      simp only [cond_true]
      obtain ⟨v, a1, a2⟩ := yezu hk hr
      exact a2 _ hs _ a1
theorem swapA {ops : Array Oper} {i j : Nat} {K : T → H → Prop} {t : T} {h : H} {x y : Oper} (hj : ops[j]? = some x) (hi : ops[i]? = some y) {rsj rsi : List Nat} (hc : condA P D ops x rsj y rsi = true) (ha : asOne P D ops i t h)
    (hs : cStep P D ops j (reAll P D ops rsj (cStep P D ops i K)) t h) : cStep P D ops i (cStep P D ops j (reAll P D ops rsj K)) t h := by
  simp only [condA, Bool.and_eq_true] at hc
  obtain ⟨⟨⟨⟨_, c2⟩, c3⟩, c4⟩, c5⟩ := hc
  obtain ⟨f1, f2, f3⟩ := Oper.apart_spec c2
  have ec : ∀ vj vi, tput (tput t x.dst vj) y.dst vi = tput (tput t y.dst vi) x.dst vj := fun vj vi => y7cf f2
  have ei : ∀ vj, ∀ d ∈ y.looksAt ops, tput t x.dst vj d = t d := fun vj d hd => yjcn fun he => f1 d he hd
  have ej : ∀ vi, ∀ d ∈ x.looksAt ops, t d = tput t y.dst vi d := fun vi d hd => (yjcn fun he => f3 d he hd).symm
  have acty : ∀ t, yys9 ops y t = true := fun t => by
    unfold yys9
    cases hg : y.guard with
    | none => rfl
    | some g => rw [hg] at c4; cases c4
  have actx : ∀ t, yys9 ops x t = true := fun t => by
    unfold yys9
    cases hg : x.guard with
    | none => rfl
    | some g => rw [hg] at c3; cases c3
  have stepy : ∀ {K : T → H → Prop} {t h}, cStep P D ops i K t h = cop P D y.op (aev t) h fun v h => K (tput t y.dst v) h := fun {K t h} => by rw [yg7j hi, acty, cond_true]
  have stepx : ∀ {K : T → H → Prop} {t h}, cStep P D ops j K t h = cop P D x.op (aev t) h fun v h => K (tput t x.dst v) h := fun {K t h} => by rw [yg7j hj, actx, cond_true]
  have copy' : ∀ vj, cop P D y.op (aev (tput t x.dst vj)) = cop P D y.op (aev t) := fun vj => ywsc (yig2 (ei vj))
  have copx' : ∀ vi, cop P D x.op (aev (tput t y.dst vi)) = cop P D x.op (aev t) := fun vi => (ywsc (yig2 (ej vi))).symm
  unfold asOne at ha
  rw [stepy] at ha ⊢
  rw [stepx] at hs
  simp only [Bool.or_eq_true, Bool.and_eq_true] at c5
  rcases c5 with c5 | c5
  · -- append, then a block made
    obtain ⟨⟨d1, d2⟩, d3⟩ := c5
    rcases yrnt (P := P) (D := D) (ρ := aev t) (Nat.eq_of_beq_eq_true d1) with hf | ⟨f, q, hf⟩
    · exact absurd ha (hf _ _)
    rw [hf]
    intro b hb2 hbn
    rw [stepx, copx']
    refine ybom (fun v h2 hk => ?_) (yegs (o := q) d2 hbn hs)
    obtain ⟨h1, rfl, h1b, hk⟩ := hk
    obtain ⟨k1, k2⟩ := y6xd.1 hk
    have ek : tput (tput t y.dst (f b)) x.dst v = tput (tput t x.dst v) y.dst (f b) := (ec v (f b)).symm
    refine y6xd.2 ⟨fun r hr => ?_, ?_⟩
    · have hz0 := List.all_eq_true.1 d3 r hr
      cases hz : ops[r]? with
      | none => rw [hz] at hz0; cases hz0
      | some z =>
        rw [hz] at hz0
        simp only [Bool.and_eq_true, Nat.blt_eq] at hz0
        have hsp := yoe7 hz0.1
        rw [ek]
        refine ykt1 hz hz0.2 (Sub.new h1b) (yffn hz (fun d hd => ?_) (fun d hd => ?_) (k1 r hr))
        · exact (yjcn fun he => (hsp d he).1 hd).symm
        · exact (yjcn fun he => (hsp d he).2 hd).symm
    · rw [stepy, copy', hf] at k2
      rw [ek]
      exact k2 b hb2 h1b
  · obtain ⟨⟨d1, d2⟩, d3⟩ := c5
    have hrs := List.isEmpty_iff.1 d1
    subst hrs
    rcases yrnt (P := P) (D := D) (ρ := aev t) (Nat.eq_of_beq_eq_true d2) with hfx | ⟨fx, ox, hfx⟩
    · exact absurd hs (hfx _ _)
    rw [hfx] at hs
    simp only [reAll] at hs ⊢
    rcases d3 with d3 | d3
    · rcases yrnt (P := P) (D := D) (ρ := aev t) (Nat.eq_of_beq_eq_true d3) with hf | ⟨f, q, hf⟩
      · exact absurd ha (hf _ _)
      rw [hf]
      intro b hb2 hbn
      rw [stepx, copx', hfx]
      intro c hc2 hcn
      rw [ynej] at hcn
      have := hs c hc2 hcn.2.2
      rw [stepy, copy', hf] at this
      have := this b hb2 (by rw [yrkk _ _ hcn.2.1]; exact hbn)
      rw [← ec, y524 (Ne.symm hcn.1)]
      exact this
    · rcases ytzp (P := P) (D := D) (ρ := aev t) (Nat.eq_of_beq_eq_true d3) with hf | ⟨p, R, u1, u2, hf⟩
      · exact absurd ha (hf _ _)
      rw [hf] at ha ⊢
      refine ⟨ha.1, fun v h' hsub hR => ?_⟩
      rw [stepx, copx', hfx]
      intro c hc2 hcn
      have hcn0 := Sub.none hsub hcn
      have := hs c hc2 hcn0
      rw [stepy, copy', hf] at this
      rw [← ec]
      refine this.2 v _ (fun d o hd => ?_) (u2 _ _ _ (Sub.new hcn) hR)
      by_cases hdc : d = c
      · subst hdc; rw [yy0e] at hd ⊢; exact hd
      · rw [yrkk _ _ hdc] at hd ⊢; exact hsub _ _ hd
theorem swapR {ops : Array Oper} {i j : Nat} {K : T → H → Prop} {t : T} {h : H} {x y : Oper} (hj : ops[j]? = some x) (hi : ops[i]? = some y) {rsj asj rsi A : List Nat} {full : List Nat} (hA : ∀ r ∈ A, r ∈ rsi ∧ r ≠ j ∧ aftB full j r = false) (hc : condR full P D ops j x rsj asj i y rsi = true)
    (hs : asAll P D ops asj (cStep P D ops j (reAll P D ops rsj (cStep P D ops i (reAll P D ops (bif memB j rsi then j :: A else A) K)))) t h) : cStep P D ops i (reAll P D ops A (asAll P D ops asj (cStep P D ops j (reAll P D ops rsj K)))) t h := by
  simp only [condR, Bool.and_eq_true] at hc
  obtain ⟨hc1, hc2⟩ := hc
  obtain ⟨ha, hs⟩ := y1sc.1 hs
  have main : cStep P D ops i (reAll P D ops A (cStep P D ops j (reAll P D ops rsj K))) t h := by
    cases hm : memB i asj with
    | true =>
      rw [hm, cond_true] at hc1
      have hrsi : rsi = [] := by
        simp only [condA, Bool.and_eq_true] at hc1
        exact List.isEmpty_iff.1 hc1.1.1.1.1
      subst hrsi
      have hAn : A = [] := by
        cases A with
        | nil => rfl
        | cons a r => exact absurd (hA a (List.mem_cons_self ..)).1 (by simp)
      subst hAn
      exact swapA hj hi hc1 (ha i (ye6g.1 hm)) hs
    | false =>
      rw [hm, cond_false] at hc1
      have hrsj : rsj = [] := by
        simp only [condO, Bool.and_eq_true] at hc1
        exact List.isEmpty_iff.1 hc1.1.1
      subst hrsj
      exact swapO hj hi hA hc1 hs
  refine ycg0 (fun t' h' hh => ?_) (yn6n hi main)
  obtain ⟨h1, ⟨w, rfl⟩, h2⟩ := hh
  obtain ⟨k1, k2⟩ := y6xd.1 h1
  exact y6xd.2 ⟨k1, y1sc.2 ⟨fun k hk => y5em (List.all_eq_true.1 hc2 k hk) (ha k hk) h2, k2⟩⟩
def okR (full : List Nat) (P : Program) (D : CT) (ops : Array Oper) (w : Nat → Nat → Bool) : List OE → Bool
  | [] => true
  | (j, rs, az) :: l => (match ops[j]? with
    | some x => x.after.all (fun e => !Region.binds .any e || (Nat.blt e.on ops.size && !memB e.on (j :: l.map (·.1)))) && l.all (fun p => match ops[p.1]? with
      | some y => w p.1 j || condR full P D ops j x rs az p.1 y p.2.1
      | none => false)
    | none => false) && okR full P D ops w l
def ordR (P : Program) (D : CT) (ops : Array Oper) (ord : List OE) : Bool :=
  okR (ord.map (·.1)) P D ops (ydjj ops (ord.map (·.1))) ord && posOk (ord.map (·.1)) (ord.map (·.1)) && ykug (ord.map (·.1)) && (List.range ops.size).all fun i => memB i (ord.map (·.1))
def restR (ord : List OE) (l : Array Bool) : List OE := ord.filter fun p => !l.getD p.1 true
theorem y0uj {ord : List OE} {l : Array Bool} : (restR ord l).map (·.1) = restO (ord.map (·.1)) l := by
  unfold restR restO
  rw [List.filter_map]
  rfl
section
variable {w : Nat → Nat → Bool} {full : List Nat}
theorem y9l4 {ops : Array Oper} {q : OE → Bool} : ∀ {l : List OE}, okR full P D ops w l = true → okR full P D ops w (l.filter q) = true
  | [], _ => rfl
  | (j, rs, az) :: r, h => by
    simp only [okR, Bool.and_eq_true] at h
    have ih := y9l4 (q := q) h.2
    rw [List.filter_cons]
    split
    · simp only [okR, Bool.and_eq_true, ih, and_true]
      cases hx : ops[j]? with
      | none => rw [hx] at h; exact absurd h.1 Bool.false_ne_true
      | some x =>
        rw [hx] at h
        simp only [Bool.and_eq_true] at h ⊢
        refine ⟨Array.all_eq_true_iff_forall_mem.2 fun e he => ?_, List.all_eq_true.2 fun k hk => List.all_eq_true.1 h.1.2 k (List.mem_filter.1 hk).1⟩
        have := Array.all_eq_true_iff_forall_mem.1 h.1.1 e he
        simp only [Bool.or_eq_true, Bool.and_eq_true, Bool.not_eq_true'] at this ⊢
        refine this.imp id fun h => ⟨h.1, ?_⟩
        cases hm : memB e.on (j :: (r.filter q).map (·.1)) with
        | false => rfl
        | true =>
          have h1 := ye6g.1 hm
          have h2 : memB e.on (j :: r.map (·.1)) = true := ye6g.2 (by
            rcases List.mem_cons.1 h1 with h1 | h1
            · rw [h1]; exact List.mem_cons_self ..
            · obtain ⟨p, hp, hpe⟩ := List.mem_map.1 h1
              exact List.mem_cons_of_mem _ (List.mem_map.2 ⟨p, (List.mem_filter.1 hp).1, hpe⟩))
          rw [h2] at h
          exact absurd h.2 (by decide)
    · exact ih
theorem ynwz {ops : Array Oper} {i : Nat} {rsi asi : List Nat} {post : List OE} : ∀ {pre : List OE}, okR full P D ops w (pre ++ (i, rsi, asi) :: post) = true → ∀ p ∈ pre, ∃ x y, ops[p.1]? = some x ∧ ops[i]? = some y ∧ (w i p.1 = true ∨ condR full P D ops p.1 x p.2.1 p.2.2 i y rsi = true)
  | [], _, j, hj => by cases hj
  | (a, rsa, asa) :: pre, h, p, hp => by
    simp only [List.cons_append, okR, Bool.and_eq_true] at h
    rcases List.mem_cons.1 hp with rfl | hp
    · cases hx : ops[a]? with
      | none => rw [hx] at h; exact absurd h.1 Bool.false_ne_true
      | some x =>
        rw [hx] at h
        simp only [Bool.and_eq_true] at h
        have := List.all_eq_true.1 h.1.2 (i, rsi, asi) (by simp)
        simp only at this
        cases hy : ops[i]? with
        | none => rw [hy] at this; exact absurd this Bool.false_ne_true
        | some y =>
          rw [hy] at this
          simp only [Bool.or_eq_true] at this
          exact ⟨x, y, rfl, rfl, this⟩
    · exact ynwz h.2 p hp
theorem y3lm {ops : Array Oper} {i : Nat} {rs az : List Nat} {r : List OE} (h : okR full P D ops w ((i, rs, az) :: r) = true) : ∃ y, ops[i]? = some y ∧ ∀ e ∈ y.after, Region.binds .any e = true → e.on < ops.size ∧ e.on ∉ i :: r.map (·.1) := by
  simp only [okR, Bool.and_eq_true] at h
  cases hx : ops[i]? with
  | none => rw [hx] at h; exact absurd h.1 Bool.false_ne_true
  | some x =>
    rw [hx] at h
    simp only [Bool.and_eq_true] at h
    refine ⟨x, rfl, fun e he hb => ?_⟩
    have := Array.all_eq_true_iff_forall_mem.1 h.1.1 e he
    rw [hb] at this
    simp only [Bool.not_true, Bool.false_or, Bool.and_eq_true, Nat.blt_eq, Bool.not_eq_true'] at this
    refine ⟨this.1, fun hm => ?_⟩
    rw [ye6g.2 hm] at this
    exact absurd this.2 (by decide)
end
theorem ym0i {full : List Nat} {ops : Array Oper} {i : Nat} {K : T → H → Prop} {y : Oper} (hi : ops[i]? = some y) {rsi asi : List Nat} : ∀ (pre post : List OE), (pre.map (·.1)).Nodup → posOk full (pre.map (·.1)) = true → (∀ p ∈ pre, ∃ x, ops[p.1]? = some x ∧ condR full P D ops p.1 x p.2.1 p.2.2 i y rsi = true) →
    ∀ (A : List Nat), (∀ r ∈ A, r ∈ rsi ∧ r ∉ pre.map (·.1) ∧ ∀ j ∈ pre.map (·.1), aftB full j r = false) → ∀ {t h}, cOpsR P D ops (pre ++ (i, rsi, asi) :: post) K t h → cStep P D ops i (reAll P D ops A (cOpsR P D ops (pre ++ post) K)) t h
  | [], _, _, _, _, A, hA, _, _, ho => ycg0 (fun t h hh => by
      obtain ⟨h1, h2⟩ := y6xd.1 hh
      exact y6xd.2 ⟨fun r hr => h1 r (hA r hr).1, h2⟩) (y1sc.1 ho).2
  | (j, rsj, asj) :: pre, post, hnd, hps, hp, A, hA, t, h, ho => by
    obtain ⟨x, h1, h3⟩ := hp (j, rsj, asj) (List.mem_cons_self ..)
    simp only [List.map_cons, List.nodup_cons] at hnd
    simp only [List.map_cons, posOk, Bool.and_eq_true] at hps
    obtain ⟨ho1, ho2⟩ := y1sc.1 ho
    have ho' : asAll P D ops asj (cStep P D ops j (reAll P D ops rsj (cStep P D ops i (reAll P D ops (bif memB j rsi then j :: A else A) (cOpsR P D ops (pre ++ post) K))))) t h :=
      y1sc.2 ⟨ho1, ycg0 (fun t h hh => (by
        obtain ⟨hh1, hh2⟩ := y6xd.1 hh
        refine y6xd.2 ⟨hh1, ym0i hi pre post hnd.2 hps.2 (fun p hp' => hp p (List.mem_cons_of_mem _ hp')) _ (fun r hr => ?_) hh2⟩
        cases hm : memB j rsi with
        | false =>
          rw [hm, cond_false] at hr
          refine ⟨(hA r hr).1, fun hr2 => (hA r hr).2.1 ?_, fun k hk => (hA r hr).2.2 k (by simp only [List.map_cons]; exact List.mem_cons_of_mem _ hk)⟩
          simp only [List.map_cons]
          exact List.mem_cons_of_mem _ hr2
        | true =>
          rw [hm, cond_true] at hr
          rcases List.mem_cons.1 hr with rfl | hr
          · exact ⟨ye6g.1 hm, hnd.1, fun k hk => by have := List.all_eq_true.1 hps.1 k hk; simpa using this⟩
          · refine ⟨(hA r hr).1, fun hr2 => (hA r hr).2.1 ?_, fun k hk => (hA r hr).2.2 k (by simp only [List.map_cons]; exact List.mem_cons_of_mem _ hk)⟩
            simp only [List.map_cons]
            exact List.mem_cons_of_mem _ hr2)) ho2⟩
    exact swapR (full := full) h1 hi (fun r hr => ⟨(hA r hr).1, fun he => (hA r hr).2.1 (by rw [he]; simp), (hA r hr).2.2 j (by simp)⟩) h3 ho'
theorem yoxu {full : List Nat} {ops : Array Oper} {ord : List OE} {w : Nat → Nat → Bool} (hw : ∀ i j, w i j = true → Anc ops i j) (hnd : (ord.map (·.1)).Nodup) (hall : ∀ i, i < ops.size → i ∈ ord.map (·.1)) (hpos : posOk full (ord.map (·.1)) = true) {K : T → H → Prop} : ∀ (fuel : Nat) (l : Array Bool), l.size = ops.size → yefu ops l → okR full P D ops w (restR ord l) = true → (restR ord l).length = fuel → ∀ {t h}, cOpsR P D ops (restR ord l) K t h → cAny P D ops K fuel l t h := by
  intro fuel
  induction fuel with
  | zero =>
    intro l hl hcl hko hn t h ho
    have he := List.length_eq_zero_iff.1 hn
    have hm := y0uj (ord := ord) (l := l)
    rw [he] at ho hm
    refine ⟨?_, ho⟩
    cases hr : Region.ready .any ops l with
    | nil => rfl
    | cons a r =>
      have := y2va hall l a (by rw [hr]; exact List.mem_cons_self ..)
      rw [← hm] at this
      cases this
  | succ fuel ih =>
    intro l hl hcl hko hn t h ho
    have hm := y0uj (ord := ord) (l := l)
    refine ⟨fun he => ?_, fun i hi => ?_⟩
    · exfalso
      cases hq : restR ord l with
      | nil => rw [hq] at hn; cases hn
      | cons p r =>
        obtain ⟨i, rs, az⟩ := p
        rw [hq] at hko hm
        obtain ⟨y, hy, h1⟩ := y3lm hko
        have := ynxr hall hl (i := i) (r := r.map (fun p => p.1)) (by rw [← hm]; rfl) hy h1
        rw [he] at this
        cases this
    · have him := y2va hall l i hi
      rw [← hm] at him
      have hin := y6o2 hi
      obtain ⟨⟨i', rsi, asi⟩, hp, he⟩ := List.mem_map.1 him
      simp only at he
      subst he
      obtain ⟨pre, post, hpp⟩ := List.append_of_mem hp
      have hsub : restR ord (l.setIfInBounds i' true) = (restR ord l).filter fun p => !Nat.beq p.1 i' := by
        unfold restR
        rw [List.filter_filter]
        congr 1
        funext p
        have hk := yfd6 (ord := [p.1]) (l := l) (i := i') (by omega)
        unfold restO at hk
        rw [List.filter_filter] at hk
        have e : ∀ b : Bool, (List.filter (fun _ => b) [p.1] = if b = true then [p.1] else []) := fun b => by cases b <;> rfl
        by_cases h5 : p.1 = i'
        · rw [h5]
          have : i' < l.size := by omega
          simp [this]
        · have : Nat.beq p.1 i' = false := by
            cases hq : Nat.beq p.1 i' with
            | false => rfl
            | true => exact absurd (Nat.eq_of_beq_eq_true hq) h5
          simp only [this, Bool.not_false, Bool.true_and]
          by_cases h6 : p.1 < l.size
          · simp [Array.getD, h6, Ne.symm h5]
          · simp [Array.getD, h6]
      have hndl : ((restR ord l).map (·.1)).Nodup := by rw [hm]; exact hnd.filter _
      rw [hpp] at hndl
      simp only [List.map_append, List.map_cons] at hndl
      have hn1 := List.nodup_append.1 hndl
      have hrest : restR ord (l.setIfInBounds i' true) = pre ++ post := by
        rw [hsub, hpp, List.filter_append, List.filter_cons]
        have e1 : pre.filter (fun p => !Nat.beq p.1 i') = pre := List.filter_eq_self.2 fun p hp => by
          have := hn1.2.2 p.1 (List.mem_map.2 ⟨p, hp, rfl⟩) i' (List.mem_cons_self ..)
          cases hq : Nat.beq p.1 i' with
          | false => rfl
          | true => exact absurd (Nat.eq_of_beq_eq_true hq) this
        have e2 : post.filter (fun p => !Nat.beq p.1 i') = post := List.filter_eq_self.2 fun p hp => by
          have : p.1 ≠ i' := fun he => (List.nodup_cons.1 hn1.2.1).1 (he ▸ List.mem_map.2 ⟨p, hp, rfl⟩)
          cases hq : Nat.beq p.1 i' with
          | false => rfl
          | true => exact absurd (Nat.eq_of_beq_eq_true hq) this
        rw [e1, e2]
        simp
      have hpp2 : posOk full (pre.map (·.1)) = true := by
        have h5 : posOk full ((restR ord l).map (·.1)) = true := by rw [hm]; exact y5mf hpos
        rw [hpp, List.map_append] at h5
        have : ∀ {a b : List Nat}, posOk full (a ++ b) = true → posOk full a = true := by
          intro a
          induction a with
          | nil => intro _ _; rfl
          | cons c a ih =>
            intro b hb
            simp only [List.cons_append, posOk, Bool.and_eq_true, List.all_append] at hb ⊢
            exact ⟨hb.1.1, ih hb.2⟩
        exact this h5
      obtain ⟨y, hy⟩ : ∃ y, ops[i']? = some y := ⟨_, Array.getElem?_eq_getElem hin⟩
      have hko' : okR full P D ops w (restR ord (l.setIfInBounds i' true)) = true := by rw [hsub]; exact y9l4 hko
      have hf := fun (p : OE) (hj : p ∈ pre) => y5db (ord := ord.map (·.1)) hw hcl hl hi (show p.1 ∈ restO (ord.map (·.1)) l by rw [← hm, hpp]; simp; exact .inl ⟨p.2.1, p.2.2, hj⟩)
      rw [hpp] at ho hn hko
      refine ycg0 (fun t h hh => ih (l.setIfInBounds i' true) (by simpa using hl) (hcl.set hl hi) hko' (by rw [hrest]; simp at hn ⊢; omega) (by rw [hrest]; exact hh)) (ym0i hy pre post hn1.1 hpp2 (fun p hp' => ?_) [] (fun r hr => by cases hr) ho)
      obtain ⟨x, y', hx, hy', hor⟩ := ynwz hko p hp'
      rw [hy] at hy'
      cases hy'
      exact ⟨x, hx, hor.resolve_left fun hb => by rw [hf p hp'] at hb; cases hb⟩
theorem ynwd (hD : CTOk P D) (ord : List OE) {N : Nat} {Q : Exit → T → H → Prop} {c : Code} {t : T} {h : H} (hi : y6qa c = true) (hd : ordR P D (yral c) ord = true) {A : Prop} (h0 : A) (e : A = cOpsR P D (yral c) ord (Q .normal) t h) : Wp P N c Q t h := by
  have hx := e ▸ h0
  cases c <;> simp only [y6qa, Bool.false_eq_true] at hi
  rename_i id ops d
  subst hi
  refine ⟨?_⟩
  show aAny P ops (Q .normal) ops.size (Array.replicate ops.size false) t h
  have hcl : yefu ops (Array.replicate ops.size false) := fun j hj => by
    exfalso
    by_cases hjs : j < ops.size <;> simp [Array.getD, hjs] at hj
  have hd' : ordR P D ops ord = true := hd
  simp only [ordR, Bool.and_eq_true] at hd'
  obtain ⟨⟨⟨d1, d4⟩, d2⟩, d3⟩ := hd'
  have hall : ∀ p ∈ ord, p.1 < ops.size := by
    have : ∀ {full : List Nat} {w : Nat → Nat → Bool} {l : List OE}, okR full P D ops w l = true → ∀ p ∈ l, p.1 < ops.size := by
      intro full w l
      induction l with
      | nil => intro _ j hj; cases hj
      | cons a r ih =>
        intro h j hj
        obtain ⟨a, rsa, asa⟩ := a
        rcases List.mem_cons.1 hj with rfl | hj
        · obtain ⟨y, hy, _⟩ := y3lm h
          exact (Array.getElem?_eq_some_iff.1 hy).1
        · simp only [okR, Bool.and_eq_true] at h
          exact ih h.2 j hj
    exact this d1
  have hr : restR ord (Array.replicate ops.size false) = ord := by
    unfold restR
    refine List.filter_eq_self.2 fun p hp => ?_
    have := hall p hp
    simp [Array.getD, this]
  have hnd := y7f1 d2
  have hcov : ∀ i, i < ops.size → i ∈ ord.map (·.1) := fun i hi => ye6g.1 (List.all_eq_true.1 d3 i (List.mem_range.2 hi))
  have hlen : ord.length = ops.size := by
    have h2 : (List.range ops.size).Perm (ord.map (·.1)) := (List.perm_ext_iff_of_nodup List.nodup_range hnd).2 fun a => ⟨fun ha => hcov a (List.mem_range.1 ha), fun ha => by
      obtain ⟨p, hp, rfl⟩ := List.mem_map.1 ha
      exact List.mem_range.2 (hall p hp)⟩
    have := h2.length_eq
    simpa using this.symm
  have := yoxu (P := P) (D := D) (fun i j h => yqkk h) hnd hcov d4 ops.size (Array.replicate ops.size false) (by simp) hcl (by rw [hr]; exact d1) (by rw [hr, hlen]) (by rw [hr]; exact hx)
  exact y6ot hD _ _ this
end
end Go.Proofs.YtnckimioabkheaaGreat.AM

set_option linter.unusedVariables false
set_option maxRecDepth 100000
namespace Go.Proofs.YtnckimioabkheaaGreat
open Go.Proofs.YtnckimioabkheaaGreat.AM
@[simp] theorem yzt1 {a0 : Int} {a1 : Int} {a2 : Int} {K : Value → Prop} {u : Dm K} : ysnr PG ys2z [(0, .int .i64 a0), (1, .int .u32 a1), (2, .int .i64 a2)] K u = K (.agg #[.int .i64 a0, .int .u32 a1, .int .i64 a2]) := by kernel_rfl
@[simp] theorem y79t {K : Value → Prop} {u : Dm K} : ysnr PG yuil [] K u = K (.agg #[.int .u8 0, .int .u8 0, .int .u8 0, .int .u8 0]) := by kernel_rfl
@[simp] theorem y43u {K : Value → Prop} {u : Dm K} : ysnr PG yqha [] K u = K (.agg #[.int .i64 0, .int .u32 0, .int .i64 0, .int .i64 0, .bool false]) := by kernel_rfl
@[simp] theorem yf9r {a0_0 : Int} {a0_1 : Int} {a0_2 : Int} {K : Value → Prop} {u : Dm K} : ysnr PG yqha [(0, .agg #[.int .i64 a0_0, .int .u32 a0_1, .int .i64 a0_2])] K u = K (.agg #[.int .i64 a0_0, .int .u32 a0_1, .int .i64 a0_2, .int .i64 0, .bool false]) := by kernel_rfl
@[simp] theorem ycw1 {a1 : Int} {K : Value → Prop} {u : Dm K} : ysnr PG yqha [(1, .int .i64 a1)] K u = K (.agg #[.int .i64 0, .int .u32 0, .int .i64 0, .int .i64 a1, .bool false]) := by kernel_rfl
def yeov (x0 x1 x2 x3 x18 : Value) (h : H) (Kn : K2) (Kr : K2) : Prop :=
  u_new [.int .i64 0, .int .u32 0, .int .i64 0, .int .i64 0, .bool false] yqha .exact h fun b8 h => yjdf PG yym2 [x1] h fun v10 h => u_un PG .not v10 fun v11 => u_if v11 (ysnr PG yqha [(1, (.int .i64 1))] fun v12 => ylel 5 (.pointer (some ⟨b8, 0, none⟩)) v12 h fun h => Kr (.pointer (some ⟨b8, 0, none⟩)) x18 h) (yjdf PG yzuk [x0, x1, x2, x3] h fun v17 h => ylel 5 (.pointer (some ⟨b8, 0, none⟩)) v17 h fun h => Kr (.pointer (some ⟨b8, 0, none⟩)) x18 h)
theorem yjur (Kn : K2) (Kr : K2) (t : T) (h : H) (H0 : yeov (t 0) (t 1) (t 2) (t 3) (t 18) h Kn Kr) : Wp PG 18 (ygjk Tryz.f26.body) (mkQ (q2 Kn 8 18) (q2 Kr 8 18) ke0) t h :=
  wpEqC E5_ok H0 (by kernel_rfl)
def yc6k (x0 x1 x2 x3 : Value) (h : H) (Q : K1) : Prop := yeov x0 x1 x2 x3 undef h (fun y8 y18 h => o_ret y18 h (fun h => ybqh true 5 y8 h fun v => Q v h)) (fun y8 y18 h => o_ret y18 h (fun h => ybqh true 5 y8 h fun v => Q v h))
theorem y5x6 (x0 x1 x2 x3 : Value) (h : H) (Q : K1) (H0 : yc6k x0 x1 x2 x3 h Q) : AM.Spec PG yv3a [x0, x1, x2, x3] h Q :=
  ysgf mixed (fn := Tryz.f26) Tryz.func26 (c := ygjk Tryz.f26.body) (a := 8) (ty := 83) (ag := true) (n := 5) (N := 18) (by kernel_rfl) (by kernel_rfl) (by kernel_rfl) (by kernel_rfl) (by kernel_rfl) (by kernel_rfl) (Nat.le_of_ble_eq_true rfl) (yjur (fun y8 y18 h => o_ret y18 h (fun h => ybqh true 5 y8 h fun v => Q v h)) (fun y8 y18 h => o_ret y18 h (fun h => ybqh true 5 y8 h fun v => Q v h)) (tinit [x0, x1, x2, x3]) h H0) (by kernel_rfl)
def yidf (x0 x1 x2 x3 x8 x48 : Value) (h : H) (Kn : K4) (Kr : K2) : Prop :=
  yji6 none 5 x1 (.int .i64 0) fun v16 => y0wt 4 v16 fun v17 => u_pf false 1 0 x0 h fun v22 => u_ixf false 1 4 none 5 x1 (.int .i64 0) h fun v26 => (ybqh false 1 v17 h fun v18 => yjdf PG yd4l [v22, v26] h fun v27 h => ysnr PG ysiy [(0, x0), (1, x2), (2, x3), (3, v18), (4, v27)] fun v28 => boxV v28 = true ∧ u_new (Value.cells v28).toList ysiy .exact h fun b29 h => Kn x1 x8 (.pointer (some ⟨b29, 0, none⟩)) x48 h) ∧ (yjdf PG yd4l [v22, v26] h fun v27 h => ybqh false 1 v17 h fun v18 => ysnr PG ysiy [(0, x0), (1, x2), (2, x3), (3, v18), (4, v27)] fun v28 => boxV v28 = true ∧ u_new (Value.cells v28).toList ysiy .exact h fun b29 h => Kn x1 x8 (.pointer (some ⟨b29, 0, none⟩)) x48 h)
theorem y0wd (Kn : K4) (Kr : K2) (t : T) (h : H) (H0 : yidf (t 0) (t 1) (t 2) (t 3) (t 8) (t 48) h Kn Kr) : Wp PG 48 (seqL (rest 1 (ygjk Tryz.f75.body))) (mkQ (q4 Kn 1 8 9 48) (q2 Kr 8 48) ke0) t h :=
  ya9i E5_ok [0, 1, 2, 3, 4, 5, 7, 8, 9, 10, 11, 12, 13, 14] 6 15 [16, 17, 18] (by kernel_rfl) (by kernel_rfl) H0 (by kernel_rfl)
def yket (x8 x9 x30 x31 x32 x48 : Value) (h : H) (Kn : K6) (Kr : K2) (Ke0 : K3) : Prop :=
  u_bin PG .lss T_int x32 x31 fun v33 => u_if v33 (u_ix true 5 none x30 x32 h fun v35 => u_new [.int .i64 0, .int .i64 0, .int .i64 0, .int .i64 0, .int .u32 0] yq0s .exact h fun b11 h => ylel 5 (.pointer (some ⟨b11, 0, none⟩)) v35 h fun h => ybqh true 5 (.pointer (some ⟨b11, 0, none⟩)) h fun v37 => yjdf PG yo19 [x9, v37] h fun v38 h => u_pf false 1 1285 x9 h fun v42 => u_if v42 (Ke0 x8 x9 x48 h) (u_bin PG .add T_int x32 (.int .i64 1) fun v43 => Kn x8 x9 x30 x31 v43 x48 h)) (Ke0 x8 x9 x48 h)
theorem yh2t (Kn : K6) (Kr : K2) (Ke0 : K3) (t : T) (h : H) (H0 : yket (t 8) (t 9) (t 30) (t 31) (t 32) (t 48) h Kn Kr Ke0) : Wp PG 48 (lopC (blkC (rest 1 (seqL (seqR (rest 1 (ygjk Tryz.f75.body))))))) (mkQ (q6 Kn 8 9 30 31 32 48) (q2 Kr 8 48) (keAdd 0 (q3 Ke0 8 9 48) ke0)) t h :=
  wpEqC E5_ok H0 (by kernel_rfl)
def y11e (x8 x9 x30 x31 x32 x48 : Value) (h : H) (Kn : K3) (Kr : K2) (Ke0 : K3) : Prop :=
  sloop (S := Value × Value × Value × Value × Value × Value) (fun s h K => yket s.1 s.2.1 s.2.2.1 s.2.2.2.1 s.2.2.2.2.1 s.2.2.2.2.2 h (fun y8 y9 y30 y31 y32 y48 h => K (y8, y9, y30, y31, y32, y48) h) Kr Ke0) (x8, x9, x30, x31, x32, x48) h
theorem ylif (Kn : K3) (Kr : K2) (Ke0 : K3) (t : T) (h : H) (H0 : y11e (t 8) (t 9) (t 30) (t 31) (t 32) (t 48) h Kn Kr Ke0) : Wp PG 48 (blkC (rest 1 (seqL (seqR (rest 1 (ygjk Tryz.f75.body)))))) (mkQ (q3 Kn 8 9 48) (q2 Kr 8 48) (keAdd 0 (q3 Ke0 8 9 48) ke0)) t h :=
  yv0a (fun t => (t 8, t 9, t 30, t 31, t 32, t 48)) (by kernel_rfl) (fun t h K H1 => yh2t (fun y8 y9 y30 y31 y32 y48 h => K (y8, y9, y30, y31, y32, y48) h) Kr Ke0 t h H1) H0
def yd0v (x8 x9 x30 x31 x32 x48 : Value) (h : H) (Kn : K3) (Kr : K2) : Prop :=
  y11e x8 x9 x30 x31 x32 x48 h Kn Kr Kn
theorem y9w4 (Kn : K3) (Kr : K2) (t : T) (h : H) (H0 : yd0v (t 8) (t 9) (t 30) (t 31) (t 32) (t 48) h Kn Kr) : Wp PG 48 (rest 1 (seqL (seqR (rest 1 (ygjk Tryz.f75.body))))) (mkQ (q3 Kn 8 9 48) (q2 Kr 8 48) ke0) t h :=
  y6tu 0 (by kernel_rfl) (by kernel_rfl) (ylif Kn Kr Kn t h H0)
def y92s (x1 x8 x9 x48 : Value) (h : H) (Kn : K3) (Kr : K2) : Prop :=
  ywmm x1 fun v31 => yd0v x8 x9 x1 v31 (.int .i64 0) x48 h Kn Kr
theorem ygxw (Kn : K3) (Kr : K2) (t : T) (h : H) (H0 : y92s (t 1) (t 8) (t 9) (t 48) h Kn Kr) : Wp PG 48 (seqL (seqR (rest 1 (ygjk Tryz.f75.body)))) (mkQ (q3 Kn 8 9 48) (q2 Kr 8 48) ke0) t h :=
  yvnp E5_ok 1 H0 (by kernel_rfl) (fun t h (H1 : yd0v (t 8) (t 9) (t 30) (t 31) (t 32) (t 48) h Kn Kr) => y9w4 Kn Kr t h H1) (by kernel_rfl)
def yhe0 (x8 x9 x48 : Value) (h : H) (Kn : K2) (Kr : K2) : Prop :=
  u_pf true 5 1286 x9 h fun v47 => ylel 5 x8 v47 h fun h => Kr x8 x48 h
theorem y7dj (Kn : K2) (Kr : K2) (t : T) (h : H) (H0 : yhe0 (t 8) (t 9) (t 48) h Kn Kr) : Wp PG 48 (seqR (seqR (rest 1 (ygjk Tryz.f75.body)))) (mkQ (q2 Kn 8 48) (q2 Kr 8 48) ke0) t h :=
  wpEqC E5_ok H0 (by kernel_rfl)
def y1ib (x1 x8 x9 x48 : Value) (h : H) (Kn : K2) (Kr : K2) : Prop :=
  y92s x1 x8 x9 x48 h (fun y8 y9 y48 h => yhe0 y8 y9 y48 h Kn Kr) Kr
theorem yhwm (Kn : K2) (Kr : K2) (t : T) (h : H) (H0 : y1ib (t 1) (t 8) (t 9) (t 48) h Kn Kr) : Wp PG 48 (seqR (rest 1 (ygjk Tryz.f75.body))) (mkQ (q2 Kn 8 48) (q2 Kr 8 48) ke0) t h :=
  ykv2 (by kernel_rfl) (fun t h H1 => y7dj Kn Kr t h H1) (ygxw (fun y8 y9 y48 h => yhe0 y8 y9 y48 h Kn Kr) Kr t h H0)
def ymh3 (x0 x1 x2 x3 x8 x48 : Value) (h : H) (Kn : K2) (Kr : K2) : Prop :=
  yidf x0 x1 x2 x3 x8 x48 h (fun y1 y8 y9 y48 h => y1ib y1 y8 y9 y48 h Kn Kr) Kr
theorem yrzi (Kn : K2) (Kr : K2) (t : T) (h : H) (H0 : ymh3 (t 0) (t 1) (t 2) (t 3) (t 8) (t 48) h Kn Kr) : Wp PG 48 (rest 1 (ygjk Tryz.f75.body)) (mkQ (q2 Kn 8 48) (q2 Kr 8 48) ke0) t h :=
  ykv2 (by kernel_rfl) (fun t h H1 => yhwm Kn Kr t h H1) (y0wd (fun y1 y8 y9 y48 h => y1ib y1 y8 y9 y48 h Kn Kr) Kr t h H0)
def y9hi (x0 x1 x2 x3 x48 : Value) (h : H) (Kn : K2) (Kr : K2) : Prop :=
  u_new [.int .i64 0, .int .u32 0, .int .i64 0, .int .i64 0, .bool false] yqha .exact h fun b8 h => ymh3 x0 x1 x2 x3 (.pointer (some ⟨b8, 0, none⟩)) x48 h Kn Kr
theorem yq8f (Kn : K2) (Kr : K2) (t : T) (h : H) (H0 : y9hi (t 0) (t 1) (t 2) (t 3) (t 48) h Kn Kr) : Wp PG 48 (ygjk Tryz.f75.body) (mkQ (q2 Kn 8 48) (q2 Kr 8 48) ke0) t h :=
  yvnp E5_ok 1 H0 (by kernel_rfl) (fun t h (H1 : ymh3 (t 0) (t 1) (t 2) (t 3) (t 8) (t 48) h Kn Kr) => yrzi Kn Kr t h H1) (by kernel_rfl)
def y0c7 (x0 x1 x2 x3 : Value) (h : H) (Q : K1) : Prop := y9hi x0 x1 x2 x3 undef h (fun y8 y48 h => o_ret y48 h (fun h => ybqh true 5 y8 h fun v => Q v h)) (fun y8 y48 h => o_ret y48 h (fun h => ybqh true 5 y8 h fun v => Q v h))
theorem yn0z (x0 x1 x2 x3 : Value) (h : H) (Q : K1) (H0 : y0c7 x0 x1 x2 x3 h Q) : AM.Spec PG yzuk [x0, x1, x2, x3] h Q :=
  ysgf mixed (fn := Tryz.f75) Tryz.func75 (c := ygjk Tryz.f75.body) (a := 8) (ty := 83) (ag := true) (n := 5) (N := 48) (by kernel_rfl) (by kernel_rfl) (by kernel_rfl) (by kernel_rfl) (by kernel_rfl) (by kernel_rfl) (Nat.le_of_ble_eq_true rfl) (yq8f (fun y8 y48 h => o_ret y48 h (fun h => ybqh true 5 y8 h fun v => Q v h)) (fun y8 y48 h => o_ret y48 h (fun h => ybqh true 5 y8 h fun v => Q v h)) (tinit [x0, x1, x2, x3]) h H0) (by kernel_rfl)
def ytdg (x0 x1 : Value) (h : H) (Kn : K0) (Kr : K0) : Prop :=
  boxV x1 = true ∧ u_new (Value.cells x1).toList yq0s .exact h fun b3 h => ybqh true 5 (.pointer (some ⟨b3, 0, none⟩)) h fun v5 => yjdf PG yinw [x0, v5] h fun v6 h => ydv6 v6 false (fun k6 => ybqh true 5 (.pointer (some ⟨b3, 0, none⟩)) h fun v9 => yjdf PG yebn [x0, v9] h fun v10 h => k6 v10 h) (fun v10 h => y9rg v6 (.bool true) v10 fun v11 => u_if v11 (Kr h) (u_bf false 1 0 (.pointer (some ⟨b3, 0, none⟩)) h fun v13 => u_bin PG .eql T_int v13 (.int .i64 6) fun v18 => u_if v18 (ybqh true 5 (.pointer (some ⟨b3, 0, none⟩)) h fun v20 => yjdf PG y634 [x0, v20] h fun v21 h => Kn h) (yi4e PG T_int v13 [(.int .i64 7), (.int .i64 18)] fun w22 => u_if w22 (ybqh true 5 (.pointer (some ⟨b3, 0, none⟩)) h fun v26 => yjdf PG y0ng [x0, v26] h fun v27 h => Kn h) (u_bin PG .eql T_int v13 (.int .i64 8) fun v29 => u_if v29 (ybqh true 5 (.pointer (some ⟨b3, 0, none⟩)) h fun v31 => yjdf PG ys9t [x0, v31] h fun v32 h => Kn h) (u_bin PG .eql T_int v13 (.int .i64 9) fun v34 => u_if v34 (u_pf false 1 0 x0 h fun v38 => y394 v38 fun v39 => y0wt 2 v39 fun v40 => u_bf false 1 33 v40 h fun v42 => u_bin PG .add yeb5 v42 (.int .i64 1) fun v43 => y394 v38 fun v44 => y0wt 2 v44 fun v45 => u_st 1 33 v45 v43 h fun h => Kn h) (u_bin PG .eql T_int v13 (.int .i64 20) fun v48 => u_if v48 (ybqh true 5 (.pointer (some ⟨b3, 0, none⟩)) h fun v50 => yjdf PG yvo7 [x0, v50] h fun v51 h => Kn h) (ybqh true 5 (.pointer (some ⟨b3, 0, none⟩)) h fun v15 => yjdf PG yduv [x0, v15] h fun v16 h => Kn h))))))) h
theorem ymzx (Kn : K0) (Kr : K0) (t : T) (h : H) (H0 : ytdg (t 0) (t 1) h Kn Kr) : Wp PG 52 (ygjk Tryz.f179.body) (mkQ (q0 Kn) (q0 Kr) ke0) t h :=
  wpEqC E5_ok H0 (by kernel_rfl)
def yyqe (x0 x1 : Value) (h : H) (Q : K1) : Prop := ytdg x0 x1 h (fun h => bif [].all boxV then Q (.tuple #[]) h else False) (fun h => bif [].all boxV then Q (.tuple #[]) h else False)
theorem ymat (x0 x1 : Value) (h : H) (Q : K1) (H0 : yyqe x0 x1 h Q) : AM.Spec PG yo19 [x0, x1] h Q :=
  yqxt mixed (fn := Tryz.f179) Tryz.func179 (c := ygjk Tryz.f179.body) (rs := []) (N := 52) (by kernel_rfl) (by kernel_rfl) (by kernel_rfl) (by kernel_rfl) (by kernel_rfl) (Nat.le_of_ble_eq_true rfl) (ymzx (fun h => bif [].all boxV then Q (.tuple #[]) h else False) (fun h => bif [].all boxV then Q (.tuple #[]) h else False) (tinit [x0, x1]) h H0) (by kernel_rfl)
def ybth (x0 x3 : Value) (h : H) (Kn : K0) (Kr : K1) (Ke0 : K0) : Prop :=
  False
theorem ytgr (Kn : K0) (Kr : K1) (Ke0 : K0) (t : T) (h : H) (H0 : ybth (t 0) (t 3) h Kn Kr Ke0) : Wp PG 106 (cndX (rest 1 (blkC (rest 1 (seqL (rest 1 (ygjk Tryz.f238.body))))))) (mkQ (q0 Kn) (q1 Kr 4) (keAdd 0 (q0 Ke0) ke0)) t h :=
  H0.elim
def ylur (x0 x3 : Value) (h : H) (Kn : K0) (Kr : K1) (Ke0 : K0) : Prop :=
  False
theorem y5nd (Kn : K0) (Kr : K1) (Ke0 : K0) (t : T) (h : H) (H0 : ylur (t 0) (t 3) h Kn Kr Ke0) : Wp PG 106 (cndX (rest 1 (cndY (rest 1 (blkC (rest 1 (seqL (rest 1 (ygjk Tryz.f238.body))))))))) (mkQ (q0 Kn) (q1 Kr 4) (keAdd 0 (q0 Ke0) ke0)) t h :=
  H0.elim
def y74t (x0 x3 : Value) (h : H) (Kn : K0) (Kr : K1) (Ke0 : K0) : Prop :=
  False
theorem yebk (Kn : K0) (Kr : K1) (Ke0 : K0) (t : T) (h : H) (H0 : y74t (t 0) (t 3) h Kn Kr Ke0) : Wp PG 106 (cndX (rest 1 (cndY (rest 1 (cndY (rest 1 (blkC (rest 1 (seqL (rest 1 (ygjk Tryz.f238.body))))))))))) (mkQ (q0 Kn) (q1 Kr 4) (keAdd 0 (q0 Ke0) ke0)) t h :=
  H0.elim
def y1dj (x0 x3 : Value) (h : H) (Kn : K0) (Kr : K1) (Ke0 : K0) : Prop :=
  False
theorem ygv4 (Kn : K0) (Kr : K1) (Ke0 : K0) (t : T) (h : H) (H0 : y1dj (t 0) (t 3) h Kn Kr Ke0) : Wp PG 106 (cndX (rest 1 (cndY (rest 1 (cndY (rest 1 (cndY (rest 1 (blkC (rest 1 (seqL (rest 1 (ygjk Tryz.f238.body))))))))))))) (mkQ (q0 Kn) (q1 Kr 4) (keAdd 0 (q0 Ke0) ke0)) t h :=
  H0.elim
def ynax (x0 x3 : Value) (h : H) (Kn : K0) (Kr : K1) (Ke0 : K0) : Prop :=
  False
theorem ybhw (Kn : K0) (Kr : K1) (Ke0 : K0) (t : T) (h : H) (H0 : ynax (t 0) (t 3) h Kn Kr Ke0) : Wp PG 106 (cndX (rest 1 (cndY (rest 1 (cndY (rest 1 (cndY (rest 1 (cndY (rest 1 (blkC (rest 1 (seqL (rest 1 (ygjk Tryz.f238.body))))))))))))))) (mkQ (q0 Kn) (q1 Kr 4) (keAdd 0 (q0 Ke0) ke0)) t h :=
  H0.elim
def yo2m (h : H) (Kn : K0) (Kr : K1) (Ke0 : K0) : Prop :=
  Kr (.bool false) h
theorem ybfj (Kn : K0) (Kr : K1) (Ke0 : K0) (t : T) (h : H) (H0 : yo2m  h Kn Kr Ke0) : Wp PG 106 (cndY (rest 1 (cndY (rest 1 (cndY (rest 1 (cndY (rest 1 (cndY (rest 1 (blkC (rest 1 (seqL (rest 1 (ygjk Tryz.f238.body))))))))))))))) (mkQ (q0 Kn) (q1 Kr 4) (keAdd 0 (q0 Ke0) ke0)) t h :=
  wpEqC E5_ok H0 (by kernel_rfl)
def y7j1 (x0 x3 x77 : Value) (h : H) (Kn : K0) (Kr : K1) (Ke0 : K0) : Prop :=
  u_if x77 (ynax x0 x3 h Kn Kr Ke0) (yo2m  h Kn Kr Ke0)
theorem yyyo (Kn : K0) (Kr : K1) (Ke0 : K0) (t : T) (h : H) (H0 : y7j1 (t 0) (t 3) (t 77) h Kn Kr Ke0) : Wp PG 106 (rest 1 (cndY (rest 1 (cndY (rest 1 (cndY (rest 1 (cndY (rest 1 (blkC (rest 1 (seqL (rest 1 (ygjk Tryz.f238.body)))))))))))))) (mkQ (q0 Kn) (q1 Kr 4) (keAdd 0 (q0 Ke0) ke0)) t h :=
  yh47 H0 (by kernel_rfl) (ybhw Kn Kr Ke0 t h) (ybfj Kn Kr Ke0 t h) (by kernel_rfl)
def y2gx (x0 x3 x11 : Value) (h : H) (Kn : K0) (Kr : K1) (Ke0 : K0) : Prop :=
  u_bin PG .eql T_int x11 (.int .i64 5) fun v78 => y7j1 x0 x3 v78 h Kn Kr Ke0
theorem yb08 (Kn : K0) (Kr : K1) (Ke0 : K0) (t : T) (h : H) (H0 : y2gx (t 0) (t 3) (t 11) h Kn Kr Ke0) : Wp PG 106 (cndY (rest 1 (cndY (rest 1 (cndY (rest 1 (cndY (rest 1 (blkC (rest 1 (seqL (rest 1 (ygjk Tryz.f238.body))))))))))))) (mkQ (q0 Kn) (q1 Kr 4) (keAdd 0 (q0 Ke0) ke0)) t h :=
  yvnp E5_ok 1 H0 (by kernel_rfl) (fun t h (H1 : y7j1 (t 0) (t 3) (t 77) h Kn Kr Ke0) => yyyo Kn Kr Ke0 t h H1) (by kernel_rfl)
def yw2y (x0 x3 x11 x49 : Value) (h : H) (Kn : K0) (Kr : K1) (Ke0 : K0) : Prop :=
  u_if x49 (y1dj x0 x3 h Kn Kr Ke0) (y2gx x0 x3 x11 h Kn Kr Ke0)
theorem yvkv (Kn : K0) (Kr : K1) (Ke0 : K0) (t : T) (h : H) (H0 : yw2y (t 0) (t 3) (t 11) (t 49) h Kn Kr Ke0) : Wp PG 106 (rest 1 (cndY (rest 1 (cndY (rest 1 (cndY (rest 1 (blkC (rest 1 (seqL (rest 1 (ygjk Tryz.f238.body)))))))))))) (mkQ (q0 Kn) (q1 Kr 4) (keAdd 0 (q0 Ke0) ke0)) t h :=
  yh47 H0 (by kernel_rfl) (ygv4 Kn Kr Ke0 t h) (yb08 Kn Kr Ke0 t h) (by kernel_rfl)
def y8tj (x0 x3 x11 : Value) (h : H) (Kn : K0) (Kr : K1) (Ke0 : K0) : Prop :=
  u_bin PG .eql T_int x11 (.int .i64 4) fun v50 => yw2y x0 x3 x11 v50 h Kn Kr Ke0
theorem y55v (Kn : K0) (Kr : K1) (Ke0 : K0) (t : T) (h : H) (H0 : y8tj (t 0) (t 3) (t 11) h Kn Kr Ke0) : Wp PG 106 (cndY (rest 1 (cndY (rest 1 (cndY (rest 1 (blkC (rest 1 (seqL (rest 1 (ygjk Tryz.f238.body))))))))))) (mkQ (q0 Kn) (q1 Kr 4) (keAdd 0 (q0 Ke0) ke0)) t h :=
  yvnp E5_ok 1 H0 (by kernel_rfl) (fun t h (H1 : yw2y (t 0) (t 3) (t 11) (t 49) h Kn Kr Ke0) => yvkv Kn Kr Ke0 t h H1) (by kernel_rfl)
def ygh1 (x0 x3 x11 x30 : Value) (h : H) (Kn : K0) (Kr : K1) (Ke0 : K0) : Prop :=
  u_if x30 (y74t x0 x3 h Kn Kr Ke0) (y8tj x0 x3 x11 h Kn Kr Ke0)
theorem ylen (Kn : K0) (Kr : K1) (Ke0 : K0) (t : T) (h : H) (H0 : ygh1 (t 0) (t 3) (t 11) (t 30) h Kn Kr Ke0) : Wp PG 106 (rest 1 (cndY (rest 1 (cndY (rest 1 (blkC (rest 1 (seqL (rest 1 (ygjk Tryz.f238.body)))))))))) (mkQ (q0 Kn) (q1 Kr 4) (keAdd 0 (q0 Ke0) ke0)) t h :=
  yh47 H0 (by kernel_rfl) (yebk Kn Kr Ke0 t h) (y55v Kn Kr Ke0 t h) (by kernel_rfl)
def yqtx (x0 x3 x11 : Value) (h : H) (Kn : K0) (Kr : K1) (Ke0 : K0) : Prop :=
  u_bin PG .eql T_int x11 (.int .i64 3) fun v31 => ygh1 x0 x3 x11 v31 h Kn Kr Ke0
theorem yjg0 (Kn : K0) (Kr : K1) (Ke0 : K0) (t : T) (h : H) (H0 : yqtx (t 0) (t 3) (t 11) h Kn Kr Ke0) : Wp PG 106 (cndY (rest 1 (cndY (rest 1 (blkC (rest 1 (seqL (rest 1 (ygjk Tryz.f238.body))))))))) (mkQ (q0 Kn) (q1 Kr 4) (keAdd 0 (q0 Ke0) ke0)) t h :=
  yvnp E5_ok 1 H0 (by kernel_rfl) (fun t h (H1 : ygh1 (t 0) (t 3) (t 11) (t 30) h Kn Kr Ke0) => ylen Kn Kr Ke0 t h H1) (by kernel_rfl)
def ye2q (x0 x3 x11 x20 : Value) (h : H) (Kn : K0) (Kr : K1) (Ke0 : K0) : Prop :=
  u_if x20 (ylur x0 x3 h Kn Kr Ke0) (yqtx x0 x3 x11 h Kn Kr Ke0)
theorem yy2f (Kn : K0) (Kr : K1) (Ke0 : K0) (t : T) (h : H) (H0 : ye2q (t 0) (t 3) (t 11) (t 20) h Kn Kr Ke0) : Wp PG 106 (rest 1 (cndY (rest 1 (blkC (rest 1 (seqL (rest 1 (ygjk Tryz.f238.body)))))))) (mkQ (q0 Kn) (q1 Kr 4) (keAdd 0 (q0 Ke0) ke0)) t h :=
  yh47 H0 (by kernel_rfl) (y5nd Kn Kr Ke0 t h) (yjg0 Kn Kr Ke0 t h) (by kernel_rfl)
def yqb7 (x0 x3 x11 : Value) (h : H) (Kn : K0) (Kr : K1) (Ke0 : K0) : Prop :=
  u_bin PG .eql T_int x11 (.int .i64 2) fun v21 => ye2q x0 x3 x11 v21 h Kn Kr Ke0
theorem yh5z (Kn : K0) (Kr : K1) (Ke0 : K0) (t : T) (h : H) (H0 : yqb7 (t 0) (t 3) (t 11) h Kn Kr Ke0) : Wp PG 106 (cndY (rest 1 (blkC (rest 1 (seqL (rest 1 (ygjk Tryz.f238.body))))))) (mkQ (q0 Kn) (q1 Kr 4) (keAdd 0 (q0 Ke0) ke0)) t h :=
  yvnp E5_ok 1 H0 (by kernel_rfl) (fun t h (H1 : ye2q (t 0) (t 3) (t 11) (t 20) h Kn Kr Ke0) => yy2f Kn Kr Ke0 t h H1) (by kernel_rfl)
def yrks (x0 x3 x11 x12 : Value) (h : H) (Kn : K0) (Kr : K1) (Ke0 : K0) : Prop :=
  u_if x12 (ybth x0 x3 h Kn Kr Ke0) (yqb7 x0 x3 x11 h Kn Kr Ke0)
theorem y1mz (Kn : K0) (Kr : K1) (Ke0 : K0) (t : T) (h : H) (H0 : yrks (t 0) (t 3) (t 11) (t 12) h Kn Kr Ke0) : Wp PG 106 (rest 1 (blkC (rest 1 (seqL (rest 1 (ygjk Tryz.f238.body)))))) (mkQ (q0 Kn) (q1 Kr 4) (keAdd 0 (q0 Ke0) ke0)) t h :=
  yh47 H0 (by kernel_rfl) (ytgr Kn Kr Ke0 t h) (yh5z Kn Kr Ke0 t h) (by kernel_rfl)
def yqpa (x0 x3 x11 : Value) (h : H) (Kn : K0) (Kr : K1) (Ke0 : K0) : Prop :=
  u_bin PG .eql T_int x11 (.int .i64 1) fun v13 => yrks x0 x3 x11 v13 h Kn Kr Ke0
theorem yokf (Kn : K0) (Kr : K1) (Ke0 : K0) (t : T) (h : H) (H0 : yqpa (t 0) (t 3) (t 11) h Kn Kr Ke0) : Wp PG 106 (blkC (rest 1 (seqL (rest 1 (ygjk Tryz.f238.body))))) (mkQ (q0 Kn) (q1 Kr 4) (keAdd 0 (q0 Ke0) ke0)) t h :=
  yvnp E5_ok 1 H0 (by kernel_rfl) (fun t h (H1 : yrks (t 0) (t 3) (t 11) (t 12) h Kn Kr Ke0) => y1mz Kn Kr Ke0 t h H1) (by kernel_rfl)
def yxmw (x0 x3 x11 : Value) (h : H) (Kn : K0) (Kr : K1) : Prop :=
  yqpa x0 x3 x11 h Kn Kr Kn
theorem y5n0 (Kn : K0) (Kr : K1) (t : T) (h : H) (H0 : yxmw (t 0) (t 3) (t 11) h Kn Kr) : Wp PG 106 (rest 1 (seqL (rest 1 (ygjk Tryz.f238.body)))) (mkQ (q0 Kn) (q1 Kr 4) ke0) t h :=
  y6tu 0 (by kernel_rfl) (by kernel_rfl) (yokf Kn Kr Kn t h H0)
def ycji (x0 x3 : Value) (h : H) (Kn : K0) (Kr : K1) : Prop :=
  u_bf false 1 0 x3 h fun v11 => yxmw x0 x3 v11 h Kn Kr
theorem ys0n (Kn : K0) (Kr : K1) (t : T) (h : H) (H0 : ycji (t 0) (t 3) h Kn Kr) : Wp PG 106 (seqL (rest 1 (ygjk Tryz.f238.body))) (mkQ (q0 Kn) (q1 Kr 4) ke0) t h :=
  yvnp E5_ok 1 H0 (by kernel_rfl) (fun t h (H1 : yxmw (t 0) (t 3) (t 11) h Kn Kr) => y5n0 Kn Kr t h H1) (by kernel_rfl)
def yv6f (h : H) (Kn : K1) (Kr : K1) : Prop :=
  False
theorem yrkb (Kn : K1) (Kr : K1) (t : T) (h : H) (H0 : yv6f  h Kn Kr) : Wp PG 106 (seqR (rest 1 (ygjk Tryz.f238.body))) (mkQ (q1 Kn 4) (q1 Kr 4) ke0) t h :=
  H0.elim
def yimd (x0 x3 : Value) (h : H) (Kn : K1) (Kr : K1) : Prop :=
  ycji x0 x3 h (fun  h => yv6f  h Kn Kr) Kr
theorem yikw (Kn : K1) (Kr : K1) (t : T) (h : H) (H0 : yimd (t 0) (t 3) h Kn Kr) : Wp PG 106 (rest 1 (ygjk Tryz.f238.body)) (mkQ (q1 Kn 4) (q1 Kr 4) ke0) t h :=
  ykv2 (by kernel_rfl) (fun t h H1 => yrkb Kn Kr t h H1) (ys0n (fun  h => yv6f  h Kn Kr) Kr t h H0)
def yglw (x0 x1 : Value) (h : H) (Kn : K1) (Kr : K1) : Prop :=
  boxV x1 = true ∧ u_new (Value.cells x1).toList yq0s .exact h fun b3 h => yimd x0 (.pointer (some ⟨b3, 0, none⟩)) h Kn Kr
theorem yzm5 (Kn : K1) (Kr : K1) (t : T) (h : H) (H0 : yglw (t 0) (t 1) h Kn Kr) : Wp PG 106 (ygjk Tryz.f238.body) (mkQ (q1 Kn 4) (q1 Kr 4) ke0) t h :=
  yvnp E5_ok 1 H0 (by kernel_rfl) (fun t h (H1 : yimd (t 0) (t 3) h Kn Kr) => yikw Kn Kr t h H1) (by kernel_rfl)
def yxl5 (x0 x1 : Value) (h : H) (Q : K1) : Prop := yglw x0 x1 h Q Q
theorem yqpf (x0 x1 : Value) (h : H) (Q : K1) (H0 : yxl5 x0 x1 h Q) : AM.Spec PG yinw [x0, x1] h Q :=
  yqxt mixed (fn := Tryz.f238) Tryz.func238 (c := ygjk Tryz.f238.body) (rs := [4]) (N := 106) (by kernel_rfl) (by kernel_rfl) (by kernel_rfl) (by kernel_rfl) (by kernel_rfl) (Nat.le_of_ble_eq_true rfl) (yzm5 Q Q (tinit [x0, x1]) h H0) (by kernel_rfl)
def y0mo (x0 x3 : Value) (h : H) (Kn : K0) (Kr : K1) (Ke0 : K0) : Prop :=
  False
theorem yu8u (Kn : K0) (Kr : K1) (Ke0 : K0) (t : T) (h : H) (H0 : y0mo (t 0) (t 3) h Kn Kr Ke0) : Wp PG 156 (cndX (rest 1 (blkC (rest 1 (seqL (rest 1 (ygjk Tryz.f239.body))))))) (mkQ (q0 Kn) (q1 Kr 4) (keAdd 0 (q0 Ke0) ke0)) t h :=
  H0.elim
def yizi (x0 x3 : Value) (h : H) (Kn : K0) (Kr : K1) (Ke0 : K0) : Prop :=
  False
theorem ypyt (Kn : K0) (Kr : K1) (Ke0 : K0) (t : T) (h : H) (H0 : yizi (t 0) (t 3) h Kn Kr Ke0) : Wp PG 156 (cndX (rest 1 (cndY (rest 1 (blkC (rest 1 (seqL (rest 1 (ygjk Tryz.f239.body))))))))) (mkQ (q0 Kn) (q1 Kr 4) (keAdd 0 (q0 Ke0) ke0)) t h :=
  H0.elim
def y833 (x0 x3 : Value) (h : H) (Kn : K0) (Kr : K1) (Ke0 : K0) : Prop :=
  False
theorem yoo2 (Kn : K0) (Kr : K1) (Ke0 : K0) (t : T) (h : H) (H0 : y833 (t 0) (t 3) h Kn Kr Ke0) : Wp PG 156 (cndX (rest 1 (cndY (rest 1 (cndY (rest 1 (blkC (rest 1 (seqL (rest 1 (ygjk Tryz.f239.body))))))))))) (mkQ (q0 Kn) (q1 Kr 4) (keAdd 0 (q0 Ke0) ke0)) t h :=
  H0.elim
def ytjr (x0 x3 : Value) (h : H) (Kn : K0) (Kr : K1) (Ke0 : K0) : Prop :=
  False
theorem yso6 (Kn : K0) (Kr : K1) (Ke0 : K0) (t : T) (h : H) (H0 : ytjr (t 0) (t 3) h Kn Kr Ke0) : Wp PG 156 (cndX (rest 1 (cndY (rest 1 (cndY (rest 1 (cndY (rest 1 (blkC (rest 1 (seqL (rest 1 (ygjk Tryz.f239.body))))))))))))) (mkQ (q0 Kn) (q1 Kr 4) (keAdd 0 (q0 Ke0) ke0)) t h :=
  H0.elim
def ykki (x0 x3 : Value) (h : H) (Kn : K0) (Kr : K1) (Ke0 : K0) : Prop :=
  False
theorem yt4n (Kn : K0) (Kr : K1) (Ke0 : K0) (t : T) (h : H) (H0 : ykki (t 0) (t 3) h Kn Kr Ke0) : Wp PG 156 (cndX (rest 1 (cndY (rest 1 (cndY (rest 1 (cndY (rest 1 (cndY (rest 1 (blkC (rest 1 (seqL (rest 1 (ygjk Tryz.f239.body))))))))))))))) (mkQ (q0 Kn) (q1 Kr 4) (keAdd 0 (q0 Ke0) ke0)) t h :=
  H0.elim
def ybkv (h : H) (Kn : K0) (Kr : K1) (Ke0 : K0) : Prop :=
  Kr (.bool false) h
theorem yu4f (Kn : K0) (Kr : K1) (Ke0 : K0) (t : T) (h : H) (H0 : ybkv  h Kn Kr Ke0) : Wp PG 156 (cndY (rest 1 (cndY (rest 1 (cndY (rest 1 (cndY (rest 1 (cndY (rest 1 (blkC (rest 1 (seqL (rest 1 (ygjk Tryz.f239.body))))))))))))))) (mkQ (q0 Kn) (q1 Kr 4) (keAdd 0 (q0 Ke0) ke0)) t h :=
  wpEqC E5_ok H0 (by kernel_rfl)
def yrzr (x0 x3 x131 : Value) (h : H) (Kn : K0) (Kr : K1) (Ke0 : K0) : Prop :=
  u_if x131 (ykki x0 x3 h Kn Kr Ke0) (ybkv  h Kn Kr Ke0)
theorem ye7n (Kn : K0) (Kr : K1) (Ke0 : K0) (t : T) (h : H) (H0 : yrzr (t 0) (t 3) (t 131) h Kn Kr Ke0) : Wp PG 156 (rest 1 (cndY (rest 1 (cndY (rest 1 (cndY (rest 1 (cndY (rest 1 (blkC (rest 1 (seqL (rest 1 (ygjk Tryz.f239.body)))))))))))))) (mkQ (q0 Kn) (q1 Kr 4) (keAdd 0 (q0 Ke0) ke0)) t h :=
  yh47 H0 (by kernel_rfl) (yt4n Kn Kr Ke0 t h) (yu4f Kn Kr Ke0 t h) (by kernel_rfl)
def ynoo (x0 x3 x8 : Value) (h : H) (Kn : K0) (Kr : K1) (Ke0 : K0) : Prop :=
  u_bin PG .eql T_int x8 (.int .i64 19) fun v132 => yrzr x0 x3 v132 h Kn Kr Ke0
theorem ybu9 (Kn : K0) (Kr : K1) (Ke0 : K0) (t : T) (h : H) (H0 : ynoo (t 0) (t 3) (t 8) h Kn Kr Ke0) : Wp PG 156 (cndY (rest 1 (cndY (rest 1 (cndY (rest 1 (cndY (rest 1 (blkC (rest 1 (seqL (rest 1 (ygjk Tryz.f239.body))))))))))))) (mkQ (q0 Kn) (q1 Kr 4) (keAdd 0 (q0 Ke0) ke0)) t h :=
  yvnp E5_ok 1 H0 (by kernel_rfl) (fun t h (H1 : yrzr (t 0) (t 3) (t 131) h Kn Kr Ke0) => ye7n Kn Kr Ke0 t h H1) (by kernel_rfl)
def yv0x (x0 x3 x8 x98 : Value) (h : H) (Kn : K0) (Kr : K1) (Ke0 : K0) : Prop :=
  u_if x98 (ytjr x0 x3 h Kn Kr Ke0) (ynoo x0 x3 x8 h Kn Kr Ke0)
theorem y74v (Kn : K0) (Kr : K1) (Ke0 : K0) (t : T) (h : H) (H0 : yv0x (t 0) (t 3) (t 8) (t 98) h Kn Kr Ke0) : Wp PG 156 (rest 1 (cndY (rest 1 (cndY (rest 1 (cndY (rest 1 (blkC (rest 1 (seqL (rest 1 (ygjk Tryz.f239.body)))))))))))) (mkQ (q0 Kn) (q1 Kr 4) (keAdd 0 (q0 Ke0) ke0)) t h :=
  yh47 H0 (by kernel_rfl) (yso6 Kn Kr Ke0 t h) (ybu9 Kn Kr Ke0 t h) (by kernel_rfl)
def y56s (x0 x3 x8 : Value) (h : H) (Kn : K0) (Kr : K1) (Ke0 : K0) : Prop :=
  u_bin PG .eql T_int x8 (.int .i64 17) fun v99 => yv0x x0 x3 x8 v99 h Kn Kr Ke0
theorem yrww (Kn : K0) (Kr : K1) (Ke0 : K0) (t : T) (h : H) (H0 : y56s (t 0) (t 3) (t 8) h Kn Kr Ke0) : Wp PG 156 (cndY (rest 1 (cndY (rest 1 (cndY (rest 1 (blkC (rest 1 (seqL (rest 1 (ygjk Tryz.f239.body))))))))))) (mkQ (q0 Kn) (q1 Kr 4) (keAdd 0 (q0 Ke0) ke0)) t h :=
  yvnp E5_ok 1 H0 (by kernel_rfl) (fun t h (H1 : yv0x (t 0) (t 3) (t 8) (t 98) h Kn Kr Ke0) => y74v Kn Kr Ke0 t h H1) (by kernel_rfl)
def y9bv (x0 x3 x8 x55 : Value) (h : H) (Kn : K0) (Kr : K1) (Ke0 : K0) : Prop :=
  u_if x55 (y833 x0 x3 h Kn Kr Ke0) (y56s x0 x3 x8 h Kn Kr Ke0)
theorem y6n5 (Kn : K0) (Kr : K1) (Ke0 : K0) (t : T) (h : H) (H0 : y9bv (t 0) (t 3) (t 8) (t 55) h Kn Kr Ke0) : Wp PG 156 (rest 1 (cndY (rest 1 (cndY (rest 1 (blkC (rest 1 (seqL (rest 1 (ygjk Tryz.f239.body)))))))))) (mkQ (q0 Kn) (q1 Kr 4) (keAdd 0 (q0 Ke0) ke0)) t h :=
  yh47 H0 (by kernel_rfl) (yoo2 Kn Kr Ke0 t h) (yrww Kn Kr Ke0 t h) (by kernel_rfl)
def ydbx (x0 x3 x8 : Value) (h : H) (Kn : K0) (Kr : K1) (Ke0 : K0) : Prop :=
  u_bin PG .eql T_int x8 (.int .i64 16) fun v56 => y9bv x0 x3 x8 v56 h Kn Kr Ke0
theorem yng6 (Kn : K0) (Kr : K1) (Ke0 : K0) (t : T) (h : H) (H0 : ydbx (t 0) (t 3) (t 8) h Kn Kr Ke0) : Wp PG 156 (cndY (rest 1 (cndY (rest 1 (blkC (rest 1 (seqL (rest 1 (ygjk Tryz.f239.body))))))))) (mkQ (q0 Kn) (q1 Kr 4) (keAdd 0 (q0 Ke0) ke0)) t h :=
  yvnp E5_ok 1 H0 (by kernel_rfl) (fun t h (H1 : y9bv (t 0) (t 3) (t 8) (t 55) h Kn Kr Ke0) => y6n5 Kn Kr Ke0 t h H1) (by kernel_rfl)
def yj9p (x0 x3 x8 x37 : Value) (h : H) (Kn : K0) (Kr : K1) (Ke0 : K0) : Prop :=
  u_if x37 (yizi x0 x3 h Kn Kr Ke0) (ydbx x0 x3 x8 h Kn Kr Ke0)
theorem y0ki (Kn : K0) (Kr : K1) (Ke0 : K0) (t : T) (h : H) (H0 : yj9p (t 0) (t 3) (t 8) (t 37) h Kn Kr Ke0) : Wp PG 156 (rest 1 (cndY (rest 1 (blkC (rest 1 (seqL (rest 1 (ygjk Tryz.f239.body)))))))) (mkQ (q0 Kn) (q1 Kr 4) (keAdd 0 (q0 Ke0) ke0)) t h :=
  yh47 H0 (by kernel_rfl) (ypyt Kn Kr Ke0 t h) (yng6 Kn Kr Ke0 t h) (by kernel_rfl)
def yfjm (x0 x3 x8 : Value) (h : H) (Kn : K0) (Kr : K1) (Ke0 : K0) : Prop :=
  u_bin PG .eql T_int x8 (.int .i64 15) fun v38 => yj9p x0 x3 x8 v38 h Kn Kr Ke0
theorem yk4u (Kn : K0) (Kr : K1) (Ke0 : K0) (t : T) (h : H) (H0 : yfjm (t 0) (t 3) (t 8) h Kn Kr Ke0) : Wp PG 156 (cndY (rest 1 (blkC (rest 1 (seqL (rest 1 (ygjk Tryz.f239.body))))))) (mkQ (q0 Kn) (q1 Kr 4) (keAdd 0 (q0 Ke0) ke0)) t h :=
  yvnp E5_ok 1 H0 (by kernel_rfl) (fun t h (H1 : yj9p (t 0) (t 3) (t 8) (t 37) h Kn Kr Ke0) => y0ki Kn Kr Ke0 t h H1) (by kernel_rfl)
def yk4v (x0 x3 x8 x9 : Value) (h : H) (Kn : K0) (Kr : K1) (Ke0 : K0) : Prop :=
  u_if x9 (y0mo x0 x3 h Kn Kr Ke0) (yfjm x0 x3 x8 h Kn Kr Ke0)
theorem yf13 (Kn : K0) (Kr : K1) (Ke0 : K0) (t : T) (h : H) (H0 : yk4v (t 0) (t 3) (t 8) (t 9) h Kn Kr Ke0) : Wp PG 156 (rest 1 (blkC (rest 1 (seqL (rest 1 (ygjk Tryz.f239.body)))))) (mkQ (q0 Kn) (q1 Kr 4) (keAdd 0 (q0 Ke0) ke0)) t h :=
  yh47 H0 (by kernel_rfl) (yu8u Kn Kr Ke0 t h) (yk4u Kn Kr Ke0 t h) (by kernel_rfl)
def ytpj (x0 x3 x8 : Value) (h : H) (Kn : K0) (Kr : K1) (Ke0 : K0) : Prop :=
  u_bin PG .eql T_int x8 (.int .i64 14) fun v10 => yk4v x0 x3 x8 v10 h Kn Kr Ke0
theorem ybh9 (Kn : K0) (Kr : K1) (Ke0 : K0) (t : T) (h : H) (H0 : ytpj (t 0) (t 3) (t 8) h Kn Kr Ke0) : Wp PG 156 (blkC (rest 1 (seqL (rest 1 (ygjk Tryz.f239.body))))) (mkQ (q0 Kn) (q1 Kr 4) (keAdd 0 (q0 Ke0) ke0)) t h :=
  yvnp E5_ok 1 H0 (by kernel_rfl) (fun t h (H1 : yk4v (t 0) (t 3) (t 8) (t 9) h Kn Kr Ke0) => yf13 Kn Kr Ke0 t h H1) (by kernel_rfl)
def y8ky (x0 x3 x8 : Value) (h : H) (Kn : K0) (Kr : K1) : Prop :=
  ytpj x0 x3 x8 h Kn Kr Kn
theorem yqgb (Kn : K0) (Kr : K1) (t : T) (h : H) (H0 : y8ky (t 0) (t 3) (t 8) h Kn Kr) : Wp PG 156 (rest 1 (seqL (rest 1 (ygjk Tryz.f239.body)))) (mkQ (q0 Kn) (q1 Kr 4) ke0) t h :=
  y6tu 0 (by kernel_rfl) (by kernel_rfl) (ybh9 Kn Kr Kn t h H0)
def y2ez (x0 x3 : Value) (h : H) (Kn : K0) (Kr : K1) : Prop :=
  u_bf false 1 0 x3 h fun v8 => y8ky x0 x3 v8 h Kn Kr
theorem yaw3 (Kn : K0) (Kr : K1) (t : T) (h : H) (H0 : y2ez (t 0) (t 3) h Kn Kr) : Wp PG 156 (seqL (rest 1 (ygjk Tryz.f239.body))) (mkQ (q0 Kn) (q1 Kr 4) ke0) t h :=
  yvnp E5_ok 1 H0 (by kernel_rfl) (fun t h (H1 : y8ky (t 0) (t 3) (t 8) h Kn Kr) => yqgb Kn Kr t h H1) (by kernel_rfl)
def yd91 (h : H) (Kn : K1) (Kr : K1) : Prop :=
  False
theorem yjm0 (Kn : K1) (Kr : K1) (t : T) (h : H) (H0 : yd91  h Kn Kr) : Wp PG 156 (seqR (rest 1 (ygjk Tryz.f239.body))) (mkQ (q1 Kn 4) (q1 Kr 4) ke0) t h :=
  H0.elim
def yckj (x0 x3 : Value) (h : H) (Kn : K1) (Kr : K1) : Prop :=
  y2ez x0 x3 h (fun  h => yd91  h Kn Kr) Kr
theorem y8kd (Kn : K1) (Kr : K1) (t : T) (h : H) (H0 : yckj (t 0) (t 3) h Kn Kr) : Wp PG 156 (rest 1 (ygjk Tryz.f239.body)) (mkQ (q1 Kn 4) (q1 Kr 4) ke0) t h :=
  ykv2 (by kernel_rfl) (fun t h H1 => yjm0 Kn Kr t h H1) (yaw3 (fun  h => yd91  h Kn Kr) Kr t h H0)
def yyr6 (x0 x1 : Value) (h : H) (Kn : K1) (Kr : K1) : Prop :=
  boxV x1 = true ∧ u_new (Value.cells x1).toList yq0s .exact h fun b3 h => yckj x0 (.pointer (some ⟨b3, 0, none⟩)) h Kn Kr
theorem ynk6 (Kn : K1) (Kr : K1) (t : T) (h : H) (H0 : yyr6 (t 0) (t 1) h Kn Kr) : Wp PG 156 (ygjk Tryz.f239.body) (mkQ (q1 Kn 4) (q1 Kr 4) ke0) t h :=
  yvnp E5_ok 1 H0 (by kernel_rfl) (fun t h (H1 : yckj (t 0) (t 3) h Kn Kr) => y8kd Kn Kr t h H1) (by kernel_rfl)
def yy26 (x0 x1 : Value) (h : H) (Q : K1) : Prop := yyr6 x0 x1 h Q Q
theorem yfrs (x0 x1 : Value) (h : H) (Q : K1) (H0 : yy26 x0 x1 h Q) : AM.Spec PG yebn [x0, x1] h Q :=
  yqxt mixed (fn := Tryz.f239) Tryz.func239 (c := ygjk Tryz.f239.body) (rs := [4]) (N := 156) (by kernel_rfl) (by kernel_rfl) (by kernel_rfl) (by kernel_rfl) (by kernel_rfl) (Nat.le_of_ble_eq_true rfl) (ynk6 Q Q (tinit [x0, x1]) h H0) (by kernel_rfl)
def y8zn (x0 x3 : Value) (h : H) (Kn : K1) (Kr : K0) : Prop :=
  u_pf false 1 0 x0 h fun v7 => u_bf false 1 4 x3 h fun v9 => y394 v7 fun v10 => y0wt 2 v10 fun v11 => u_st 1 32 v11 v9 h fun h => Kn x0 h
theorem yg74 (Kn : K1) (Kr : K0) (t : T) (h : H) (H0 : y8zn (t 0) (t 3) h Kn Kr) : Wp PG 48 (seqL (rest 1 (ygjk Tryz.f242.body))) (mkQ (q1 Kn 0) (q0 Kr) ke0) t h :=
  ybop E5_ok [0, 1, 2, 3, 4, 5, 6, 7, 8, 9] (by kernel_rfl) (by kernel_rfl) H0 (by kernel_rfl)
def y1fv (x0 : Value) (h : H) (Kn : K2) (Kr : K0) : Prop :=
  u_pf false 1 0 x0 h fun v16 => y394 v16 fun v17 => y0wt 2 v17 fun v18 => u_bf false 1 33 v18 h fun v20 => u_pf false 1 1 x0 h fun v24 => u_bin PG .geq yeb5 v20 v24 fun v25 => y498 (undef, undef, undef) v25 false (fun k28 => u_pf false 1 0 x0 h fun v30 => u_pf false 1 0 v30 h fun v33 => u_pf false 1 3 x0 h fun v37 => y394 x0 fun v40 => y0wt 4 v40 fun v41 => k28 (v33, v37, v41) h) (fun s28 h => (ydv6 v25 false (fun k30 => ybqh false 1 s28.2.2 h fun v42 => yjdf PG yd4l [s28.1, s28.2.1] h fun v38 h => u_bin PG .neq ycpa v38 v42 fun v43 => k30 v43 h) (fun v43 h => y9rg v25 (.bool true) v43 fun v44 => Kn x0 v44 h) h) ∧ (ydv6 v25 false (fun k30 => yjdf PG yd4l [s28.1, s28.2.1] h fun v38 h => ybqh false 1 s28.2.2 h fun v42 => u_bin PG .neq ycpa v38 v42 fun v43 => k30 v43 h) (fun v43 h => y9rg v25 (.bool true) v43 fun v44 => Kn x0 v44 h) h)) h
theorem ycy7 (Kn : K2) (Kr : K0) (t : T) (h : H) (H0 : y1fv (t 0) h Kn Kr) : Wp PG 48 (seqL (seqR (rest 1 (ygjk Tryz.f242.body)))) (mkQ (q2 Kn 0 44) (q0 Kr) ke0) t h :=
  ya9i E5_ok [0, 1, 2, 3, 4, 5, 6, 7, 8, 9, 10, 11, 12, 13, 14, 15, 16, 17, 18, 19, 20, 21, 22, 23, 24, 26, 27, 28] 29 25 [30, 31] (by kernel_rfl) (by kernel_rfl) H0 (by kernel_rfl)
def yx3d (x0 x44 : Value) (h : H) (Kn : K0) (Kr : K0) : Prop :=
  u_if x44 (ysnr PG yqha [] fun v46 => yjdf PG yfrg [x0, v46] h fun v47 h => Kn h) (Kn h)
theorem yl48 (Kn : K0) (Kr : K0) (t : T) (h : H) (H0 : yx3d (t 0) (t 44) h Kn Kr) : Wp PG 48 (seqR (seqR (rest 1 (ygjk Tryz.f242.body)))) (mkQ (q0 Kn) (q0 Kr) ke0) t h :=
  wpEqC E5_ok H0 (by kernel_rfl)
def yk6l (x0 : Value) (h : H) (Kn : K0) (Kr : K0) : Prop :=
  y1fv x0 h (fun y0 y44 h => yx3d y0 y44 h Kn Kr) Kr
theorem y6yc (Kn : K0) (Kr : K0) (t : T) (h : H) (H0 : yk6l (t 0) h Kn Kr) : Wp PG 48 (seqR (rest 1 (ygjk Tryz.f242.body))) (mkQ (q0 Kn) (q0 Kr) ke0) t h :=
  ykv2 (by kernel_rfl) (fun t h H1 => yl48 Kn Kr t h H1) (ycy7 (fun y0 y44 h => yx3d y0 y44 h Kn Kr) Kr t h H0)
def y1wr (x0 x3 : Value) (h : H) (Kn : K0) (Kr : K0) : Prop :=
  y8zn x0 x3 h (fun y0 h => yk6l y0 h Kn Kr) Kr
theorem ymno (Kn : K0) (Kr : K0) (t : T) (h : H) (H0 : y1wr (t 0) (t 3) h Kn Kr) : Wp PG 48 (rest 1 (ygjk Tryz.f242.body)) (mkQ (q0 Kn) (q0 Kr) ke0) t h :=
  ykv2 (by kernel_rfl) (fun t h H1 => y6yc Kn Kr t h H1) (yg74 (fun y0 h => yk6l y0 h Kn Kr) Kr t h H0)
def ydv2 (x0 x1 : Value) (h : H) (Kn : K0) (Kr : K0) : Prop :=
  boxV x1 = true ∧ u_new (Value.cells x1).toList yq0s .exact h fun b3 h => y1wr x0 (.pointer (some ⟨b3, 0, none⟩)) h Kn Kr
theorem y2nh (Kn : K0) (Kr : K0) (t : T) (h : H) (H0 : ydv2 (t 0) (t 1) h Kn Kr) : Wp PG 48 (ygjk Tryz.f242.body) (mkQ (q0 Kn) (q0 Kr) ke0) t h :=
  yvnp E5_ok 1 H0 (by kernel_rfl) (fun t h (H1 : y1wr (t 0) (t 3) h Kn Kr) => ymno Kn Kr t h H1) (by kernel_rfl)
def ylyv (x0 x1 : Value) (h : H) (Q : K1) : Prop := ydv2 x0 x1 h (fun h => bif [].all boxV then Q (.tuple #[]) h else False) (fun h => bif [].all boxV then Q (.tuple #[]) h else False)
theorem ydx0 (x0 x1 : Value) (h : H) (Q : K1) (H0 : ylyv x0 x1 h Q) : AM.Spec PG ys9t [x0, x1] h Q :=
  yqxt mixed (fn := Tryz.f242) Tryz.func242 (c := ygjk Tryz.f242.body) (rs := []) (N := 48) (by kernel_rfl) (by kernel_rfl) (by kernel_rfl) (by kernel_rfl) (by kernel_rfl) (Nat.le_of_ble_eq_true rfl) (y2nh (fun h => bif [].all boxV then Q (.tuple #[]) h else False) (fun h => bif [].all boxV then Q (.tuple #[]) h else False) (tinit [x0, x1]) h H0) (by kernel_rfl)
def ylf4 (x0 x3 : Value) (h : H) (Kn : K0) (Kr : K0) (Ke0 : K0) : Prop :=
  False
theorem ycp8 (Kn : K0) (Kr : K0) (Ke0 : K0) (t : T) (h : H) (H0 : ylf4 (t 0) (t 3) h Kn Kr Ke0) : Wp PG 82 (cndX (rest 1 (blkC (rest 2 (ygjk Tryz.f244.body))))) (mkQ (q0 Kn) (q0 Kr) (keAdd 0 (q0 Ke0) ke0)) t h :=
  H0.elim
def y1ho (x0 x3 : Value) (h : H) (Kn : K0) (Kr : K0) (Ke0 : K0) : Prop :=
  False
theorem y5pw (Kn : K0) (Kr : K0) (Ke0 : K0) (t : T) (h : H) (H0 : y1ho (t 0) (t 3) h Kn Kr Ke0) : Wp PG 82 (cndX (rest 1 (cndY (rest 1 (blkC (rest 2 (ygjk Tryz.f244.body))))))) (mkQ (q0 Kn) (q0 Kr) (keAdd 0 (q0 Ke0) ke0)) t h :=
  H0.elim
def yifm (x0 x3 : Value) (h : H) (Kn : K0) (Kr : K0) (Ke0 : K0) : Prop :=
  False
theorem yjgo (Kn : K0) (Kr : K0) (Ke0 : K0) (t : T) (h : H) (H0 : yifm (t 0) (t 3) h Kn Kr Ke0) : Wp PG 82 (cndX (rest 1 (cndY (rest 1 (cndY (rest 1 (blkC (rest 2 (ygjk Tryz.f244.body))))))))) (mkQ (q0 Kn) (q0 Kr) (keAdd 0 (q0 Ke0) ke0)) t h :=
  H0.elim
def yrkp (x0 x3 : Value) (h : H) (Kn : K0) (Kr : K0) (Ke0 : K0) : Prop :=
  u_bf false 1 4 x3 h fun v56 => y2x6 .i64 v56 fun v57 => u_pf false 1 0 x0 h fun v61 => y394 v61 fun v62 => y0wt 2 v62 fun v63 => u_bf false 1 32 v63 h fun v65 => yjdf PG yhb9 [x0, v57, v65, (.int .i64 0)] h fun v66 h => Kn h
theorem y79d (Kn : K0) (Kr : K0) (Ke0 : K0) (t : T) (h : H) (H0 : yrkp (t 0) (t 3) h Kn Kr Ke0) : Wp PG 82 (cndX (rest 1 (cndY (rest 1 (cndY (rest 1 (cndY (rest 1 (blkC (rest 2 (ygjk Tryz.f244.body))))))))))) (mkQ (q0 Kn) (q0 Kr) (keAdd 0 (q0 Ke0) ke0)) t h :=
  ybop E5_ok [0, 1, 2, 3, 4, 5, 6, 7, 8, 9, 10, 11, 12] (by kernel_rfl) (by kernel_rfl) H0 (by kernel_rfl)
def ycr2 (x0 x3 x6 : Value) (h : H) (Kn : K0) (Kr : K0) (Ke0 : K0) : Prop :=
  False
theorem yxg8 (Kn : K0) (Kr : K0) (Ke0 : K0) (t : T) (h : H) (H0 : ycr2 (t 0) (t 3) (t 6) h Kn Kr Ke0) : Wp PG 82 (cndY (rest 1 (cndY (rest 1 (cndY (rest 1 (cndY (rest 1 (blkC (rest 2 (ygjk Tryz.f244.body))))))))))) (mkQ (q0 Kn) (q0 Kr) (keAdd 0 (q0 Ke0) ke0)) t h :=
  H0.elim
def ybtx (x0 x3 x6 x52 : Value) (h : H) (Kn : K0) (Kr : K0) (Ke0 : K0) : Prop :=
  u_if x52 (yrkp x0 x3 h Kn Kr Ke0) (ycr2 x0 x3 x6 h Kn Kr Ke0)
theorem ytmz (Kn : K0) (Kr : K0) (Ke0 : K0) (t : T) (h : H) (H0 : ybtx (t 0) (t 3) (t 6) (t 52) h Kn Kr Ke0) : Wp PG 82 (rest 1 (cndY (rest 1 (cndY (rest 1 (cndY (rest 1 (blkC (rest 2 (ygjk Tryz.f244.body)))))))))) (mkQ (q0 Kn) (q0 Kr) (keAdd 0 (q0 Ke0) ke0)) t h :=
  yh47 H0 (by kernel_rfl) (y79d Kn Kr Ke0 t h) (yxg8 Kn Kr Ke0 t h) (by kernel_rfl)
def ylxu (x0 x3 x6 : Value) (h : H) (Kn : K0) (Kr : K0) (Ke0 : K0) : Prop :=
  u_bin PG .eql T_int x6 (.int .i64 13) fun v53 => ybtx x0 x3 x6 v53 h Kn Kr Ke0
theorem ywvw (Kn : K0) (Kr : K0) (Ke0 : K0) (t : T) (h : H) (H0 : ylxu (t 0) (t 3) (t 6) h Kn Kr Ke0) : Wp PG 82 (cndY (rest 1 (cndY (rest 1 (cndY (rest 1 (blkC (rest 2 (ygjk Tryz.f244.body))))))))) (mkQ (q0 Kn) (q0 Kr) (keAdd 0 (q0 Ke0) ke0)) t h :=
  yvnp E5_ok 1 H0 (by kernel_rfl) (fun t h (H1 : ybtx (t 0) (t 3) (t 6) (t 52) h Kn Kr Ke0) => ytmz Kn Kr Ke0 t h H1) (by kernel_rfl)
def yqun (x0 x3 x6 x46 : Value) (h : H) (Kn : K0) (Kr : K0) (Ke0 : K0) : Prop :=
  u_if x46 (yifm x0 x3 h Kn Kr Ke0) (ylxu x0 x3 x6 h Kn Kr Ke0)
theorem y1kv (Kn : K0) (Kr : K0) (Ke0 : K0) (t : T) (h : H) (H0 : yqun (t 0) (t 3) (t 6) (t 46) h Kn Kr Ke0) : Wp PG 82 (rest 1 (cndY (rest 1 (cndY (rest 1 (blkC (rest 2 (ygjk Tryz.f244.body)))))))) (mkQ (q0 Kn) (q0 Kr) (keAdd 0 (q0 Ke0) ke0)) t h :=
  yh47 H0 (by kernel_rfl) (yjgo Kn Kr Ke0 t h) (ywvw Kn Kr Ke0 t h) (by kernel_rfl)
def yiaa (x0 x3 x6 : Value) (h : H) (Kn : K0) (Kr : K0) (Ke0 : K0) : Prop :=
  u_bin PG .eql T_int x6 (.int .i64 12) fun v47 => yqun x0 x3 x6 v47 h Kn Kr Ke0
theorem y7px (Kn : K0) (Kr : K0) (Ke0 : K0) (t : T) (h : H) (H0 : yiaa (t 0) (t 3) (t 6) h Kn Kr Ke0) : Wp PG 82 (cndY (rest 1 (cndY (rest 1 (blkC (rest 2 (ygjk Tryz.f244.body))))))) (mkQ (q0 Kn) (q0 Kr) (keAdd 0 (q0 Ke0) ke0)) t h :=
  yvnp E5_ok 1 H0 (by kernel_rfl) (fun t h (H1 : yqun (t 0) (t 3) (t 6) (t 46) h Kn Kr Ke0) => y1kv Kn Kr Ke0 t h H1) (by kernel_rfl)
def yqh2 (x0 x3 x6 x35 : Value) (h : H) (Kn : K0) (Kr : K0) (Ke0 : K0) : Prop :=
  u_if x35 (y1ho x0 x3 h Kn Kr Ke0) (yiaa x0 x3 x6 h Kn Kr Ke0)
theorem yw88 (Kn : K0) (Kr : K0) (Ke0 : K0) (t : T) (h : H) (H0 : yqh2 (t 0) (t 3) (t 6) (t 35) h Kn Kr Ke0) : Wp PG 82 (rest 1 (cndY (rest 1 (blkC (rest 2 (ygjk Tryz.f244.body)))))) (mkQ (q0 Kn) (q0 Kr) (keAdd 0 (q0 Ke0) ke0)) t h :=
  yh47 H0 (by kernel_rfl) (y5pw Kn Kr Ke0 t h) (y7px Kn Kr Ke0 t h) (by kernel_rfl)
def y024 (x0 x3 x6 : Value) (h : H) (Kn : K0) (Kr : K0) (Ke0 : K0) : Prop :=
  u_bin PG .eql T_int x6 (.int .i64 11) fun v36 => yqh2 x0 x3 x6 v36 h Kn Kr Ke0
theorem yd39 (Kn : K0) (Kr : K0) (Ke0 : K0) (t : T) (h : H) (H0 : y024 (t 0) (t 3) (t 6) h Kn Kr Ke0) : Wp PG 82 (cndY (rest 1 (blkC (rest 2 (ygjk Tryz.f244.body))))) (mkQ (q0 Kn) (q0 Kr) (keAdd 0 (q0 Ke0) ke0)) t h :=
  yvnp E5_ok 1 H0 (by kernel_rfl) (fun t h (H1 : yqh2 (t 0) (t 3) (t 6) (t 35) h Kn Kr Ke0) => yw88 Kn Kr Ke0 t h H1) (by kernel_rfl)
def yw2v (x0 x3 x6 x7 : Value) (h : H) (Kn : K0) (Kr : K0) (Ke0 : K0) : Prop :=
  u_if x7 (ylf4 x0 x3 h Kn Kr Ke0) (y024 x0 x3 x6 h Kn Kr Ke0)
theorem yju0 (Kn : K0) (Kr : K0) (Ke0 : K0) (t : T) (h : H) (H0 : yw2v (t 0) (t 3) (t 6) (t 7) h Kn Kr Ke0) : Wp PG 82 (rest 1 (blkC (rest 2 (ygjk Tryz.f244.body)))) (mkQ (q0 Kn) (q0 Kr) (keAdd 0 (q0 Ke0) ke0)) t h :=
  yh47 H0 (by kernel_rfl) (ycp8 Kn Kr Ke0 t h) (yd39 Kn Kr Ke0 t h) (by kernel_rfl)
def ys7a (x0 x3 x6 : Value) (h : H) (Kn : K0) (Kr : K0) (Ke0 : K0) : Prop :=
  u_bin PG .eql T_int x6 (.int .i64 10) fun v8 => yw2v x0 x3 x6 v8 h Kn Kr Ke0
theorem y9u1 (Kn : K0) (Kr : K0) (Ke0 : K0) (t : T) (h : H) (H0 : ys7a (t 0) (t 3) (t 6) h Kn Kr Ke0) : Wp PG 82 (blkC (rest 2 (ygjk Tryz.f244.body))) (mkQ (q0 Kn) (q0 Kr) (keAdd 0 (q0 Ke0) ke0)) t h :=
  yvnp E5_ok 1 H0 (by kernel_rfl) (fun t h (H1 : yw2v (t 0) (t 3) (t 6) (t 7) h Kn Kr Ke0) => yju0 Kn Kr Ke0 t h H1) (by kernel_rfl)
def yv8f (x0 x3 x6 : Value) (h : H) (Kn : K0) (Kr : K0) : Prop :=
  ys7a x0 x3 x6 h Kn Kr Kn
theorem ycgc (Kn : K0) (Kr : K0) (t : T) (h : H) (H0 : yv8f (t 0) (t 3) (t 6) h Kn Kr) : Wp PG 82 (rest 2 (ygjk Tryz.f244.body)) (mkQ (q0 Kn) (q0 Kr) ke0) t h :=
  y6tu 0 (by kernel_rfl) (by kernel_rfl) (y9u1 Kn Kr Kn t h H0)
def yr0i (x0 x1 : Value) (h : H) (Kn : K0) (Kr : K0) : Prop :=
  boxV x1 = true ∧ u_new (Value.cells x1).toList yq0s .exact h fun b3 h => u_bf false 1 0 (.pointer (some ⟨b3, 0, none⟩)) h fun v6 => yv8f x0 (.pointer (some ⟨b3, 0, none⟩)) v6 h Kn Kr
theorem ycmg (Kn : K0) (Kr : K0) (t : T) (h : H) (H0 : yr0i (t 0) (t 1) h Kn Kr) : Wp PG 82 (ygjk Tryz.f244.body) (mkQ (q0 Kn) (q0 Kr) ke0) t h :=
  yvnp E5_ok 2 H0 (by kernel_rfl) (fun t h (H1 : yv8f (t 0) (t 3) (t 6) h Kn Kr) => ycgc Kn Kr t h H1) (by kernel_rfl)
def ywmd (x0 x1 : Value) (h : H) (Q : K1) : Prop := yr0i x0 x1 h (fun h => bif [].all boxV then Q (.tuple #[]) h else False) (fun h => bif [].all boxV then Q (.tuple #[]) h else False)
theorem ynag (x0 x1 : Value) (h : H) (Q : K1) (H0 : ywmd x0 x1 h Q) : AM.Spec PG yduv [x0, x1] h Q :=
  yqxt mixed (fn := Tryz.f244) Tryz.func244 (c := ygjk Tryz.f244.body) (rs := []) (N := 82) (by kernel_rfl) (by kernel_rfl) (by kernel_rfl) (by kernel_rfl) (by kernel_rfl) (Nat.le_of_ble_eq_true rfl) (ycmg (fun h => bif [].all boxV then Q (.tuple #[]) h else False) (fun h => bif [].all boxV then Q (.tuple #[]) h else False) (tinit [x0, x1]) h H0) (by kernel_rfl)
def yswl (x0 x1 x2 x3 : Value) (h : H) (Kn : K0) (Kr : K0) : Prop :=
  ysnr PG ys2z [(0, x1), (1, x2), (2, x3)] fun v12 => ysnr PG yqha [(0, v12)] fun v13 => yjdf PG yfrg [x0, v13] h fun v14 h => Kn h
theorem ywgw (Kn : K0) (Kr : K0) (t : T) (h : H) (H0 : yswl (t 0) (t 1) (t 2) (t 3) h Kn Kr) : Wp PG 15 (ygjk Tryz.f296.body) (mkQ (q0 Kn) (q0 Kr) ke0) t h :=
  wpEqC E5_ok H0 (by kernel_rfl)
def y6it (x0 x1 x2 x3 : Value) (h : H) (Q : K1) : Prop := yswl x0 x1 x2 x3 h (fun h => bif [].all boxV then Q (.tuple #[]) h else False) (fun h => bif [].all boxV then Q (.tuple #[]) h else False)
theorem yb17 (x0 x1 x2 x3 : Value) (h : H) (Q : K1) (H0 : y6it x0 x1 x2 x3 h Q) : AM.Spec PG yhb9 [x0, x1, x2, x3] h Q :=
  yqxt mixed (fn := Tryz.f296) Tryz.func296 (c := ygjk Tryz.f296.body) (rs := []) (N := 15) (by kernel_rfl) (by kernel_rfl) (by kernel_rfl) (by kernel_rfl) (by kernel_rfl) (Nat.le_of_ble_eq_true rfl) (ywgw (fun h => bif [].all boxV then Q (.tuple #[]) h else False) (fun h => bif [].all boxV then Q (.tuple #[]) h else False) (tinit [x0, x1, x2, x3]) h H0) (by kernel_rfl)
def yor2 (x0 x3 : Value) (h : H) (Kn : K0) (Kr : K0) : Prop :=
  y394 x0 fun v7 => y0wt 1285 v7 fun v8 => (ybqh true 5 x3 h fun v6 => ylel 1 v8 (.bool true) h fun h => y394 x0 fun v9 => u_st 5 1286 v9 v6 h fun h => Kn h) ∧ (ylel 1 v8 (.bool true) h fun h => ybqh true 5 x3 h fun v6 => y394 x0 fun v9 => u_st 5 1286 v9 v6 h fun h => Kn h)
theorem yto9 (Kn : K0) (Kr : K0) (t : T) (h : H) (H0 : yor2 (t 0) (t 3) h Kn Kr) : Wp PG 11 (rest 1 (ygjk Tryz.f299.body)) (mkQ (q0 Kn) (q0 Kr) ke0) t h :=
  ya9i E5_ok [0, 1, 3, 4] 2 5 [6, 7, 8] (by kernel_rfl) (by kernel_rfl) H0 (by kernel_rfl)
def ymow (x0 x1 : Value) (h : H) (Kn : K0) (Kr : K0) : Prop :=
  boxV x1 = true ∧ u_new (Value.cells x1).toList yqha .exact h fun b3 h => yor2 x0 (.pointer (some ⟨b3, 0, none⟩)) h Kn Kr
theorem yz7h (Kn : K0) (Kr : K0) (t : T) (h : H) (H0 : ymow (t 0) (t 1) h Kn Kr) : Wp PG 11 (ygjk Tryz.f299.body) (mkQ (q0 Kn) (q0 Kr) ke0) t h :=
  yvnp E5_ok 1 H0 (by kernel_rfl) (fun t h (H1 : yor2 (t 0) (t 3) h Kn Kr) => yto9 Kn Kr t h H1) (by kernel_rfl)
def ypv2 (x0 x1 : Value) (h : H) (Q : K1) : Prop := ymow x0 x1 h (fun h => bif [].all boxV then Q (.tuple #[]) h else False) (fun h => bif [].all boxV then Q (.tuple #[]) h else False)
theorem ym9s (x0 x1 : Value) (h : H) (Q : K1) (H0 : ypv2 x0 x1 h Q) : AM.Spec PG yfrg [x0, x1] h Q :=
  yqxt mixed (fn := Tryz.f299) Tryz.func299 (c := ygjk Tryz.f299.body) (rs := []) (N := 11) (by kernel_rfl) (by kernel_rfl) (by kernel_rfl) (by kernel_rfl) (by kernel_rfl) (Nat.le_of_ble_eq_true rfl) (yz7h (fun h => bif [].all boxV then Q (.tuple #[]) h else False) (fun h => bif [].all boxV then Q (.tuple #[]) h else False) (tinit [x0, x1]) h H0) (by kernel_rfl)
end Go.Proofs.YtnckimioabkheaaGreat

set_option linter.unusedVariables false
set_option maxRecDepth 100000
namespace Go.Proofs.YtnckimioabkheaaGreat
open Go.Proofs.YtnckimioabkheaaGreat.AM
@[simp] theorem yofg {K : Value → Prop} {u : Dm K} : ysnr PG ylzr [] K u = K (.agg #[.slice none 0 0, .slice none 0 0, .slice none 0 0, .slice none 0 0, .slice none 0 0, .slice none 0 0]) := by kernel_rfl
@[simp] theorem yxtg {K : Value → Prop} {u : Dm K} : ysnr PG y4pp [] K u = K (.agg #[.bool false, .slice none 0 0, .slice none 0 0]) := by kernel_rfl
@[simp] theorem yo26 {K : Value → Prop} {u : Dm K} : ysnr PG yrjx [] K u = K (.agg #[.int .u32 0, .slice none 0 0, .int .u32 0]) := by kernel_rfl
@[simp] theorem y9vp {a0 : Int} {a1 : Int} {K : Value → Prop} {u : Dm K} : ysnr PG ys2z [(0, .int .i64 a0), (1, .int .u32 a1)] K u = K (.agg #[.int .i64 a0, .int .u32 a1, .int .i64 0]) := by kernel_rfl
@[simp] theorem y7ql {a0_0 : Int} {a0_1 : Int} {a0_2 : Int} {K : Value → Prop} {u : Dm K} : ysnr PG yqha [(0, .agg #[.int .i64 a0_0, .int .u32 a0_1, .int .i64 a0_2])] K u = K (.agg #[.int .i64 a0_0, .int .u32 a0_1, .int .i64 a0_2, .int .i64 0, .bool false]) := by kernel_rfl
@[simp] theorem y58r {a0 : Int} {h : H} {K : K1} {u : Dm K} : ynqb PG yoi5 1 [(0, .int .u32 a0)] h K u = u_new [.int .u32 a0] ycpa .exact h fun b h => K (.slice (some ⟨b, 0, none⟩) 1 1) h := by kernel_rfl
def yx4t (x6 x9 : Value) (h : H) (Kn : K2) (Kr : K1) (Ke0 : K1) : Prop :=
  u_bf false 1 0 x6 h fun v74 => ywmm v74 fun v75 => u_bin PG .lss T_int x9 v75 fun v76 => u_if v76 (u_bf false 1 0 x6 h fun v80 => u_ix false 1 none v80 x9 h fun v83 => y5hj v83 fun v84 => u_bin PG .gtr T_int v84 (.int .i64 100) fun v85 => u_if v85 (Kr (.bool false) h) (u_bin PG .add T_int x9 (.int .i64 1) fun v78 => Kn x6 v78 h)) (Ke0 x6 h)
theorem y8b7 (Kn : K2) (Kr : K1) (Ke0 : K1) (t : T) (h : H) (H0 : yx4t (t 6) (t 9) h Kn Kr Ke0) : Wp PG 111 (lopC (blkC (rest 1 (seqL (rest 2 (ygjk Tryz.f10.body)))))) (mkQ (q2 Kn 6 9) (q1 Kr 8) (keAdd 0 (q1 Ke0 6) ke0)) t h :=
  wpEqC E5_ok H0 (by kernel_rfl)
def ylnk (x6 x9 : Value) (h : H) (Kn : K1) (Kr : K1) (Ke0 : K1) : Prop :=
  sloop (S := Value × Value) (fun s h K => yx4t s.1 s.2 h (fun y6 y9 h => K (y6, y9) h) Kr Ke0) (x6, x9) h
theorem y3yn (Kn : K1) (Kr : K1) (Ke0 : K1) (t : T) (h : H) (H0 : ylnk (t 6) (t 9) h Kn Kr Ke0) : Wp PG 111 (blkC (rest 1 (seqL (rest 2 (ygjk Tryz.f10.body))))) (mkQ (q1 Kn 6) (q1 Kr 8) (keAdd 0 (q1 Ke0 6) ke0)) t h :=
  yv0a (fun t => (t 6, t 9)) (by kernel_rfl) (fun t h K H1 => y8b7 (fun y6 y9 h => K (y6, y9) h) Kr Ke0 t h H1) H0
def ylaa (x6 x9 : Value) (h : H) (Kn : K1) (Kr : K1) : Prop :=
  ylnk x6 x9 h Kn Kr Kn
theorem ys3k (Kn : K1) (Kr : K1) (t : T) (h : H) (H0 : ylaa (t 6) (t 9) h Kn Kr) : Wp PG 111 (rest 1 (seqL (rest 2 (ygjk Tryz.f10.body)))) (mkQ (q1 Kn 6) (q1 Kr 8) ke0) t h :=
  y6tu 0 (by kernel_rfl) (by kernel_rfl) (y3yn Kn Kr Kn t h H0)
def ylcs (x6 : Value) (h : H) (Kn : K1) (Kr : K1) : Prop :=
  ylaa x6 (.int .i64 0) h Kn Kr
theorem yw36 (Kn : K1) (Kr : K1) (t : T) (h : H) (H0 : ylcs (t 6) h Kn Kr) : Wp PG 111 (seqL (rest 2 (ygjk Tryz.f10.body))) (mkQ (q1 Kn 6) (q1 Kr 8) ke0) t h :=
  yvnp E5_ok 1 H0 (by kernel_rfl) (fun t h (H1 : ylaa (t 6) (t 9) h Kn Kr) => ys3k Kn Kr t h H1) (by kernel_rfl)
def yw5f (x6 x10 : Value) (h : H) (Kn : K2) (Kr : K1) (Ke2 : K0) : Prop :=
  u_bf false 1 5 x6 h fun v88 => ywmm v88 fun v89 => u_bin PG .lss T_int x10 v89 fun v90 => u_if v90 (u_bf false 1 5 x6 h fun v94 => u_ixf false 1 0 none 2 v94 x10 h fun v98 => y5hj v98 fun v99 => u_bin PG .gtr T_int v99 (.int .i64 60) fun v100 => ydv6 v100 false (fun k16 => u_bf false 1 5 x6 h fun v103 => u_ixf false 1 1 none 2 v103 x10 h fun v107 => ywmm v107 fun v108 => u_bin PG .gtr T_int v108 (.int .i64 300) fun v109 => k16 v109 h) (fun v109 h => y9rg v100 (.bool true) v109 fun v110 => u_if v110 (Kr (.bool false) h) (u_bin PG .add T_int x10 (.int .i64 1) fun v92 => Kn x6 v92 h)) h) (Ke2 h)
theorem yjxo (Kn : K2) (Kr : K1) (Ke2 : K0) (t : T) (h : H) (H0 : yw5f (t 6) (t 10) h Kn Kr Ke2) : Wp PG 111 (lopC (blkC (rest 1 (seqL (seqR (rest 2 (ygjk Tryz.f10.body))))))) (mkQ (q2 Kn 6 10) (q1 Kr 8) (keAdd 2 (q0 Ke2) ke0)) t h :=
  wpEqC E5_ok H0 (by kernel_rfl)
def yf8o (x6 x10 : Value) (h : H) (Kn : K0) (Kr : K1) (Ke2 : K0) : Prop :=
  sloop (S := Value × Value) (fun s h K => yw5f s.1 s.2 h (fun y6 y10 h => K (y6, y10) h) Kr Ke2) (x6, x10) h
theorem y60t (Kn : K0) (Kr : K1) (Ke2 : K0) (t : T) (h : H) (H0 : yf8o (t 6) (t 10) h Kn Kr Ke2) : Wp PG 111 (blkC (rest 1 (seqL (seqR (rest 2 (ygjk Tryz.f10.body)))))) (mkQ (q0 Kn) (q1 Kr 8) (keAdd 2 (q0 Ke2) ke0)) t h :=
  yv0a (fun t => (t 6, t 10)) (by kernel_rfl) (fun t h K H1 => yjxo (fun y6 y10 h => K (y6, y10) h) Kr Ke2 t h H1) H0
def yo47 (x6 x10 : Value) (h : H) (Kn : K0) (Kr : K1) : Prop :=
  yf8o x6 x10 h Kn Kr Kn
theorem yps5 (Kn : K0) (Kr : K1) (t : T) (h : H) (H0 : yo47 (t 6) (t 10) h Kn Kr) : Wp PG 111 (rest 1 (seqL (seqR (rest 2 (ygjk Tryz.f10.body))))) (mkQ (q0 Kn) (q1 Kr 8) ke0) t h :=
  y6tu 2 (by kernel_rfl) (by kernel_rfl) (y60t Kn Kr Kn t h H0)
def ymxs (x6 : Value) (h : H) (Kn : K0) (Kr : K1) : Prop :=
  yo47 x6 (.int .i64 0) h Kn Kr
theorem y2tw (Kn : K0) (Kr : K1) (t : T) (h : H) (H0 : ymxs (t 6) h Kn Kr) : Wp PG 111 (seqL (seqR (rest 2 (ygjk Tryz.f10.body)))) (mkQ (q0 Kn) (q1 Kr 8) ke0) t h :=
  yvnp E5_ok 1 H0 (by kernel_rfl) (fun t h (H1 : yo47 (t 6) (t 10) h Kn Kr) => yps5 Kn Kr t h H1) (by kernel_rfl)
def y140 (h : H) (Kn : K1) (Kr : K1) : Prop :=
  Kr (.bool true) h
theorem yth4 (Kn : K1) (Kr : K1) (t : T) (h : H) (H0 : y140  h Kn Kr) : Wp PG 111 (seqR (seqR (rest 2 (ygjk Tryz.f10.body)))) (mkQ (q1 Kn 8) (q1 Kr 8) ke0) t h :=
  wpEqC E5_ok H0 (by kernel_rfl)
def yr09 (x6 : Value) (h : H) (Kn : K1) (Kr : K1) : Prop :=
  ymxs x6 h (fun  h => y140  h Kn Kr) Kr
theorem ygv9 (Kn : K1) (Kr : K1) (t : T) (h : H) (H0 : yr09 (t 6) h Kn Kr) : Wp PG 111 (seqR (rest 2 (ygjk Tryz.f10.body))) (mkQ (q1 Kn 8) (q1 Kr 8) ke0) t h :=
  ykv2 (by kernel_rfl) (fun t h H1 => yth4 Kn Kr t h H1) (y2tw (fun  h => y140  h Kn Kr) Kr t h H0)
def yafn (x6 : Value) (h : H) (Kn : K1) (Kr : K1) : Prop :=
  ylcs x6 h (fun y6 h => yr09 y6 h Kn Kr) Kr
theorem yb9i (Kn : K1) (Kr : K1) (t : T) (h : H) (H0 : yafn (t 6) h Kn Kr) : Wp PG 111 (rest 2 (ygjk Tryz.f10.body)) (mkQ (q1 Kn 8) (q1 Kr 8) ke0) t h :=
  ykv2 (by kernel_rfl) (fun t h H1 => ygv9 Kn Kr t h H1) (yw36 (fun y6 h => yr09 y6 h Kn Kr) Kr t h H0)
def ykbf (x0 x1 x2 x3 : Value) (h : H) (Kn : K1) (Kr : K1) : Prop :=
  boxV x2 = true ∧ u_new (Value.cells x2).toList ylzr .exact h fun b6 h => boxV x3 = true ∧ u_new (Value.cells x3).toList y4pp .exact h fun b7 h => ywmm x0 fun v12 => u_bin PG .lss T_int v12 (.int .i64 1) fun v13 => ydv6 v13 false (fun k6 => ywmm x0 fun v16 => u_bin PG .gtr T_int v16 (.int .i64 200) fun v17 => k6 v17 h) (fun v17 h => y9rg v13 (.bool true) v17 fun v18 => ydv6 v18 false (fun k11 => ywmm x1 fun v21 => u_bin PG .gtr T_int v21 (.int .i64 512) fun v22 => k11 v22 h) (fun v22 h => y9rg v18 (.bool true) v22 fun v23 => ydv6 v23 false (fun k17 => u_bf false 1 1 (.pointer (some ⟨b6, 0, none⟩)) h fun v26 => ywmm v26 fun v27 => u_bin PG .gtr T_int v27 (.int .i64 300) fun v28 => k17 v28 h) (fun v28 h => y9rg v23 (.bool true) v28 fun v29 => ydv6 v29 false (fun k23 => u_bf false 1 2 (.pointer (some ⟨b6, 0, none⟩)) h fun v32 => ywmm v32 fun v33 => u_bin PG .gtr T_int v33 (.int .i64 20) fun v34 => k23 v34 h) (fun v34 h => y9rg v29 (.bool true) v34 fun v35 => ydv6 v35 false (fun k29 => u_bf false 1 5 (.pointer (some ⟨b6, 0, none⟩)) h fun v38 => ywmm v38 fun v39 => u_bin PG .gtr T_int v39 (.int .i64 5) fun v40 => k29 v40 h) (fun v40 h => y9rg v35 (.bool true) v40 fun v41 => ydv6 v41 false (fun k35 => u_bf false 1 3 (.pointer (some ⟨b6, 0, none⟩)) h fun v44 => ywmm v44 fun v45 => u_bin PG .gtr T_int v45 (.int .i64 300) fun v46 => k35 v46 h) (fun v46 h => y9rg v41 (.bool true) v46 fun v47 => ydv6 v47 false (fun k41 => u_bf false 1 4 (.pointer (some ⟨b6, 0, none⟩)) h fun v50 => ywmm v50 fun v51 => u_bin PG .gtr T_int v51 (.int .i64 20) fun v52 => k41 v52 h) (fun v52 h => y9rg v47 (.bool true) v52 fun v53 => ydv6 v53 false (fun k47 => u_bf false 1 0 (.pointer (some ⟨b6, 0, none⟩)) h fun v56 => ywmm v56 fun v57 => u_bin PG .gtr T_int v57 (.int .i64 10) fun v58 => k47 v58 h) (fun v58 h => y9rg v53 (.bool true) v58 fun v59 => ydv6 v59 false (fun k53 => u_bf false 1 1 (.pointer (some ⟨b7, 0, none⟩)) h fun v62 => ywmm v62 fun v63 => u_bin PG .gtr T_int v63 (.int .i64 32) fun v64 => k53 v64 h) (fun v64 h => y9rg v59 (.bool true) v64 fun v65 => ydv6 v65 false (fun k59 => u_bf false 1 2 (.pointer (some ⟨b7, 0, none⟩)) h fun v68 => ywmm v68 fun v69 => u_bin PG .gtr T_int v69 (.int .i64 32) fun v70 => k59 v70 h) (fun v70 h => y9rg v65 (.bool true) v70 fun v71 => u_if v71 (Kr (.bool false) h) (yafn (.pointer (some ⟨b6, 0, none⟩)) h Kn Kr)) h) h) h) h) h) h) h) h) h) h
theorem y8se (Kn : K1) (Kr : K1) (t : T) (h : H) (H0 : ykbf (t 0) (t 1) (t 2) (t 3) h Kn Kr) : Wp PG 111 (ygjk Tryz.f10.body) (mkQ (q1 Kn 8) (q1 Kr 8) ke0) t h :=
  yvnp E5_ok 2 H0 (by kernel_rfl) (fun t h (H1 : yafn (t 6) h Kn Kr) => yb9i Kn Kr t h H1) (by kernel_rfl)
def ybou (x0 x1 x2 x3 : Value) (h : H) (Q : K1) : Prop := ykbf x0 x1 x2 x3 h Q Q
theorem ydmb (x0 x1 x2 x3 : Value) (h : H) (Q : K1) (H0 : ybou x0 x1 x2 x3 h Q) : AM.Spec PG ytnu [x0, x1, x2, x3] h Q :=
  yqxt mixed (fn := Tryz.f10) Tryz.func10 (c := ygjk Tryz.f10.body) (rs := [8]) (N := 111) (by kernel_rfl) (by kernel_rfl) (by kernel_rfl) (by kernel_rfl) (by kernel_rfl) (Nat.le_of_ble_eq_true rfl) (y8se Q Q (tinit [x0, x1, x2, x3]) h H0) (by kernel_rfl)
def y27z (h : H) (Kn : K1) (Kr : K1) : Prop :=
  ynqb PG yoi5 1 [(0, (.int .u32 115))] h fun v8 h => ysnr PG ylzr [] fun v9 => ysnr PG y4pp [] fun v10 => yjdf PG ynh3 [v8, (.slice none 0 0), (.bool false), v9, v10, (.int .i64 30), (.int .i64 0)] h fun v11 h => yvu8 v11 0 fun v12 => yvu8 v11 1 fun v13 => u_bin PG .eql ygd0 v12 (.pointer none) fun v15 => u_if v15 (Kr (.bool false) h) (u_pf false 1 0 v12 h fun v20 => yjdf PG yvbn [v20, (.int .u32 4096), (.int .i64 8)] h fun v21 h => yvu8 v21 0 fun v22 => yvu8 v21 1 fun v23 => u_new [.int .u32 0, .slice none 0 0, .int .u32 0] yrjx .exact h fun b3 h => u_new [.int .i64 0, .int .u32 0, .int .i64 0] ys2z .exact h fun b4 h => ylel 3 (.pointer (some ⟨b3, 0, none⟩)) v22 h fun h => ylel 3 (.pointer (some ⟨b4, 0, none⟩)) v23 h fun h => ybqh true 3 (.pointer (some ⟨b3, 0, none⟩)) h fun v24 => yjdf PG y849 [v24] h fun v25 h => yjdf PG yv3a [v12, v25, (.int .i64 9), (.bool false)] h fun v28 h => u_new [.int .i64 0, .int .u32 0, .int .i64 0, .int .i64 0, .bool false] yqha .exact h fun b6 h => ylel 5 (.pointer (some ⟨b6, 0, none⟩)) v28 h fun h => yjdf PG yym2 [v25] h fun v30 h => ydv6 v30 true (fun k6 => ybqh true 5 (.pointer (some ⟨b6, 0, none⟩)) h fun v32 => ysnr PG ys2z [(0, (.int .i64 5)), (1, (.int .u32 4096))] fun v33 => ysnr PG yqha [(0, v33)] fun v34 => u_bin PG .eql yqha v32 v34 fun v35 => k6 v35 h) (fun v35 h => y9rg v30 v35 (.bool false) fun v36 => ydv6 v36 true (fun k14 => y394 v12 fun v39 => y0wt 2 v39 fun v40 => u_bf false 1 33 v40 h fun v42 => u_bin PG .eql yeb5 v42 (.int .i64 0) fun v43 => k14 v43 h) (fun v43 h => y9rg v36 v43 (.bool false) fun v44 => ydv6 v44 true (fun k20 => ysnr PG yrjx [] fun v46 => yjdf PG y849 [v46] h fun v47 h => ywmm v47 fun v48 => u_bin PG .eql T_int v48 (.int .i64 0) fun v49 => k20 v49 h) (fun v49 h => y9rg v44 v49 (.bool false) fun v50 => Kr v50 h) h) h) h)
theorem y7zo (Kn : K1) (Kr : K1) (t : T) (h : H) (H0 : y27z  h Kn Kr) : Wp PG 51 (ygjk Tryz.f9.body) (mkQ (q1 Kn 0) (q1 Kr 0) ke0) t h :=
  wpEqC E5_ok H0 (by kernel_rfl)
def y0en (h : H) (Q : K1) : Prop := y27z  h Q Q
theorem y1vg (h : H) (Q : K1) (H0 : y0en  h Q) : AM.Spec PG yajp [] h Q :=
  yqxt mixed (fn := Tryz.f9) Tryz.func9 (c := ygjk Tryz.f9.body) (rs := [0]) (N := 51) (by kernel_rfl) (by kernel_rfl) (by kernel_rfl) (by kernel_rfl) (by kernel_rfl) (Nat.le_of_ble_eq_true rfl) (y7zo Q Q (tinit []) h H0) (by kernel_rfl)
def yxtf (x9 x11 x12 : Value) (h : H) (Kn : K3) (Kr : K1) (Ke0 : K2) : Prop :=
  ywmm x11 fun v51 => u_bin PG .lss T_int x12 v51 fun v52 => u_if v52 (u_ixf false 1 0 none 5 x11 x12 h fun v59 => u_bin PG .gtr T_int v59 (.int .i64 13) fun v60 => ydv6 v60 true (fun k12 => u_ixf false 1 0 none 5 x11 x12 h fun v66 => u_bin PG .neq T_int v66 (.int .i64 21) fun v67 => k12 v67 h) (fun v67 h => y9rg v60 v67 (.bool false) fun v68 => u_if v68 (Kr (.bool false) h) (u_bin PG .add T_int x12 (.int .i64 1) fun v54 => Kn x9 x11 v54 h)) h) (Ke0 x9 x11 h)
theorem ys48 (Kn : K3) (Kr : K1) (Ke0 : K2) (t : T) (h : H) (H0 : yxtf (t 9) (t 11) (t 12) h Kn Kr Ke0) : Wp PG 81 (lopC (blkC (rest 1 (seqL (rest 8 (ygjk Tryz.f3.body)))))) (mkQ (q3 Kn 9 11 12) (q1 Kr 6) (keAdd 0 (q2 Ke0 9 11) ke0)) t h :=
  wpEqC E5_ok H0 (by kernel_rfl)
def y19q (x9 x11 x12 : Value) (h : H) (Kn : K2) (Kr : K1) (Ke0 : K2) : Prop :=
  sloop (S := Value × Value × Value) (fun s h K => yxtf s.1 s.2.1 s.2.2 h (fun y9 y11 y12 h => K (y9, y11, y12) h) Kr Ke0) (x9, x11, x12) h
theorem yb2r (Kn : K2) (Kr : K1) (Ke0 : K2) (t : T) (h : H) (H0 : y19q (t 9) (t 11) (t 12) h Kn Kr Ke0) : Wp PG 81 (blkC (rest 1 (seqL (rest 8 (ygjk Tryz.f3.body))))) (mkQ (q2 Kn 9 11) (q1 Kr 6) (keAdd 0 (q2 Ke0 9 11) ke0)) t h :=
  yv0a (fun t => (t 9, t 11, t 12)) (by kernel_rfl) (fun t h K H1 => ys48 (fun y9 y11 y12 h => K (y9, y11, y12) h) Kr Ke0 t h H1) H0
def yqv4 (x9 x11 x12 : Value) (h : H) (Kn : K2) (Kr : K1) : Prop :=
  y19q x9 x11 x12 h Kn Kr Kn
theorem y0rr (Kn : K2) (Kr : K1) (t : T) (h : H) (H0 : yqv4 (t 9) (t 11) (t 12) h Kn Kr) : Wp PG 81 (rest 1 (seqL (rest 8 (ygjk Tryz.f3.body)))) (mkQ (q2 Kn 9 11) (q1 Kr 6) ke0) t h :=
  y6tu 0 (by kernel_rfl) (by kernel_rfl) (yb2r Kn Kr Kn t h H0)
def ytkp (x9 x11 : Value) (h : H) (Kn : K2) (Kr : K1) : Prop :=
  yqv4 x9 x11 (.int .i64 0) h Kn Kr
theorem yg96 (Kn : K2) (Kr : K1) (t : T) (h : H) (H0 : ytkp (t 9) (t 11) h Kn Kr) : Wp PG 81 (seqL (rest 8 (ygjk Tryz.f3.body))) (mkQ (q2 Kn 9 11) (q1 Kr 6) ke0) t h :=
  yvnp E5_ok 1 H0 (by kernel_rfl) (fun t h (H1 : yqv4 (t 9) (t 11) (t 12) h Kn Kr) => y0rr Kn Kr t h H1) (by kernel_rfl)
def y19a (x9 x11 : Value) (h : H) (Kn : K1) (Kr : K1) : Prop :=
  yjdf PG yym2 [x11] h fun v70 h => ydv6 v70 true (fun k10 => ywmm x11 fun v73 => u_bf false 1 1 x9 h fun v75 => ywmm v75 fun v76 => u_bin PG .mul T_int (.int .i64 12) v76 fun v77 => u_bin PG .add T_int v77 (.int .i64 2) fun v78 => u_bin PG .leq T_int v73 v78 fun v79 => k10 v79 h) (fun v79 h => y9rg v70 v79 (.bool false) fun v80 => Kr v80 h) h
theorem ygrd (Kn : K1) (Kr : K1) (t : T) (h : H) (H0 : y19a (t 9) (t 11) h Kn Kr) : Wp PG 81 (seqR (rest 8 (ygjk Tryz.f3.body))) (mkQ (q1 Kn 6) (q1 Kr 6) ke0) t h :=
  wpEqC E5_ok H0 (by kernel_rfl)
def yy50 (x9 x11 : Value) (h : H) (Kn : K1) (Kr : K1) : Prop :=
  ytkp x9 x11 h (fun y9 y11 h => y19a y9 y11 h Kn Kr) Kr
theorem yz5n (Kn : K1) (Kr : K1) (t : T) (h : H) (H0 : yy50 (t 9) (t 11) h Kn Kr) : Wp PG 81 (rest 8 (ygjk Tryz.f3.body)) (mkQ (q1 Kn 6) (q1 Kr 6) ke0) t h :=
  ykv2 (by kernel_rfl) (fun t h H1 => ygrd Kn Kr t h H1) (yg96 (fun y9 y11 h => y19a y9 y11 h Kn Kr) Kr t h H0)
def yd76 (x0 x1 x2 : Value) (h : H) (Kn : K1) (Kr : K1) : Prop :=
  yjdf PG yajp [] h fun v13 h => u_un PG .not v13 fun v14 => u_if v14 (Kr (.bool false) h) (ysnr PG ylzr [] fun v16 => ysnr PG y4pp [] fun v17 => yjdf PG ytnu [x0, (.slice none 0 0), v16, v17] h fun v18 h => u_un PG .not v18 fun v19 => u_if v19 (Kr (.bool true) h) (ysnr PG ylzr [] fun v22 => ysnr PG y4pp [] fun v23 => yjdf PG ynh3 [x0, (.slice none 0 0), (.bool true), v22, v23, (.int .i64 60), (.int .i64 0)] h fun v24 h => yvu8 v24 0 fun v25 => yvu8 v24 1 fun v26 => u_bin PG .eql ygd0 v25 (.pointer none) fun v28 => u_if v28 (Kr (.bool true) h) (u_pf false 1 0 v25 h fun v33 => u_bin PG .and ycpa x1 (.int .u32 1020) fun v35 => u_bin PG .add ycpa (.int .u32 4096) v35 fun v36 => yjdf PG yvbn [v33, v36, x2] h fun v38 h => yvu8 v38 0 fun v39 => yvu8 v38 1 fun v40 => u_new [.int .u32 0, .slice none 0 0, .int .u32 0] yrjx .exact h fun b9 h => u_new [.int .i64 0, .int .u32 0, .int .i64 0] ys2z .exact h fun b10 h => ylel 3 (.pointer (some ⟨b9, 0, none⟩)) v39 h fun h => ylel 3 (.pointer (some ⟨b10, 0, none⟩)) v40 h fun h => ybqh true 3 (.pointer (some ⟨b9, 0, none⟩)) h fun v41 => yjdf PG y849 [v41] h fun v42 h => u_bf false 1 0 (.pointer (some ⟨b10, 0, none⟩)) h fun v44 => u_bin PG .neq T_int v44 (.int .i64 0) fun v45 => u_if v45 (ywmm v42 fun v47 => u_bin PG .eql T_int v47 (.int .i64 0) fun v48 => Kr v48 h) (yy50 (.pointer (some ⟨b9, 0, none⟩)) v42 h Kn Kr))))
theorem ysnl (Kn : K1) (Kr : K1) (t : T) (h : H) (H0 : yd76 (t 0) (t 1) (t 2) h Kn Kr) : Wp PG 81 (ygjk Tryz.f3.body) (mkQ (q1 Kn 6) (q1 Kr 6) ke0) t h :=
  yvnp E5_ok 8 H0 (by kernel_rfl) (fun t h (H1 : yy50 (t 9) (t 11) h Kn Kr) => yz5n Kn Kr t h H1) (by kernel_rfl)
def yl92 (x0 x1 x2 : Value) (h : H) (Q : K1) : Prop := yd76 x0 x1 x2 h Q Q
theorem yala (x0 x1 x2 : Value) (h : H) (Q : K1) (H0 : yl92 x0 x1 x2 h Q) : AM.Spec PG ypc5 [x0, x1, x2] h Q :=
  yqxt mixed (fn := Tryz.f3) Tryz.func3 (c := ygjk Tryz.f3.body) (rs := [6]) (N := 81) (by kernel_rfl) (by kernel_rfl) (by kernel_rfl) (by kernel_rfl) (by kernel_rfl) (Nat.le_of_ble_eq_true rfl) (ysnl Q Q (tinit [x0, x1, x2]) h H0) (by kernel_rfl)
end Go.Proofs.YtnckimioabkheaaGreat

