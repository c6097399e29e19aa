/-
  Part of a proof: several texts put together, long names shortened.
-/
import Derived.Test.YtnckimioabkheaaGreatZ2
import Derived.KernelRfl
set_option linter.unusedVariables false
set_option linter.unusedSimpArgs false
set_option maxRecDepth 100000
set_option maxHeartbeats 2000000
namespace Go.Proofs.YtnckimioabkheaaGreat
open Go.Proofs.YtnckimioabkheaaGreat.AM
def y9mj (x0:Value) (h:H) (Kn Kr:K1):Prop :=
 u_bin PG .rem ycpa x0 (.int .u32 256) fun v5=>u_bin PG .sub ycpa x0 v5 fun v6=>Kr v6 h
def yp45 (x0:Value) (h:H) (Q:K1):Prop:=y9mj x0 h Q Q
theorem y477 (x0:Value) (h:H) (Q:K1) (H0:yp45 x0 h Q):AM.Spec PG yvsl [x0] h Q :=
 spE mixed ct0_ok Tryz.func153 [2] H0
def y68j (a:Int):Int:=IntKind.u32.wrap (a-a.tmod 256)
theorem yy96 {a:Int} {K:K1} {h:H} (hk:K (.int .u32 (y68j a)) h):AM.Spec PG yvsl [.int .u32 a] h K:=by
 refine yz7m (fun K hk=>?_) hk
 refine y477 _ _ _ ?_
 simp (config:={contextual:=true,dsimp:=false,maxSteps:=1000000}) [↓y88o,↓yp45,↓y9mj]
 all_goals (intros;repeat' (refine ite_i (fun _=>?_) (fun _=>?_)))
 all_goals refine fin hk (by repeat (first | exact Sub.refl _ | refine Sub.upd ?_ (by assumption))) ?_
 all_goals first | rfl | (simp only [y68j, *,↓reduceIte];done) | (simp_all [y68j];done) | (simp_all [y68j] <;> omega)
def yc4c (args:List Value):Option Value:=match args with
 | [.int .u32 a]=>some (.int .u32 (y68j a))
 | _=>none
@[simp] theorem y3ps {a:Int}:yc4c [.int .u32 a]=some (.int .u32 (y68j a)):=rfl
def ya8v:CE:=.val yc4c
@[simp] theorem yxs8 {args:List Value} {h:H} {K:K1}:CE.run ya8v args h K=u_opt (yc4c args) fun v=>K v h:=rfl
theorem y2t8 (args:List Value) (h:H) (K:K1) (hr:CE.run ya8v args h K):AM.Spec PG yvsl args h K:=by
 rw [yxs8] at hr
 unfold yc4c at hr
 split at hr
 ·exact yy96 hr
 ·exact hr.elim
def y7h1 (x0 x1:Value) (h:H) (Kn Kr:K2):Prop :=
 y2x6 .u64 x1 fun v8=>u_bin PG .add yxjj v8 (.int .u64 256) fun v9=>u_bin PG .sub yxjj v9 (.int .u64 1) fun v10=>u_bin PG .quo yxjj v10 (.int .u64 256) fun v11=>u_bin PG .gtr ycpa x1 (.int .u32 0) fun v14=>ydv6 v14 true (fun k6=>u_bin PG .rem ycpa x0 (.int .u32 256) fun v17=>u_bin PG .eql ycpa v17 (.int .u32 0) fun v18=>k6 v18 h) (fun v18 h=>y9rg v14 v18 (.bool false) fun v19=>ydv6 v19 true (fun k14=>y2x6 .u64 x0 fun v22=>u_bin PG .mul yxjj v11 (.int .u64 256) fun v24=>u_bin PG .add yxjj v22 v24 fun v25=>u_bin PG .leq yxjj v25 (.int .u64 4294967296) fun v26=>k14 v26 h) (fun v26 h=>y9rg v19 v26 (.bool false) fun v27=>Kr v11 v27 h) h) h
def yll7 (x0 x1:Value) (h:H) (Q:K1):Prop:=y7h1 x0 x1 h (fun y4 y5 h=>bif [y4,y5].all boxV then Q (.tuple #[y4,y5]) h else False) (fun y4 y5 h=>bif [y4,y5].all boxV then Q (.tuple #[y4,y5]) h else False)
theorem ymhu (x0 x1:Value) (h:H) (Q:K1) (H0:yll7 x0 x1 h Q):AM.Spec PG y4iq [x0,x1] h Q :=
 spE mixed ct0_ok Tryz.func274 [4,5] H0
def yte2 (a n:Int):Int:=IntKind.u64.wrap ((IntKind.u64.wrap (IntKind.u64.wrap (IntKind.u64.wrap n+256)-1)).tdiv 256)
def ywc5 (a n:Int):Bool:=decide (0<n)&&decide (a.tmod 256=0)&&decide (IntKind.u64.wrap (IntKind.u64.wrap a+IntKind.u64.wrap (IntKind.u64.wrap ((IntKind.u64.wrap (IntKind.u64.wrap (IntKind.u64.wrap n+256)-1)).tdiv 256)*256))≤4294967296)
theorem yh0x {a n:Int} {K:K1} {h:H} (hk:K (.tuple #[.int .u64 (yte2 a n),.bool (ywc5 a n)]) h):AM.Spec PG y4iq [.int .u32 a,.int .u32 n] h K:=by
 refine yz7m (fun K hk=>?_) hk
 refine ymhu _ _ _ _ ?_
 simp (config:={contextual:=true,dsimp:=false,maxSteps:=1000000}) [↓y88o,↓yll7,↓y7h1]
 all_goals (intros;repeat' (refine ite_i (fun _=>?_) (fun _=>?_)))
 all_goals refine fin hk (by repeat (first | exact Sub.refl _ | refine Sub.upd ?_ (by assumption))) ?_
 all_goals first | rfl | (simp only [yte2,ywc5, *,↓reduceIte];done) | (simp_all [yte2,ywc5];done) | (simp_all [yte2,ywc5] <;> omega)
def yz9d (args:List Value):Option Value:=match args with
 | [.int .u32 a,.int .u32 n]=>some (.tuple #[.int .u64 (yte2 a n),.bool (ywc5 a n)])
 | _=>none
@[simp] theorem yu8c {a n:Int}:yz9d [.int .u32 a,.int .u32 n]=some (.tuple #[.int .u64 (yte2 a n),.bool (ywc5 a n)]):=rfl
def yhwx:CE:=.val yz9d
@[simp] theorem yn6s {args:List Value} {h:H} {K:K1}:CE.run yhwx args h K=u_opt (yz9d args) fun v=>K v h:=rfl
theorem y6k1 (args:List Value) (h:H) (K:K1) (hr:CE.run yhwx args h K):AM.Spec PG y4iq args h K:=by
 rw [yn6s] at hr
 unfold yz9d at hr
 split at hr
 ·exact yh0x hr
 ·exact hr.elim
def ysly (x0:Value) (h:H) (Kn Kr:K1):Prop :=
 boxV x0=true∧u_new (Value.cells x0).toList yqxz .exact h fun b1 h=>u_bf false 1 0 (.pointer (some ⟨b1,0,none⟩)) h fun v4=>u_bin PG .eql T_int v4 (.int .i64 1) fun v6=>u_if v6 (u_bf false 1 2 (.pointer (some ⟨b1,0,none⟩)) h fun v8=>u_bin PG .eql ycpa v8 (.int .u32 0) fun v9=>ydv6 v9 true (fun k6=>u_bf false 1 3 (.pointer (some ⟨b1,0,none⟩)) h fun v12=>u_bin PG .neq yoj6 v12 (.int .u8 0) fun v13=>k6 v13 h) (fun v13 h=>y9rg v9 v13 (.bool false) fun v14=>Kr v14 h) h) (u_bin PG .eql T_int v4 (.int .i64 4) fun v16=>u_if v16 (u_bf false 1 2 (.pointer (some ⟨b1,0,none⟩)) h fun v18=>u_bin PG .neq ycpa v18 (.int .u32 0) fun v19=>ydv6 v19 true (fun k11=>u_bf false 1 1 (.pointer (some ⟨b1,0,none⟩)) h fun v22=>y2x6 .u64 v22 fun v23=>u_bf false 1 2 (.pointer (some ⟨b1,0,none⟩)) h fun v25=>y2x6 .u64 v25 fun v26=>u_bin PG .add yxjj v23 v26 fun v27=>u_bin PG .leq yxjj v27 (.int .u64 4294967296) fun v28=>k11 v28 h) (fun v28 h=>y9rg v19 v28 (.bool false) fun v29=>ydv6 v29 true (fun k16=>u_bf false 1 3 (.pointer (some ⟨b1,0,none⟩)) h fun v32=>u_bin PG .neq yoj6 v32 (.int .u8 0) fun v33=>k16 v33 h) (fun v33 h=>y9rg v29 v33 (.bool false) fun v34=>Kr v34 h) h) h) (yi4e PG T_int v4 [(.int .i64 2),(.int .i64 3),(.int .i64 5)] fun w35=>u_if w35 (u_bf false 1 1 (.pointer (some ⟨b1,0,none⟩)) h fun v40=>u_bin PG .eql ycpa v40 (.int .u32 0) fun v41=>ydv6 v41 true (fun k6=>u_bf false 1 2 (.pointer (some ⟨b1,0,none⟩)) h fun v44=>u_bin PG .eql ycpa v44 (.int .u32 0) fun v45=>k6 v45 h) (fun v45 h=>y9rg v41 v45 (.bool false) fun v46=>ydv6 v46 true (fun k11=>u_bf false 1 3 (.pointer (some ⟨b1,0,none⟩)) h fun v49=>u_bin PG .neq yoj6 v49 (.int .u8 0) fun v50=>k11 v50 h) (fun v50 h=>y9rg v46 v50 (.bool false) fun v51=>Kr v51 h) h) h) (Kr (.bool false) h)))
def ywlp (x0:Value) (h:H) (Q:K1):Prop:=ysly x0 h Q Q
theorem yxeu (x0:Value) (h:H) (Q:K1) (H0:ywlp x0 h Q):AM.Spec PG y7ff [x0] h Q :=
 spE mixed ct0_ok Tryz.func313 [2] H0
def ympr (k a n l:Int):Bool:=if k=1 then decide (n=0)&&!decide (l=0) else if k=4 then !decide (n=0)&&decide (IntKind.u64.wrap (IntKind.u64.wrap a+IntKind.u64.wrap n)≤4294967296)&&!decide (l=0) else if (k=2∨k=3)∨k=5 then decide (a=0)&&decide (n=0)&&!decide (l=0) else false
theorem ya8p {k a n l:Int} {K:K1} {h:H} (hk:K (.bool (ympr k a n l)) h):AM.Spec PG y7ff [.agg #[.int .i64 k,.int .u32 a,.int .u32 n,.int .u8 l]] h K:=by
 refine yz7m (fun K hk=>?_) hk
 refine yxeu _ _ _ ?_
 simp (config:={contextual:=true,dsimp:=false,maxSteps:=1000000}) [↓y88o,↓ywlp,↓ysly]
 all_goals (intros;repeat' (refine ite_i (fun _=>?_) (fun _=>?_)))
 all_goals refine fin hk (by repeat (first | exact Sub.refl _ | refine Sub.upd ?_ (by assumption))) ?_
 all_goals first | rfl | (simp only [ympr, *,↓reduceIte];done) | (simp_all [ympr];done) | (simp_all [ympr] <;> omega)
def yd9q (args:List Value):Option Value:=match args with
 | [.agg ⟨[.int .i64 k,.int .u32 a,.int .u32 n,.int .u8 l]⟩]=>some (.bool (ympr k a n l))
 | _=>none
@[simp] theorem ymr3 {k a n l:Int}:yd9q [.agg #[.int .i64 k,.int .u32 a,.int .u32 n,.int .u8 l]]=some (.bool (ympr k a n l)):=rfl
def y2dd:CE:=.val yd9q
@[simp] theorem yhtj {args:List Value} {h:H} {K:K1}:CE.run y2dd args h K=u_opt (yd9q args) fun v=>K v h:=rfl
theorem ytwt (args:List Value) (h:H) (K:K1) (hr:CE.run y2dd args h K):AM.Spec PG y7ff args h K:=by
 rw [yhtj] at hr
 unfold yd9q at hr
 split at hr
 ·exact ya8p hr
 ·exact hr.elim
def yh25 (x0:Value) (h:H) (Kn Kr:K1):Prop :=
 boxV x0=true∧u_new (Value.cells x0).toList yti5 .exact h fun b1 h=>u_bf false 1 0 (.pointer (some ⟨b1,0,none⟩)) h fun v4=>u_bin PG .lss T_int v4 (.int .i64 1) fun v5=>ydv6 v5 false (fun k6=>u_bf false 1 0 (.pointer (some ⟨b1,0,none⟩)) h fun v8=>u_bin PG .gtr T_int v8 (.int .i64 5) fun v9=>k6 v9 h) (fun v9 h=>y9rg v5 (.bool true) v9 fun v10=>ydv6 v10 false (fun k11=>u_bf false 1 2 (.pointer (some ⟨b1,0,none⟩)) h fun v13=>u_bin PG .eql yoj6 v13 (.int .u8 0) fun v14=>k11 v14 h) (fun v14 h=>y9rg v10 (.bool true) v14 fun v15=>u_if v15 (Kr (.bool false) h) (u_bf false 1 1 (.pointer (some ⟨b1,0,none⟩)) h fun v17=>u_bin PG .eql T_int v17 (.int .i64 0) fun v18=>ydv6 v18 false (fun k16=>u_bf false 1 0 (.pointer (some ⟨b1,0,none⟩)) h fun v21=>u_bin PG .eql T_int v21 (.int .i64 4) fun v22=>ydv6 v22 true (fun k10=>u_bf false 1 1 (.pointer (some ⟨b1,0,none⟩)) h fun v25=>u_bin PG .gtr T_int v25 (.int .i64 0) fun v26=>k10 v26 h) (fun v26 h=>y9rg v22 v26 (.bool false) fun v27=>ydv6 v27 true (fun k15=>u_bf false 1 1 (.pointer (some ⟨b1,0,none⟩)) h fun v30=>u_bin PG .leq T_int v30 (.int .i64 6) fun v31=>k15 v31 h) (fun v31 h=>y9rg v27 v31 (.bool false) fun v32=>k16 v32 h) h) h) (fun v32 h=>y9rg v18 (.bool true) v32 fun v33=>Kr v33 h) h)) h) h
def yqa8 (x0:Value) (h:H) (Q:K1):Prop:=yh25 x0 h Q Q
theorem ycs6 (x0:Value) (h:H) (Q:K1) (H0:yqa8 x0 h Q):AM.Spec PG yij4 [x0] h Q :=
 spE mixed ct0_ok Tryz.func314 [2] H0
def yevx (k a m:Int):Bool:=if (k<1∨5<k)∨m=0 then false else decide (a=0)||decide (k=4)&&decide (0<a)&&decide (a≤6)
theorem yr14 {k a m:Int} {K:K1} {h:H} (hk:K (.bool (yevx k a m)) h):AM.Spec PG yij4 [.agg #[.int .i64 k,.int .i64 a,.int .u8 m]] h K:=by
 refine yz7m (fun K hk=>?_) hk
 refine ycs6 _ _ _ ?_
 simp (config:={contextual:=true,dsimp:=false,maxSteps:=1000000}) [↓y88o,↓yqa8,↓yh25]
 all_goals (intros;repeat' (refine ite_i (fun _=>?_) (fun _=>?_)))
 all_goals refine fin hk (by repeat (first | exact Sub.refl _ | refine Sub.upd ?_ (by assumption))) ?_
 all_goals first | rfl | (simp only [yevx, *,↓reduceIte];done) | (simp_all [yevx];done) | (simp_all [yevx] <;> omega)
def yhkw (args:List Value):Option Value:=match args with
 | [.agg ⟨[.int .i64 k,.int .i64 a,.int .u8 m]⟩]=>some (.bool (yevx k a m))
 | _=>none
@[simp] theorem ym2c {k a m:Int}:yhkw [.agg #[.int .i64 k,.int .i64 a,.int .u8 m]]=some (.bool (yevx k a m)):=rfl
def yabu:CE:=.val yhkw
@[simp] theorem ypxk {args:List Value} {h:H} {K:K1}:CE.run yabu args h K=u_opt (yhkw args) fun v=>K v h:=rfl
theorem ylm1 (args:List Value) (h:H) (K:K1) (hr:CE.run yabu args h K):AM.Spec PG yij4 args h K:=by
 rw [ypxk] at hr
 unfold yhkw at hr
 split at hr
 ·exact yr14 hr
 ·exact hr.elim
def yeln (x0 x1 x2:Value) (h:H) (Kn Kr:K1):Prop :=
 u_bin PG .shr ycpa x0 x1 fun v9=>u_bin PG .shl ycpa (.int .u32 1) x2 fun v11=>u_bin PG .sub ycpa v11 (.int .u32 1) fun v12=>u_bin PG .and ycpa v9 v12 fun v13=>y2x6 .i64 v13 fun v14=>Kn v14 h
def yy25 (x6:Value) (h:H) (Kn Kr:K1):Prop :=
 Kr x6 h
def y5lx (x0 x1 x2:Value) (h:H) (Kn Kr:K1):Prop :=
 yeln x0 x1 x2 h (fun y6 h=>yy25 y6 h Kn Kr) Kr
def y98s (x0 x1 x2:Value) (h:H) (Kn Kr:K1):Prop :=
 y5lx x0 x1 x2 h Kn Kr
theorem yfts {Kn Kr:K1} {t:T} {h:H} (H0:y98s (t 0) (t 1) (t 2) h Kn Kr):Wp PG 15 (ygjk Tryz.f227.body) (mkQ (q1 Kn 6) (q1 Kr 6) ke0) t h :=
 (toE ct0_ok 1 H0 fun t h (H:y5lx (t 0) (t 1) (t 2) h Kn Kr)=>(sqE (q1 (fun y6 h=>yy25 y6 h Kn Kr) 6) (drE ct0_ok [0,1,2,3,4,5,6,7,8] H) fun t h H=>(wpE ct0_ok H)))
def y1eb (x0 x1 x2:Value) (h:H) (Q:K1):Prop:=y98s x0 x1 x2 h Q Q
theorem yki6 (x0 x1 x2:Value) (h:H) (Q:K1) (H0:y1eb x0 x1 x2 h Q):AM.Spec PG y5fh [x0,x1,x2] h Q :=
 spH mixed Tryz.func227 [6] (yfts H0)
def yz4y (w f m:Int):Int:=IntKind.i64.wrap (IntKind.u32.wrap ↑((w.fdiv (2^min f.toNat IntKind.u32.bits)%2^IntKind.u32.bits).toNat &&& (IntKind.u32.wrap (IntKind.u32.wrap (2^min m.toNat IntKind.u32.bits)-1)%2^IntKind.u32.bits).toNat))
theorem y2zy {w f m:Int} (hg:0≤f∧0≤m) {K:K1} {h:H} (hk:K (.int .i64 (yz4y w f m)) h):AM.Spec PG y5fh [.int .u32 w,.int .i64 f,.int .i64 m] h K:=by
 refine yz7m (fun K hk=>?_) hk
 refine yki6 _ _ _ _ _ ?_
 simp (config:={contextual:=true,dsimp:=false,maxSteps:=1000000}) [↓y88o,↓y1eb,↓y98s,↓y5lx,↓yeln,↓yy25,hg]
 all_goals (intros;repeat' (refine ite_i (fun _=>?_) (fun _=>?_)))
 all_goals refine fin hk (by repeat (first | exact Sub.refl _ | refine Sub.upd ?_ (by assumption))) ?_
 all_goals first | rfl | (simp only [yz4y, *,↓reduceIte];done) | (simp_all [yz4y];done) | (simp_all [yz4y] <;> omega)
def yfll (args:List Value):Option Value:=match args with
 | [.int .u32 w,.int .i64 f,.int .i64 m]=>if 0≤f∧0≤m then some (.int .i64 (yz4y w f m)) else none
 | _=>none
@[simp] theorem y023 {w f m:Int} (hg:0≤f∧0≤m):yfll [.int .u32 w,.int .i64 f,.int .i64 m]=some (.int .i64 (yz4y w f m)):=if_pos hg
def yfwc:CE:=.val yfll
@[simp] theorem y9ls {args:List Value} {h:H} {K:K1}:CE.run yfwc args h K=u_opt (yfll args) fun v=>K v h:=rfl
theorem y1vp (args:List Value) (h:H) (K:K1) (hr:CE.run yfwc args h K):AM.Spec PG y5fh args h K:=by
 rw [y9ls] at hr
 unfold yfll at hr
 split at hr
 ·split at hr
  ·rename_i hg
   exact y2zy hg hr
  ·exact hr.elim
 ·exact hr.elim
def yj1p (x0:Value) (h:H) (Kn Kr:K1):Prop :=
 u_bin PG .eql ycpa x0 (.int .u32 115) fun v5=>u_if v5 (Kr (.int .i64 48) h) (u_bin PG .eql ycpa x0 (.int .u32 1048691) fun v7=>u_if v7 (Kr (.int .i64 49) h) (Kr (.int .i64 0) h))
def ysvv (x0:Value) (h:H) (Q:K1):Prop:=yj1p x0 h Q Q
theorem y66v (x0:Value) (h:H) (Q:K1) (H0:ysvv x0 h Q):AM.Spec PG yal3 [x0] h Q :=
 spE mixed ct0_ok Tryz.func286 [2] H0
def yywu (w:Int):Int:=if w=115 then 48 else if w=1048691 then 49 else 0
theorem yuo0 {w:Int} {K:K1} {h:H} (hk:K (.int .i64 (yywu w)) h):AM.Spec PG yal3 [.int .u32 w] h K:=by
 refine yz7m (fun K hk=>?_) hk
 refine y66v _ _ _ ?_
 simp (config:={contextual:=true,dsimp:=false,maxSteps:=1000000}) [↓y88o,↓ysvv,↓yj1p]
 all_goals (intros;repeat' (refine ite_i (fun _=>?_) (fun _=>?_)))
 all_goals refine fin hk (by repeat (first | exact Sub.refl _ | refine Sub.upd ?_ (by assumption))) ?_
 all_goals first | rfl | (simp only [yywu, *,↓reduceIte];done) | (simp_all [yywu];done) | (simp_all [yywu] <;> omega)
def ywck (args:List Value):Option Value:=match args with
 | [.int .u32 w]=>some (.int .i64 (yywu w))
 | _=>none
@[simp] theorem yds6 {w:Int}:ywck [.int .u32 w]=some (.int .i64 (yywu w)):=rfl
def yci3:CE:=.val ywck
@[simp] theorem yuve {args:List Value} {h:H} {K:K1}:CE.run yci3 args h K=u_opt (ywck args) fun v=>K v h:=rfl
theorem y99r (args:List Value) (h:H) (K:K1) (hr:CE.run yci3 args h K):AM.Spec PG yal3 args h K:=by
 rw [yuve] at hr
 unfold ywck at hr
 split at hr
 ·exact yuo0 hr
 ·exact hr.elim
def y33i (x0:Value) (h:H) (Kn Kr:K1):Prop :=
 y2x6 .i32 x0 fun v4=>u_bin PG .shr yqm3 v4 (.int .u64 20) fun v5=>Kr v5 h
def yfiw (x0:Value) (h:H) (Q:K1):Prop:=y33i x0 h Q Q
theorem y2kx (x0:Value) (h:H) (Q:K1) (H0:yfiw x0 h Q):AM.Spec PG yhez [x0] h Q :=
 spE mixed ct0_ok Tryz.func231 [2] H0
def yqpc (w:Int):Int:=(IntKind.i32.wrap w).fdiv (2^min 20 IntKind.i32.bits)
theorem ywjg {w:Int} {K:K1} {h:H} (hk:K (.int .i32 (yqpc w)) h):AM.Spec PG yhez [.int .u32 w] h K:=by
 refine yz7m (fun K hk=>?_) hk
 refine y2kx _ _ _ ?_
 simp (config:={contextual:=true,dsimp:=false,maxSteps:=1000000}) [↓y88o,↓yfiw,↓y33i]
 all_goals (intros;repeat' (refine ite_i (fun _=>?_) (fun _=>?_)))
 all_goals refine fin hk (by repeat (first | exact Sub.refl _ | refine Sub.upd ?_ (by assumption))) ?_
 all_goals first | rfl | (simp only [yqpc, *,↓reduceIte];done) | (simp_all [yqpc];done) | (simp_all [yqpc] <;> omega)
def ya64 (args:List Value):Option Value:=match args with
 | [.int .u32 w]=>some (.int .i32 (yqpc w))
 | _=>none
@[simp] theorem ybha {w:Int}:ya64 [.int .u32 w]=some (.int .i32 (yqpc w)):=rfl
def ygp9:CE:=.val ya64
@[simp] theorem yyrd {args:List Value} {h:H} {K:K1}:CE.run ygp9 args h K=u_opt (ya64 args) fun v=>K v h:=rfl
theorem y5jv (args:List Value) (h:H) (K:K1) (hr:CE.run ygp9 args h K):AM.Spec PG yhez args h K:=by
 rw [yyrd] at hr
 unfold ya64 at hr
 split at hr
 ·exact ywjg hr
 ·exact hr.elim
def y6o5 (x0:Value) (h:H) (Kn Kr:K1):Prop :=
 boxV x0=true∧u_new (Value.cells x0).toList yc0x .exact h fun b1 h=>u_bf false 1 0 (.pointer (some ⟨b1,0,none⟩)) h fun v4=>u_bin PG .eql T_int v4 (.int .i64 0) fun v5=>ydv6 v5 false (fun k11=>u_bf false 1 0 (.pointer (some ⟨b1,0,none⟩)) h fun v8=>u_bin PG .geq T_int v8 (.int .i64 3) fun v9=>ydv6 v9 true (fun k10=>u_bf false 1 0 (.pointer (some ⟨b1,0,none⟩)) h fun v12=>u_bin PG .leq T_int v12 (.int .i64 10) fun v13=>k10 v13 h) (fun v13 h=>y9rg v9 v13 (.bool false) fun v14=>k11 v14 h) h) (fun v14 h=>y9rg v5 (.bool true) v14 fun v15=>ydv6 v15 false (fun k21=>u_bf false 1 0 (.pointer (some ⟨b1,0,none⟩)) h fun v18=>u_bin PG .geq T_int v18 (.int .i64 47) fun v19=>ydv6 v19 true (fun k20=>u_bf false 1 0 (.pointer (some ⟨b1,0,none⟩)) h fun v22=>u_bin PG .leq T_int v22 (.int .i64 49) fun v23=>k20 v23 h) (fun v23 h=>y9rg v19 v23 (.bool false) fun v24=>k21 v24 h) h) (fun v24 h=>y9rg v15 (.bool true) v24 fun v25=>Kr v25 h) h) h
def y77t (x0:Value) (h:H) (Q:K1):Prop:=y6o5 x0 h Q Q
theorem ynvz (x0:Value) (h:H) (Q:K1) (H0:y77t x0 h Q):AM.Spec PG yb75 [x0] h Q :=
 spE mixed ct0_ok Tryz.func50 [2] H0
def yesp (o a b c d:Int):Bool:=decide (o=0)||decide (3≤o)&&decide (o≤10)||decide (47≤o)&&decide (o≤49)
theorem yy2h {o a b c d:Int} {K:K1} {h:H} (hk:K (.bool (yesp o a b c d)) h):AM.Spec PG yb75 [.agg #[.int .i64 o,.int .i64 a,.int .i64 b,.int .i64 c,.int .i32 d]] h K:=by
 refine yz7m (fun K hk=>?_) hk
 refine ynvz _ _ _ ?_
 simp (config:={contextual:=true,dsimp:=false,maxSteps:=1000000}) [↓y88o,↓y77t,↓y6o5]
 all_goals (intros;repeat' (refine ite_i (fun _=>?_) (fun _=>?_)))
 all_goals refine fin hk (by repeat (first | exact Sub.refl _ | refine Sub.upd ?_ (by assumption))) ?_
 all_goals first | rfl | (simp only [yesp, *,↓reduceIte];done) | (simp_all [yesp];done) | (simp_all [yesp] <;> omega)
def yx0s (args:List Value):Option Value:=match args with
 | [.agg ⟨[.int .i64 o,.int .i64 a,.int .i64 b,.int .i64 c,.int .i32 d]⟩]=>some (.bool (yesp o a b c d))
 | _=>none
@[simp] theorem yu8u {o a b c d:Int}:yx0s [.agg #[.int .i64 o,.int .i64 a,.int .i64 b,.int .i64 c,.int .i32 d]]=some (.bool (yesp o a b c d)):=rfl
def yuz9:CE:=.val yx0s
@[simp] theorem yxw2 {args:List Value} {h:H} {K:K1}:CE.run yuz9 args h K=u_opt (yx0s args) fun v=>K v h:=rfl
theorem yefq (args:List Value) (h:H) (K:K1) (hr:CE.run yuz9 args h K):AM.Spec PG yb75 args h K:=by
 rw [yxw2] at hr
 unfold yx0s at hr
 split at hr
 ·exact yy2h hr
 ·exact hr.elim
def y02q (x0:Value) (h:H) (Kn Kr:K2):Prop :=
 u_bin PG .eql T_int x0 (.int .i64 11) fun v6=>u_if v6 (Kr (.int .i64 1) (.bool true) h) (u_bin PG .eql T_int x0 (.int .i64 12) fun v8=>u_if v8 (Kr (.int .i64 2) (.bool true) h) (yi4e PG T_int x0 [(.int .i64 14),(.int .i64 16)] fun w9=>u_if w9 (Kr (.int .i64 1) (.bool false) h) (yi4e PG T_int x0 [(.int .i64 15),(.int .i64 17)] fun w12=>u_if w12 (Kr (.int .i64 2) (.bool false) h) (Kr (.int .i64 4) (.bool false) h))))
def y3tq (x0:Value) (h:H) (Q:K1):Prop:=y02q x0 h (fun y2 y3 h=>bif [y2,y3].all boxV then Q (.tuple #[y2,y3]) h else False) (fun y2 y3 h=>bif [y2,y3].all boxV then Q (.tuple #[y2,y3]) h else False)
theorem y86y (x0:Value) (h:H) (Q:K1) (H0:y3tq x0 h Q):AM.Spec PG youq [x0] h Q :=
 spE mixed ct0_ok Tryz.func234 [2,3] H0
def y1g3 (o:Int):Int:=if o=11 then 1 else if o=12 then 2 else if o=14∨o=16 then 1 else if o=15∨o=17 then 2 else 4
def y7dv (o:Int):Bool:=if o=11 then true else if o=12 then true else false
theorem y1w9 {o:Int} {K:K1} {h:H} (hk:K (.tuple #[.int .i64 (y1g3 o),.bool (y7dv o)]) h):AM.Spec PG youq [.int .i64 o] h K:=by
 refine yz7m (fun K hk=>?_) hk
 refine y86y _ _ _ ?_
 simp (config:={contextual:=true,dsimp:=false,maxSteps:=1000000}) [↓y88o,↓y3tq,↓y02q]
 all_goals (intros;repeat' (refine ite_i (fun _=>?_) (fun _=>?_)))
 all_goals refine fin hk (by repeat (first | exact Sub.refl _ | refine Sub.upd ?_ (by assumption))) ?_
 all_goals first | rfl | (simp only [y1g3,y7dv, *,↓reduceIte];done) | (simp_all [y1g3,y7dv];done) | (simp_all [y1g3,y7dv] <;> omega)
def yuef (args:List Value):Option Value:=match args with
 | [.int .i64 o]=>some (.tuple #[.int .i64 (y1g3 o),.bool (y7dv o)])
 | _=>none
@[simp] theorem y3oz {o:Int}:yuef [.int .i64 o]=some (.tuple #[.int .i64 (y1g3 o),.bool (y7dv o)]):=rfl
def y3yw:CE:=.val yuef
@[simp] theorem ydzj {args:List Value} {h:H} {K:K1}:CE.run y3yw args h K=u_opt (yuef args) fun v=>K v h:=rfl
theorem ynwr (args:List Value) (h:H) (K:K1) (hr:CE.run y3yw args h K):AM.Spec PG youq args h K:=by
 rw [ydzj] at hr
 unfold yuef at hr
 split at hr
 ·exact y1w9 hr
 ·exact hr.elim
def ypw7 (x0:Value) (h:H) (Kn Kr:K1):Prop :=
 u_bin PG .geq T_int x0 (.int .i64 16) fun v4=>ydv6 v4 true (fun k4=>u_bin PG .leq T_int x0 (.int .i64 18) fun v7=>k4 v7 h) (fun v7 h=>y9rg v4 v7 (.bool false) fun v8=>Kr v8 h) h
def yba3 (x0:Value) (h:H) (Q:K1):Prop:=ypw7 x0 h Q Q
theorem yjpl (x0:Value) (h:H) (Q:K1) (H0:yba3 x0 h Q):AM.Spec PG y83g [x0] h Q :=
 spE mixed ct0_ok Tryz.func235 [2] H0
def y3qc (o:Int):Bool:=decide (16≤o)&&decide (o≤18)
theorem yis4 {o:Int} {K:K1} {h:H} (hk:K (.bool (y3qc o)) h):AM.Spec PG y83g [.int .i64 o] h K:=by
 refine yz7m (fun K hk=>?_) hk
 refine yjpl _ _ _ ?_
 simp (config:={contextual:=true,dsimp:=false,maxSteps:=1000000}) [↓y88o,↓yba3,↓ypw7]
 all_goals (intros;repeat' (refine ite_i (fun _=>?_) (fun _=>?_)))
 all_goals refine fin hk (by repeat (first | exact Sub.refl _ | refine Sub.upd ?_ (by assumption))) ?_
 all_goals first | rfl | (simp only [y3qc, *,↓reduceIte];done) | (simp_all [y3qc];done) | (simp_all [y3qc] <;> omega)
def yn1z (args:List Value):Option Value:=match args with
 | [.int .i64 o]=>some (.bool (y3qc o))
 | _=>none
@[simp] theorem yi97 {o:Int}:yn1z [.int .i64 o]=some (.bool (y3qc o)):=rfl
def yda5:CE:=.val yn1z
@[simp] theorem yy0b {args:List Value} {h:H} {K:K1}:CE.run yda5 args h K=u_opt (yn1z args) fun v=>K v h:=rfl
theorem yqcz (args:List Value) (h:H) (K:K1) (hr:CE.run yda5 args h K):AM.Spec PG y83g args h K:=by
 rw [yy0b] at hr
 unfold yn1z at hr
 split at hr
 ·exact yis4 hr
 ·exact hr.elim
def ydty (x0:Value) (h:H) (Kn Kr:K3):Prop :=
 yi4e PG T_int x0 [(.int .i64 1),(.int .i64 2),(.int .i64 14)] fun w6=>u_if w6 (Kr (.bool true) (.bool false) (.bool false) h) (yi4e PG T_int x0 [(.int .i64 4),(.int .i64 5),(.int .i64 16)] fun w10=>u_if w10 (Kr (.bool true) (.bool true) (.bool true) h) (yi4e PG T_int x0 [(.int .i64 6),(.int .i64 17),(.int .i64 19)] fun w14=>u_if w14 (Kr (.bool true) (.bool true) (.bool false) h) (yi4e PG T_int x0 [(.int .i64 7),(.int .i64 18)] fun w18=>u_if w18 (Kr (.bool false) (.bool true) (.bool true) h) (yi4e PG T_int x0 [(.int .i64 3),(.int .i64 15),(.int .i64 10),(.int .i64 11),(.int .i64 20),(.int .i64 21)] fun w21=>u_if w21 (Kr (.bool false) (.bool true) (.bool false) h) (Kr (.bool false) (.bool false) (.bool false) h)))))
theorem y84a {Kn Kr:K3} {t:T} {h:H} (H0:ydty (t 0) h Kn Kr):Wp PG 28 (ygjk Tryz.f163.body) (mkQ (q3 Kn 2 3 4) (q3 Kr 2 3 4) ke0) t h :=
 (wpE ct0_ok H0)
def yyow (x0:Value) (h:H) (Q:K1):Prop:=ydty x0 h (fun y2 y3 y4 h=>bif [y2,y3,y4].all boxV then Q (.tuple #[y2,y3,y4]) h else False) (fun y2 y3 y4 h=>bif [y2,y3,y4].all boxV then Q (.tuple #[y2,y3,y4]) h else False)
theorem yqfg (x0:Value) (h:H) (Q:K1) (H0:yyow x0 h Q):AM.Spec PG yh9b [x0] h Q :=
 spH mixed Tryz.func163 [2,3,4] (y84a H0)
def yzmo (o:Int):Bool:=if (o=1∨o=2)∨o=14 then true else if (o=4∨o=5)∨o=16 then true else if (o=6∨o=17)∨o=19 then true else false
def y5bx (o:Int):Bool:=if (o=1∨o=2)∨o=14 then false else if (o=4∨o=5)∨o=16 then true else if (o=6∨o=17)∨o=19 then true else if o=7∨o=18 then true else if ((((o=3∨o=15)∨o=10)∨o=11)∨o=20)∨o=21 then true else false
def ykbr (o:Int):Bool:=if (o=1∨o=2)∨o=14 then false else if (o=4∨o=5)∨o=16 then true else if (o=6∨o=17)∨o=19 then false else if o=7∨o=18 then true else false
theorem y10b {o:Int} {K:K1} {h:H} (hk:K (.tuple #[.bool (yzmo o),.bool (y5bx o),.bool (ykbr o)]) h):AM.Spec PG yh9b [.int .i64 o] h K:=by
 refine yz7m (fun K hk=>?_) hk
 refine yqfg _ _ _ ?_
 simp (config:={contextual:=true,dsimp:=false,maxSteps:=1000000}) [↓y88o,↓yyow,↓ydty]
 all_goals (intros;repeat' (refine ite_i (fun _=>?_) (fun _=>?_)))
 all_goals refine fin hk (by repeat (first | exact Sub.refl _ | refine Sub.upd ?_ (by assumption))) ?_
 all_goals first | rfl | (simp only [yzmo,y5bx,ykbr, *,↓reduceIte];done) | (simp_all [yzmo,y5bx,ykbr];done) | (simp_all [yzmo,y5bx,ykbr] <;> omega)
def y3cx (args:List Value):Option Value:=match args with
 | [.int .i64 o]=>some (.tuple #[.bool (yzmo o),.bool (y5bx o),.bool (ykbr o)])
 | _=>none
@[simp] theorem yyp3 {o:Int}:y3cx [.int .i64 o]=some (.tuple #[.bool (yzmo o),.bool (y5bx o),.bool (ykbr o)]):=rfl
def ybj2:CE:=.val y3cx
@[simp] theorem yjld {args:List Value} {h:H} {K:K1}:CE.run ybj2 args h K=u_opt (y3cx args) fun v=>K v h:=rfl
theorem yyvl (args:List Value) (h:H) (K:K1) (hr:CE.run ybj2 args h K):AM.Spec PG yh9b args h K:=by
 rw [yjld] at hr
 unfold y3cx at hr
 split at hr
 ·exact y10b hr
 ·exact hr.elim
def y3r4 (x0:Value) (h:H) (Kn Kr:K1):Prop :=
 u_bin PG .eql ycpa x0 (.int .u32 1) fun v4=>ydv6 v4 false (fun k4=>u_bin PG .eql ycpa x0 (.int .u32 2) fun v7=>k4 v7 h) (fun v7 h=>y9rg v4 (.bool true) v7 fun v8=>ydv6 v8 false (fun k8=>u_bin PG .eql ycpa x0 (.int .u32 4) fun v11=>k8 v11 h) (fun v11 h=>y9rg v8 (.bool true) v11 fun v12=>Kr v12 h) h) h
def yahp (x0:Value) (h:H) (Q:K1):Prop:=y3r4 x0 h Q Q
theorem y0dx (x0:Value) (h:H) (Q:K1) (H0:yahp x0 h Q):AM.Spec PG ylpv [x0] h Q :=
 spE mixed ct0_ok Tryz.func237 [2] H0
def y4mc (n:Int):Bool:=decide (n=1)||decide (n=2)||decide (n=4)
theorem ykl8 {n:Int} {K:K1} {h:H} (hk:K (.bool (y4mc n)) h):AM.Spec PG ylpv [.int .u32 n] h K:=by
 refine yz7m (fun K hk=>?_) hk
 refine y0dx _ _ _ ?_
 simp (config:={contextual:=true,dsimp:=false,maxSteps:=1000000}) [↓y88o,↓yahp,↓y3r4]
 all_goals (intros;repeat' (refine ite_i (fun _=>?_) (fun _=>?_)))
 all_goals refine fin hk (by repeat (first | exact Sub.refl _ | refine Sub.upd ?_ (by assumption))) ?_
 all_goals first | rfl | (simp only [y4mc, *,↓reduceIte];done) | (simp_all [y4mc];done) | (simp_all [y4mc] <;> omega)
def y9v8 (args:List Value):Option Value:=match args with
 | [.int .u32 n]=>some (.bool (y4mc n))
 | _=>none
@[simp] theorem yo59 {n:Int}:y9v8 [.int .u32 n]=some (.bool (y4mc n)):=rfl
def yfgb:CE:=.val y9v8
@[simp] theorem yvls {args:List Value} {h:H} {K:K1}:CE.run yfgb args h K=u_opt (y9v8 args) fun v=>K v h:=rfl
theorem yqaa (args:List Value) (h:H) (K:K1) (hr:CE.run yfgb args h K):AM.Spec PG ylpv args h K:=by
 rw [yvls] at hr
 unfold y9v8 at hr
 split at hr
 ·exact ykl8 hr
 ·exact hr.elim
def yd9z (x0 x1:Value) (h:H) (Kn Kr:K1):Prop :=
 u_bin PG .eql T_int x1 (.int .i64 0) fun v6=>ydv6 v6 false (fun k11=>ydv6 x0 true (fun k6=>u_bin PG .gtr T_int x1 (.int .i64 0) fun v11=>k6 v11 h) (fun v11 h=>y9rg x0 v11 (.bool false) fun v12=>ydv6 v12 true (fun k10=>u_bin PG .lss T_int x1 (.int .i64 256) fun v15=>k10 v15 h) (fun v15 h=>y9rg v12 v15 (.bool false) fun v16=>k11 v16 h) h) h) (fun v16 h=>y9rg v6 (.bool true) v16 fun v17=>Kr v17 h) h
def yjdb (x0 x1:Value) (h:H) (Q:K1):Prop:=yd9z x0 x1 h Q Q
theorem y82x (x0 x1:Value) (h:H) (Q:K1) (H0:yjdb x0 x1 h Q):AM.Spec PG y26d [x0,x1] h Q :=
 spE mixed ct0_ok Tryz.func165 [4] H0
def yq96 (t:Int) (p:Bool):Bool:=decide (t=0)||p&&decide (0<t)&&decide (t<256)
theorem yqv3 {t:Int} {p:Bool} {K:K1} {h:H} (hk:K (.bool (yq96 t p)) h):AM.Spec PG y26d [.bool p,.int .i64 t] h K:=by
 refine yz7m (fun K hk=>?_) hk
 refine y82x _ _ _ _ ?_
 simp (config:={contextual:=true,dsimp:=false,maxSteps:=1000000}) [↓y88o,↓yjdb,↓yd9z]
 all_goals (intros;repeat' (refine ite_i (fun _=>?_) (fun _=>?_)))
 all_goals refine fin hk (by repeat (first | exact Sub.refl _ | refine Sub.upd ?_ (by assumption))) ?_
 all_goals first | rfl | (simp only [yq96, *,↓reduceIte];done) | (simp_all [yq96];done) | (simp_all [yq96] <;> omega)
def y1o2 (args:List Value):Option Value:=match args with
 | [.bool p,.int .i64 t]=>some (.bool (yq96 t p))
 | _=>none
@[simp] theorem yh9q {t:Int} {p:Bool}:y1o2 [.bool p,.int .i64 t]=some (.bool (yq96 t p)):=rfl
def ypz4:CE:=.val y1o2
@[simp] theorem y0so {args:List Value} {h:H} {K:K1}:CE.run ypz4 args h K=u_opt (y1o2 args) fun v=>K v h:=rfl
theorem yw6r (args:List Value) (h:H) (K:K1) (hr:CE.run ypz4 args h K):AM.Spec PG y26d args h K:=by
 rw [y0so] at hr
 unfold y1o2 at hr
 split at hr
 ·exact yqv3 hr
 ·exact hr.elim
def y9it (x0:Value) (h:H) (Kn Kr:K2):Prop :=
 u_bin PG .andNot ycpa x0 (.int .u32 8) fun v5=>y2x6 .i64 v5 fun v6=>u_bin PG .and ycpa x0 (.int .u32 8) fun v8=>u_bin PG .neq ycpa v8 (.int .u32 0) fun v9=>Kr v6 v9 h
def yxe8 (x0:Value) (h:H) (Q:K1):Prop:=y9it x0 h (fun y2 y3 h=>bif [y2,y3].all boxV then Q (.tuple #[y2,y3]) h else False) (fun y2 y3 h=>bif [y2,y3].all boxV then Q (.tuple #[y2,y3]) h else False)
theorem y2g2 (x0:Value) (h:H) (Q:K1) (H0:yxe8 x0 h Q):AM.Spec PG y2sp [x0] h Q :=
 spE mixed ct0_ok Tryz.func290 [2,3] H0
def y93y (v:Int):Int:=IntKind.i64.wrap (IntKind.u32.wrap ↑((v%2^IntKind.u32.bits).toNat &&& 2^IntKind.u32.bits-1-8%2^IntKind.u32.bits))
def ydu3 (v:Int):Bool:=!decide (IntKind.u32.wrap ↑((v%2^IntKind.u32.bits).toNat &&& 8%2^IntKind.u32.bits)=0)
theorem ynl6 {v:Int} {K:K1} {h:H} (hk:K (.tuple #[.int .i64 (y93y v),.bool (ydu3 v)]) h):AM.Spec PG y2sp [.int .u32 v] h K:=by
 refine yz7m (fun K hk=>?_) hk
 refine y2g2 _ _ _ ?_
 simp (config:={contextual:=true,dsimp:=false,maxSteps:=1000000}) [↓y88o,↓yxe8,↓y9it]
 all_goals (intros;repeat' (refine ite_i (fun _=>?_) (fun _=>?_)))
 all_goals refine fin hk (by repeat (first | exact Sub.refl _ | refine Sub.upd ?_ (by assumption))) ?_
 all_goals first | rfl | (simp only [y93y,ydu3, *,↓reduceIte];done) | (simp_all [y93y,ydu3];done) | (simp_all [y93y,ydu3] <;> omega)
def ys6y (args:List Value):Option Value:=match args with
 | [.int .u32 v]=>some (.tuple #[.int .i64 (y93y v),.bool (ydu3 v)])
 | _=>none
@[simp] theorem ybyc {v:Int}:ys6y [.int .u32 v]=some (.tuple #[.int .i64 (y93y v),.bool (ydu3 v)]):=rfl
def ym1f:CE:=.val ys6y
@[simp] theorem yxmr {args:List Value} {h:H} {K:K1}:CE.run ym1f args h K=u_opt (ys6y args) fun v=>K v h:=rfl
theorem ymo7 (args:List Value) (h:H) (K:K1) (hr:CE.run ym1f args h K):AM.Spec PG y2sp args h K:=by
 rw [yxmr] at hr
 unfold ys6y at hr
 split at hr
 ·exact ynl6 hr
 ·exact hr.elim
def y1fi (x0:Value) (h:H) (Kn Kr:K1):Prop :=
 u_if x0 (Kr (.int .u32 1) h) (Kr (.int .u32 0) h)
def yykj (x0:Value) (h:H) (Q:K1):Prop:=y1fi x0 h Q Q
theorem yzd3 (x0:Value) (h:H) (Q:K1) (H0:yykj x0 h Q):AM.Spec PG yhx2 [x0] h Q :=
 spE mixed ct0_ok Tryz.func309 [2] H0
def y6sn (p:Bool):Int:=if p=true then 1 else 0
theorem y3oa {p:Bool} {K:K1} {h:H} (hk:K (.int .u32 (y6sn p)) h):AM.Spec PG yhx2 [.bool p] h K:=by
 refine yz7m (fun K hk=>?_) hk
 refine yzd3 _ _ _ ?_
 simp (config:={contextual:=true,dsimp:=false,maxSteps:=1000000}) [↓y88o,↓yykj,↓y1fi]
 all_goals (intros;repeat' (refine ite_i (fun _=>?_) (fun _=>?_)))
 all_goals refine fin hk (by repeat (first | exact Sub.refl _ | refine Sub.upd ?_ (by assumption))) ?_
 all_goals first | rfl | (simp only [y6sn, *,↓reduceIte];done) | (simp_all [y6sn];done) | (simp_all [y6sn] <;> omega)
def yver (args:List Value):Option Value:=match args with
 | [.bool p]=>some (.int .u32 (y6sn p))
 | _=>none
@[simp] theorem ysom {p:Bool}:yver [.bool p]=some (.int .u32 (y6sn p)):=rfl
def ys83:CE:=.val yver
@[simp] theorem ynw6 {args:List Value} {h:H} {K:K1}:CE.run ys83 args h K=u_opt (yver args) fun v=>K v h:=rfl
theorem yri1 (args:List Value) (h:H) (K:K1) (hr:CE.run ys83 args h K):AM.Spec PG yhx2 args h K:=by
 rw [ynw6] at hr
 unfold yver at hr
 split at hr
 ·exact y3oa hr
 ·exact hr.elim
def yqy3 (x0 x1:Value) (h:H) (Kn Kr:K2):Prop :=
 u_bin PG .quo ycpa x0 x1 fun v11=>u_bin PG .rem ycpa x0 x1 fun v14=>Kn v11 v14 h
def yj48 (x4 x5:Value) (h:H) (Kn Kr:K2):Prop :=
 Kr x4 x5 h
def yw02 (x0 x1:Value) (h:H) (Kn Kr:K2):Prop :=
 yqy3 x0 x1 h (fun y4 y5 h=>yj48 y4 y5 h Kn Kr) Kr
def y3bq (x0 x1:Value) (h:H) (Kn Kr:K2):Prop :=
 u_bin PG .eql ycpa x1 (.int .u32 0) fun v7=>u_if v7 (Kr (.int .u32 4294967295) x0 h) (yw02 x0 x1 h Kn Kr)
theorem ypyc {Kn Kr:K2} {t:T} {h:H} (H0:y3bq (t 0) (t 1) h Kn Kr):Wp PG 15 (ygjk Tryz.f262.body) (mkQ (q2 Kn 4 5) (q2 Kr 4 5) ke0) t h :=
 (toE ct0_ok 2 H0 fun t h (H:yw02 (t 0) (t 1) h Kn Kr)=>(sqE (q2 (fun y4 y5 h=>yj48 y4 y5 h Kn Kr) 4 5) (drE ct0_ok [0,1,2,3,4,5,6,7] H) fun t h H=>(wpE ct0_ok H)))
def ymcd (x0 x1:Value) (h:H) (Q:K1):Prop:=y3bq x0 x1 h (fun y4 y5 h=>bif [y4,y5].all boxV then Q (.tuple #[y4,y5]) h else False) (fun y4 y5 h=>bif [y4,y5].all boxV then Q (.tuple #[y4,y5]) h else False)
theorem ynrj (x0 x1:Value) (h:H) (Q:K1) (H0:ymcd x0 x1 h Q):AM.Spec PG yiyf [x0,x1] h Q :=
 spH mixed Tryz.func262 [4,5] (ypyc H0)
def yeuu (a b:Int):Int:=if b=0 then 4294967295 else IntKind.u32.wrap (a.tdiv b)
def y8ip (a b:Int):Int:=if b=0 then a else a.tmod b
theorem yn0p {a b:Int} {K:K1} {h:H} (hk:K (.tuple #[.int .u32 (yeuu a b),.int .u32 (y8ip a b)]) h):AM.Spec PG yiyf [.int .u32 a,.int .u32 b] h K:=by
 refine yz7m (fun K hk=>?_) hk
 refine ynrj _ _ _ _ ?_
 simp (config:={contextual:=true,dsimp:=false,maxSteps:=1000000}) [↓y88o,↓ymcd,↓y3bq,↓yw02,↓yqy3,↓yj48]
 all_goals (intros;repeat' (refine ite_i (fun _=>?_) (fun _=>?_)))
 all_goals refine fin hk (by repeat (first | exact Sub.refl _ | refine Sub.upd ?_ (by assumption))) ?_
 all_goals first | rfl | (simp only [yeuu,y8ip, *,↓reduceIte];done) | (simp_all [yeuu,y8ip];done) | (simp_all [yeuu,y8ip] <;> omega)
def yzhs (args:List Value):Option Value:=match args with
 | [.int .u32 a,.int .u32 b]=>some (.tuple #[.int .u32 (yeuu a b),.int .u32 (y8ip a b)])
 | _=>none
@[simp] theorem ybp4 {a b:Int}:yzhs [.int .u32 a,.int .u32 b]=some (.tuple #[.int .u32 (yeuu a b),.int .u32 (y8ip a b)]):=rfl
def yxqp:CE:=.val yzhs
@[simp] theorem yiu8 {args:List Value} {h:H} {K:K1}:CE.run yxqp args h K=u_opt (yzhs args) fun v=>K v h:=rfl
theorem ydat (args:List Value) (h:H) (K:K1) (hr:CE.run yxqp args h K):AM.Spec PG yiyf args h K:=by
 rw [yiu8] at hr
 unfold yzhs at hr
 split at hr
 ·exact yn0p hr
 ·exact hr.elim
def y337 (x0 x1 x2:Value) (h:H) (Kn Kr:K2):Prop :=
 u_bin PG .eql T_int x0 (.int .i64 0) fun v10=>u_if v10 (u_bin PG .eql ycpa x1 x2 fun v13=>Kr v13 (.int .i64 0) h) (u_bin PG .eql T_int x0 (.int .i64 1) fun v15=>u_if v15 (u_bin PG .neq ycpa x1 x2 fun v18=>Kr v18 (.int .i64 0) h) (u_bin PG .eql T_int x0 (.int .i64 4) fun v20=>u_if v20 (y2x6 .i32 x1 fun v22=>y2x6 .i32 x2 fun v24=>u_bin PG .lss yqm3 v22 v24 fun v25=>Kr v25 (.int .i64 0) h) (u_bin PG .eql T_int x0 (.int .i64 5) fun v27=>u_if v27 (y2x6 .i32 x1 fun v29=>y2x6 .i32 x2 fun v31=>u_bin PG .geq yqm3 v29 v31 fun v32=>Kr v32 (.int .i64 0) h) (u_bin PG .eql T_int x0 (.int .i64 6) fun v34=>u_if v34 (u_bin PG .lss ycpa x1 x2 fun v37=>Kr v37 (.int .i64 0) h) (u_bin PG .eql T_int x0 (.int .i64 7) fun v39=>u_if v39 (u_bin PG .geq ycpa x1 x2 fun v42=>Kr v42 (.int .i64 0) h) (Kr (.bool false) (.int .i64 1) h))))))
def y2rk (x0 x1 x2:Value) (h:H) (Q:K1):Prop:=y337 x0 x1 x2 h (fun y6 y7 h=>bif [y6,y7].all boxV then Q (.tuple #[y6,y7]) h else False) (fun y6 y7 h=>bif [y6,y7].all boxV then Q (.tuple #[y6,y7]) h else False)
theorem yalp (x0 x1 x2:Value) (h:H) (Q:K1) (H0:y2rk x0 x1 x2 h Q):AM.Spec PG yzu0 [x0,x1,x2] h Q :=
 spE mixed ct0_ok Tryz.func201 [6,7] H0
def ybii (k a b:Int):Bool:=if k=0 then decide (a=b) else if k=1 then !decide (a=b) else if k=4 then decide (IntKind.i32.wrap a<IntKind.i32.wrap b) else if k=5 then decide (IntKind.i32.wrap b≤IntKind.i32.wrap a) else if k=6 then decide (a<b) else if k=7 then decide (b≤a) else false
def y0fh (k a b:Int):Int:=if k=0 then 0 else if k=1 then 0 else if k=4 then 0 else if k=5 then 0 else if k=6 then 0 else if k=7 then 0 else 1
theorem yjkk {k a b:Int} {K:K1} {h:H} (hk:K (.tuple #[.bool (ybii k a b),.int .i64 (y0fh k a b)]) h):AM.Spec PG yzu0 [.int .i64 k,.int .u32 a,.int .u32 b] h K:=by
 refine yz7m (fun K hk=>?_) hk
 refine yalp _ _ _ _ _ ?_
 simp (config:={contextual:=true,dsimp:=false,maxSteps:=1000000}) [↓y88o,↓y2rk,↓y337]
 all_goals (intros;repeat' (refine ite_i (fun _=>?_) (fun _=>?_)))
 all_goals refine fin hk (by repeat (first | exact Sub.refl _ | refine Sub.upd ?_ (by assumption))) ?_
 all_goals first | rfl | (simp only [ybii,y0fh, *,↓reduceIte];done) | (simp_all [ybii,y0fh];done) | (simp_all [ybii,y0fh] <;> omega)
def yorf (args:List Value):Option Value:=match args with
 | [.int .i64 k,.int .u32 a,.int .u32 b]=>some (.tuple #[.bool (ybii k a b),.int .i64 (y0fh k a b)])
 | _=>none
@[simp] theorem y768 {k a b:Int}:yorf [.int .i64 k,.int .u32 a,.int .u32 b]=some (.tuple #[.bool (ybii k a b),.int .i64 (y0fh k a b)]):=rfl
def yxpp:CE:=.val yorf
@[simp] theorem yc71 {args:List Value} {h:H} {K:K1}:CE.run yxpp args h K=u_opt (yorf args) fun v=>K v h:=rfl
theorem y64x (args:List Value) (h:H) (K:K1) (hr:CE.run yxpp args h K):AM.Spec PG yzu0 args h K:=by
 rw [yc71] at hr
 unfold yorf at hr
 split at hr
 ·exact yjkk hr
 ·exact hr.elim
def ycoq (x0:Value) (h:H) (Kn Kr:K1):Prop :=
 boxV x0=true∧u_new (Value.cells x0).toList yuil .exact h fun b1 h=>u_ix false 1 (some 4) (.pointer (some ⟨b1,0,none⟩)) (.int .i64 0) h fun v4=>u_ix false 1 (some 4) (.pointer (some ⟨b1,0,none⟩)) (.int .i64 1) h fun v6=>u_bin PG .or yoj6 v4 v6 fun v7=>u_ix false 1 (some 4) (.pointer (some ⟨b1,0,none⟩)) (.int .i64 2) h fun v9=>u_bin PG .or yoj6 v7 v9 fun v10=>u_ix false 1 (some 4) (.pointer (some ⟨b1,0,none⟩)) (.int .i64 3) h fun v12=>u_bin PG .or yoj6 v10 v12 fun v13=>Kr v13 h
def yofh (x0:Value) (h:H) (Q:K1):Prop:=ycoq x0 h Q Q
theorem yvh8 (x0:Value) (h:H) (Q:K1) (H0:yofh x0 h Q):AM.Spec PG ymkc [x0] h Q :=
 spE mixed ct0_ok Tryz.func295 [2] H0
def ywht (t0 t1 t2 t3:Int):Int:=IntKind.u8.wrap ↑((IntKind.u8.wrap ↑((IntKind.u8.wrap ↑((t0%2^IntKind.u8.bits).toNat ||| (t1%2^IntKind.u8.bits).toNat)%2^IntKind.u8.bits).toNat ||| (t2%2^IntKind.u8.bits).toNat)%2^IntKind.u8.bits).toNat ||| (t3%2^IntKind.u8.bits).toNat)
theorem ygja {t0 t1 t2 t3:Int} {K:K1} {h:H} (hk:K (.int .u8 (ywht t0 t1 t2 t3)) h):AM.Spec PG ymkc [.agg #[.int .u8 t0,.int .u8 t1,.int .u8 t2,.int .u8 t3]] h K:=by
 refine yz7m (fun K hk=>?_) hk
 refine yvh8 _ _ _ ?_
 simp (config:={contextual:=true,dsimp:=false,maxSteps:=1000000}) [↓y88o,↓yofh,↓ycoq]
 all_goals (intros;repeat' (refine ite_i (fun _=>?_) (fun _=>?_)))
 all_goals refine fin hk (by repeat (first | exact Sub.refl _ | refine Sub.upd ?_ (by assumption))) ?_
 all_goals first | rfl | (simp only [ywht, *,↓reduceIte];done) | (simp_all [ywht];done) | (simp_all [ywht] <;> omega)
def yn9j (args:List Value):Option Value:=match args with
 | [.agg ⟨[.int .u8 t0,.int .u8 t1,.int .u8 t2,.int .u8 t3]⟩]=>some (.int .u8 (ywht t0 t1 t2 t3))
 | _=>none
@[simp] theorem ydr2 {t0 t1 t2 t3:Int}:yn9j [.agg #[.int .u8 t0,.int .u8 t1,.int .u8 t2,.int .u8 t3]]=some (.int .u8 (ywht t0 t1 t2 t3)):=rfl
def ythy:CE:=.val yn9j
@[simp] theorem yvbw {args:List Value} {h:H} {K:K1}:CE.run ythy args h K=u_opt (yn9j args) fun v=>K v h:=rfl
theorem yel9 (args:List Value) (h:H) (K:K1) (hr:CE.run ythy args h K):AM.Spec PG ymkc args h K:=by
 rw [yvbw] at hr
 unfold yn9j at hr
 split at hr
 ·exact ygja hr
 ·exact hr.elim
def ylqy (x0 x1:Value) (h:H) (Kn Kr:K1):Prop :=
 y2x6 .i64 x1 fun v7=>u_bin PG .add yeb5 v7 (.int .i64 255) fun v8=>u_bin PG .quo yeb5 v8 (.int .i64 256) fun v9=>u_bin PG .eql ycpa x1 (.int .u32 0) fun v11=>ydv6 v11 false (fun k5=>u_bin PG .rem ycpa x0 (.int .u32 256) fun v14=>u_bin PG .neq ycpa v14 (.int .u32 0) fun v15=>k5 v15 h) (fun v15 h=>y9rg v11 (.bool true) v15 fun v16=>ydv6 v16 false (fun k13=>y2x6 .i64 x0 fun v19=>u_bin PG .mul yeb5 v9 (.int .i64 256) fun v21=>u_bin PG .add yeb5 v19 v21 fun v22=>u_bin PG .gtr yeb5 v22 (.int .i64 4294967296) fun v23=>k13 v23 h) (fun v23 h=>y9rg v16 (.bool true) v23 fun v24=>u_if v24 (Kr (.int .i64 (-1)) h) (Kr v9 h)) h) h
def yf0u (x0 x1:Value) (h:H) (Q:K1):Prop:=ylqy x0 x1 h Q Q
theorem y6p0 (x0 x1:Value) (h:H) (Q:K1) (H0:yf0u x0 x1 h Q):AM.Spec PG yr2c [x0,x1] h Q :=
 spE mixed ct0_ok Tryz.func219 [4] H0
def yht4 (a n:Int):Int:=if (n=0∨¬a.tmod 256=0)∨4294967296<IntKind.i64.wrap (IntKind.i64.wrap a+IntKind.i64.wrap (IntKind.i64.wrap ((IntKind.i64.wrap (IntKind.i64.wrap n+255)).tdiv 256)*256)) then -1 else IntKind.i64.wrap ((IntKind.i64.wrap (IntKind.i64.wrap n+255)).tdiv 256)
theorem y127 {a n:Int} {K:K1} {h:H} (hk:K (.int .i64 (yht4 a n)) h):AM.Spec PG yr2c [.int .u32 a,.int .u32 n] h K:=by
 refine yz7m (fun K hk=>?_) hk
 refine y6p0 _ _ _ _ ?_
 simp (config:={contextual:=true,dsimp:=false,maxSteps:=1000000}) [↓y88o,↓yf0u,↓ylqy]
 all_goals (intros;repeat' (refine ite_i (fun _=>?_) (fun _=>?_)))
 all_goals refine fin hk (by repeat (first | exact Sub.refl _ | refine Sub.upd ?_ (by assumption))) ?_
 all_goals first | rfl | (simp only [yht4, *,↓reduceIte];done) | (simp_all [yht4];done) | (simp_all [yht4] <;> omega)
def yz60 (args:List Value):Option Value:=match args with
 | [.int .u32 a,.int .u32 n]=>some (.int .i64 (yht4 a n))
 | _=>none
@[simp] theorem y2kh {a n:Int}:yz60 [.int .u32 a,.int .u32 n]=some (.int .i64 (yht4 a n)):=rfl
def yr9w:CE:=.val yz60
@[simp] theorem y14l {args:List Value} {h:H} {K:K1}:CE.run yr9w args h K=u_opt (yz60 args) fun v=>K v h:=rfl
theorem ybg8 (args:List Value) (h:H) (K:K1) (hr:CE.run yr9w args h K):AM.Spec PG yr2c args h K:=by
 rw [y14l] at hr
 unfold yz60 at hr
 split at hr
 ·exact y127 hr
 ·exact hr.elim
def yyq7 (x0 x1 x2:Value) (h:H) (Kn Kr:K1):Prop :=
 y2x6 .i64 x0 fun v8=>y2x6 .i64 x1 fun v10=>u_bin PG .geq yeb5 v8 v10 fun v11=>ydv6 v11 true (fun k13=>y2x6 .i64 x0 fun v14=>y2x6 .i64 x1 fun v16=>u_bin PG .mul yeb5 x2 (.int .i64 256) fun v18=>u_bin PG .add yeb5 v16 v18 fun v19=>u_bin PG .lss yeb5 v14 v19 fun v20=>k13 v20 h) (fun v20 h=>y9rg v11 v20 (.bool false) fun v21=>Kr v21 h) h
def ycli (x0 x1 x2:Value) (h:H) (Q:K1):Prop:=yyq7 x0 x1 x2 h Q Q
theorem yd6z (x0 x1 x2:Value) (h:H) (Q:K1) (H0:ycli x0 x1 x2 h Q):AM.Spec PG y4ct [x0,x1,x2] h Q :=
 spE mixed ct0_ok Tryz.func279 [6] H0
def yp6c (b a p:Int):Bool:=decide (IntKind.i64.wrap a≤IntKind.i64.wrap b)&&decide (IntKind.i64.wrap b<IntKind.i64.wrap (IntKind.i64.wrap a+IntKind.i64.wrap (p*256)))
theorem yxte {b a p:Int} {K:K1} {h:H} (hk:K (.bool (yp6c b a p)) h):AM.Spec PG y4ct [.int .u32 b,.int .u32 a,.int .i64 p] h K:=by
 refine yz7m (fun K hk=>?_) hk
 refine yd6z _ _ _ _ _ ?_
 simp (config:={contextual:=true,dsimp:=false,maxSteps:=1000000}) [↓y88o,↓ycli,↓yyq7]
 all_goals (intros;repeat' (refine ite_i (fun _=>?_) (fun _=>?_)))
 all_goals refine fin hk (by repeat (first | exact Sub.refl _ | refine Sub.upd ?_ (by assumption))) ?_
 all_goals first | rfl | (simp only [yp6c, *,↓reduceIte];done) | (simp_all [yp6c];done) | (simp_all [yp6c] <;> omega)
def yal6 (args:List Value):Option Value:=match args with
 | [.int .u32 b,.int .u32 a,.int .i64 p]=>some (.bool (yp6c b a p))
 | _=>none
@[simp] theorem ylq2 {b a p:Int}:yal6 [.int .u32 b,.int .u32 a,.int .i64 p]=some (.bool (yp6c b a p)):=rfl
def yyxh:CE:=.val yal6
@[simp] theorem yy43 {args:List Value} {h:H} {K:K1}:CE.run yyxh args h K=u_opt (yal6 args) fun v=>K v h:=rfl
theorem y08x (args:List Value) (h:H) (K:K1) (hr:CE.run yyxh args h K):AM.Spec PG y4ct args h K:=by
 rw [yy43] at hr
 unfold yal6 at hr
 split at hr
 ·exact yxte hr
 ·exact hr.elim
def ygyk (x0:Value) (h:H) (Kn Kr:K1):Prop :=
 u_bin PG .add yeb5 x0 (.int .i64 255) fun v4=>u_bin PG .quo yeb5 v4 (.int .i64 256) fun v5=>u_bin PG .mul yeb5 v5 (.int .i64 256) fun v6=>Kr v6 h
def y2y5 (x0:Value) (h:H) (Q:K1):Prop:=ygyk x0 h Q Q
theorem yxle (x0:Value) (h:H) (Q:K1) (H0:y2y5 x0 h Q):AM.Spec PG yl5e [x0] h Q :=
 spE mixed ct0_ok Tryz.func216 [2] H0
def yy7c (n:Int):Int:=IntKind.i64.wrap (IntKind.i64.wrap ((IntKind.i64.wrap (n+255)).tdiv 256)*256)
theorem ygjp {n:Int} {K:K1} {h:H} (hk:K (.int .i64 (yy7c n)) h):AM.Spec PG yl5e [.int .i64 n] h K:=by
 refine yz7m (fun K hk=>?_) hk
 refine yxle _ _ _ ?_
 simp (config:={contextual:=true,dsimp:=false,maxSteps:=1000000}) [↓y88o,↓y2y5,↓ygyk]
 all_goals (intros;repeat' (refine ite_i (fun _=>?_) (fun _=>?_)))
 all_goals refine fin hk (by repeat (first | exact Sub.refl _ | refine Sub.upd ?_ (by assumption))) ?_
 all_goals first | rfl | (simp only [yy7c, *,↓reduceIte];done) | (simp_all [yy7c];done) | (simp_all [yy7c] <;> omega)
def yzq0 (args:List Value):Option Value:=match args with
 | [.int .i64 n]=>some (.int .i64 (yy7c n))
 | _=>none
@[simp] theorem ynty {n:Int}:yzq0 [.int .i64 n]=some (.int .i64 (yy7c n)):=rfl
def yx7l:CE:=.val yzq0
@[simp] theorem yex8 {args:List Value} {h:H} {K:K1}:CE.run yx7l args h K=u_opt (yzq0 args) fun v=>K v h:=rfl
theorem yyvw (args:List Value) (h:H) (K:K1) (hr:CE.run yx7l args h K):AM.Spec PG yl5e args h K:=by
 rw [yex8] at hr
 unfold yzq0 at hr
 split at hr
 ·exact ygjp hr
 ·exact hr.elim
def E1:CT:=ctOf [(yvsl,ya8v),(y4iq,yhwx),(y7ff,y2dd),(yij4,yabu),(y5fh,yfwc),(yal3,yci3),(yhez,ygp9),(yb75,yuz9),(youq,y3yw),(y83g,yda5),(yh9b,ybj2),(ylpv,yfgb),(y26d,ypz4),(y2sp,ym1f),(yhx2,ys83),(yiyf,yxqp),(yzu0,yxpp),(ymkc,ythy),(yr2c,yr9w),(y4ct,yyxh),(yl5e,yx7l)] ct0
theorem E1_ok:CTOk PG E1:=yko4 ct0_ok (by
 intro x hx
 simp only [List.mem_cons,List.not_mem_nil,or_false] at hx
 rcases hx with rfl | rfl | rfl | rfl | rfl | rfl | rfl | rfl | rfl | rfl | rfl | rfl | rfl | rfl | rfl | rfl | rfl | rfl | rfl | rfl | rfl
 ·exact y2t8
 ·exact y6k1
 ·exact ytwt
 ·exact ylm1
 ·exact y1vp
 ·exact y99r
 ·exact y5jv
 ·exact yefq
 ·exact ynwr
 ·exact yqcz
 ·exact yyvl
 ·exact yqaa
 ·exact yw6r
 ·exact ymo7
 ·exact yri1
 ·exact ydat
 ·exact y64x
 ·exact yel9
 ·exact ybg8
 ·exact y08x
 ·exact yyvw)
end Go.Proofs.YtnckimioabkheaaGreat
set_option linter.unusedVariables false
set_option linter.unusedSimpArgs false
set_option maxRecDepth 100000
set_option maxHeartbeats 2000000
namespace Go.Proofs.YtnckimioabkheaaGreat
open Go.Proofs.YtnckimioabkheaaGreat.AM
@[simp] theorem y07t {a0:Int} {a1:Int} {a2:Int} {a3:Int} {K:Value→Prop} {u:Dm K}:ysnr PG yuil [(0,.int .u8 a0),(1,.int .u8 a1),(2,.int .u8 a2),(3,.int .u8 a3)] K u=K (.agg #[.int .u8 a0,.int .u8 a1,.int .u8 a2,.int .u8 a3]):=by kernel_rfl
def yo5k (x0 x8:Value) (h:H) (Kn Kr:K2):Prop :=
 u_new [.int .u8 0,.int .u8 0,.int .u8 0,.int .u8 0] yuil .exact h fun b2 h=>ysnr PG yuil [(0,x0),(1,x0),(2,x0),(3,x0)] fun v7=>ylel 4 (.pointer (some ⟨b2,0,none⟩)) v7 h fun h=>Kr (.pointer (some ⟨b2,0,none⟩)) x8 h
theorem yus4 {Kn Kr:K2} {t:T} {h:H} (H0:yo5k (t 0) (t 8) h Kn Kr):Wp PG 8 (ygjk Tryz.f294.body) (mkQ (q2 Kn 2 8) (q2 Kr 2 8) ke0) t h :=
 (wpE E1_ok H0)
def y0mf (x0:Value) (h:H) (Q:K1):Prop:=yo5k x0 undef h (fun y2 y8 h=>o_ret y8 h (fun h=>ybqh true 4 y2 h fun v=>Q v h)) (fun y2 y8 h=>o_ret y8 h (fun h=>ybqh true 4 y2 h fun v=>Q v h))
theorem ylm8 (x0:Value) (h:H) (Q:K1) (H0:y0mf x0 h Q):AM.Spec PG yshz [x0] h Q :=
 spC mixed Tryz.func294 2 54 true 4 (yus4 H0)
theorem ycqh {l:Int} {K:K1} {h:H} (hk:K (.agg #[.int .u8 l,.int .u8 l,.int .u8 l,.int .u8 l]) h):AM.Spec PG yshz [.int .u8 l] h K:=by
 refine yz7m (fun K hk=>?_) hk
 refine ylm8 _ _ _ ?_
 simp (config:={contextual:=true,dsimp:=false,maxSteps:=1000000}) [↓y88o,↓y0mf,↓yo5k]
 all_goals (intros;repeat' (refine ite_i (fun _=>?_) (fun _=>?_)))
 all_goals refine fin hk (by repeat (first | exact Sub.refl _ | refine Sub.upd ?_ (by assumption))) ?_
 all_goals rfl
def ylpp (args:List Value):Option Value:=match args with
 | [.int .u8 l]=>some (.agg #[.int .u8 l,.int .u8 l,.int .u8 l,.int .u8 l])
 | _=>none
@[simp] theorem yb84 {l:Int}:ylpp [.int .u8 l]=some (.agg #[.int .u8 l,.int .u8 l,.int .u8 l,.int .u8 l]):=rfl
def y70b:CE:=.val ylpp
@[simp] theorem yd4b {args:List Value} {h:H} {K:K1}:CE.run y70b args h K=u_opt (ylpp args) fun v=>K v h:=rfl
theorem y7w8 (args:List Value) (h:H) (K:K1) (hr:CE.run y70b args h K):AM.Spec PG yshz args h K:=by
 rw [yd4b] at hr
 unfold ylpp at hr
 split at hr
 ·exact ycqh hr
 ·exact hr.elim
def yaad (x2 x3 x4 x5 x6 x19:Value) (h:H) (Kn:K5) (Kr:K2) (Ke1:K5) (Ke0:K3):Prop :=
 u_ix false 1 (some 4) x2 x5 h fun v11=>u_ix false 1 (some 4) x3 x5 h fun v14=>u_bin PG .or yoj6 v11 v14 fun v15=>yji6 (some 4) 1 x2 x5 fun v16=>ylel 1 v16 v15 h fun h=>Kn x2 x3 x4 x6 x19 h
def yg38 (x2 x3 x4 x6 x19:Value) (h:H) (Kn:K5) (Kr:K2) (Ke1:K5) (Ke0:K3):Prop :=
 yaad x2 x3 x4 x6 x6 x19 h Kn Kr Ke1 Ke0
def ybwz (x2 x3 x4 x6 x19:Value) (h:H) (Kn:K5) (Kr:K2) (Ke0:K3):Prop :=
 yg38 x2 x3 x4 x6 x19 h Kn Kr Kn Ke0
def y56i (x2 x3 x4 x6 x19:Value) (h:H) (Kn:K5) (Kr:K2) (Ke0:K3):Prop :=
 u_bin PG .add T_int x6 (.int .i64 1) fun v17=>Kn x2 x3 x4 v17 x19 h
def yfee (x2 x3 x4 x6 x19:Value) (h:H) (Kn:K5) (Kr:K2) (Ke0:K3):Prop :=
 ybwz x2 x3 x4 x6 x19 h (fun y2 y3 y4 y6 y19 h=>y56i y2 y3 y4 y6 y19 h Kn Kr Ke0) Kr Ke0
def yqr6 (x2 x3 x4 x6 x19:Value) (h:H) (Kn:K5) (Kr:K2) (Ke0:K3):Prop :=
 u_bin PG .lss T_int x6 (.int .i64 4) fun v7=>u_if v7 (yfee x2 x3 x4 x6 x19 h Kn Kr Ke0) (Ke0 x2 x4 x19 h)
def ycj1 (x2 x3 x4 x6 x19:Value) (h:H) (Kn:K3) (Kr:K2) (Ke0:K3):Prop :=
 uloop (S:=Value×Value×Value×Value×Value) (fun s h K=>yqr6 s.1 s.2.1 s.2.2.1 s.2.2.2.1 s.2.2.2.2 h (fun y2 y3 y4 y6 y19 h=>K (y2,y3,y4,y6,y19) h) Kr Ke0) 5 (x2,x3,x4,x6,x19) h
def y57d (x2 x3 x4 x6 x19:Value) (h:H) (Kn:K3) (Kr:K2):Prop :=
 ycj1 x2 x3 x4 x6 x19 h Kn Kr Kn
def y4zc (x2 x3 x4 x19:Value) (h:H) (Kn:K3) (Kr:K2):Prop :=
 y57d x2 x3 x4 (.int .i64 0) x19 h Kn Kr
def ycn7 (x2 x4 x19:Value) (h:H) (Kn Kr:K2):Prop :=
 ybqh true 4 x2 h fun v18=>ylel 4 x4 v18 h fun h=>Kr x4 x19 h
def ygpu (x2 x3 x4 x19:Value) (h:H) (Kn Kr:K2):Prop :=
 y4zc x2 x3 x4 x19 h (fun y2 y4 y19 h=>ycn7 y2 y4 y19 h Kn Kr) Kr
def yba4 (x0 x1 x19:Value) (h:H) (Kn Kr:K2):Prop :=
 boxV x0=true∧u_new (Value.cells x0).toList yuil .exact h fun b2 h=>boxV x1=true∧u_new (Value.cells x1).toList yuil .exact h fun b3 h=>u_new [.int .u8 0,.int .u8 0,.int .u8 0,.int .u8 0] yuil .exact h fun b4 h=>ygpu (.pointer (some ⟨b2,0,none⟩)) (.pointer (some ⟨b3,0,none⟩)) (.pointer (some ⟨b4,0,none⟩)) x19 h Kn Kr
theorem ysfu {Kn:K5} {Kr:K2} {Ke0:K3} {t:T} {h:H} (H0:ybwz (t 2) (t 3) (t 4) (t 6) (t 19) h Kn Kr Ke0):Wp PG 19 (seqL (rest 2 (lopC (blkC (rest 1 (seqL (rest 1 (ygjk Tryz.f293.body)))))))) (mkQ (q5 Kn 2 3 4 6 19) (q2 Kr 4 19) (keAdd 0 (q3 Ke0 2 4 19) ke0)) t h :=
 (bkE 1 (toE E1_ok 1 H0 fun t h (H:yaad (t 2) (t 3) (t 4) (t 5) (t 6) (t 19) h Kn Kr Kn Ke0)=>(drE E1_ok [0,1,2,3,4,5,6,7,8] H)))
theorem yzc0 {Kn:K3} {Kr:K2} {t:T} {h:H} (H0:y4zc (t 2) (t 3) (t 4) (t 19) h Kn Kr):Wp PG 19 (seqL (rest 1 (ygjk Tryz.f293.body))) (mkQ (q3 Kn 2 4 19) (q2 Kr 4 19) ke0) t h :=
 (toE E1_ok 1 H0 fun t h (H:y57d (t 2) (t 3) (t 4) (t 6) (t 19) h Kn Kr)=>(bkE 0 (lpN (b:=fun s h K=>yqr6 s.1 s.2.1 s.2.2.1 s.2.2.2.1 s.2.2.2.2 h (fun y2 y3 y4 y6 y19 h=>K (y2,y3,y4,y6,y19) h) Kr Kn) 5 (fun t=>(t 2,t 3,t 4,t 6,t 19)) H fun t h K H=>(toE E1_ok 2 H fun t h (H:yfee (t 2) (t 3) (t 4) (t 6) (t 19) h (fun y2 y3 y4 y6 y19 h=>K (y2,y3,y4,y6,y19) h) Kr Kn)=>(sqE _ (ysfu H) fun t h H=>(wpE E1_ok H))))))
theorem yswv {Kn Kr:K2} {t:T} {h:H} (H0:yba4 (t 0) (t 1) (t 19) h Kn Kr):Wp PG 19 (ygjk Tryz.f293.body) (mkQ (q2 Kn 4 19) (q2 Kr 4 19) ke0) t h :=
 (toE E1_ok 1 H0 fun t h (H:ygpu (t 2) (t 3) (t 4) (t 19) h Kn Kr)=>(sqE _ (yzc0 H) fun t h H=>(wpE E1_ok H)))
def y9y5 (x0 x1:Value) (h:H) (Q:K1):Prop:=yba4 x0 x1 undef h (fun y4 y19 h=>o_ret y19 h (fun h=>ybqh true 4 y4 h fun v=>Q v h)) (fun y4 y19 h=>o_ret y19 h (fun h=>ybqh true 4 y4 h fun v=>Q v h))
theorem yjmu (x0 x1:Value) (h:H) (Q:K1) (H0:y9y5 x0 x1 h Q):AM.Spec PG ygqx [x0,x1] h Q :=
 spC mixed Tryz.func293 4 54 true 4 (yswv H0)
def yotj (s0 s1 s2 s3 t0 t1 t2 t3:Int):Int:=IntKind.u8.wrap ↑((s0%2^IntKind.u8.bits).toNat ||| (t0%2^IntKind.u8.bits).toNat)
def y528 (s0 s1 s2 s3 t0 t1 t2 t3:Int):Int:=IntKind.u8.wrap ↑((s1%2^IntKind.u8.bits).toNat ||| (t1%2^IntKind.u8.bits).toNat)
def yirl (s0 s1 s2 s3 t0 t1 t2 t3:Int):Int:=IntKind.u8.wrap ↑((s2%2^IntKind.u8.bits).toNat ||| (t2%2^IntKind.u8.bits).toNat)
def yk9z (s0 s1 s2 s3 t0 t1 t2 t3:Int):Int:=IntKind.u8.wrap ↑((s3%2^IntKind.u8.bits).toNat ||| (t3%2^IntKind.u8.bits).toNat)
theorem y3nl {s0 s1 s2 s3 t0 t1 t2 t3:Int} {K:K1} {h:H} (hk:K (.agg #[.int .u8 (yotj s0 s1 s2 s3 t0 t1 t2 t3),.int .u8 (y528 s0 s1 s2 s3 t0 t1 t2 t3),.int .u8 (yirl s0 s1 s2 s3 t0 t1 t2 t3),.int .u8 (yk9z s0 s1 s2 s3 t0 t1 t2 t3)]) h):AM.Spec PG ygqx [.agg #[.int .u8 s0,.int .u8 s1,.int .u8 s2,.int .u8 s3],.agg #[.int .u8 t0,.int .u8 t1,.int .u8 t2,.int .u8 t3]] h K:=by
 refine yz7m (fun K hk=>?_) hk
 refine yjmu _ _ _ _ ?_
 simp (config:={contextual:=true,dsimp:=false,maxSteps:=1000000}) [↓y88o,↓y9y5,↓yba4,↓ygpu,↓y4zc,↓y57d,↓ycj1,↓yqr6,↓yfee,↓ybwz,↓yg38,↓yaad,↓y56i,↓ycn7]
 all_goals (intros;repeat' (refine ite_i (fun _=>?_) (fun _=>?_)))
 all_goals refine fin hk (by repeat (first | exact Sub.refl _ | refine Sub.upd ?_ (by assumption))) ?_
 all_goals first | rfl | (simp only [yotj,y528,yirl,yk9z, *,↓reduceIte];done) | (simp_all [yotj,y528,yirl,yk9z];done) | (simp_all [yotj,y528,yirl,yk9z] <;> omega)
def yx0b (args:List Value):Option Value:=match args with
 | [.agg ⟨[.int .u8 s0,.int .u8 s1,.int .u8 s2,.int .u8 s3]⟩,.agg ⟨[.int .u8 t0,.int .u8 t1,.int .u8 t2,.int .u8 t3]⟩]=>some (.agg #[.int .u8 (yotj s0 s1 s2 s3 t0 t1 t2 t3),.int .u8 (y528 s0 s1 s2 s3 t0 t1 t2 t3),.int .u8 (yirl s0 s1 s2 s3 t0 t1 t2 t3),.int .u8 (yk9z s0 s1 s2 s3 t0 t1 t2 t3)])
 | _=>none
@[simp] theorem yzc2 {s0 s1 s2 s3 t0 t1 t2 t3:Int}:yx0b [.agg #[.int .u8 s0,.int .u8 s1,.int .u8 s2,.int .u8 s3],.agg #[.int .u8 t0,.int .u8 t1,.int .u8 t2,.int .u8 t3]]=some (.agg #[.int .u8 (yotj s0 s1 s2 s3 t0 t1 t2 t3),.int .u8 (y528 s0 s1 s2 s3 t0 t1 t2 t3),.int .u8 (yirl s0 s1 s2 s3 t0 t1 t2 t3),.int .u8 (yk9z s0 s1 s2 s3 t0 t1 t2 t3)]):=rfl
def yj35:CE:=.val yx0b
@[simp] theorem y234 {args:List Value} {h:H} {K:K1}:CE.run yj35 args h K=u_opt (yx0b args) fun v=>K v h:=rfl
theorem ylj8 (args:List Value) (h:H) (K:K1) (hr:CE.run yj35 args h K):AM.Spec PG ygqx args h K:=by
 rw [y234] at hr
 unfold yx0b at hr
 split at hr
 ·exact y3nl hr
 ·exact hr.elim
def y2bq (x1 x2 x3 x18:Value) (h:H) (Kn:K4) (Kr:K2) (Ke1:K4) (Ke0:K3):Prop :=
 u_ix false 1 (some 4) x1 x3 h fun v10=>u_bin PG .sub T_int x3 (.int .i64 1) fun v12=>u_ix false 1 (some 4) x1 v12 h fun v14=>u_bin PG .or yoj6 v10 v14 fun v15=>yji6 (some 4) 1 x1 x3 fun v16=>ylel 1 v16 v15 h fun h=>Kn x1 x2 x3 x18 h
def yda2 (x1 x2 x3 x18:Value) (h:H) (Kn:K4) (Kr:K2) (Ke0:K3):Prop :=
 y2bq x1 x2 x3 x18 h Kn Kr Kn Ke0
def yw4z (x1 x2 x3 x18:Value) (h:H) (Kn:K4) (Kr:K2) (Ke0:K3):Prop :=
 u_bin PG .add T_int x3 (.int .i64 1) fun v7=>Kn x1 x2 v7 x18 h
def ynuy (x1 x2 x3 x18:Value) (h:H) (Kn:K4) (Kr:K2) (Ke0:K3):Prop :=
 yda2 x1 x2 x3 x18 h (fun y1 y2 y3 y18 h=>yw4z y1 y2 y3 y18 h Kn Kr Ke0) Kr Ke0
def yngz (x1 x2 x3 x18:Value) (h:H) (Kn:K4) (Kr:K2) (Ke0:K3):Prop :=
 u_bin PG .lss T_int x3 (.int .i64 4) fun v5=>u_if v5 (ynuy x1 x2 x3 x18 h Kn Kr Ke0) (Ke0 x1 x2 x18 h)
def y6hm (x1 x2 x3 x18:Value) (h:H) (Kn:K3) (Kr:K2) (Ke0:K3):Prop :=
 uloop (S:=Value×Value×Value×Value) (fun s h K=>yngz s.1 s.2.1 s.2.2.1 s.2.2.2 h (fun y1 y2 y3 y18 h=>K (y1,y2,y3,y18) h) Kr Ke0) 5 (x1,x2,x3,x18) h
def yjiu (x1 x2 x3 x18:Value) (h:H) (Kn:K3) (Kr:K2):Prop :=
 y6hm x1 x2 x3 x18 h Kn Kr Kn
def ylbs (x1 x2 x18:Value) (h:H) (Kn:K3) (Kr:K2):Prop :=
 yjiu x1 x2 (.int .i64 1) x18 h Kn Kr
def ywf9 (x1 x2 x18:Value) (h:H) (Kn Kr:K2):Prop :=
 ybqh true 4 x1 h fun v17=>ylel 4 x2 v17 h fun h=>Kr x2 x18 h
def y6hu (x1 x2 x18:Value) (h:H) (Kn Kr:K2):Prop :=
 ylbs x1 x2 x18 h (fun y1 y2 y18 h=>ywf9 y1 y2 y18 h Kn Kr) Kr
def yqv0 (x0 x18:Value) (h:H) (Kn Kr:K2):Prop :=
 boxV x0=true∧u_new (Value.cells x0).toList yuil .exact h fun b1 h=>u_new [.int .u8 0,.int .u8 0,.int .u8 0,.int .u8 0] yuil .exact h fun b2 h=>y6hu (.pointer (some ⟨b1,0,none⟩)) (.pointer (some ⟨b2,0,none⟩)) x18 h Kn Kr
theorem y14m {Kn:K3} {Kr:K2} {Ke0:K3} {t:T} {h:H} (H0:y6hm (t 1) (t 2) (t 3) (t 18) h Kn Kr Ke0):Wp PG 18 (blkC (rest 1 (seqL (rest 1 (ygjk Tryz.f320.body))))) (mkQ (q3 Kn 1 2 18) (q2 Kr 2 18) (keAdd 0 (q3 Ke0 1 2 18) ke0)) t h :=
 (lpN (b:=fun s h K=>yngz s.1 s.2.1 s.2.2.1 s.2.2.2 h (fun y1 y2 y3 y18 h=>K (y1,y2,y3,y18) h) Kr Ke0) 5 (fun t=>(t 1,t 2,t 3,t 18)) H0 fun t h K H=>(toE E1_ok 1 H fun t h (H:ynuy (t 1) (t 2) (t 3) (t 18) h (fun y1 y2 y3 y18 h=>K (y1,y2,y3,y18) h) Kr Ke0)=>(sqE (q4 (fun y1 y2 y3 y18 h=>yw4z y1 y2 y3 y18 h (fun y1 y2 y3 y18 h=>K (y1,y2,y3,y18) h) Kr Ke0) 1 2 3 18) (bkE 1 (drE E1_ok [0,1,2,3,4,5,6,7,8,9] H)) fun t h H=>(wpE E1_ok H))))
theorem ydly {Kn Kr:K2} {t:T} {h:H} (H0:yqv0 (t 0) (t 18) h Kn Kr):Wp PG 18 (ygjk Tryz.f320.body) (mkQ (q2 Kn 2 18) (q2 Kr 2 18) ke0) t h :=
 (toE E1_ok 1 H0 fun t h (H:y6hu (t 1) (t 2) (t 18) h Kn Kr)=>(sqE (q3 (fun y1 y2 y18 h=>ywf9 y1 y2 y18 h Kn Kr) 1 2 18) (toE E1_ok 1 H fun t h (H:yjiu (t 1) (t 2) (t 3) (t 18) h (fun y1 y2 y18 h=>ywf9 y1 y2 y18 h Kn Kr) Kr)=>(bkE 0 (y14m H))) fun t h H=>(wpE E1_ok H)))
def yg75 (x0:Value) (h:H) (Q:K1):Prop:=yqv0 x0 undef h (fun y2 y18 h=>o_ret y18 h (fun h=>ybqh true 4 y2 h fun v=>Q v h)) (fun y2 y18 h=>o_ret y18 h (fun h=>ybqh true 4 y2 h fun v=>Q v h))
theorem ybtm (x0:Value) (h:H) (Q:K1) (H0:yg75 x0 h Q):AM.Spec PG ypcm [x0] h Q :=
 spC mixed Tryz.func320 2 54 true 4 (ydly H0)
def yz5x (t0 t1 t2 t3:Int):Int:=IntKind.u8.wrap ↑((t1%2^IntKind.u8.bits).toNat ||| (t0%2^IntKind.u8.bits).toNat)
def y71z (t0 t1 t2 t3:Int):Int:=IntKind.u8.wrap ↑((t2%2^IntKind.u8.bits).toNat ||| (IntKind.u8.wrap ↑((t1%2^IntKind.u8.bits).toNat ||| (t0%2^IntKind.u8.bits).toNat)%2^IntKind.u8.bits).toNat)
def yuu6 (t0 t1 t2 t3:Int):Int:=IntKind.u8.wrap ↑((t3%2^IntKind.u8.bits).toNat ||| (IntKind.u8.wrap ↑((t2%2^IntKind.u8.bits).toNat ||| (IntKind.u8.wrap ↑((t1%2^IntKind.u8.bits).toNat ||| (t0%2^IntKind.u8.bits).toNat)%2^IntKind.u8.bits).toNat)%2^IntKind.u8.bits).toNat)
theorem y1qg {t0 t1 t2 t3:Int} {K:K1} {h:H} (hk:K (.agg #[.int .u8 t0,.int .u8 (yz5x t0 t1 t2 t3),.int .u8 (y71z t0 t1 t2 t3),.int .u8 (yuu6 t0 t1 t2 t3)]) h):AM.Spec PG ypcm [.agg #[.int .u8 t0,.int .u8 t1,.int .u8 t2,.int .u8 t3]] h K:=by
 refine yz7m (fun K hk=>?_) hk
 refine ybtm _ _ _ ?_
 simp (config:={contextual:=true,dsimp:=false,maxSteps:=1000000}) [↓y88o,↓yg75,↓yqv0,↓y6hu,↓ylbs,↓yjiu,↓y6hm,↓yngz,↓ynuy,↓yda2,↓y2bq,↓yw4z,↓ywf9]
 all_goals (intros;repeat' (refine ite_i (fun _=>?_) (fun _=>?_)))
 all_goals refine fin hk (by repeat (first | exact Sub.refl _ | refine Sub.upd ?_ (by assumption))) ?_
 all_goals first | rfl | (simp only [yz5x,y71z,yuu6, *,↓reduceIte];done) | (simp_all [yz5x,y71z,yuu6];done) | (simp_all [yz5x,y71z,yuu6] <;> omega)
def yfwb (args:List Value):Option Value:=match args with
 | [.agg ⟨[.int .u8 t0,.int .u8 t1,.int .u8 t2,.int .u8 t3]⟩]=>some (.agg #[.int .u8 t0,.int .u8 (yz5x t0 t1 t2 t3),.int .u8 (y71z t0 t1 t2 t3),.int .u8 (yuu6 t0 t1 t2 t3)])
 | _=>none
@[simp] theorem yc6f {t0 t1 t2 t3:Int}:yfwb [.agg #[.int .u8 t0,.int .u8 t1,.int .u8 t2,.int .u8 t3]]=some (.agg #[.int .u8 t0,.int .u8 (yz5x t0 t1 t2 t3),.int .u8 (y71z t0 t1 t2 t3),.int .u8 (yuu6 t0 t1 t2 t3)]):=rfl
def yykz:CE:=.val yfwb
@[simp] theorem yhig {args:List Value} {h:H} {K:K1}:CE.run yykz args h K=u_opt (yfwb args) fun v=>K v h:=rfl
theorem ywpx (args:List Value) (h:H) (K:K1) (hr:CE.run yykz args h K):AM.Spec PG ypcm args h K:=by
 rw [yhig] at hr
 unfold yfwb at hr
 split at hr
 ·exact y1qg hr
 ·exact hr.elim
def y0vn (x0:Value) (h:H) (Kn Kr:K1):Prop :=
 boxV x0=true∧u_new (Value.cells x0).toList ym0k .exact h fun b1 h=>u_bf false 1 0 (.pointer (some ⟨b1,0,none⟩)) h fun v4=>y2x6 .u64 v4 fun v5=>u_bf false 1 1 (.pointer (some ⟨b1,0,none⟩)) h fun v7=>y2x6 .u64 v7 fun v8=>u_bin PG .add yxjj v5 v8 fun v9=>u_bin PG .add yxjj v9 (.int .u64 256) fun v10=>u_bin PG .sub yxjj v10 (.int .u64 1) fun v11=>u_bin PG .quo yxjj v11 (.int .u64 256) fun v12=>u_bin PG .mul yxjj v12 (.int .u64 256) fun v13=>Kr v13 h
def ydz7 (x0:Value) (h:H) (Q:K1):Prop:=y0vn x0 h Q Q
theorem yren (x0:Value) (h:H) (Q:K1) (H0:ydz7 x0 h Q):AM.Spec PG ys0o [x0] h Q :=
 spE mixed E1_ok Tryz.func310 [2] H0
def ywor (a n p:Int) (za:Option Addr) (zn zc:Nat):Int:=IntKind.u64.wrap (IntKind.u64.wrap ((IntKind.u64.wrap (IntKind.u64.wrap (IntKind.u64.wrap (IntKind.u64.wrap a+IntKind.u64.wrap n)+256)-1)).tdiv 256)*256)
theorem youm {a n p:Int} {za:Option Addr} {zn zc:Nat} {K:K1} {h:H} (hk:K (.int .u64 (ywor a n p za zn zc)) h):AM.Spec PG ys0o [.agg #[.int .u32 a,.int .u32 n,.int .i64 p,.slice za zn zc]] h K:=by
 refine yz7m (fun K hk=>?_) hk
 refine yren _ _ _ ?_
 simp (config:={contextual:=true,dsimp:=false,maxSteps:=1000000}) [↓y88o,↓ydz7,↓y0vn]
 all_goals (intros;repeat' (refine ite_i (fun _=>?_) (fun _=>?_)))
 all_goals refine fin hk (by repeat (first | exact Sub.refl _ | refine Sub.upd ?_ (by assumption))) ?_
 all_goals first | rfl | (simp only [ywor, *,↓reduceIte];done) | (simp_all [ywor];done) | (simp_all [ywor] <;> omega)
def y26p (args:List Value):Option Value:=match args with
 | [.agg ⟨[.int .u32 a,.int .u32 n,.int .i64 p,.slice za zn zc]⟩]=>some (.int .u64 (ywor a n p za zn zc))
 | _=>none
@[simp] theorem yt4t {a n p:Int} {za:Option Addr} {zn zc:Nat}:y26p [.agg #[.int .u32 a,.int .u32 n,.int .i64 p,.slice za zn zc]]=some (.int .u64 (ywor a n p za zn zc)):=rfl
def y0n6:CE:=.val y26p
@[simp] theorem ygwx {args:List Value} {h:H} {K:K1}:CE.run y0n6 args h K=u_opt (y26p args) fun v=>K v h:=rfl
theorem yd9f (args:List Value) (h:H) (K:K1) (hr:CE.run y0n6 args h K):AM.Spec PG ys0o args h K:=by
 rw [ygwx] at hr
 unfold y26p at hr
 split at hr
 ·exact youm hr
 ·exact hr.elim
def y6ht (x0:Value) (h:H) (Kn Kr:K1):Prop :=
 boxV x0=true∧u_new (Value.cells x0).toList ym0k .exact h fun b1 h=>u_bf false 1 0 (.pointer (some ⟨b1,0,none⟩)) h fun v4=>u_bin PG .rem ycpa v4 (.int .u32 256) fun v5=>u_bin PG .eql ycpa v5 (.int .u32 0) fun v6=>ydv6 v6 true (fun k7=>u_bf false 1 1 (.pointer (some ⟨b1,0,none⟩)) h fun v9=>u_bin PG .gtr ycpa v9 (.int .u32 0) fun v10=>k7 v10 h) (fun v10 h=>y9rg v6 v10 (.bool false) fun v11=>ydv6 v11 true (fun k17=>u_bf false 1 3 (.pointer (some ⟨b1,0,none⟩)) h fun v14=>ywmm v14 fun v15=>y2x6 .u64 v15 fun v16=>u_bf false 1 1 (.pointer (some ⟨b1,0,none⟩)) h fun v18=>y2x6 .u64 v18 fun v19=>u_bin PG .leq yxjj v16 v19 fun v20=>k17 v20 h) (fun v20 h=>y9rg v11 v20 (.bool false) fun v21=>ydv6 v21 true (fun k27=>u_bf false 1 0 (.pointer (some ⟨b1,0,none⟩)) h fun v24=>y2x6 .u64 v24 fun v25=>u_bf false 1 1 (.pointer (some ⟨b1,0,none⟩)) h fun v27=>y2x6 .u64 v27 fun v28=>u_bin PG .add yxjj v25 v28 fun v29=>u_bin PG .leq yxjj v29 (.int .u64 4294967296) fun v30=>k27 v30 h) (fun v30 h=>y9rg v21 v30 (.bool false) fun v31=>ydv6 v31 true (fun k32=>u_bf false 1 2 (.pointer (some ⟨b1,0,none⟩)) h fun v34=>u_bin PG .geq T_int v34 (.int .i64 0) fun v35=>k32 v35 h) (fun v35 h=>y9rg v31 v35 (.bool false) fun v36=>ydv6 v36 true (fun k37=>u_bf false 1 2 (.pointer (some ⟨b1,0,none⟩)) h fun v39=>u_bin PG .leq T_int v39 (.int .i64 7) fun v40=>k37 v40 h) (fun v40 h=>y9rg v36 v40 (.bool false) fun v41=>Kr v41 h) h) h) h) h) h
def yylw (x0:Value) (h:H) (Q:K1):Prop:=y6ht x0 h Q Q
theorem y2lh (x0:Value) (h:H) (Q:K1) (H0:yylw x0 h Q):AM.Spec PG yvnj [x0] h Q :=
 spE mixed E1_ok Tryz.func264 [2] H0
def yaom (a n p:Int) (za:Option Addr) (zn zc:Nat):Bool:=decide (a.tmod 256=0)&&decide (0<n)&&decide (IntKind.u64.wrap ↑zn≤IntKind.u64.wrap n)&&decide (IntKind.u64.wrap (IntKind.u64.wrap a+IntKind.u64.wrap n)≤4294967296)&&decide (0≤p)&&decide (p≤7)
theorem yswy {a n p:Int} {za:Option Addr} {zn zc:Nat} {K:K1} {h:H} (hk:K (.bool (yaom a n p za zn zc)) h):AM.Spec PG yvnj [.agg #[.int .u32 a,.int .u32 n,.int .i64 p,.slice za zn zc]] h K:=by
 refine yz7m (fun K hk=>?_) hk
 refine y2lh _ _ _ ?_
 simp (config:={contextual:=true,dsimp:=false,maxSteps:=1000000}) [↓y88o,↓yylw,↓y6ht]
 all_goals (intros;repeat' (refine ite_i (fun _=>?_) (fun _=>?_)))
 all_goals refine fin hk (by repeat (first | exact Sub.refl _ | refine Sub.upd ?_ (by assumption))) ?_
 all_goals first | rfl | (simp only [yaom, *,↓reduceIte];done) | (simp_all [yaom];done) | (simp_all [yaom] <;> omega)
def yyub (args:List Value):Option Value:=match args with
 | [.agg ⟨[.int .u32 a,.int .u32 n,.int .i64 p,.slice za zn zc]⟩]=>some (.bool (yaom a n p za zn zc))
 | _=>none
@[simp] theorem y4iu {a n p:Int} {za:Option Addr} {zn zc:Nat}:yyub [.agg #[.int .u32 a,.int .u32 n,.int .i64 p,.slice za zn zc]]=some (.bool (yaom a n p za zn zc)):=rfl
def y76m:CE:=.val yyub
@[simp] theorem y183 {args:List Value} {h:H} {K:K1}:CE.run y76m args h K=u_opt (yyub args) fun v=>K v h:=rfl
theorem yc3z (args:List Value) (h:H) (K:K1) (hr:CE.run y76m args h K):AM.Spec PG yvnj args h K:=by
 rw [y183] at hr
 unfold yyub at hr
 split at hr
 ·exact yswy hr
 ·exact hr.elim
def ydc7 (x0:Value) (h:H) (Kn Kr:K1):Prop :=
 y2x6 .i32 x0 fun v4=>u_bin PG .shr yqm3 v4 (.int .u64 31) fun v5=>u_bin PG .shl yqm3 v5 (.int .u64 20) fun v6=>u_ct yfwc [x0,(.int .i64 12),(.int .i64 8)] h fun v8 h=>u_bin PG .shl T_int v8 (.int .u64 12) fun v9=>u_ct yfwc [x0,(.int .i64 20),(.int .i64 1)] h fun v11 h=>u_bin PG .shl T_int v11 (.int .u64 11) fun v12=>u_bin PG .or T_int v9 v12 fun v13=>u_ct yfwc [x0,(.int .i64 21),(.int .i64 10)] h fun v15 h=>u_bin PG .shl T_int v15 (.int .u64 1) fun v16=>u_bin PG .or T_int v13 v16 fun v17=>y2x6 .i32 v17 fun v18=>u_bin PG .or yqm3 v6 v18 fun v19=>Kr v19 h
def y934 (x0:Value) (h:H) (Q:K1):Prop:=ydc7 x0 h Q Q
theorem y3ji (x0:Value) (h:H) (Q:K1) (H0:y934 x0 h Q):AM.Spec PG yzwv [x0] h Q :=
 spE mixed E1_ok Tryz.func228 [2] H0
def yaez (w:Int):Int:=IntKind.i32.wrap ↑((IntKind.i32.wrap ((IntKind.i32.wrap w).fdiv (2^min 31 IntKind.i32.bits)*2^min 20 IntKind.i32.bits)%2^IntKind.i32.bits).toNat ||| (IntKind.i32.wrap (IntKind.i64.wrap ↑((IntKind.i64.wrap ↑((IntKind.i64.wrap (yz4y w 12 8*2^min 12 IntKind.i64.bits)%2^IntKind.i64.bits).toNat ||| (IntKind.i64.wrap (yz4y w 20 1*2^min 11 IntKind.i64.bits)%2^IntKind.i64.bits).toNat)%2^IntKind.i64.bits).toNat ||| (IntKind.i64.wrap (yz4y w 21 10*2^min 1 IntKind.i64.bits)%2^IntKind.i64.bits).toNat))%2^IntKind.i32.bits).toNat)
theorem y5l2 {w:Int} {K:K1} {h:H} (hk:K (.int .i32 (yaez w)) h):AM.Spec PG yzwv [.int .u32 w] h K:=by
 refine yz7m (fun K hk=>?_) hk
 refine y3ji _ _ _ ?_
 simp (config:={contextual:=true,dsimp:=false,maxSteps:=1000000}) [↓y88o,↓y934,↓ydc7]
 all_goals (intros;repeat' (refine ite_i (fun _=>?_) (fun _=>?_)))
 all_goals refine fin hk (by repeat (first | exact Sub.refl _ | refine Sub.upd ?_ (by assumption))) ?_
 all_goals first | rfl | (simp only [yaez, *,↓reduceIte];done) | (simp_all [yaez];done) | (simp_all [yaez] <;> omega)
def y3kq (args:List Value):Option Value:=match args with
 | [.int .u32 w]=>some (.int .i32 (yaez w))
 | _=>none
@[simp] theorem y2h8 {w:Int}:y3kq [.int .u32 w]=some (.int .i32 (yaez w)):=rfl
def yawa:CE:=.val y3kq
@[simp] theorem ylz5 {args:List Value} {h:H} {K:K1}:CE.run yawa args h K=u_opt (y3kq args) fun v=>K v h:=rfl
theorem ynwi (args:List Value) (h:H) (K:K1) (hr:CE.run yawa args h K):AM.Spec PG yzwv args h K:=by
 rw [ylz5] at hr
 unfold y3kq at hr
 split at hr
 ·exact y5l2 hr
 ·exact hr.elim
def ymii (x0:Value) (h:H) (Kn Kr:K1):Prop :=
 y2x6 .i32 x0 fun v4=>u_bin PG .shr yqm3 v4 (.int .u64 31) fun v5=>u_bin PG .shl yqm3 v5 (.int .u64 12) fun v6=>u_ct yfwc [x0,(.int .i64 7),(.int .i64 1)] h fun v8 h=>u_bin PG .shl T_int v8 (.int .u64 11) fun v9=>u_ct yfwc [x0,(.int .i64 25),(.int .i64 6)] h fun v11 h=>u_bin PG .shl T_int v11 (.int .u64 5) fun v12=>u_bin PG .or T_int v9 v12 fun v13=>u_ct yfwc [x0,(.int .i64 8),(.int .i64 4)] h fun v15 h=>u_bin PG .shl T_int v15 (.int .u64 1) fun v16=>u_bin PG .or T_int v13 v16 fun v17=>y2x6 .i32 v17 fun v18=>u_bin PG .or yqm3 v6 v18 fun v19=>Kr v19 h
def yxij (x0:Value) (h:H) (Q:K1):Prop:=ymii x0 h Q Q
theorem y1aj (x0:Value) (h:H) (Q:K1) (H0:yxij x0 h Q):AM.Spec PG y1u0 [x0] h Q :=
 spE mixed E1_ok Tryz.func229 [2] H0
def y5f6 (w:Int):Int:=IntKind.i32.wrap ↑((IntKind.i32.wrap ((IntKind.i32.wrap w).fdiv (2^min 31 IntKind.i32.bits)*2^min 12 IntKind.i32.bits)%2^IntKind.i32.bits).toNat ||| (IntKind.i32.wrap (IntKind.i64.wrap ↑((IntKind.i64.wrap ↑((IntKind.i64.wrap (yz4y w 7 1*2^min 11 IntKind.i64.bits)%2^IntKind.i64.bits).toNat ||| (IntKind.i64.wrap (yz4y w 25 6*2^min 5 IntKind.i64.bits)%2^IntKind.i64.bits).toNat)%2^IntKind.i64.bits).toNat ||| (IntKind.i64.wrap (yz4y w 8 4*2^min 1 IntKind.i64.bits)%2^IntKind.i64.bits).toNat))%2^IntKind.i32.bits).toNat)
theorem y83d {w:Int} {K:K1} {h:H} (hk:K (.int .i32 (y5f6 w)) h):AM.Spec PG y1u0 [.int .u32 w] h K:=by
 refine yz7m (fun K hk=>?_) hk
 refine y1aj _ _ _ ?_
 simp (config:={contextual:=true,dsimp:=false,maxSteps:=1000000}) [↓y88o,↓yxij,↓ymii]
 all_goals (intros;repeat' (refine ite_i (fun _=>?_) (fun _=>?_)))
 all_goals refine fin hk (by repeat (first | exact Sub.refl _ | refine Sub.upd ?_ (by assumption))) ?_
 all_goals first | rfl | (simp only [y5f6, *,↓reduceIte];done) | (simp_all [y5f6];done) | (simp_all [y5f6] <;> omega)
def yolf (args:List Value):Option Value:=match args with
 | [.int .u32 w]=>some (.int .i32 (y5f6 w))
 | _=>none
@[simp] theorem yiet {w:Int}:yolf [.int .u32 w]=some (.int .i32 (y5f6 w)):=rfl
def yjzq:CE:=.val yolf
@[simp] theorem yybt {args:List Value} {h:H} {K:K1}:CE.run yjzq args h K=u_opt (yolf args) fun v=>K v h:=rfl
theorem y9ah (args:List Value) (h:H) (K:K1) (hr:CE.run yjzq args h K):AM.Spec PG y1u0 args h K:=by
 rw [yybt] at hr
 unfold yolf at hr
 split at hr
 ·exact y83d hr
 ·exact hr.elim
def yuyh (x0:Value) (h:H) (Kn Kr:K1):Prop :=
 y2x6 .i32 x0 fun v4=>u_bin PG .shr yqm3 v4 (.int .u64 25) fun v5=>u_bin PG .shl yqm3 v5 (.int .u64 5) fun v6=>u_ct yfwc [x0,(.int .i64 7),(.int .i64 5)] h fun v8 h=>y2x6 .i32 v8 fun v9=>u_bin PG .or yqm3 v6 v9 fun v10=>Kr v10 h
def yz53 (x0:Value) (h:H) (Q:K1):Prop:=yuyh x0 h Q Q
theorem ywkn (x0:Value) (h:H) (Q:K1) (H0:yz53 x0 h Q):AM.Spec PG ykbd [x0] h Q :=
 spE mixed E1_ok Tryz.func230 [2] H0
def y8ox (w:Int):Int:=IntKind.i32.wrap ↑((IntKind.i32.wrap ((IntKind.i32.wrap w).fdiv (2^min 25 IntKind.i32.bits)*2^min 5 IntKind.i32.bits)%2^IntKind.i32.bits).toNat ||| (IntKind.i32.wrap (yz4y w 7 5)%2^IntKind.i32.bits).toNat)
theorem y3ad {w:Int} {K:K1} {h:H} (hk:K (.int .i32 (y8ox w)) h):AM.Spec PG ykbd [.int .u32 w] h K:=by
 refine yz7m (fun K hk=>?_) hk
 refine ywkn _ _ _ ?_
 simp (config:={contextual:=true,dsimp:=false,maxSteps:=1000000}) [↓y88o,↓yz53,↓yuyh]
 all_goals (intros;repeat' (refine ite_i (fun _=>?_) (fun _=>?_)))
 all_goals refine fin hk (by repeat (first | exact Sub.refl _ | refine Sub.upd ?_ (by assumption))) ?_
 all_goals first | rfl | (simp only [y8ox, *,↓reduceIte];done) | (simp_all [y8ox];done) | (simp_all [y8ox] <;> omega)
def ykuc (args:List Value):Option Value:=match args with
 | [.int .u32 w]=>some (.int .i32 (y8ox w))
 | _=>none
@[simp] theorem y2qa {w:Int}:ykuc [.int .u32 w]=some (.int .i32 (y8ox w)):=rfl
def yiso:CE:=.val ykuc
@[simp] theorem ygqp {args:List Value} {h:H} {K:K1}:CE.run yiso args h K=u_opt (ykuc args) fun v=>K v h:=rfl
theorem ydrf (args:List Value) (h:H) (K:K1) (hr:CE.run yiso args h K):AM.Spec PG ykbd args h K:=by
 rw [ygqp] at hr
 unfold ykuc at hr
 split at hr
 ·exact y3ad hr
 ·exact hr.elim
def yobp (x0:Value) (h:H) (Kn Kr:K1):Prop :=
 boxV x0=true∧u_new (Value.cells x0).toList yq0s .exact h fun b1 h=>u_bf false 1 0 (.pointer (some ⟨b1,0,none⟩)) h fun v4=>yi4e PG T_int v4 [(.int .i64 1),(.int .i64 8),(.int .i64 10),(.int .i64 12)] fun w5=>u_if w5 (Kr (.bool true) h) (yi4e PG T_int v4 [(.int .i64 2),(.int .i64 14)] fun w10=>u_if w10 (u_bf false 1 4 (.pointer (some ⟨b1,0,none⟩)) h fun v14=>u_bin PG .leq ycpa v14 (.int .u32 31) fun v15=>Kr v15 h) (yi4e PG T_int v4 [(.int .i64 3),(.int .i64 15)] fun w16=>u_if w16 (u_bf false 1 4 (.pointer (some ⟨b1,0,none⟩)) h fun v20=>u_bin PG .geq ycpa v20 (.int .u32 1) fun v21=>ydv6 v21 true (fun k6=>u_bf false 1 4 (.pointer (some ⟨b1,0,none⟩)) h fun v24=>u_bin PG .leq ycpa v24 (.int .u32 31) fun v25=>k6 v25 h) (fun v25 h=>y9rg v21 v25 (.bool false) fun v26=>Kr v26 h) h) (yi4e PG T_int v4 [(.int .i64 4),(.int .i64 16)] fun w27=>u_if w27 (u_bf false 1 4 (.pointer (some ⟨b1,0,none⟩)) h fun v31=>u_bin PG .leq ycpa v31 (.int .u32 17) fun v32=>Kr v32 h) (u_bin PG .eql T_int v4 (.int .i64 5) fun v34=>u_if v34 (u_bf false 1 4 (.pointer (some ⟨b1,0,none⟩)) h fun v36=>u_bin PG .leq ycpa v36 (.int .u32 7) fun v37=>ydv6 v37 true (fun k6=>u_bf false 1 4 (.pointer (some ⟨b1,0,none⟩)) h fun v40=>u_bin PG .neq ycpa v40 (.int .u32 2) fun v41=>k6 v41 h) (fun v41 h=>y9rg v37 v41 (.bool false) fun v42=>ydv6 v42 true (fun k11=>u_bf false 1 4 (.pointer (some ⟨b1,0,none⟩)) h fun v45=>u_bin PG .neq ycpa v45 (.int .u32 3) fun v46=>k11 v46 h) (fun v46 h=>y9rg v42 v46 (.bool false) fun v47=>Kr v47 h) h) h) (yi4e PG T_int v4 [(.int .i64 6),(.int .i64 17)] fun w48=>u_if w48 (u_bf false 1 4 (.pointer (some ⟨b1,0,none⟩)) h fun v52=>u_ct yfgb [v52] h fun v53 h=>ydv6 v53 false (fun k6=>u_bf false 1 4 (.pointer (some ⟨b1,0,none⟩)) h fun v56=>u_bin PG .eql ycpa v56 (.int .u32 9) fun v57=>k6 v57 h) (fun v57 h=>y9rg v53 (.bool true) v57 fun v58=>ydv6 v58 false (fun k11=>u_bf false 1 4 (.pointer (some ⟨b1,0,none⟩)) h fun v61=>u_bin PG .eql ycpa v61 (.int .u32 10) fun v62=>k11 v62 h) (fun v62 h=>y9rg v58 (.bool true) v62 fun v63=>Kr v63 h) h) h) (yi4e PG T_int v4 [(.int .i64 7),(.int .i64 18)] fun w64=>u_if w64 (u_bf false 1 4 (.pointer (some ⟨b1,0,none⟩)) h fun v68=>u_ct yfgb [v68] h fun v69 h=>Kr v69 h) (u_bin PG .eql T_int v4 (.int .i64 13) fun v71=>u_if v71 (u_bf false 1 4 (.pointer (some ⟨b1,0,none⟩)) h fun v73=>u_bin PG .eql ycpa v73 (.int .u32 2) fun v74=>ydv6 v74 false (fun k6=>u_bf false 1 4 (.pointer (some ⟨b1,0,none⟩)) h fun v77=>u_bin PG .eql ycpa v77 (.int .u32 5) fun v78=>k6 v78 h) (fun v78 h=>y9rg v74 (.bool true) v78 fun v79=>ydv6 v79 false (fun k11=>u_bf false 1 4 (.pointer (some ⟨b1,0,none⟩)) h fun v82=>u_bin PG .eql ycpa v82 (.int .u32 6) fun v83=>k11 v83 h) (fun v83 h=>y9rg v79 (.bool true) v83 fun v84=>Kr v84 h) h) h) (u_bin PG .eql T_int v4 (.int .i64 20) fun v86=>u_if v86 (u_bf false 1 4 (.pointer (some ⟨b1,0,none⟩)) h fun v88=>u_bin PG .geq ycpa v88 (.int .u32 1) fun v89=>ydv6 v89 true (fun k6=>u_bf false 1 4 (.pointer (some ⟨b1,0,none⟩)) h fun v92=>u_bin PG .leq ycpa v92 (.int .u32 3) fun v93=>k6 v93 h) (fun v93 h=>y9rg v89 v93 (.bool false) fun v94=>Kr v94 h) h) (u_bf false 1 4 (.pointer (some ⟨b1,0,none⟩)) h fun v96=>u_bin PG .eql ycpa v96 (.int .u32 0) fun v97=>Kr v97 h)))))))))
theorem yk4z {Kn Kr:K1} {t:T} {h:H} (H0:yobp (t 0) h Kn Kr):Wp PG 98 (ygjk Tryz.f164.body) (mkQ (q1 Kn 2) (q1 Kr 2) ke0) t h :=
 (wpE E1_ok H0)
def ylrp (x0:Value) (h:H) (Q:K1):Prop:=yobp x0 h Q Q
theorem yt6j (x0:Value) (h:H) (Q:K1) (H0:ylrp x0 h Q):AM.Spec PG ykgs [x0] h Q :=
 spH mixed Tryz.func164 [2] (yk4z H0)
def y11l (o t a b v:Int):Bool:=if ((o=1∨o=8)∨o=10)∨o=12 then true else if o=2∨o=14 then decide (v≤31) else if o=3∨o=15 then decide (1≤v)&&decide (v≤31) else if o=4∨o=16 then decide (v≤17) else if o=5 then decide (v≤7)&&!decide (v=2)&&!decide (v=3) else if o=6∨o=17 then y4mc v||decide (v=9)||decide (v=10) else if o=7∨o=18 then y4mc v else if o=13 then decide (v=2)||decide (v=5)||decide (v=6) else if o=20 then decide (1≤v)&&decide (v≤3) else decide (v=0)
theorem yt0d {o t a b v:Int} {K:K1} {h:H} (hk:K (.bool (y11l o t a b v)) h):AM.Spec PG ykgs [.agg #[.int .i64 o,.int .i64 t,.int .i64 a,.int .i64 b,.int .u32 v]] h K:=by
 refine yz7m (fun K hk=>?_) hk
 refine yt6j _ _ _ ?_
 simp (config:={contextual:=true,dsimp:=false,maxSteps:=1000000}) [↓y88o,↓ylrp,↓yobp]
 all_goals (intros;repeat' (refine ite_i (fun _=>?_) (fun _=>?_)))
 all_goals refine fin hk (by repeat (first | exact Sub.refl _ | refine Sub.upd ?_ (by assumption))) ?_
 all_goals first | rfl | (simp only [y11l, *,↓reduceIte];done) | (simp_all [y11l];done) | (simp_all [y11l] <;> omega)
def y0kr (args:List Value):Option Value:=match args with
 | [.agg ⟨[.int .i64 o,.int .i64 t,.int .i64 a,.int .i64 b,.int .u32 v]⟩]=>some (.bool (y11l o t a b v))
 | _=>none
@[simp] theorem ybjv {o t a b v:Int}:y0kr [.agg #[.int .i64 o,.int .i64 t,.int .i64 a,.int .i64 b,.int .u32 v]]=some (.bool (y11l o t a b v)):=rfl
def yswx:CE:=.val y0kr
@[simp] theorem yu6t {args:List Value} {h:H} {K:K1}:CE.run yswx args h K=u_opt (y0kr args) fun v=>K v h:=rfl
theorem yujv (args:List Value) (h:H) (K:K1) (hr:CE.run yswx args h K):AM.Spec PG ykgs args h K:=by
 rw [yu6t] at hr
 unfold y0kr at hr
 split at hr
 ·exact yt0d hr
 ·exact hr.elim
def ytyb (x0 x1 x2:Value) (h:H) (Kn Kr:K2):Prop :=
 u_bin PG .eql T_int x0 (.int .i64 0) fun v10=>u_if v10 (u_bin PG .add ycpa x1 x2 fun v13=>Kr v13 (.bool true) h) (u_bin PG .eql T_int x0 (.int .i64 1) fun v15=>u_if v15 (u_bin PG .sub ycpa x1 x2 fun v18=>Kr v18 (.bool true) h) (u_bin PG .eql T_int x0 (.int .i64 2) fun v20=>u_if v20 (u_bin PG .and ycpa x2 (.int .u32 31) fun v23=>u_bin PG .shl ycpa x1 v23 fun v24=>Kr v24 (.bool true) h) (u_bin PG .eql T_int x0 (.int .i64 6) fun v26=>u_if v26 (u_bin PG .and ycpa x2 (.int .u32 31) fun v29=>u_bin PG .shr ycpa x1 v29 fun v30=>Kr v30 (.bool true) h) (u_bin PG .eql T_int x0 (.int .i64 7) fun v32=>u_if v32 (y2x6 .i32 x1 fun v34=>u_bin PG .and ycpa x2 (.int .u32 31) fun v36=>u_bin PG .shr yqm3 v34 v36 fun v37=>y2x6 .u32 v37 fun v38=>Kr v38 (.bool true) h) (u_bin PG .eql T_int x0 (.int .i64 3) fun v40=>u_if v40 (y2x6 .i32 x1 fun v42=>y2x6 .i32 x2 fun v44=>u_bin PG .lss yqm3 v42 v44 fun v45=>u_ct ys83 [v45] h fun v46 h=>Kr v46 (.bool true) h) (u_bin PG .eql T_int x0 (.int .i64 4) fun v48=>u_if v48 (u_bin PG .lss ycpa x1 x2 fun v51=>u_ct ys83 [v51] h fun v52 h=>Kr v52 (.bool true) h) (u_bin PG .eql T_int x0 (.int .i64 5) fun v54=>u_if v54 (u_bin PG .xor ycpa x1 x2 fun v57=>Kr v57 (.bool true) h) (u_bin PG .eql T_int x0 (.int .i64 8) fun v59=>u_if v59 (u_bin PG .or ycpa x1 x2 fun v62=>Kr v62 (.bool true) h) (u_bin PG .eql T_int x0 (.int .i64 9) fun v64=>u_if v64 (u_bin PG .and ycpa x1 x2 fun v67=>Kr v67 (.bool true) h) (Kr (.int .u32 0) (.bool false) h))))))))))
def yh8e (x0 x1 x2:Value) (h:H) (Q:K1):Prop:=ytyb x0 x1 x2 h (fun y6 y7 h=>bif [y6,y7].all boxV then Q (.tuple #[y6,y7]) h else False) (fun y6 y7 h=>bif [y6,y7].all boxV then Q (.tuple #[y6,y7]) h else False)
theorem yfmf (x0 x1 x2:Value) (h:H) (Q:K1) (H0:yh8e x0 x1 x2 h Q):AM.Spec PG ypz9 [x0,x1,x2] h Q :=
 spE mixed E1_ok Tryz.func260 [6,7] H0
def y6b7 (k a b:Int):Int:=if k=0 then IntKind.u32.wrap (a+b) else if k=1 then IntKind.u32.wrap (a-b) else if k=2 then IntKind.u32.wrap (a*2^min (IntKind.u32.wrap ↑((b%2^IntKind.u32.bits).toNat &&& 31%2^IntKind.u32.bits)).toNat IntKind.u32.bits) else if k=6 then a.fdiv (2^min (IntKind.u32.wrap ↑((b%2^IntKind.u32.bits).toNat &&& 31%2^IntKind.u32.bits)).toNat IntKind.u32.bits) else if k=7 then IntKind.u32.wrap ((IntKind.i32.wrap a).fdiv (2^min (IntKind.u32.wrap ↑((b%2^IntKind.u32.bits).toNat &&& 31%2^IntKind.u32.bits)).toNat IntKind.i32.bits)) else if k=3 then y6sn (decide (IntKind.i32.wrap a<IntKind.i32.wrap b)) else if k=4 then y6sn (decide (a<b)) else if k=5 then IntKind.u32.wrap ↑((a%2^IntKind.u32.bits).toNat ^^^ (b%2^IntKind.u32.bits).toNat) else if k=8 then IntKind.u32.wrap ↑((a%2^IntKind.u32.bits).toNat ||| (b%2^IntKind.u32.bits).toNat) else if k=9 then IntKind.u32.wrap ↑((a%2^IntKind.u32.bits).toNat &&& (b%2^IntKind.u32.bits).toNat) else 0
def yc76 (k a b:Int):Bool:=if k=0 then true else if k=1 then true else if k=2 then true else if k=6 then true else if k=7 then true else if k=3 then true else if k=4 then true else if k=5 then true else if k=8 then true else if k=9 then true else false
theorem ylqm {k a b:Int} {K:K1} {h:H} (hk:K (.tuple #[.int .u32 (y6b7 k a b),.bool (yc76 k a b)]) h):AM.Spec PG ypz9 [.int .i64 k,.int .u32 a,.int .u32 b] h K:=by
 refine yz7m (fun K hk=>?_) hk
 refine yfmf _ _ _ _ _ ?_
 simp (config:={contextual:=true,dsimp:=false,maxSteps:=1000000}) [↓y88o,↓yh8e,↓ytyb]
 all_goals (intros;repeat' (refine ite_i (fun _=>?_) (fun _=>?_)))
 all_goals refine fin hk (by repeat (first | exact Sub.refl _ | refine Sub.upd ?_ (by assumption))) ?_
 all_goals first | rfl | (simp only [y6b7,yc76, *,↓reduceIte];done) | (simp_all [y6b7,yc76];done) | (simp_all [y6b7,yc76] <;> omega)
def yoob (args:List Value):Option Value:=match args with
 | [.int .i64 k,.int .u32 a,.int .u32 b]=>some (.tuple #[.int .u32 (y6b7 k a b),.bool (yc76 k a b)])
 | _=>none
@[simp] theorem y285 {k a b:Int}:yoob [.int .i64 k,.int .u32 a,.int .u32 b]=some (.tuple #[.int .u32 (y6b7 k a b),.bool (yc76 k a b)]):=rfl
def ykbm:CE:=.val yoob
@[simp] theorem yjbm {args:List Value} {h:H} {K:K1}:CE.run ykbm args h K=u_opt (yoob args) fun v=>K v h:=rfl
theorem ylm3 (args:List Value) (h:H) (K:K1) (hr:CE.run ykbm args h K):AM.Spec PG ypz9 args h K:=by
 rw [yjbm] at hr
 unfold yoob at hr
 split at hr
 ·exact ylqm hr
 ·exact hr.elim
def E2:CT:=ctOf [(yshz,y70b),(ygqx,yj35),(ypcm,yykz),(ys0o,y0n6),(yvnj,y76m),(yzwv,yawa),(y1u0,yjzq),(ykbd,yiso),(ykgs,yswx),(ypz9,ykbm)] E1
theorem E2_ok:CTOk PG E2:=yko4 E1_ok (by
 intro x hx
 simp only [List.mem_cons,List.not_mem_nil,or_false] at hx
 rcases hx with rfl | rfl | rfl | rfl | rfl | rfl | rfl | rfl | rfl | rfl
 ·exact y7w8
 ·exact ylj8
 ·exact ywpx
 ·exact yd9f
 ·exact yc3z
 ·exact ynwi
 ·exact y9ah
 ·exact ydrf
 ·exact yujv
 ·exact ylm3)
end Go.Proofs.YtnckimioabkheaaGreat
set_option linter.unusedVariables false
set_option linter.unusedSimpArgs false
set_option maxRecDepth 100000
set_option maxHeartbeats 2000000
namespace Go.Proofs.YtnckimioabkheaaGreat
open Go.Proofs.YtnckimioabkheaaGreat.AM
@[simp] theorem ym2o {a0:Int} {a1:Int} {a2:Int} {K:Value→Prop} {u:Dm K}:ysnr PG y9pv [(0,.int .i64 a0),(1,.int .i64 a1),(2,.int .i64 a2)] K u=K (.agg #[.int .i64 a0,.int .i64 a1,.int .i64 a2,.int .i64 0,.int .i64 0,.int .i64 0,.int .i64 0,.int .i64 0]):=by kernel_rfl
@[simp] theorem yqhn {a0:Int} {a1:Int} {a2:Int} {a3:Int} {a4:Int} {a5:Int} {a6:Int} {a7:Int} {K:Value→Prop} {u:Dm K}:ysnr PG y9pv [(0,.int .i64 a0),(1,.int .i64 a1),(2,.int .i64 a2),(3,.int .i64 a3),(4,.int .i64 a4),(5,.int .i64 a5),(6,.int .i64 a6),(7,.int .i64 a7)] K u=K (.agg #[.int .i64 a0,.int .i64 a1,.int .i64 a2,.int .i64 a3,.int .i64 a4,.int .i64 a5,.int .i64 a6,.int .i64 a7]):=by kernel_rfl
theorem y0z8 {w f m:Int} {k:Nat} (e:(IntKind.u32.wrap (IntKind.u32.wrap (2^min m.toNat IntKind.u32.bits)-1)%2^IntKind.u32.bits).toNat=k) (hk:k<2147483648):0≤yz4y w f m∧yz4y w f m≤k:=by
 unfold yz4y
 rw [e]
 generalize (w.fdiv (2^min f.toNat IntKind.u32.bits)%2^IntKind.u32.bits).toNat=A
 have:=Nat.and_le_right (n:=A) (m:=k)
 rw [w_u32 (by omega) (by omega),w_i64 (by omega) (by omega)]
 omega
theorem yk34 {w f:Int}:0≤yz4y w f 3∧yz4y w f 3≤7:=y0z8 (k:=7) rfl (by omega)
@[simp] theorem y6q5 {w f:Int}:0≤yz4y w f 3:=yk34.1
@[simp] theorem yd73 {w f:Int}:yz4y w f 3<8:=by have:=@yk34 w f;omega
@[simp] theorem y5um {b:Int} (h1:0≤b) (h2:b<4294967296) (hb:¬b=0):(IntKind.i32.wrap b=0)=False:=by
  simp only [IntKind.wrap,IntKind.signed,IntKind.bits,eq_iff_iff,iff_false]
  simp
  split <;> omega
def yb94 (x0:Value) (h:H) (Kn Kr:K1):Prop :=
 ysnr PG y9pv [(0,(.int .i64 5)),(1,(.int .i64 6)),(2,(.int .i64 0)),(3,(.int .i64 0)),(4,(.int .i64 7)),(5,(.int .i64 8)),(6,(.int .i64 9)),(7,(.int .i64 10))] fun v3=>ywq9 false 8 false 1 v3 x0 fun v5=>Kr v5 h
def yz22 (x0:Value) (h:H) (Q:K1):Prop:=yb94 x0 h Q Q
theorem y72m (x0:Value) (h:H) (Q:K1) (H0:yz22 x0 h Q):AM.Spec PG yxof [x0] h Q :=
 spE mixed E2_ok Tryz.func281 [2] H0
def ylht (f:Int):Int:=tab f [5,6,0,0,7,8,9,10]
theorem ytrh {f:Int} (hg:0≤f∧f<8) {K:K1} {h:H} (hk:K (.int .i64 (ylht f)) h):AM.Spec PG yxof [.int .i64 f] h K:=by
 refine yz7m (fun K hk=>?_) hk
 refine y72m _ _ _ ?_
 simp (config:={contextual:=true,dsimp:=false,maxSteps:=1000000}) [↓y88o,↓yz22,↓yb94,hg]
 all_goals (intros;repeat' (refine ite_i (fun _=>?_) (fun _=>?_)))
 all_goals refine fin hk (by repeat (first | exact Sub.refl _ | refine Sub.upd ?_ (by assumption))) ?_
 all_goals first | rfl | (simp only [ylht, *,↓reduceIte];done) | (simp_all [ylht];done) | (simp_all [ylht] <;> omega)
def ys0l (args:List Value):Option Value:=match args with
 | [.int .i64 f]=>if 0≤f∧f<8 then some (.int .i64 (ylht f)) else none
 | _=>none
@[simp] theorem ys0i {f:Int} (hg:0≤f∧f<8):ys0l [.int .i64 f]=some (.int .i64 (ylht f)):=if_pos hg
def y4a5:CE:=.val ys0l
@[simp] theorem y8ra {args:List Value} {h:H} {K:K1}:CE.run y4a5 args h K=u_opt (ys0l args) fun v=>K v h:=rfl
theorem y5wd (args:List Value) (h:H) (K:K1) (hr:CE.run y4a5 args h K):AM.Spec PG yxof args h K:=by
 rw [y8ra] at hr
 unfold ys0l at hr
 split at hr
 ·split at hr
  ·rename_i hg
   exact ytrh hg hr
  ·exact hr.elim
 ·exact hr.elim
def yu51 (x0:Value) (h:H) (Kn Kr:K1):Prop :=
 ysnr PG y9pv [(0,(.int .i64 11)),(1,(.int .i64 12)),(2,(.int .i64 13)),(3,(.int .i64 0)),(4,(.int .i64 14)),(5,(.int .i64 15)),(6,(.int .i64 0)),(7,(.int .i64 0))] fun v3=>ywq9 false 8 false 1 v3 x0 fun v5=>Kr v5 h
def yzeq (x0:Value) (h:H) (Q:K1):Prop:=yu51 x0 h Q Q
theorem ybim (x0:Value) (h:H) (Q:K1) (H0:yzeq x0 h Q):AM.Spec PG y6v8 [x0] h Q :=
 spE mixed E2_ok Tryz.func282 [2] H0
def y74a (f:Int):Int:=tab f [11,12,13,0,14,15,0,0]
theorem yt9z {f:Int} (hg:0≤f∧f<8) {K:K1} {h:H} (hk:K (.int .i64 (y74a f)) h):AM.Spec PG y6v8 [.int .i64 f] h K:=by
 refine yz7m (fun K hk=>?_) hk
 refine ybim _ _ _ ?_
 simp (config:={contextual:=true,dsimp:=false,maxSteps:=1000000}) [↓y88o,↓yzeq,↓yu51,hg]
 all_goals (intros;repeat' (refine ite_i (fun _=>?_) (fun _=>?_)))
 all_goals refine fin hk (by repeat (first | exact Sub.refl _ | refine Sub.upd ?_ (by assumption))) ?_
 all_goals first | rfl | (simp only [y74a, *,↓reduceIte];done) | (simp_all [y74a];done) | (simp_all [y74a] <;> omega)
def y3h3 (args:List Value):Option Value:=match args with
 | [.int .i64 f]=>if 0≤f∧f<8 then some (.int .i64 (y74a f)) else none
 | _=>none
@[simp] theorem yfn3 {f:Int} (hg:0≤f∧f<8):y3h3 [.int .i64 f]=some (.int .i64 (y74a f)):=if_pos hg
def ycb7:CE:=.val y3h3
@[simp] theorem yy1o {args:List Value} {h:H} {K:K1}:CE.run ycb7 args h K=u_opt (y3h3 args) fun v=>K v h:=rfl
theorem y6zm (args:List Value) (h:H) (K:K1) (hr:CE.run ycb7 args h K):AM.Spec PG y6v8 args h K:=by
 rw [yy1o] at hr
 unfold y3h3 at hr
 split at hr
 ·split at hr
  ·rename_i hg
   exact yt9z hg hr
  ·exact hr.elim
 ·exact hr.elim
def y8x9 (x0:Value) (h:H) (Kn Kr:K1):Prop :=
 ysnr PG y9pv [(0,(.int .i64 16)),(1,(.int .i64 17)),(2,(.int .i64 18))] fun v3=>ywq9 false 8 false 1 v3 x0 fun v5=>Kr v5 h
def y5hs (x0:Value) (h:H) (Q:K1):Prop:=y8x9 x0 h Q Q
theorem y1gu (x0:Value) (h:H) (Q:K1) (H0:y5hs x0 h Q):AM.Spec PG y8s2 [x0] h Q :=
 spE mixed E2_ok Tryz.func283 [2] H0
def y4os (f:Int):Int:=tab f [16,17,18,0,0,0,0,0]
theorem ymeo {f:Int} (hg:0≤f∧f<8) {K:K1} {h:H} (hk:K (.int .i64 (y4os f)) h):AM.Spec PG y8s2 [.int .i64 f] h K:=by
 refine yz7m (fun K hk=>?_) hk
 refine y1gu _ _ _ ?_
 simp (config:={contextual:=true,dsimp:=false,maxSteps:=1000000}) [↓y88o,↓y5hs,↓y8x9,hg]
 all_goals (intros;repeat' (refine ite_i (fun _=>?_) (fun _=>?_)))
 all_goals refine fin hk (by repeat (first | exact Sub.refl _ | refine Sub.upd ?_ (by assumption))) ?_
 all_goals first | rfl | (simp only [y4os, *,↓reduceIte];done) | (simp_all [y4os];done) | (simp_all [y4os] <;> omega)
def y0xa (args:List Value):Option Value:=match args with
 | [.int .i64 f]=>if 0≤f∧f<8 then some (.int .i64 (y4os f)) else none
 | _=>none
@[simp] theorem yz8v {f:Int} (hg:0≤f∧f<8):y0xa [.int .i64 f]=some (.int .i64 (y4os f)):=if_pos hg
def y1md:CE:=.val y0xa
@[simp] theorem y5yl {args:List Value} {h:H} {K:K1}:CE.run y1md args h K=u_opt (y0xa args) fun v=>K v h:=rfl
theorem yahq (args:List Value) (h:H) (K:K1) (hr:CE.run y1md args h K):AM.Spec PG y8s2 args h K:=by
 rw [y5yl] at hr
 unfold y0xa at hr
 split at hr
 ·split at hr
  ·rename_i hg
   exact ymeo hg hr
  ·exact hr.elim
 ·exact hr.elim
def y5dk (x0 x1:Value) (h:H) (Kn Kr:K1):Prop :=
 u_bin PG .eql T_int x0 (.int .i64 1) fun v7=>ydv6 v7 true (fun k4=>u_bin PG .eql T_int x1 (.int .i64 0) fun v10=>k4 v10 h) (fun v10 h=>y9rg v7 v10 (.bool false) fun v11=>u_if v11 (Kr (.int .i64 25) h) (u_bin PG .eql T_int x0 (.int .i64 5) fun v14=>ydv6 v14 true (fun k4=>u_bin PG .eql T_int x1 (.int .i64 0) fun v17=>k4 v17 h) (fun v17 h=>y9rg v14 v17 (.bool false) fun v18=>u_if v18 (Kr (.int .i64 26) h) (u_bin PG .eql T_int x0 (.int .i64 5) fun v21=>ydv6 v21 true (fun k4=>u_bin PG .eql T_int x1 (.int .i64 32) fun v24=>k4 v24 h) (fun v24 h=>y9rg v21 v24 (.bool false) fun v25=>u_if v25 (Kr (.int .i64 27) h) (ysnr PG y9pv [(0,(.int .i64 19)),(1,(.int .i64 0)),(2,(.int .i64 20)),(3,(.int .i64 21)),(4,(.int .i64 22)),(5,(.int .i64 0)),(6,(.int .i64 23)),(7,(.int .i64 24))] fun v26=>ywq9 false 8 false 1 v26 x0 fun v28=>Kr v28 h)) h)) h)) h
def yaea (x0 x1:Value) (h:H) (Q:K1):Prop:=y5dk x0 x1 h Q Q
theorem yai7 (x0 x1:Value) (h:H) (Q:K1) (H0:yaea x0 x1 h Q):AM.Spec PG yosk [x0,x1] h Q :=
 spE mixed E2_ok Tryz.func284 [4] H0
def y35s (f t:Int):Int:=if f=1∧t=0 then 25 else if f=5∧t=0 then 26 else if f=5∧t=32 then 27 else tab f [19,0,20,21,22,0,23,24]
theorem y537 {f t:Int} (hg:0≤f∧f<8) {K:K1} {h:H} (hk:K (.int .i64 (y35s f t)) h):AM.Spec PG yosk [.int .i64 f,.int .i64 t] h K:=by
 refine yz7m (fun K hk=>?_) hk
 refine yai7 _ _ _ _ ?_
 simp (config:={contextual:=true,dsimp:=false,maxSteps:=1000000}) [↓y88o,↓yaea,↓y5dk,hg]
 all_goals (intros;repeat' (refine ite_i (fun _=>?_) (fun _=>?_)))
 all_goals refine fin hk (by repeat (first | exact Sub.refl _ | refine Sub.upd ?_ (by assumption))) ?_
 all_goals first | rfl | (simp only [y35s, *,↓reduceIte];done) | (simp_all [y35s];done) | (simp_all [y35s] <;> omega)
def yg8d (args:List Value):Option Value:=match args with
 | [.int .i64 f,.int .i64 t]=>if 0≤f∧f<8 then some (.int .i64 (y35s f t)) else none
 | _=>none
@[simp] theorem y8jd {f t:Int} (hg:0≤f∧f<8):yg8d [.int .i64 f,.int .i64 t]=some (.int .i64 (y35s f t)):=if_pos hg
def y4cl:CE:=.val yg8d
@[simp] theorem yxtx {args:List Value} {h:H} {K:K1}:CE.run y4cl args h K=u_opt (yg8d args) fun v=>K v h:=rfl
theorem ygsh (args:List Value) (h:H) (K:K1) (hr:CE.run y4cl args h K):AM.Spec PG yosk args h K:=by
 rw [yxtx] at hr
 unfold yg8d at hr
 split at hr
 ·split at hr
  ·rename_i hg
   exact y537 hg hr
  ·exact hr.elim
 ·exact hr.elim
def y2fg (x0 x1:Value) (h:H) (Kn Kr:K1):Prop :=
 u_bin PG .eql T_int x1 (.int .i64 0) fun v7=>u_if v7 (ysnr PG y9pv [(0,(.int .i64 28)),(1,(.int .i64 30)),(2,(.int .i64 31)),(3,(.int .i64 32)),(4,(.int .i64 33)),(5,(.int .i64 34)),(6,(.int .i64 36)),(7,(.int .i64 37))] fun v8=>ywq9 false 8 false 1 v8 x0 fun v10=>Kr v10 h) (u_bin PG .eql T_int x1 (.int .i64 1) fun v13=>u_if v13 (u_bin PG .add T_int (.int .i64 38) x0 fun v15=>Kr v15 h) (u_bin PG .eql T_int x1 (.int .i64 32) fun v18=>ydv6 v18 true (fun k4=>u_bin PG .eql T_int x0 (.int .i64 0) fun v21=>k4 v21 h) (fun v21 h=>y9rg v18 v21 (.bool false) fun v22=>u_if v22 (Kr (.int .i64 29) h) (u_bin PG .eql T_int x1 (.int .i64 32) fun v25=>ydv6 v25 true (fun k4=>u_bin PG .eql T_int x0 (.int .i64 5) fun v28=>k4 v28 h) (fun v28 h=>y9rg v25 v28 (.bool false) fun v29=>u_if v29 (Kr (.int .i64 35) h) (Kr (.int .i64 0) h)) h)) h))
def yvqc (x0 x1:Value) (h:H) (Q:K1):Prop:=y2fg x0 x1 h Q Q
theorem yxd6 (x0 x1:Value) (h:H) (Q:K1) (H0:yvqc x0 x1 h Q):AM.Spec PG ye3p [x0,x1] h Q :=
 spE mixed E2_ok Tryz.func285 [4] H0
def ytcn (f t:Int):Int:=if t=0 then tab f [28,30,31,32,33,34,36,37] else if t=1 then IntKind.i64.wrap (38+f) else if t=32∧f=0 then 29 else if t=32∧f=5 then 35 else 0
theorem y9kd {f t:Int} (hg:0≤f∧f<8) {K:K1} {h:H} (hk:K (.int .i64 (ytcn f t)) h):AM.Spec PG ye3p [.int .i64 f,.int .i64 t] h K:=by
 refine yz7m (fun K hk=>?_) hk
 refine yxd6 _ _ _ _ ?_
 simp (config:={contextual:=true,dsimp:=false,maxSteps:=1000000}) [↓y88o,↓yvqc,↓y2fg,hg]
 all_goals (intros;repeat' (refine ite_i (fun _=>?_) (fun _=>?_)))
 all_goals refine fin hk (by repeat (first | exact Sub.refl _ | refine Sub.upd ?_ (by assumption))) ?_
 all_goals first | rfl | (simp only [ytcn, *,↓reduceIte];done) | (simp_all [ytcn];done) | (simp_all [ytcn] <;> omega)
def yrtm (args:List Value):Option Value:=match args with
 | [.int .i64 f,.int .i64 t]=>if 0≤f∧f<8 then some (.int .i64 (ytcn f t)) else none
 | _=>none
@[simp] theorem y9lw {f t:Int} (hg:0≤f∧f<8):yrtm [.int .i64 f,.int .i64 t]=some (.int .i64 (ytcn f t)):=if_pos hg
def ym5j:CE:=.val yrtm
@[simp] theorem yopt {args:List Value} {h:H} {K:K1}:CE.run ym5j args h K=u_opt (yrtm args) fun v=>K v h:=rfl
theorem y6qo (args:List Value) (h:H) (K:K1) (hr:CE.run ym5j args h K):AM.Spec PG ye3p args h K:=by
 rw [yopt] at hr
 unfold yrtm at hr
 split at hr
 ·split at hr
  ·rename_i hg
   exact y9kd hg hr
  ·exact hr.elim
 ·exact hr.elim
def yfc8 (x0 x1:Value) (h:H) (Kn Kr:K2):Prop :=
 y2x6 .i32 x0 fun v19=>y2x6 .i32 x1 fun v21=>u_bin PG .quo yqm3 v19 v21 fun v22=>y2x6 .u32 v22 fun v23=>y2x6 .i32 x0 fun v25=>y2x6 .i32 x1 fun v27=>u_bin PG .rem yqm3 v25 v27 fun v28=>y2x6 .u32 v28 fun v29=>Kn v23 v29 h
def ylrs (x4 x5:Value) (h:H) (Kn Kr:K2):Prop :=
 Kr x4 x5 h
def yf3e (x0 x1:Value) (h:H) (Kn Kr:K2):Prop :=
 yfc8 x0 x1 h (fun y4 y5 h=>ylrs y4 y5 h Kn Kr) Kr
def yjgc (x0 x1:Value) (h:H) (Kn Kr:K2):Prop :=
 u_bin PG .eql ycpa x1 (.int .u32 0) fun v8=>u_if v8 (Kr (.int .u32 4294967295) x0 h) (u_bin PG .eql ycpa x0 (.int .u32 2147483648) fun v12=>ydv6 v12 true (fun k4=>u_bin PG .eql ycpa x1 (.int .u32 4294967295) fun v15=>k4 v15 h) (fun v15 h=>y9rg v12 v15 (.bool false) fun v16=>u_if v16 (Kr x0 (.int .u32 0) h) (yf3e x0 x1 h Kn Kr)) h)
theorem y0op {Kn Kr:K2} {t:T} {h:H} (H0:yjgc (t 0) (t 1) h Kn Kr):Wp PG 30 (ygjk Tryz.f261.body) (mkQ (q2 Kn 4 5) (q2 Kr 4 5) ke0) t h :=
 (toE E2_ok 2 H0 fun t h (H:yf3e (t 0) (t 1) h Kn Kr)=>(sqE (q2 (fun y4 y5 h=>ylrs y4 y5 h Kn Kr) 4 5) (drE E2_ok [0,1,2,3,4,5,6,7,8,9,10,11,12,13] H) fun t h H=>(wpE E2_ok H)))
def ygwe (x0 x1:Value) (h:H) (Q:K1):Prop:=yjgc x0 x1 h (fun y4 y5 h=>bif [y4,y5].all boxV then Q (.tuple #[y4,y5]) h else False) (fun y4 y5 h=>bif [y4,y5].all boxV then Q (.tuple #[y4,y5]) h else False)
theorem ymou (x0 x1:Value) (h:H) (Q:K1) (H0:ygwe x0 x1 h Q):AM.Spec PG ytlh [x0,x1] h Q :=
 spH mixed Tryz.func261 [4,5] (y0op H0)
def yk74 (a b:Int):Int:=if b=0 then 4294967295 else if a=2147483648∧b=4294967295 then 2147483648 else IntKind.u32.wrap (IntKind.i32.wrap ((IntKind.i32.wrap a).tdiv (IntKind.i32.wrap b)))
def ygzx (a b:Int):Int:=if b=0 then a else if a=2147483648∧b=4294967295 then 0 else IntKind.u32.wrap ((IntKind.i32.wrap a).tmod (IntKind.i32.wrap b))
theorem yy9q {a b:Int} (hg:0≤b∧b<4294967296) {K:K1} {h:H} (hk:K (.tuple #[.int .u32 (yk74 a b),.int .u32 (ygzx a b)]) h):AM.Spec PG ytlh [.int .u32 a,.int .u32 b] h K:=by
 refine yz7m (fun K hk=>?_) hk
 refine ymou _ _ _ _ ?_
 simp (config:={contextual:=true,dsimp:=false,maxSteps:=1000000}) [↓y88o,↓ygwe,↓yjgc,↓yf3e,↓yfc8,↓ylrs,hg]
 all_goals (intros;repeat' (refine ite_i (fun _=>?_) (fun _=>?_)))
 all_goals refine fin hk (by repeat (first | exact Sub.refl _ | refine Sub.upd ?_ (by assumption))) ?_
 all_goals first | rfl | (simp only [yk74,ygzx, *,↓reduceIte];done) | (simp_all [yk74,ygzx];done) | (simp_all [yk74,ygzx] <;> omega)
def yi44 (args:List Value):Option Value:=match args with
 | [.int .u32 a,.int .u32 b]=>if 0≤b∧b<4294967296 then some (.tuple #[.int .u32 (yk74 a b),.int .u32 (ygzx a b)]) else none
 | _=>none
@[simp] theorem ysqg {a b:Int} (hg:0≤b∧b<4294967296):yi44 [.int .u32 a,.int .u32 b]=some (.tuple #[.int .u32 (yk74 a b),.int .u32 (ygzx a b)]):=if_pos hg
def y1ww:CE:=.val yi44
@[simp] theorem y3ne {args:List Value} {h:H} {K:K1}:CE.run y1ww args h K=u_opt (yi44 args) fun v=>K v h:=rfl
theorem yqwn (args:List Value) (h:H) (K:K1) (hr:CE.run y1ww args h K):AM.Spec PG ytlh args h K:=by
 rw [y3ne] at hr
 unfold yi44 at hr
 split at hr
 ·split at hr
  ·rename_i hg
   exact yy9q hg hr
  ·exact hr.elim
 ·exact hr.elim
def ygrz (x0 x1 x2:Value) (h:H) (Kn Kr:K2):Prop :=
 u_bin PG .add T_int x1 x2 fun v11=>u_bin PG .eql T_int x0 (.int .i64 2) fun v13=>u_if v13 (u_bin PG .sub T_int x1 x2 fun v16=>u_bin PG .eql T_int x0 (.int .i64 7) fun v18=>u_if v18 (ynco PG Builtin.min2 v16 (.int .i64 31) fun v20=>u_bin PG .geq T_int v20 (.int .i64 0) fun v23=>ydv6 v23 true (fun k5=>u_bin PG .lss T_int v20 (.int .i64 32) fun v26=>k5 v26 h) (fun v26 h=>y9rg v23 v26 (.bool false) fun v27=>Kr v20 v27 h) h) (u_bin PG .geq T_int v16 (.int .i64 0) fun v23=>ydv6 v23 true (fun k5=>u_bin PG .lss T_int v16 (.int .i64 32) fun v26=>k5 v26 h) (fun v26 h=>y9rg v23 v26 (.bool false) fun v27=>Kr v16 v27 h) h)) (u_bin PG .eql T_int x0 (.int .i64 7) fun v18=>u_if v18 (ynco PG Builtin.min2 v11 (.int .i64 31) fun v20=>u_bin PG .geq T_int v20 (.int .i64 0) fun v23=>ydv6 v23 true (fun k5=>u_bin PG .lss T_int v20 (.int .i64 32) fun v26=>k5 v26 h) (fun v26 h=>y9rg v23 v26 (.bool false) fun v27=>Kr v20 v27 h) h) (u_bin PG .geq T_int v11 (.int .i64 0) fun v23=>ydv6 v23 true (fun k5=>u_bin PG .lss T_int v11 (.int .i64 32) fun v26=>k5 v26 h) (fun v26 h=>y9rg v23 v26 (.bool false) fun v27=>Kr v11 v27 h) h))
def yfjs (x0 x1 x2:Value) (h:H) (Q:K1):Prop:=ygrz x0 x1 x2 h (fun y6 y7 h=>bif [y6,y7].all boxV then Q (.tuple #[y6,y7]) h else False) (fun y6 y7 h=>bif [y6,y7].all boxV then Q (.tuple #[y6,y7]) h else False)
theorem y9pq (x0 x1 x2:Value) (h:H) (Q:K1) (H0:yfjs x0 x1 x2 h Q):AM.Spec PG yjtr [x0,x1,x2] h Q :=
 spE mixed E2_ok Tryz.func329 [6,7] H0
def y5zy (k p b:Int):Int:=if k=2 then IntKind.i64.wrap (p-b) else if k=7 then min (IntKind.i64.wrap (p+b)) 31 else IntKind.i64.wrap (p+b)
def y40k (k p b:Int):Bool:=if k=2 then decide (0≤IntKind.i64.wrap (p-b))&&decide (IntKind.i64.wrap (p-b)<32) else if k=7 then decide (0≤min (IntKind.i64.wrap (p+b)) 31)&&decide (min (IntKind.i64.wrap (p+b)) 31<32) else decide (0≤IntKind.i64.wrap (p+b))&&decide (IntKind.i64.wrap (p+b)<32)
theorem yhy9 {k p b:Int} {K:K1} {h:H} (hk:K (.tuple #[.int .i64 (y5zy k p b),.bool (y40k k p b)]) h):AM.Spec PG yjtr [.int .i64 k,.int .i64 p,.int .i64 b] h K:=by
 refine yz7m (fun K hk=>?_) hk
 refine y9pq _ _ _ _ _ ?_
 simp (config:={contextual:=true,dsimp:=false,maxSteps:=1000000}) [↓y88o,↓yfjs,↓ygrz]
 all_goals (intros;repeat' (refine ite_i (fun _=>?_) (fun _=>?_)))
 all_goals refine fin hk (by repeat (first | exact Sub.refl _ | refine Sub.upd ?_ (by assumption))) ?_
 all_goals first | rfl | (simp only [y5zy,y40k, *,↓reduceIte];done) | (simp_all [y5zy,y40k];done) | (simp_all [y5zy,y40k] <;> omega)
def y7el (args:List Value):Option Value:=match args with
 | [.int .i64 k,.int .i64 p,.int .i64 b]=>some (.tuple #[.int .i64 (y5zy k p b),.bool (y40k k p b)])
 | _=>none
@[simp] theorem y2ia {k p b:Int}:y7el [.int .i64 k,.int .i64 p,.int .i64 b]=some (.tuple #[.int .i64 (y5zy k p b),.bool (y40k k p b)]):=rfl
def y52z:CE:=.val y7el
@[simp] theorem yy4h {args:List Value} {h:H} {K:K1}:CE.run y52z args h K=u_opt (y7el args) fun v=>K v h:=rfl
theorem yymz (args:List Value) (h:H) (K:K1) (hr:CE.run y52z args h K):AM.Spec PG yjtr args h K:=by
 rw [yy4h] at hr
 unfold y7el at hr
 split at hr
 ·exact yhy9 hr
 ·exact hr.elim
def ykwy (x0:Value) (h:H) (Kn Kr:K1):Prop :=
 boxV x0=true∧u_new (Value.cells x0).toList yq0s .exact h fun b1 h=>u_bf false 1 0 (.pointer (some ⟨b1,0,none⟩)) h fun v8=>u_ct ybj2 [v8] h fun v9 h=>yvu8 v9 0 fun v10=>yvu8 v9 1 fun v11=>yvu8 v9 2 fun v12=>u_bf false 1 0 (.pointer (some ⟨b1,0,none⟩)) h fun v14=>u_bin PG .geq T_int v14 (.int .i64 1) fun v15=>ydv6 v15 true (fun k6=>u_bf false 1 0 (.pointer (some ⟨b1,0,none⟩)) h fun v18=>u_bin PG .leq T_int v18 (.int .i64 21) fun v19=>k6 v19 h) (fun v19 h=>y9rg v15 v19 (.bool false) fun v20=>ydv6 v20 true (fun k10=>ybqh true 5 (.pointer (some ⟨b1,0,none⟩)) h fun v22=>u_ct yswx [v22] h fun v23 h=>k10 v23 h) (fun v23 h=>y9rg v20 v23 (.bool false) fun v24=>ydv6 v24 true (fun k16=>u_bf false 1 1 (.pointer (some ⟨b1,0,none⟩)) h fun v28=>u_ct ypz4 [v10,v28] h fun v29 h=>k16 v29 h) (fun v29 h=>y9rg v24 v29 (.bool false) fun v30=>ydv6 v30 true (fun k22=>u_bf false 1 2 (.pointer (some ⟨b1,0,none⟩)) h fun v34=>u_ct ypz4 [v11,v34] h fun v35 h=>k22 v35 h) (fun v35 h=>y9rg v30 v35 (.bool false) fun v36=>ydv6 v36 true (fun k28=>u_bf false 1 3 (.pointer (some ⟨b1,0,none⟩)) h fun v40=>u_ct ypz4 [v12,v40] h fun v41 h=>k28 v41 h) (fun v41 h=>y9rg v36 v41 (.bool false) fun v42=>Kr v42 h) h) h) h) h) h
def y9dd (x0:Value) (h:H) (Q:K1):Prop:=ykwy x0 h Q Q
theorem ywds (x0:Value) (h:H) (Q:K1) (H0:y9dd x0 h Q):AM.Spec PG y02p [x0] h Q :=
 spE mixed E2_ok Tryz.func53 [2] H0
def ysat (o t a b v:Int):Bool:=decide (1≤o)&&decide (o≤21)&&y11l o t a b v&&yq96 t (yzmo o)&&yq96 a (y5bx o)&&yq96 b (ykbr o)
theorem y5km {o t a b v:Int} {K:K1} {h:H} (hk:K (.bool (ysat o t a b v)) h):AM.Spec PG y02p [.agg #[.int .i64 o,.int .i64 t,.int .i64 a,.int .i64 b,.int .u32 v]] h K:=by
 refine yz7m (fun K hk=>?_) hk
 refine ywds _ _ _ ?_
 simp (config:={contextual:=true,dsimp:=false,maxSteps:=1000000}) [↓y88o,↓y9dd,↓ykwy]
 all_goals (intros;repeat' (refine ite_i (fun _=>?_) (fun _=>?_)))
 all_goals refine fin hk (by repeat (first | exact Sub.refl _ | refine Sub.upd ?_ (by assumption))) ?_
 all_goals first | rfl | (simp only [ysat, *,↓reduceIte];done) | (simp_all [ysat];done) | (simp_all [ysat] <;> omega)
def y0xi (args:List Value):Option Value:=match args with
 | [.agg ⟨[.int .i64 o,.int .i64 t,.int .i64 a,.int .i64 b,.int .u32 v]⟩]=>some (.bool (ysat o t a b v))
 | _=>none
@[simp] theorem yeiw {o t a b v:Int}:y0xi [.agg #[.int .i64 o,.int .i64 t,.int .i64 a,.int .i64 b,.int .u32 v]]=some (.bool (ysat o t a b v)):=rfl
def ysaf:CE:=.val y0xi
@[simp] theorem yqmp {args:List Value} {h:H} {K:K1}:CE.run ysaf args h K=u_opt (y0xi args) fun v=>K v h:=rfl
theorem y6pm (args:List Value) (h:H) (K:K1) (hr:CE.run ysaf args h K):AM.Spec PG y02p args h K:=by
 rw [yqmp] at hr
 unfold y0xi at hr
 split at hr
 ·exact y5km hr
 ·exact hr.elim
def yide (x2 x3:Value) (h:H) (Kn Kr:K1):Prop :=
 ybqh true 4 x2 h fun v5=>u_ct y0n6 [v5] h fun v6 h=>u_bf false 1 0 x3 h fun v8=>y2x6 .u64 v8 fun v9=>u_bin PG .leq yxjj v6 v9 fun v10=>ydv6 v10 false (fun k12=>ybqh true 4 x3 h fun v12=>u_ct y0n6 [v12] h fun v13 h=>u_bf false 1 0 x2 h fun v15=>y2x6 .u64 v15 fun v16=>u_bin PG .leq yxjj v13 v16 fun v17=>k12 v17 h) (fun v17 h=>y9rg v10 (.bool true) v17 fun v18=>Kn v18 h) h
def y1as (x4:Value) (h:H) (Kn Kr:K1):Prop :=
 Kr x4 h
def yltv (x2 x3:Value) (h:H) (Kn Kr:K1):Prop :=
 yide x2 x3 h (fun y4 h=>y1as y4 h Kn Kr) Kr
def y0a8 (x0 x1:Value) (h:H) (Kn Kr:K1):Prop :=
 boxV x0=true∧u_new (Value.cells x0).toList ym0k .exact h fun b2 h=>boxV x1=true∧u_new (Value.cells x1).toList ym0k .exact h fun b3 h=>yltv (.pointer (some ⟨b2,0,none⟩)) (.pointer (some ⟨b3,0,none⟩)) h Kn Kr
theorem ylor {Kn Kr:K1} {t:T} {h:H} (H0:y0a8 (t 0) (t 1) h Kn Kr):Wp PG 19 (ygjk Tryz.f265.body) (mkQ (q1 Kn 4) (q1 Kr 4) ke0) t h :=
 (toE E2_ok 1 H0 fun t h (H:yltv (t 2) (t 3) h Kn Kr)=>(sqE (q1 (fun y4 h=>y1as y4 h Kn Kr) 4) (drE E2_ok [0,1,2,3,4,5,6,7,8,9,10,11,12,13,14] H) fun t h H=>(wpE E2_ok H)))
def yegg (x0 x1:Value) (h:H) (Q:K1):Prop:=y0a8 x0 x1 h Q Q
theorem yrbj (x0 x1:Value) (h:H) (Q:K1) (H0:yegg x0 x1 h Q):AM.Spec PG yc6m [x0,x1] h Q :=
 spH mixed Tryz.func265 [4] (ylor H0)
def ym5a (a n p b m q:Int) (za ya:Option Addr) (zn zc yn yc:Nat):Bool:=decide (ywor a n p za zn zc≤IntKind.u64.wrap b)||decide (ywor b m q ya yn yc≤IntKind.u64.wrap a)
theorem y60a {a n p b m q:Int} {za ya:Option Addr} {zn zc yn yc:Nat} {K:K1} {h:H} (hk:K (.bool (ym5a a n p b m q za ya zn zc yn yc)) h):AM.Spec PG yc6m [.agg #[.int .u32 a,.int .u32 n,.int .i64 p,.slice za zn zc],.agg #[.int .u32 b,.int .u32 m,.int .i64 q,.slice ya yn yc]] h K:=by
 refine yz7m (fun K hk=>?_) hk
 refine yrbj _ _ _ _ ?_
 simp (config:={contextual:=true,dsimp:=false,maxSteps:=1000000}) [↓y88o,↓yegg,↓y0a8,↓yltv,↓yide,↓y1as]
 all_goals (intros;repeat' (refine ite_i (fun _=>?_) (fun _=>?_)))
 all_goals refine fin hk (by repeat (first | exact Sub.refl _ | refine Sub.upd ?_ (by assumption))) ?_
 all_goals first | rfl | (simp only [ym5a, *,↓reduceIte];done) | (simp_all [ym5a];done) | (simp_all [ym5a] <;> omega)
def yamz (args:List Value):Option Value:=match args with
 | [.agg ⟨[.int .u32 a,.int .u32 n,.int .i64 p,.slice za zn zc]⟩,.agg ⟨[.int .u32 b,.int .u32 m,.int .i64 q,.slice ya yn yc]⟩]=>some (.bool (ym5a a n p b m q za ya zn zc yn yc))
 | _=>none
@[simp] theorem y00f {a n p b m q:Int} {za ya:Option Addr} {zn zc yn yc:Nat}:yamz [.agg #[.int .u32 a,.int .u32 n,.int .i64 p,.slice za zn zc],.agg #[.int .u32 b,.int .u32 m,.int .i64 q,.slice ya yn yc]]=some (.bool (ym5a a n p b m q za ya zn zc yn yc)):=rfl
def ynwe:CE:=.val yamz
@[simp] theorem yfd8 {args:List Value} {h:H} {K:K1}:CE.run ynwe args h K=u_opt (yamz args) fun v=>K v h:=rfl
theorem yjfo (args:List Value) (h:H) (K:K1) (hr:CE.run ynwe args h K):AM.Spec PG yc6m args h K:=by
 rw [yfd8] at hr
 unfold yamz at hr
 split at hr
 ·exact y60a hr
 ·exact hr.elim
def E3:CT:=ctOf [(yxof,y4a5),(y6v8,ycb7),(y8s2,y1md),(yosk,y4cl),(ye3p,ym5j),(ytlh,y1ww),(yjtr,y52z),(y02p,ysaf),(yc6m,ynwe)] E2
theorem E3_ok:CTOk PG E3:=yko4 E2_ok (by
 intro x hx
 simp only [List.mem_cons,List.not_mem_nil,or_false] at hx
 rcases hx with rfl | rfl | rfl | rfl | rfl | rfl | rfl | rfl | rfl
 ·exact y5wd
 ·exact y6zm
 ·exact yahq
 ·exact ygsh
 ·exact y6qo
 ·exact yqwn
 ·exact yymz
 ·exact y6pm
 ·exact yjfo)
end Go.Proofs.YtnckimioabkheaaGreat
set_option linter.unusedVariables false
set_option linter.unusedSimpArgs false
set_option maxRecDepth 100000
set_option maxHeartbeats 2000000
namespace Go.Proofs.YtnckimioabkheaaGreat
open Go.Proofs.YtnckimioabkheaaGreat.AM
@[simp] theorem yjzv {a0:Int} {a1:Int} {a2:Int} {a3:Int} {a4:Int} {a5:Int} {a6:Int} {a7:Int} {a8:Int} {K:Value→Prop} {u:Dm K}:ysnr PG y6aa [(0,.int .i64 a0),(1,.int .i64 a1),(2,.int .i64 a2),(3,.int .i64 a3),(4,.int .i64 a4),(5,.int .i64 a5),(6,.int .i64 a6),(7,.int .i64 a7),(8,.int .i64 a8)] K u=K (.agg #[.int .i64 a0,.int .i64 a1,.int .i64 a2,.int .i64 a3,.int .i64 a4,.int .i64 a5,.int .i64 a6,.int .i64 a7,.int .i64 a8]):=by kernel_rfl
@[simp] theorem yrec {a0:Int} {a1:Int} {a2:Int} {a3:Int} {a4:Int} {a5:Int} {a6:Int} {a7:Int} {a8:Int} {a9:Int} {K:Value→Prop} {u:Dm K}:ysnr PG yx8p [(0,.int .i64 a0),(1,.int .i64 a1),(2,.int .i64 a2),(3,.int .i64 a3),(4,.int .i64 a4),(5,.int .i64 a5),(6,.int .i64 a6),(7,.int .i64 a7),(8,.int .i64 a8),(9,.int .i64 a9)] K u=K (.agg #[.int .i64 a0,.int .i64 a1,.int .i64 a2,.int .i64 a3,.int .i64 a4,.int .i64 a5,.int .i64 a6,.int .i64 a7,.int .i64 a8,.int .i64 a9]):=by kernel_rfl
@[simp] theorem kd1 {o:Int} (h1:19≤o) (h2:o≤27):IntKind.i64.wrap (o-19)=o-19:=w_i64 (by omega) (by omega)
@[simp] theorem kd2 {o:Int} (h2:o≤27):o-19<9:=by omega
@[simp] theorem kd3 {o:Int} (h1:28≤o) (h2:o≤37):IntKind.i64.wrap (o-28)=o-28:=w_i64 (by omega) (by omega)
@[simp] theorem kd4 {o:Int} (h2:o≤37):o-28<10:=by omega
def yy6q (x0:Value) (h:H) (Kn Kr:K1):Prop :=
 u_ct yfwc [x0,(.int .i64 12),(.int .i64 3)] h fun v6 h=>u_ct yfwc [x0,(.int .i64 25),(.int .i64 7)] h fun v8 h=>u_bin PG .and ycpa x0 (.int .u32 127) fun v10=>u_bin PG .eql ycpa v10 (.int .u32 55) fun v12=>u_if v12 (Kr (.int .i64 1) h) (u_bin PG .eql ycpa v10 (.int .u32 23) fun v14=>u_if v14 (Kr (.int .i64 2) h) (u_bin PG .eql ycpa v10 (.int .u32 111) fun v16=>u_if v16 (Kr (.int .i64 3) h) (u_bin PG .eql ycpa v10 (.int .u32 103) fun v18=>u_if v18 (u_bin PG .eql T_int v6 (.int .i64 0) fun v20=>u_if v20 (Kr (.int .i64 4) h) (u_ct yci3 [x0] h fun v50 h=>Kr v50 h)) (u_bin PG .eql ycpa v10 (.int .u32 99) fun v22=>u_if v22 (u_ct y4a5 [v6] h fun v24 h=>Kr v24 h) (u_bin PG .eql ycpa v10 (.int .u32 3) fun v26=>u_if v26 (u_ct ycb7 [v6] h fun v28 h=>Kr v28 h) (u_bin PG .eql ycpa v10 (.int .u32 35) fun v30=>u_if v30 (u_ct y1md [v6] h fun v32 h=>Kr v32 h) (u_bin PG .eql ycpa v10 (.int .u32 19) fun v34=>u_if v34 (u_ct y4cl [v6,v8] h fun v37 h=>Kr v37 h) (u_bin PG .eql ycpa v10 (.int .u32 51) fun v39=>u_if v39 (u_ct ym5j [v6,v8] h fun v42 h=>Kr v42 h) (u_bin PG .eql ycpa v10 (.int .u32 15) fun v44=>u_if v44 (u_bin PG .lss T_int v6 (.int .i64 2) fun v46=>u_if v46 (u_bin PG .add T_int (.int .i64 46) v6 fun v48=>Kr v48 h) (u_ct yci3 [x0] h fun v50 h=>Kr v50 h)) (u_ct yci3 [x0] h fun v50 h=>Kr v50 h))))))))))
def yvz6 (x0:Value) (h:H) (Q:K1):Prop:=yy6q x0 h Q Q
theorem yxwv (x0:Value) (h:H) (Q:K1) (H0:yvz6 x0 h Q):AM.Spec PG yt2y [x0] h Q :=
 spE mixed E3_ok Tryz.func226 [2] H0
def y550 (w:Int):Int:=if IntKind.u32.wrap ↑((w%2^IntKind.u32.bits).toNat &&& 127%2^IntKind.u32.bits)=55 then 1 else if IntKind.u32.wrap ↑((w%2^IntKind.u32.bits).toNat &&& 127%2^IntKind.u32.bits)=23 then 2 else if IntKind.u32.wrap ↑((w%2^IntKind.u32.bits).toNat &&& 127%2^IntKind.u32.bits)=111 then 3 else if IntKind.u32.wrap ↑((w%2^IntKind.u32.bits).toNat &&& 127%2^IntKind.u32.bits)=103 then if yz4y w 12 3=0 then 4 else yywu w else if IntKind.u32.wrap ↑((w%2^IntKind.u32.bits).toNat &&& 127%2^IntKind.u32.bits)=99 then ylht (yz4y w 12 3) else if IntKind.u32.wrap ↑((w%2^IntKind.u32.bits).toNat &&& 127%2^IntKind.u32.bits)=3 then y74a (yz4y w 12 3) else if IntKind.u32.wrap ↑((w%2^IntKind.u32.bits).toNat &&& 127%2^IntKind.u32.bits)=35 then y4os (yz4y w 12 3) else if IntKind.u32.wrap ↑((w%2^IntKind.u32.bits).toNat &&& 127%2^IntKind.u32.bits)=19 then y35s (yz4y w 12 3) (yz4y w 25 7) else if IntKind.u32.wrap ↑((w%2^IntKind.u32.bits).toNat &&& 127%2^IntKind.u32.bits)=51 then ytcn (yz4y w 12 3) (yz4y w 25 7) else if IntKind.u32.wrap ↑((w%2^IntKind.u32.bits).toNat &&& 127%2^IntKind.u32.bits)=15 then if yz4y w 12 3<2 then IntKind.i64.wrap (46+yz4y w 12 3) else yywu w else yywu w
theorem yycp {w:Int} {K:K1} {h:H} (hk:K (.int .i64 (y550 w)) h):AM.Spec PG yt2y [.int .u32 w] h K:=by
 refine yz7m (fun K hk=>?_) hk
 refine yxwv _ _ _ ?_
 simp (config:={contextual:=true,dsimp:=false,maxSteps:=1000000}) [↓y88o,↓yvz6,↓yy6q]
 all_goals (intros;repeat' (refine ite_i (fun _=>?_) (fun _=>?_)))
 all_goals refine fin hk (by repeat (first | exact Sub.refl _ | refine Sub.upd ?_ (by assumption))) ?_
 all_goals first | rfl | (simp only [y550, *,↓reduceIte];done) | (simp_all [y550];done) | (simp_all [y550] <;> omega)
def yl8m (args:List Value):Option Value:=match args with
 | [.int .u32 w]=>some (.int .i64 (y550 w))
 | _=>none
@[simp] theorem ywng {w:Int}:yl8m [.int .u32 w]=some (.int .i64 (y550 w)):=rfl
def yldw:CE:=.val yl8m
@[simp] theorem y7vn {args:List Value} {h:H} {K:K1}:CE.run yldw args h K=u_opt (yl8m args) fun v=>K v h:=rfl
theorem y3io (args:List Value) (h:H) (K:K1) (hr:CE.run yldw args h K):AM.Spec PG yt2y args h K:=by
 rw [y7vn] at hr
 unfold yl8m at hr
 split at hr
 ·exact yycp hr
 ·exact hr.elim
def yey8 (x0:Value) (h:H) (Kn Kr:K2):Prop :=
 u_bin PG .geq T_int x0 (.int .i64 19) fun v6=>ydv6 v6 true (fun k4=>u_bin PG .leq T_int x0 (.int .i64 27) fun v9=>k4 v9 h) (fun v9 h=>y9rg v6 v9 (.bool false) fun v10=>u_if v10 (ysnr PG y6aa [(0,(.int .i64 0)),(1,(.int .i64 3)),(2,(.int .i64 4)),(3,(.int .i64 5)),(4,(.int .i64 8)),(5,(.int .i64 9)),(6,(.int .i64 2)),(7,(.int .i64 6)),(8,(.int .i64 7))] fun v11=>u_bin PG .sub T_int x0 (.int .i64 19) fun v13=>ywq9 false 9 false 1 v11 v13 fun v14=>Kr v14 (.bool true) h) (u_bin PG .geq T_int x0 (.int .i64 28) fun v17=>ydv6 v17 true (fun k4=>u_bin PG .leq T_int x0 (.int .i64 37) fun v20=>k4 v20 h) (fun v20 h=>y9rg v17 v20 (.bool false) fun v21=>u_if v21 (ysnr PG yx8p [(0,(.int .i64 0)),(1,(.int .i64 1)),(2,(.int .i64 2)),(3,(.int .i64 3)),(4,(.int .i64 4)),(5,(.int .i64 5)),(6,(.int .i64 6)),(7,(.int .i64 7)),(8,(.int .i64 8)),(9,(.int .i64 9))] fun v22=>u_bin PG .sub T_int x0 (.int .i64 28) fun v24=>ywq9 false 10 false 1 v22 v24 fun v25=>Kr v25 (.bool true) h) (u_bin PG .geq T_int x0 (.int .i64 38) fun v28=>ydv6 v28 true (fun k4=>u_bin PG .leq T_int x0 (.int .i64 45) fun v31=>k4 v31 h) (fun v31 h=>y9rg v28 v31 (.bool false) fun v32=>u_if v32 (u_bin PG .sub T_int x0 (.int .i64 38) fun v34=>u_bin PG .add T_int v34 (.int .i64 10) fun v35=>Kr v35 (.bool true) h) (Kr (.int .i64 0) (.bool false) h)) h)) h)) h
def yhc5 (x0:Value) (h:H) (Q:K1):Prop:=yey8 x0 h (fun y2 y3 h=>bif [y2,y3].all boxV then Q (.tuple #[y2,y3]) h else False) (fun y2 y3 h=>bif [y2,y3].all boxV then Q (.tuple #[y2,y3]) h else False)
theorem ybz8 (x0:Value) (h:H) (Q:K1) (H0:yhc5 x0 h Q):AM.Spec PG yf1u [x0] h Q :=
 spE mixed E3_ok Tryz.func236 [2,3] H0
def ych0 (o:Int):Int:=if 19≤o∧o≤27 then tab (o-19) [0,3,4,5,8,9,2,6,7] else if 28≤o∧o≤37 then tab (o-28) [0,1,2,3,4,5,6,7,8,9] else if 38≤o∧o≤45 then IntKind.i64.wrap (IntKind.i64.wrap (o-38)+10) else 0
def y9oy (o:Int):Bool:=if 19≤o∧o≤27 then true else if 28≤o∧o≤37 then true else if 38≤o∧o≤45 then true else false
theorem yq5s {o:Int} {K:K1} {h:H} (hk:K (.tuple #[.int .i64 (ych0 o),.bool (y9oy o)]) h):AM.Spec PG yf1u [.int .i64 o] h K:=by
 refine yz7m (fun K hk=>?_) hk
 refine ybz8 _ _ _ ?_
 simp (config:={contextual:=true,dsimp:=false,maxSteps:=1000000}) [↓y88o,↓yhc5,↓yey8]
 all_goals (intros;repeat' (refine ite_i (fun _=>?_) (fun _=>?_)))
 all_goals refine fin hk (by repeat (first | exact Sub.refl _ | refine Sub.upd ?_ (by assumption))) ?_
 all_goals first | rfl | (simp only [ych0,y9oy, *,↓reduceIte];done) | (simp_all [ych0,y9oy];done) | (simp_all [ych0,y9oy] <;> omega)
def yhvz (args:List Value):Option Value:=match args with
 | [.int .i64 o]=>some (.tuple #[.int .i64 (ych0 o),.bool (y9oy o)])
 | _=>none
@[simp] theorem yjaa {o:Int}:yhvz [.int .i64 o]=some (.tuple #[.int .i64 (ych0 o),.bool (y9oy o)]):=rfl
def ywpv:CE:=.val yhvz
@[simp] theorem yyuy {args:List Value} {h:H} {K:K1}:CE.run ywpv args h K=u_opt (yhvz args) fun v=>K v h:=rfl
theorem yc25 (args:List Value) (h:H) (K:K1) (hr:CE.run ywpv args h K):AM.Spec PG yf1u args h K:=by
 rw [yyuy] at hr
 unfold yhvz at hr
 split at hr
 ·exact yq5s hr
 ·exact hr.elim
def ywvm (x0 x1 x2:Value) (h:H) (Kn Kr:K2):Prop :=
 u_ct ykbm [x0,x1,x2] h fun v22 h=>yvu8 v22 0 fun v23=>yvu8 v22 1 fun v24=>u_if v24 (Kr v23 (.int .i64 0) h) (u_bin PG .eql T_int x0 (.int .i64 10) fun v29=>u_if v29 (u_bin PG .mul ycpa x1 x2 fun v32=>Kr v32 (.int .i64 0) h) (u_bin PG .eql T_int x0 (.int .i64 11) fun v34=>u_if v34 (y2x6 .i32 x1 fun v36=>y2x6 .i64 v36 fun v37=>y2x6 .i32 x2 fun v39=>y2x6 .i64 v39 fun v40=>u_bin PG .mul yeb5 v37 v40 fun v41=>u_bin PG .shr yeb5 v41 (.int .u64 32) fun v42=>y2x6 .u32 v42 fun v43=>Kr v43 (.int .i64 0) h) (u_bin PG .eql T_int x0 (.int .i64 12) fun v45=>u_if v45 (y2x6 .i32 x1 fun v47=>y2x6 .i64 v47 fun v48=>y2x6 .i64 x2 fun v50=>u_bin PG .mul yeb5 v48 v50 fun v51=>u_bin PG .shr yeb5 v51 (.int .u64 32) fun v52=>y2x6 .u32 v52 fun v53=>Kr v53 (.int .i64 0) h) (u_bin PG .eql T_int x0 (.int .i64 13) fun v55=>u_if v55 (y2x6 .u64 x1 fun v57=>y2x6 .u64 x2 fun v59=>u_bin PG .mul yxjj v57 v59 fun v60=>u_bin PG .shr yxjj v60 (.int .u64 32) fun v61=>y2x6 .u32 v61 fun v62=>Kr v62 (.int .i64 0) h) (u_bin PG .eql T_int x0 (.int .i64 14) fun v64=>u_if v64 (u_ct y1ww [x1,x2] h fun v68 h=>yvu8 v68 0 fun v69=>yvu8 v68 1 fun v70=>Kr v69 (.int .i64 0) h) (u_bin PG .eql T_int x0 (.int .i64 15) fun v73=>u_if v73 (u_ct yxqp [x1,x2] h fun v77 h=>yvu8 v77 0 fun v78=>yvu8 v77 1 fun v79=>Kr v78 (.int .i64 0) h) (u_bin PG .eql T_int x0 (.int .i64 16) fun v82=>u_if v82 (u_ct y1ww [x1,x2] h fun v86 h=>yvu8 v86 0 fun v87=>yvu8 v86 1 fun v88=>Kr v88 (.int .i64 0) h) (u_bin PG .eql T_int x0 (.int .i64 17) fun v91=>u_if v91 (u_ct yxqp [x1,x2] h fun v95 h=>yvu8 v95 0 fun v96=>yvu8 v95 1 fun v97=>Kr v97 (.int .i64 0) h) (Kr (.int .u32 0) (.int .i64 1) h)))))))))
def yz5z (x0 x1 x2:Value) (h:H) (Q:K1):Prop:=ywvm x0 x1 x2 h (fun y6 y7 h=>bif [y6,y7].all boxV then Q (.tuple #[y6,y7]) h else False) (fun y6 y7 h=>bif [y6,y7].all boxV then Q (.tuple #[y6,y7]) h else False)
theorem y9q6 (x0 x1 x2:Value) (h:H) (Q:K1) (H0:yz5z x0 x1 x2 h Q):AM.Spec PG ybf3 [x0,x1,x2] h Q :=
 spE mixed E3_ok Tryz.func200 [6,7] H0
def yc81 (k a b:Int):Int:=if yc76 k a b=true then y6b7 k a b else if k=10 then IntKind.u32.wrap (a*b) else if k=11 then IntKind.u32.wrap ((IntKind.i64.wrap (IntKind.i64.wrap (IntKind.i32.wrap a)*IntKind.i64.wrap (IntKind.i32.wrap b))).fdiv (2^min 32 IntKind.i64.bits)) else if k=12 then IntKind.u32.wrap ((IntKind.i64.wrap (IntKind.i64.wrap (IntKind.i32.wrap a)*IntKind.i64.wrap b)).fdiv (2^min 32 IntKind.i64.bits)) else if k=13 then IntKind.u32.wrap ((IntKind.u64.wrap (IntKind.u64.wrap a*IntKind.u64.wrap b)).fdiv (2^min 32 IntKind.u64.bits)) else if k=14 then yk74 a b else if k=15 then yeuu a b else if k=16 then ygzx a b else if k=17 then y8ip a b else 0
def ydw0 (k a b:Int):Int:=if yc76 k a b=true then 0 else if k=10 then 0 else if k=11 then 0 else if k=12 then 0 else if k=13 then 0 else if k=14 then 0 else if k=15 then 0 else if k=16 then 0 else if k=17 then 0 else 1
theorem yv7l {k a b:Int} (hg:0≤b∧b<4294967296) {K:K1} {h:H} (hk:K (.tuple #[.int .u32 (yc81 k a b),.int .i64 (ydw0 k a b)]) h):AM.Spec PG ybf3 [.int .i64 k,.int .u32 a,.int .u32 b] h K:=by
 refine yz7m (fun K hk=>?_) hk
 refine y9q6 _ _ _ _ _ ?_
 simp (config:={contextual:=true,dsimp:=false,maxSteps:=1000000}) [↓y88o,↓yz5z,↓ywvm,hg]
 all_goals (intros;repeat' (refine ite_i (fun _=>?_) (fun _=>?_)))
 all_goals refine fin hk (by repeat (first | exact Sub.refl _ | refine Sub.upd ?_ (by assumption))) ?_
 all_goals first | rfl | (simp only [yc81,ydw0, *,↓reduceIte];done) | (simp_all [yc81,ydw0];done) | (simp_all [yc81,ydw0] <;> omega)
def y53y (args:List Value):Option Value:=match args with
 | [.int .i64 k,.int .u32 a,.int .u32 b]=>if 0≤b∧b<4294967296 then some (.tuple #[.int .u32 (yc81 k a b),.int .i64 (ydw0 k a b)]) else none
 | _=>none
@[simp] theorem yg2d {k a b:Int} (hg:0≤b∧b<4294967296):y53y [.int .i64 k,.int .u32 a,.int .u32 b]=some (.tuple #[.int .u32 (yc81 k a b),.int .i64 (ydw0 k a b)]):=if_pos hg
def yuuq:CE:=.val y53y
@[simp] theorem y19k {args:List Value} {h:H} {K:K1}:CE.run yuuq args h K=u_opt (y53y args) fun v=>K v h:=rfl
theorem yc6b (args:List Value) (h:H) (K:K1) (hr:CE.run yuuq args h K):AM.Spec PG ybf3 args h K:=by
 rw [y19k] at hr
 unfold y53y at hr
 split at hr
 ·split at hr
  ·rename_i hg
   exact yv7l hg hr
  ·exact hr.elim
 ·exact hr.elim
def E4:CT:=ctOf [(yt2y,yldw),(yf1u,ywpv),(ybf3,yuuq)] E3
theorem E4_ok:CTOk PG E4:=yko4 E3_ok (by
 intro x hx
 simp only [List.mem_cons,List.not_mem_nil,or_false] at hx
 rcases hx with rfl | rfl | rfl
 ·exact y3io
 ·exact yc25
 ·exact yc6b)
end Go.Proofs.YtnckimioabkheaaGreat
set_option linter.unusedVariables false
set_option linter.unusedSimpArgs false
set_option maxRecDepth 100000
set_option maxHeartbeats 2000000
namespace Go.Proofs.YtnckimioabkheaaGreat
open Go.Proofs.YtnckimioabkheaaGreat.AM
@[simp] theorem y4v0 {a0:Int} {K:Value→Prop} {u:Dm K}:ysnr PG yc0x [(0,.int .i64 a0)] K u=K (.agg #[.int .i64 a0,.int .i64 0,.int .i64 0,.int .i64 0,.int .i32 0]):=by kernel_rfl
def youv (x0 x102:Value) (h:H) (Kn Kr:K2):Prop :=
 u_new [.int .i64 0,.int .i64 0,.int .i64 0,.int .i64 0,.int .i32 0] yc0x .exact h fun b2 h=>u_ct yldw [x0] h fun v9 h=>ysnr PG yc0x [(0,v9)] fun v10=>u_new [.int .i64 0,.int .i64 0,.int .i64 0,.int .i64 0,.int .i32 0] yc0x .exact h fun b3 h=>ylel 5 (.pointer (some ⟨b3,0,none⟩)) v10 h fun h=>u_ct yfwc [x0,(.int .i64 7),(.int .i64 5)] h fun v12 h=>u_ct yfwc [x0,(.int .i64 15),(.int .i64 5)] h fun v14 h=>u_ct yfwc [x0,(.int .i64 20),(.int .i64 5)] h fun v16 h=>u_bf false 1 0 (.pointer (some ⟨b3,0,none⟩)) h fun v18=>u_bin PG .eql T_int v18 (.int .i64 0) fun v28=>ydv6 v28 false (fun k4=>u_bin PG .geq T_int v18 (.int .i64 46) fun v31=>k4 v31 h) (fun v31 h=>y9rg v28 (.bool true) v31 fun v32=>u_if v32 (ybqh true 5 (.pointer (some ⟨b3,0,none⟩)) h fun v101=>ylel 5 (.pointer (some ⟨b2,0,none⟩)) v101 h fun h=>Kr (.pointer (some ⟨b2,0,none⟩)) x102 h) (u_bin PG .leq T_int v18 (.int .i64 2) fun v35=>u_if v35 (u_bin PG .and ycpa x0 (.int .u32 4294963200) fun v38=>y2x6 .i32 v38 fun v39=>u_st 1 1 (.pointer (some ⟨b3,0,none⟩)) v12 h fun h=>u_st 1 4 (.pointer (some ⟨b3,0,none⟩)) v39 h fun h=>ybqh true 5 (.pointer (some ⟨b3,0,none⟩)) h fun v101=>ylel 5 (.pointer (some ⟨b2,0,none⟩)) v101 h fun h=>Kr (.pointer (some ⟨b2,0,none⟩)) x102 h) (u_bin PG .eql T_int v18 (.int .i64 3) fun v44=>u_if v44 (u_ct yawa [x0] h fun v47 h=>u_st 1 1 (.pointer (some ⟨b3,0,none⟩)) v12 h fun h=>u_st 1 4 (.pointer (some ⟨b3,0,none⟩)) v47 h fun h=>ybqh true 5 (.pointer (some ⟨b3,0,none⟩)) h fun v101=>ylel 5 (.pointer (some ⟨b2,0,none⟩)) v101 h fun h=>Kr (.pointer (some ⟨b2,0,none⟩)) x102 h) (u_bin PG .geq T_int v18 (.int .i64 5) fun v52=>ydv6 v52 true (fun k4=>u_bin PG .leq T_int v18 (.int .i64 10) fun v55=>k4 v55 h) (fun v55 h=>y9rg v52 v55 (.bool false) fun v56=>u_if v56 (u_ct yjzq [x0] h fun v60 h=>u_st 1 2 (.pointer (some ⟨b3,0,none⟩)) v14 h fun h=>u_st 1 3 (.pointer (some ⟨b3,0,none⟩)) v16 h fun h=>u_st 1 4 (.pointer (some ⟨b3,0,none⟩)) v60 h fun h=>ybqh true 5 (.pointer (some ⟨b3,0,none⟩)) h fun v101=>ylel 5 (.pointer (some ⟨b2,0,none⟩)) v101 h fun h=>Kr (.pointer (some ⟨b2,0,none⟩)) x102 h) (u_bin PG .geq T_int v18 (.int .i64 16) fun v66=>ydv6 v66 true (fun k4=>u_bin PG .leq T_int v18 (.int .i64 18) fun v69=>k4 v69 h) (fun v69 h=>y9rg v66 v69 (.bool false) fun v70=>u_if v70 (u_ct yiso [x0] h fun v74 h=>u_st 1 2 (.pointer (some ⟨b3,0,none⟩)) v14 h fun h=>u_st 1 3 (.pointer (some ⟨b3,0,none⟩)) v16 h fun h=>u_st 1 4 (.pointer (some ⟨b3,0,none⟩)) v74 h fun h=>ybqh true 5 (.pointer (some ⟨b3,0,none⟩)) h fun v101=>ylel 5 (.pointer (some ⟨b2,0,none⟩)) v101 h fun h=>Kr (.pointer (some ⟨b2,0,none⟩)) x102 h) (u_bin PG .geq T_int v18 (.int .i64 25) fun v80=>ydv6 v80 true (fun k4=>u_bin PG .leq T_int v18 (.int .i64 27) fun v83=>k4 v83 h) (fun v83 h=>y9rg v80 v83 (.bool false) fun v84=>u_if v84 (y2x6 .i32 v16 fun v88=>u_st 1 1 (.pointer (some ⟨b3,0,none⟩)) v12 h fun h=>u_st 1 2 (.pointer (some ⟨b3,0,none⟩)) v14 h fun h=>u_st 1 4 (.pointer (some ⟨b3,0,none⟩)) v88 h fun h=>ybqh true 5 (.pointer (some ⟨b3,0,none⟩)) h fun v101=>ylel 5 (.pointer (some ⟨b2,0,none⟩)) v101 h fun h=>Kr (.pointer (some ⟨b2,0,none⟩)) x102 h) (u_bin PG .geq T_int v18 (.int .i64 28) fun v94=>u_if v94 (u_st 1 1 (.pointer (some ⟨b3,0,none⟩)) v12 h fun h=>u_st 1 2 (.pointer (some ⟨b3,0,none⟩)) v14 h fun h=>u_st 1 3 (.pointer (some ⟨b3,0,none⟩)) v16 h fun h=>ybqh true 5 (.pointer (some ⟨b3,0,none⟩)) h fun v101=>ylel 5 (.pointer (some ⟨b2,0,none⟩)) v101 h fun h=>Kr (.pointer (some ⟨b2,0,none⟩)) x102 h) (u_ct ygp9 [x0] h fun v22 h=>u_st 1 1 (.pointer (some ⟨b3,0,none⟩)) v12 h fun h=>u_st 1 2 (.pointer (some ⟨b3,0,none⟩)) v14 h fun h=>u_st 1 4 (.pointer (some ⟨b3,0,none⟩)) v22 h fun h=>ybqh true 5 (.pointer (some ⟨b3,0,none⟩)) h fun v101=>ylel 5 (.pointer (some ⟨b2,0,none⟩)) v101 h fun h=>Kr (.pointer (some ⟨b2,0,none⟩)) x102 h))) h)) h)) h)))) h
theorem ybqp {Kn Kr:K2} {t:T} {h:H} (H0:youv (t 0) (t 102) h Kn Kr):Wp PG 102 (ygjk Tryz.f155.body) (mkQ (q2 Kn 2 102) (q2 Kr 2 102) ke0) t h :=
 (wpE E4_ok H0)
def ykji (x0:Value) (h:H) (Q:K1):Prop:=youv x0 undef h (fun y2 y102 h=>o_ret y102 h (fun h=>ybqh true 5 y2 h fun v=>Q v h)) (fun y2 y102 h=>o_ret y102 h (fun h=>ybqh true 5 y2 h fun v=>Q v h))
theorem y37w (x0:Value) (h:H) (Q:K1) (H0:ykji x0 h Q):AM.Spec PG yte1 [x0] h Q :=
 spC mixed Tryz.func155 2 119 true 5 (ybqp H0)
def y1j0 (w:Int):Int:=if y550 w=0∨46≤y550 w then y550 w else if y550 w≤2 then y550 w else if y550 w=3 then 3 else y550 w
def y41m (w:Int):Int:=if y550 w=0∨46≤y550 w then 0 else if y550 w≤2 then yz4y w 7 5 else if y550 w=3 then yz4y w 7 5 else if 5≤y550 w∧y550 w≤10 then 0 else if 16≤y550 w∧y550 w≤18 then 0 else yz4y w 7 5
def ydwe (w:Int):Int:=if y550 w=0∨46≤y550 w then 0 else if y550 w≤2 then 0 else if y550 w=3 then 0 else yz4y w 15 5
def ybta (w:Int):Int:=if y550 w=0∨46≤y550 w then 0 else if y550 w≤2 then 0 else if y550 w=3 then 0 else if 5≤y550 w∧y550 w≤10 then yz4y w 20 5 else if 16≤y550 w∧y550 w≤18 then yz4y w 20 5 else if 25≤y550 w∧y550 w≤27 then 0 else if 28≤y550 w then yz4y w 20 5 else 0
def y31p (w:Int):Int:=if y550 w=0∨46≤y550 w then 0 else if y550 w≤2 then IntKind.i32.wrap (IntKind.u32.wrap ↑((w%2^IntKind.u32.bits).toNat &&& 4294963200%2^IntKind.u32.bits)) else if y550 w=3 then yaez w else if 5≤y550 w∧y550 w≤10 then y5f6 w else if 16≤y550 w∧y550 w≤18 then y8ox w else if 25≤y550 w∧y550 w≤27 then IntKind.i32.wrap (yz4y w 20 5) else if 28≤y550 w then 0 else yqpc w
theorem y3eg {w:Int} {K:K1} {h:H} (hk:K (.agg #[.int .i64 (y1j0 w),.int .i64 (y41m w),.int .i64 (ydwe w),.int .i64 (ybta w),.int .i32 (y31p w)]) h):AM.Spec PG yte1 [.int .u32 w] h K:=by
 refine yz7m (fun K hk=>?_) hk
 refine y37w _ _ _ ?_
 simp (config:={contextual:=true,dsimp:=false,maxSteps:=1000000}) [↓y88o,↓ykji,↓youv]
 all_goals (intros;repeat' (refine ite_i (fun _=>?_) (fun _=>?_)))
 all_goals refine fin hk (by repeat (first | exact Sub.refl _ | refine Sub.upd ?_ (by assumption))) ?_
 all_goals first | rfl | (simp only [y1j0,y41m,ydwe,ybta,y31p, *,↓reduceIte];done) | (simp_all [y1j0,y41m,ydwe,ybta,y31p];done) | (simp_all [y1j0,y41m,ydwe,ybta,y31p] <;> omega)
def yj62 (args:List Value):Option Value:=match args with
 | [.int .u32 w]=>some (.agg #[.int .i64 (y1j0 w),.int .i64 (y41m w),.int .i64 (ydwe w),.int .i64 (ybta w),.int .i32 (y31p w)])
 | _=>none
@[simp] theorem yraw {w:Int}:yj62 [.int .u32 w]=some (.agg #[.int .i64 (y1j0 w),.int .i64 (y41m w),.int .i64 (ydwe w),.int .i64 (ybta w),.int .i32 (y31p w)]):=rfl
def yevm:CE:=.val yj62
@[simp] theorem yqh3 {args:List Value} {h:H} {K:K1}:CE.run yevm args h K=u_opt (yj62 args) fun v=>K v h:=rfl
theorem ye7d (args:List Value) (h:H) (K:K1) (hr:CE.run yevm args h K):AM.Spec PG yte1 args h K:=by
 rw [yqh3] at hr
 unfold yj62 at hr
 split at hr
 ·exact y3eg hr
 ·exact hr.elim
def E5:CT:=ctOf [(yte1,yevm)] E4
theorem E5_ok:CTOk PG E5:=yko4 E4_ok (by
 intro x hx
 simp only [List.mem_cons,List.not_mem_nil,or_false] at hx
 rcases hx with rfl
 ·exact ye7d)
end Go.Proofs.YtnckimioabkheaaGreat
set_option linter.unusedVariables false
set_option maxRecDepth 100000
namespace Go.Proofs.YtnckimioabkheaaGreat
open Go.Proofs.YtnckimioabkheaaGreat.AM
@[simp] theorem yclb {a0:Int} {a1:Int} {a2:Int} {a3:Int} {K:Value→Prop} {u:Dm K}:ysnr PG yz6n [(0,.int .i64 a0),(1,.int .u32 a1),(2,.int .i64 a2),(3,.int .u8 a3)] K u=K (.agg #[.int .i64 a0,.int .u32 a1,.int .i64 a2,.int .u8 a3]):=by kernel_rfl
@[simp] theorem y2c6 {K:Value→Prop} {u:Dm K}:ysnr PG yokg [] K u=K (.agg #[.int .u8 0,.int .u8 0,.int .u8 0,.int .u8 0,.int .u8 0,.int .u8 0,.int .u8 0,.int .u8 0,.int .u8 0,.int .u8 0,.int .u8 0,.int .u8 0,.int .u8 0,.int .u8 0,.int .u8 0,.int .u8 0,.int .u8 0,.int .u8 0,.int .u8 0,.int .u8 0,.int .u8 0,.int .u8 0,.int .u8 0,.int .u8 0,.int .u8 0,.int .u8 0,.int .u8 0,.int .u8 0,.int .u8 0,.int .u8 0,.int .u8 0,.int .u8 0,.int .u8 0,.int .u8 0,.int .u8 0,.int .u8 0,.int .u8 0,.int .u8 0,.int .u8 0,.int .u8 0,.int .u8 0,.int .u8 0,.int .u8 0,.int .u8 0,.int .u8 0,.int .u8 0,.int .u8 0,.int .u8 0,.int .u8 0,.int .u8 0,.int .u8 0,.int .u8 0,.int .u8 0,.int .u8 0,.int .u8 0,.int .u8 0,.int .u8 0,.int .u8 0,.int .u8 0,.int .u8 0,.int .u8 0,.int .u8 0,.int .u8 0,.int .u8 0,.int .u8 0,.int .u8 0,.int .u8 0,.int .u8 0,.int .u8 0,.int .u8 0,.int .u8 0,.int .u8 0,.int .u8 0,.int .u8 0,.int .u8 0,.int .u8 0,.int .u8 0,.int .u8 0,.int .u8 0,.int .u8 0,.int .u8 0,.int .u8 0,.int .u8 0,.int .u8 0,.int .u8 0,.int .u8 0,.int .u8 0,.int .u8 0,.int .u8 0,.int .u8 0,.int .u8 0,.int .u8 0,.int .u8 0,.int .u8 0,.int .u8 0,.int .u8 0,.int .u8 0,.int .u8 0,.int .u8 0,.int .u8 0,.int .u8 0,.int .u8 0,.int .u8 0,.int .u8 0,.int .u8 0,.int .u8 0,.int .u8 0,.int .u8 0,.int .u8 0,.int .u8 0,.int .u8 0,.int .u8 0,.int .u8 0,.int .u8 0,.int .u8 0,.int .u8 0,.int .u8 0,.int .u8 0,.int .u8 0,.int .u8 0,.int .u8 0,.int .u8 0,.int .u8 0,.int .u8 0,.int .u8 0,.int .u8 0,.int .u8 0,.int .u8 0,.int .u8 0,.int .u8 0,.int .u8 0,.int .u8 0,.int .u8 0,.int .u8 0,.int .u8 0,.int .u8 0,.int .u8 0,.int .u8 0,.int .u8 0,.int .u8 0,.int .u8 0,.int .u8 0,.int .u8 0,.int .u8 0,.int .u8 0,.int .u8 0,.int .u8 0,.int .u8 0,.int .u8 0,.int .u8 0,.int .u8 0,.int .u8 0,.int .u8 0,.int .u8 0,.int .u8 0,.int .u8 0,.int .u8 0,.int .u8 0,.int .u8 0,.int .u8 0,.int .u8 0,.int .u8 0,.int .u8 0,.int .u8 0,.int .u8 0,.int .u8 0,.int .u8 0,.int .u8 0,.int .u8 0,.int .u8 0,.int .u8 0,.int .u8 0,.int .u8 0,.int .u8 0,.int .u8 0,.int .u8 0,.int .u8 0,.int .u8 0,.int .u8 0,.int .u8 0,.int .u8 0,.int .u8 0,.int .u8 0,.int .u8 0,.int .u8 0,.int .u8 0,.int .u8 0,.int .u8 0,.int .u8 0,.int .u8 0,.int .u8 0,.int .u8 0,.int .u8 0,.int .u8 0,.int .u8 0,.int .u8 0,.int .u8 0,.int .u8 0,.int .u8 0,.int .u8 0,.int .u8 0,.int .u8 0,.int .u8 0,.int .u8 0,.int .u8 0,.int .u8 0,.int .u8 0,.int .u8 0,.int .u8 0,.int .u8 0,.int .u8 0,.int .u8 0,.int .u8 0,.int .u8 0,.int .u8 0,.int .u8 0,.int .u8 0,.int .u8 0,.int .u8 0,.int .u8 0,.int .u8 0,.int .u8 0,.int .u8 0,.int .u8 0,.int .u8 0,.int .u8 0,.int .u8 0,.int .u8 0,.int .u8 0,.int .u8 0,.int .u8 0,.int .u8 0,.int .u8 0,.int .u8 0,.int .u8 0,.int .u8 0,.int .u8 0,.int .u8 0,.int .u8 0,.int .u8 0,.int .u8 0,.int .u8 0,.int .u8 0,.int .u8 0,.int .u8 0,.int .u8 0,.int .u8 0,.int .u8 0,.int .u8 0,.int .u8 0,.int .u8 0,.int .u8 0,.int .u8 0,.int .u8 0,.int .u8 0,.int .u8 0,.int .i64 0]):=by kernel_rfl
@[simp] theorem ytin {K:Value→Prop} {u:Dm K}:ysnr PG yuil [] K u=K (.agg #[.int .u8 0,.int .u8 0,.int .u8 0,.int .u8 0]):=by kernel_rfl
@[simp] theorem yiqs {a0:Int} {K:Value→Prop} {u:Dm K}:ysnr PG yuil [(0,.int .u8 a0)] K u=K (.agg #[.int .u8 a0,.int .u8 0,.int .u8 0,.int .u8 0]):=by kernel_rfl
@[simp] theorem y1tx {K:Value→Prop} {u:Dm K}:ysnr PG yqha [] K u=K (.agg #[.int .i64 0,.int .u32 0,.int .i64 0,.int .i64 0,.bool false]):=by kernel_rfl
@[simp] theorem yd3q {a1:Int} {K:Value→Prop} {u:Dm K}:ysnr PG yqha [(1,.int .i64 a1)] K u=K (.agg #[.int .i64 0,.int .u32 0,.int .i64 0,.int .i64 a1,.bool false]):=by kernel_rfl
@[simp] theorem ydof {a2:Bool} {K:Value→Prop} {u:Dm K}:ysnr PG yqha [(2,.bool a2)] K u=K (.agg #[.int .i64 0,.int .u32 0,.int .i64 0,.int .i64 0,.bool a2]):=by kernel_rfl
@[simp] theorem y3i9 {a0:Int} {h:H} {K:K1} {u:Dm K}:ynqb PG y7as 1 [(0,.int .i64 a0)] h K u=u_new [.int .i64 a0] T_int .exact h fun b h=>K (.slice (some ⟨b,0,none⟩) 1 1) h:=by kernel_rfl
@[simp] theorem yxeg {a0_0:Int} {a0_1:Int} {a0_2:Int} {a0_3:Int} {h:H} {K:K1} {u:Dm K}:ynqb PG yu2t 1 [(0,.agg #[.int .i64 a0_0,.int .u32 a0_1,.int .i64 a0_2,.int .u8 a0_3])] h K u=u_new [.int .i64 a0_0,.int .u32 a0_1,.int .i64 a0_2,.int .u8 a0_3] yz6n .exact h fun b h=>K (.slice (some ⟨b,0,none⟩) 1 1) h:=by kernel_rfl
def yymr (x0 x1 x2:Value) (h:H) (Kn Kr:K0):Prop :=
 ysnr PG yuil [] fun v11=>y394 x0 fun v12=>y0wt 5 v12 fun v13=>yji6 (some 256) 1 v13 x1 fun v14=>y394 x0 fun v15=>y0wt 261 v15 fun v16=>ylel 1 v14 x2 h fun h=>yji6 (some 256) 4 v16 x1 fun v17=>ylel 4 v17 v11 h fun h=>Kn h
theorem y5kx {Kn Kr:K0} {t:T} {h:H} (H0:yymr (t 0) (t 1) (t 2) h Kn Kr):Wp PG 18 (ygjk Tryz.f287.body) (mkQ (q0 Kn) (q0 Kr) ke0) t h :=
 (drE E5_ok [0,1,2,3,4,5,6,7,8,10,11,9,12,13] H0)
def yjqr (x0 x1 x2:Value) (h:H) (Q:K1):Prop:=yymr x0 x1 x2 h (fun h=>bif [].all boxV then Q (.tuple #[]) h else False) (fun h=>bif [].all boxV then Q (.tuple #[]) h else False)
theorem ya77 (x0 x1 x2:Value) (h:H) (Q:K1) (H0:yjqr x0 x1 x2 h Q):AM.Spec PG y6b0 [x0,x1,x2] h Q :=
 spH mixed Tryz.func287 [] (y5kx H0)
def y9p9 (x0 x1:Value) (h:H) (Kn Kr:K1):Prop :=
 u_bin PG .eql ycpa x1 (.int .u32 0) fun v6=>u_if v6 (Kr (.int .u32 0) h) (u_pf false 1 0 x0 h fun v10=>y394 v10 fun v12=>y0wt 2 v12 fun v13=>y0wt 0 v13 fun v14=>u_ix false 1 (some 32) v14 x1 h fun v16=>Kr v16 h)
def y2c8 (x0 x1:Value) (h:H) (Q:K1):Prop:=y9p9 x0 x1 h Q Q
theorem y6jr (x0 x1:Value) (h:H) (Q:K1) (H0:y2c8 x0 x1 h Q):AM.Spec PG yw1c [x0,x1] h Q :=
 spE mixed E5_ok Tryz.func288 [4] H0
def yap0 (x0 x1 x2 x8 x9 x10 x79:Value) (h:H) (Kn:K8) (Kr:K3):Prop :=
 ybqh true 4 x8 h fun v26=>u_ct ythy [v26] h fun v27 h=>ybqh true 4 x9 h fun v28=>u_ct ythy [v28] h fun v29 h=>u_bin PG .or yoj6 v27 v29 fun v30=>Kn x0 x1 x2 x8 x9 x10 v30 x79 h
def yd6a (x8 x9 x10 x79:Value) (h:H) (Kn Kr Ke0:K3):Prop :=
 ybqh true 4 x8 h fun v35=>ybqh true 4 x9 h fun v36=>u_ct yj35 [v35,v36] h fun v37 h=>ylel 4 x10 v37 h fun h=>Kr x10 (.int .i64 0) x79 h
def y8be (x1 x2 x8 x9 x10 x79:Value) (h:H) (Kn Kr Ke0:K3):Prop :=
 ybqh true 4 x8 h fun v42=>ybqh true 4 x9 h fun v43=>yjdf PG yax6 [x1,x2,v42,v43] h fun v44 h=>ylel 4 x10 v44 h fun h=>Kr x10 (.int .i64 0) x79 h
def yv18 (x8 x9 x10 x79:Value) (h:H) (Kn Kr Ke0:K3):Prop :=
 ybqh true 4 x8 h fun v49=>ybqh true 4 x9 h fun v50=>u_ct yj35 [v49,v50] h fun v51 h=>u_ct yykz [v51] h fun v52 h=>ylel 4 x10 v52 h fun h=>Kr x10 (.int .i64 0) x79 h
def yz46 (x8 x9 x10 x79:Value) (h:H) (Kn Kr Ke0:K3):Prop :=
 ybqh true 4 x8 h fun v60=>u_ct ythy [v60] h fun v61 h=>u_ix false 1 (some 4) x9 (.int .i64 0) h fun v63=>u_bin PG .or yoj6 v61 v63 fun v64=>u_ct y70b [v64] h fun v65 h=>ylel 4 x10 v65 h fun h=>Kn x10 (.int .i64 0) x79 h
def y618 (x10 x11 x79:Value) (h:H) (Kn:K5) (Kr Ke0:K3):Prop :=
 Kr x10 x11 x79 h
def y0r2 (x8 x9 x10 x79:Value) (h:H) (Kn:K5) (Kr Ke0:K3):Prop :=
 yz46 x8 x9 x10 x79 h (fun y10 y11 y79 h=>y618 y10 y11 y79 h Kn Kr Ke0) Kr Ke0
def yi8t (x0 x2 x8 x10 x79:Value) (h:H) (Kn:K5) (Kr Ke0:K3):Prop :=
 Kn x0 x2 x8 x10 x79 h
def yewb (x0 x2 x8 x9 x10 x59 x79:Value) (h:H) (Kn:K5) (Kr Ke0:K3):Prop :=
 u_if x59 (y0r2 x8 x9 x10 x79 h Kn Kr Ke0) (yi8t x0 x2 x8 x10 x79 h Kn Kr Ke0)
def yr5w (x0 x2 x8 x9 x10 x79:Value) (h:H) (Kn:K5) (Kr Ke0:K3):Prop :=
 u_ix false 1 (some 4) x9 (.int .i64 0) h fun v58=>u_bin PG .neq yoj6 v58 (.int .u8 0) fun v59=>yewb x0 x2 x8 x9 x10 v59 x79 h Kn Kr Ke0
def yk7i (x0 x2 x8 x10 x79:Value) (h:H) (Kn Kr Ke0:K3):Prop :=
 u_bin PG .rem ycpa x2 (.int .u32 32) fun v68=>y2x6 .i64 v68 fun v69=>ybqh true 4 x8 h fun v70=>yjdf PG yozs [x0,v69,v70] h fun v71 h=>ylel 4 x10 v71 h fun h=>Kr x10 (.int .i64 0) x79 h
def yfhf (x0 x2 x8 x9 x10 x79:Value) (h:H) (Kn Kr Ke0:K3):Prop :=
 yr5w x0 x2 x8 x9 x10 x79 h (fun y0 y2 y8 y10 y79 h=>yk7i y0 y2 y8 y10 y79 h Kn Kr Ke0) Kr Ke0
def yogs (x10 x14 x31 x79:Value) (h:H) (Kn Kr Ke0:K3):Prop :=
 yi4e PG T_int x31 [(.int .i64 3),(.int .i64 4)] fun w72=>u_if w72 (ysnr PG yuil [(0,x14)] fun v76=>ylel 4 x10 v76 h fun h=>Kr x10 (.int .i64 0) x79 h) (Kn x10 x14 x79 h)
def yi4f (x0 x2 x8 x9 x10 x14 x31 x53 x79:Value) (h:H) (Kn Kr Ke0:K3):Prop :=
 u_if x53 (yfhf x0 x2 x8 x9 x10 x79 h Kn Kr Ke0) (yogs x10 x14 x31 x79 h Kn Kr Ke0)
def y93d (x0 x2 x8 x9 x10 x14 x31 x79:Value) (h:H) (Kn Kr Ke0:K3):Prop :=
 yi4e PG T_int x31 [(.int .i64 2),(.int .i64 6),(.int .i64 7)] fun w53=>yi4f x0 x2 x8 x9 x10 x14 x31 w53 x79 h Kn Kr Ke0
def y97t (x0 x2 x8 x9 x10 x14 x31 x45 x79:Value) (h:H) (Kn Kr Ke0:K3):Prop :=
 u_if x45 (yv18 x8 x9 x10 x79 h Kn Kr Ke0) (y93d x0 x2 x8 x9 x10 x14 x31 x79 h Kn Kr Ke0)
def yxuj (x0 x2 x8 x9 x10 x14 x31 x79:Value) (h:H) (Kn Kr Ke0:K3):Prop :=
 yi4e PG T_int x31 [(.int .i64 0),(.int .i64 1),(.int .i64 10)] fun w45=>y97t x0 x2 x8 x9 x10 x14 x31 w45 x79 h Kn Kr Ke0
def yz6b (x0 x1 x2 x8 x9 x10 x14 x31 x38 x79:Value) (h:H) (Kn Kr Ke0:K3):Prop :=
 u_if x38 (y8be x1 x2 x8 x9 x10 x79 h Kn Kr Ke0) (yxuj x0 x2 x8 x9 x10 x14 x31 x79 h Kn Kr Ke0)
def ywk7 (x0 x1 x2 x8 x9 x10 x14 x31 x79:Value) (h:H) (Kn Kr Ke0:K3):Prop :=
 u_bin PG .eql T_int x31 (.int .i64 9) fun v39=>yz6b x0 x1 x2 x8 x9 x10 x14 x31 v39 x79 h Kn Kr Ke0
def ye4n (x0 x1 x2 x8 x9 x10 x14 x31 x32 x79:Value) (h:H) (Kn Kr Ke0:K3):Prop :=
 u_if x32 (yd6a x8 x9 x10 x79 h Kn Kr Ke0) (ywk7 x0 x1 x2 x8 x9 x10 x14 x31 x79 h Kn Kr Ke0)
def yxpy (x0 x1 x2 x8 x9 x10 x14 x31 x79:Value) (h:H) (Kn Kr Ke0:K3):Prop :=
 yi4e PG T_int x31 [(.int .i64 5),(.int .i64 8)] fun w32=>ye4n x0 x1 x2 x8 x9 x10 x14 x31 w32 x79 h Kn Kr Ke0
def y8b2 (x0 x1 x2 x8 x9 x10 x14 x31 x79:Value) (h:H) (Kn Kr:K3):Prop :=
 yxpy x0 x1 x2 x8 x9 x10 x14 x31 x79 h Kn Kr Kn
def y4jn (x0 x1 x2 x8 x9 x10 x14 x79:Value) (h:H) (Kn Kr:K3):Prop :=
 y8b2 x0 x1 x2 x8 x9 x10 x14 x0 x79 h Kn Kr
def yg2x (x10 x14 x79:Value) (h:H) (Kn Kr:K3):Prop :=
 u_ct y70b [x14] h fun v78 h=>ylel 4 x10 v78 h fun h=>Kr x10 (.int .i64 0) x79 h
def ys0u (x0 x1 x2 x8 x9 x10 x14 x79:Value) (h:H) (Kn Kr:K3):Prop :=
 y4jn x0 x1 x2 x8 x9 x10 x14 x79 h (fun y10 y14 y79 h=>yg2x y10 y14 y79 h Kn Kr) Kr
def yqrq (x0 x1 x2 x8 x9 x10 x79:Value) (h:H) (Kn Kr:K3):Prop :=
 yap0 x0 x1 x2 x8 x9 x10 x79 h (fun y0 y1 y2 y8 y9 y10 y14 y79 h=>ys0u y0 y1 y2 y8 y9 y10 y14 y79 h Kn Kr) Kr
def yyav (x0 x1 x2 x3 x4 x79:Value) (h:H) (Kn Kr:K3):Prop :=
 boxV x3=true∧u_new (Value.cells x3).toList yuil .exact h fun b8 h=>boxV x4=true∧u_new (Value.cells x4).toList yuil .exact h fun b9 h=>u_new [.int .u8 0,.int .u8 0,.int .u8 0,.int .u8 0] yuil .exact h fun b10 h=>u_ct yuuq [x0,x1,x2] h fun v19 h=>yvu8 v19 0 fun v20=>yvu8 v19 1 fun v21=>u_bin PG .neq ya0f v21 (.int .i64 0) fun v23=>u_if v23 (ysnr PG yuil [] fun v24=>ylel 4 (.pointer (some ⟨b10,0,none⟩)) v24 h fun h=>Kr (.pointer (some ⟨b10,0,none⟩)) v21 x79 h) (yqrq x0 x1 x2 (.pointer (some ⟨b8,0,none⟩)) (.pointer (some ⟨b9,0,none⟩)) (.pointer (some ⟨b10,0,none⟩)) x79 h Kn Kr)
theorem y062 {Kn:K5} {Kr Ke0:K3} {t:T} {h:H} (H0:yr5w (t 0) (t 2) (t 8) (t 9) (t 10) (t 79) h Kn Kr Ke0):Wp PG 79 (seqL (cndX (rest 1 (cndY (rest 1 (cndY (rest 1 (cndY (rest 1 (blkC (rest 1 (seqL (seqR (rest 2 (ygjk Tryz.f289.body))))))))))))))) (mkQ (q5 Kn 0 2 8 10 79) (q3 Kr 10 11 79) (keAdd 0 (q3 Ke0 10 14 79) ke0)) t h :=
 (toE E5_ok 1 H0 fun t h (H:yewb (t 0) (t 2) (t 8) (t 9) (t 10) (t 59) (t 79) h Kn Kr Ke0)=>(cdE H (fun H=>(sqE (q3 (fun y10 y11 y79 h=>y618 y10 y11 y79 h Kn Kr Ke0) 10 11 79) (drE E5_ok [0,1,2,3,4,5,6,7] H) fun t h H=>(wpE E5_ok H))) fun H=>(wpE E5_ok H)))
theorem yicb {Kn Kr Ke0:K3} {t:T} {h:H} (H0:yxuj (t 0) (t 2) (t 8) (t 9) (t 10) (t 14) (t 31) (t 79) h Kn Kr Ke0):Wp PG 79 (cndY (rest 1 (cndY (rest 1 (blkC (rest 1 (seqL (seqR (rest 2 (ygjk Tryz.f289.body)))))))))) (mkQ (q3 Kn 10 14 79) (q3 Kr 10 11 79) (keAdd 0 (q3 Ke0 10 14 79) ke0)) t h :=
 (toE E5_ok 1 H0 fun t h (H:y97t (t 0) (t 2) (t 8) (t 9) (t 10) (t 14) (t 31) (t 45) (t 79) h Kn Kr Ke0)=>(cdE H (fun H=>(wpE E5_ok H)) fun H=>(toE E5_ok 1 H fun t h (H:yi4f (t 0) (t 2) (t 8) (t 9) (t 10) (t 14) (t 31) (t 53) (t 79) h Kn Kr Ke0)=>(cdE H (fun H=>(sqE _ (y062 H) fun t h H=>(wpE E5_ok H))) fun H=>(wpE E5_ok H)))))
theorem yai5 {Kn Kr Ke0:K3} {t:T} {h:H} (H0:yxpy (t 0) (t 1) (t 2) (t 8) (t 9) (t 10) (t 14) (t 31) (t 79) h Kn Kr Ke0):Wp PG 79 (blkC (rest 1 (seqL (seqR (rest 2 (ygjk Tryz.f289.body)))))) (mkQ (q3 Kn 10 14 79) (q3 Kr 10 11 79) (keAdd 0 (q3 Ke0 10 14 79) ke0)) t h :=
 (toE E5_ok 1 H0 fun t h (H:ye4n (t 0) (t 1) (t 2) (t 8) (t 9) (t 10) (t 14) (t 31) (t 32) (t 79) h Kn Kr Ke0)=>(cdE H (fun H=>(wpE E5_ok H)) fun H=>(toE E5_ok 1 H fun t h (H:yz6b (t 0) (t 1) (t 2) (t 8) (t 9) (t 10) (t 14) (t 31) (t 38) (t 79) h Kn Kr Ke0)=>(cdE H (fun H=>(wpE E5_ok H)) fun H=>(yicb H)))))
theorem y7mp {Kn Kr:K3} {t:T} {h:H} (H0:yyav (t 0) (t 1) (t 2) (t 3) (t 4) (t 79) h Kn Kr):Wp PG 79 (ygjk Tryz.f289.body) (mkQ (q3 Kn 10 11 79) (q3 Kr 10 11 79) ke0) t h :=
 (toE E5_ok 2 H0 fun t h (H:yqrq (t 0) (t 1) (t 2) (t 8) (t 9) (t 10) (t 79) h Kn Kr)=>(sqE (fun t h=>(fun y0 y1 y2 y8 y9 y10 y14 y79 h=>ys0u y0 y1 y2 y8 y9 y10 y14 y79 h Kn Kr) (t 0) (t 1) (t 2) (t 8) (t 9) (t 10) (t 14) (t 79) h) (drE E5_ok [0,1,2,3,4,5] H) fun t h H=>(sqE (q3 (fun y10 y14 y79 h=>yg2x y10 y14 y79 h Kn Kr) 10 14 79) (toE E5_ok 1 H fun t h (H:y8b2 (t 0) (t 1) (t 2) (t 8) (t 9) (t 10) (t 14) (t 31) (t 79) h (fun y10 y14 y79 h=>yg2x y10 y14 y79 h Kn Kr) Kr)=>(bkE 0 (yai5 H))) fun t h H=>(wpE E5_ok H))))
def yo5i (x0 x1 x2 x3 x4:Value) (h:H) (Q:K1):Prop:=yyav x0 x1 x2 x3 x4 undef h (fun y10 y11 y79 h=>o_ret y79 h (fun h=>ybqh true 4 y10 h fun v0=>[v0,y11].all boxV=true∧Q (.tuple #[v0,y11]) h)) (fun y10 y11 y79 h=>o_ret y79 h (fun h=>ybqh true 4 y10 h fun v0=>[v0,y11].all boxV=true∧Q (.tuple #[v0,y11]) h))
theorem ytvk (x0 x1 x2 x3 x4:Value) (h:H) (Q:K1) (H0:yo5i x0 x1 x2 x3 x4 h Q):AM.Spec PG yjud [x0,x1,x2,x3,x4] h Q :=
 spS mixed Tryz.func289 [.cell 10 54 true 4,.tmp 11] (y7mp H0)
def ys1r (x0 x1 x6 x7 x8 x9 x10 x13 x55:Value) (h:H) (Kn:(Value→Value→Value→Value→Value→Value→Value→Value→Value→Value→Value→H→Prop)) (Kr:K2) (Ke1:K8) (Ke0:K3):Prop :=
 u_bin PG .mul T_int (.int .i64 8) x10 fun v18=>u_bin PG .shr ycpa x0 v18 fun v19=>y2x6 .u8 v19 fun v20=>u_bin PG .mul T_int (.int .i64 8) x10 fun v23=>u_bin PG .shr ycpa x1 v23 fun v24=>y2x6 .u8 v24 fun v25=>Kn x0 x1 x6 x7 x8 x9 x10 v20 v25 x13 x55 h
def yb5w (x0 x1 x6 x7 x8 x9 x10 x13 x55:Value) (h:H) (Kn:K8) (Kr:K2) (Ke1:K8) (Ke0:K3):Prop :=
 u_ix false 1 (some 4) x6 x10 h fun v47=>u_ix false 1 (some 4) x7 x10 h fun v50=>u_bin PG .or yoj6 v47 v50 fun v51=>yji6 (some 4) 1 x9 x10 fun v52=>ylel 1 v52 v51 h fun h=>Kn x0 x1 x6 x7 x8 x9 x13 x55 h
def yww8 (x0 x1 x6 x7 x8 x9 x10 x11 x12 x13 x55:Value) (h:H) (Kn:K8) (Kr:K2) (Ke1:K8) (Ke0:K3):Prop :=
 u_ix false 1 (some 4) x6 x10 h fun v28=>u_bin PG .eql yoj6 v28 (.int .u8 0) fun v29=>ydv6 v29 true (fun k6=>u_bin PG .eql yoj6 x11 (.int .u8 0) fun v32=>k6 v32 h) (fun v32 h=>y9rg v29 v32 (.bool false) fun v33=>ydv6 v33 false (fun k16=>u_ix false 1 (some 4) x7 x10 h fun v37=>u_bin PG .eql yoj6 v37 (.int .u8 0) fun v38=>ydv6 v38 true (fun k15=>u_bin PG .eql yoj6 x12 (.int .u8 0) fun v41=>k15 v41 h) (fun v41 h=>y9rg v38 v41 (.bool false) fun v42=>k16 v42 h) h) (fun v42 h=>y9rg v33 (.bool true) v42 fun v43=>u_if v43 (Ke1 x0 x1 x6 x7 x8 x9 x13 x55 h) (yb5w x0 x1 x6 x7 x8 x9 x10 x13 x55 h Kn Kr Ke1 Ke0)) h) h
def y07d (x0 x1 x6 x7 x8 x9 x10 x13 x55:Value) (h:H) (Kn:K8) (Kr:K2) (Ke1:K8) (Ke0:K3):Prop :=
 ys1r x0 x1 x6 x7 x8 x9 x10 x13 x55 h (fun y0 y1 y6 y7 y8 y9 y10 y11 y12 y13 y55 h=>yww8 y0 y1 y6 y7 y8 y9 y10 y11 y12 y13 y55 h Kn Kr Ke1 Ke0) Kr Ke1 Ke0
def yebw (x0 x1 x6 x7 x8 x9 x13 x55:Value) (h:H) (Kn:K8) (Kr:K2) (Ke1:K8) (Ke0:K3):Prop :=
 y07d x0 x1 x6 x7 x8 x9 x13 x13 x55 h Kn Kr Ke1 Ke0
def y74y (x0 x1 x6 x7 x8 x9 x13 x55:Value) (h:H) (Kn:K8) (Kr:K2) (Ke0:K3):Prop :=
 yebw x0 x1 x6 x7 x8 x9 x13 x55 h Kn Kr Kn Ke0
def yt8f (x0 x1 x6 x7 x8 x9 x13 x55:Value) (h:H) (Kn:K8) (Kr:K2) (Ke0:K3):Prop :=
 u_bin PG .add T_int x13 (.int .i64 1) fun v53=>Kn x0 x1 x6 x7 x8 x9 v53 x55 h
def y9ps (x0 x1 x6 x7 x8 x9 x13 x55:Value) (h:H) (Kn:K8) (Kr:K2) (Ke0:K3):Prop :=
 y74y x0 x1 x6 x7 x8 x9 x13 x55 h (fun y0 y1 y6 y7 y8 y9 y13 y55 h=>yt8f y0 y1 y6 y7 y8 y9 y13 y55 h Kn Kr Ke0) Kr Ke0
def ylgy (x0 x1 x6 x7 x8 x9 x13 x55:Value) (h:H) (Kn:K8) (Kr:K2) (Ke0:K3):Prop :=
 u_bin PG .lss T_int x13 (.int .i64 4) fun v14=>u_if v14 (y9ps x0 x1 x6 x7 x8 x9 x13 x55 h Kn Kr Ke0) (Ke0 x8 x9 x55 h)
def ycih (x0 x1 x6 x7 x8 x9 x13 x55:Value) (h:H) (Kn:K3) (Kr:K2) (Ke0:K3):Prop :=
 sloop (S:=Value×Value×Value×Value×Value×Value×Value×Value) (fun s h K=>ylgy s.1 s.2.1 s.2.2.1 s.2.2.2.1 s.2.2.2.2.1 s.2.2.2.2.2.1 s.2.2.2.2.2.2.1 s.2.2.2.2.2.2.2 h (fun y0 y1 y6 y7 y8 y9 y13 y55 h=>K (y0,y1,y6,y7,y8,y9,y13,y55) h) Kr Ke0) (x0,x1,x6,x7,x8,x9,x13,x55) h
def yk7l (x0 x1 x6 x7 x8 x9 x13 x55:Value) (h:H) (Kn:K3) (Kr:K2):Prop :=
 ycih x0 x1 x6 x7 x8 x9 x13 x55 h Kn Kr Kn
def y14q (x0 x1 x6 x7 x8 x9 x55:Value) (h:H) (Kn:K3) (Kr:K2):Prop :=
 yk7l x0 x1 x6 x7 x8 x9 (.int .i64 0) x55 h Kn Kr
def ykgi (x8 x9 x55:Value) (h:H) (Kn Kr:K2):Prop :=
 ybqh true 4 x9 h fun v54=>ylel 4 x8 v54 h fun h=>Kr x8 x55 h
def y1ej (x0 x1 x6 x7 x8 x9 x55:Value) (h:H) (Kn Kr:K2):Prop :=
 y14q x0 x1 x6 x7 x8 x9 x55 h (fun y8 y9 y55 h=>ykgi y8 y9 y55 h Kn Kr) Kr
def y3gt (x0 x1 x2 x3 x55:Value) (h:H) (Kn Kr:K2):Prop :=
 boxV x2=true∧u_new (Value.cells x2).toList yuil .exact h fun b6 h=>boxV x3=true∧u_new (Value.cells x3).toList yuil .exact h fun b7 h=>u_new [.int .u8 0,.int .u8 0,.int .u8 0,.int .u8 0] yuil .exact h fun b8 h=>u_new [.int .u8 0,.int .u8 0,.int .u8 0,.int .u8 0] yuil .exact h fun b9 h=>y1ej x0 x1 (.pointer (some ⟨b6,0,none⟩)) (.pointer (some ⟨b7,0,none⟩)) (.pointer (some ⟨b8,0,none⟩)) (.pointer (some ⟨b9,0,none⟩)) x55 h Kn Kr
theorem y5ef {Kn:K8} {Kr:K2} {Ke1:K8} {Ke0:K3} {t:T} {h:H} (H0:yebw (t 0) (t 1) (t 6) (t 7) (t 8) (t 9) (t 13) (t 55) h Kn Kr Ke1 Ke0):Wp PG 55 (blkC (seqL (rest 2 (lopC (blkC (rest 1 (seqL (rest 2 (ygjk Tryz.f319.body))))))))) (mkQ (fun t h=>Kn (t 0) (t 1) (t 6) (t 7) (t 8) (t 9) (t 13) (t 55) h) (q2 Kr 8 55) (keAdd 1 (fun t h=>Ke1 (t 0) (t 1) (t 6) (t 7) (t 8) (t 9) (t 13) (t 55) h) (keAdd 0 (q3 Ke0 8 9 55) ke0))) t h :=
 (toE E5_ok 1 H0 fun t h (H:y07d (t 0) (t 1) (t 6) (t 7) (t 8) (t 9) (t 10) (t 13) (t 55) h Kn Kr Ke1 Ke0)=>(sqE (fun t h=>(fun y0 y1 y6 y7 y8 y9 y10 y11 y12 y13 y55 h=>yww8 y0 y1 y6 y7 y8 y9 y10 y11 y12 y13 y55 h Kn Kr Ke1 Ke0) (t 0) (t 1) (t 6) (t 7) (t 8) (t 9) (t 10) (t 11) (t 12) (t 13) (t 55) h) (drE E5_ok [0,1,2,3,4,5,6,7,8,9,10,11] H) fun t h H=>(toE E5_ok 1 H fun t h (H:yb5w (t 0) (t 1) (t 6) (t 7) (t 8) (t 9) (t 10) (t 13) (t 55) h Kn Kr Ke1 Ke0)=>(drE E5_ok [0,1,2,3,4,5,6,7,8,9] H))))
theorem ybef {Kn:K8} {Kr:K2} {Ke0:K3} {t:T} {h:H} (H0:y74y (t 0) (t 1) (t 6) (t 7) (t 8) (t 9) (t 13) (t 55) h Kn Kr Ke0):Wp PG 55 (seqL (rest 2 (lopC (blkC (rest 1 (seqL (rest 2 (ygjk Tryz.f319.body)))))))) (mkQ (fun t h=>Kn (t 0) (t 1) (t 6) (t 7) (t 8) (t 9) (t 13) (t 55) h) (q2 Kr 8 55) (keAdd 0 (q3 Ke0 8 9 55) ke0)) t h :=
 (bkE 1 (y5ef H0))
theorem ynlm {Kn:K8} {Kr:K2} {Ke0:K3} {t:T} {h:H} (H0:ylgy (t 0) (t 1) (t 6) (t 7) (t 8) (t 9) (t 13) (t 55) h Kn Kr Ke0):Wp PG 55 (lopC (blkC (rest 1 (seqL (rest 2 (ygjk Tryz.f319.body)))))) (mkQ (fun t h=>Kn (t 0) (t 1) (t 6) (t 7) (t 8) (t 9) (t 13) (t 55) h) (q2 Kr 8 55) (keAdd 0 (q3 Ke0 8 9 55) ke0)) t h :=
 (toE E5_ok 2 H0 fun t h (H:y9ps (t 0) (t 1) (t 6) (t 7) (t 8) (t 9) (t 13) (t 55) h Kn Kr Ke0)=>(sqE _ (ybef H) fun t h H=>(wpE E5_ok H)))
theorem yu2h {Kn Kr:K2} {t:T} {h:H} (H0:y3gt (t 0) (t 1) (t 2) (t 3) (t 55) h Kn Kr):Wp PG 55 (ygjk Tryz.f319.body) (mkQ (q2 Kn 8 55) (q2 Kr 8 55) ke0) t h :=
 (toE E5_ok 2 H0 fun t h (H:y1ej (t 0) (t 1) (t 6) (t 7) (t 8) (t 9) (t 55) h Kn Kr)=>(sqE (q3 (fun y8 y9 y55 h=>ykgi y8 y9 y55 h Kn Kr) 8 9 55) (toE E5_ok 1 H fun t h (H:yk7l (t 0) (t 1) (t 6) (t 7) (t 8) (t 9) (t 13) (t 55) h (fun y8 y9 y55 h=>ykgi y8 y9 y55 h Kn Kr) Kr)=>(bkE 0 (lpE (fun t=>(t 0,t 1,t 6,t 7,t 8,t 9,t 13,t 55)) H fun t h K H=>(ynlm H)))) fun t h H=>(wpE E5_ok H)))
def yvl8 (x0 x1 x2 x3:Value) (h:H) (Q:K1):Prop:=y3gt x0 x1 x2 x3 undef h (fun y8 y55 h=>o_ret y55 h (fun h=>ybqh true 4 y8 h fun v=>Q v h)) (fun y8 y55 h=>o_ret y55 h (fun h=>ybqh true 4 y8 h fun v=>Q v h))
theorem yurj (x0 x1 x2 x3:Value) (h:H) (Q:K1) (H0:yvl8 x0 x1 x2 x3 h Q):AM.Spec PG yax6 [x0,x1,x2,x3] h Q :=
 spC mixed Tryz.func319 8 54 true 4 (yu2h H0)
def yr5h (x0 x1 x5 x6 x7 x8 x9 x11 x34:Value) (h:H) (Kn:K7) (Kr:K2) (Ke1:K7) (Ke0:K3):Prop :=
 u_bin PG .quo T_int x8 (.int .i64 8) fun v23=>u_ix false 1 (some 4) x7 v23 h fun v25=>u_bin PG .quo T_int x9 (.int .i64 8) fun v27=>u_ix false 1 (some 4) x5 v27 h fun v29=>u_bin PG .or yoj6 v25 v29 fun v30=>yji6 (some 4) 1 x7 v23 fun v31=>ylel 1 v31 v30 h fun h=>Kn x0 x1 x5 x6 x7 x11 x34 h
def yofn (x0 x1 x5 x6 x7 x11 x34:Value) (h:H) (Kn:K7) (Kr:K2) (Ke1:K7) (Ke0:K3):Prop :=
 Kn x0 x1 x5 x6 x7 x11 x34 h
def ye6n (x0 x1 x5 x6 x7 x8 x9 x11 x21 x34:Value) (h:H) (Kn:K7) (Kr:K2) (Ke1:K7) (Ke0:K3):Prop :=
 u_if x21 (yr5h x0 x1 x5 x6 x7 x8 x9 x11 x34 h Kn Kr Ke1 Ke0) (yofn x0 x1 x5 x6 x7 x11 x34 h Kn Kr Ke1 Ke0)
def ybcc (x0 x1 x5 x6 x7 x11 x34:Value) (h:H) (Kn:K7) (Kr:K2) (Ke1:K7) (Ke0:K3):Prop :=
 u_ct y52z [x0,x11,x1] h fun v18 h=>yvu8 v18 0 fun v19=>yvu8 v18 1 fun v20=>ye6n x0 x1 x5 x6 x7 x11 v19 x11 v20 x34 h Kn Kr Ke1 Ke0
def yu94 (x0 x1 x5 x6 x7 x11 x34:Value) (h:H) (Kn:K7) (Kr:K2) (Ke0:K3):Prop :=
 ybcc x0 x1 x5 x6 x7 x11 x34 h Kn Kr Kn Ke0
def y6e4 (x0 x1 x5 x6 x7 x11 x34:Value) (h:H) (Kn:K7) (Kr:K2) (Ke0:K3):Prop :=
 u_bin PG .add T_int x11 (.int .i64 1) fun v32=>Kn x0 x1 x5 x6 x7 v32 x34 h
def yj3t (x0 x1 x5 x6 x7 x11 x34:Value) (h:H) (Kn:K7) (Kr:K2) (Ke0:K3):Prop :=
 yu94 x0 x1 x5 x6 x7 x11 x34 h (fun y0 y1 y5 y6 y7 y11 y34 h=>y6e4 y0 y1 y5 y6 y7 y11 y34 h Kn Kr Ke0) Kr Ke0
def yxip (x0 x1 x5 x6 x7 x11 x34:Value) (h:H) (Kn:K7) (Kr:K2) (Ke0:K3):Prop :=
 u_bin PG .lss T_int x11 (.int .i64 32) fun v12=>u_if v12 (yj3t x0 x1 x5 x6 x7 x11 x34 h Kn Kr Ke0) (Ke0 x6 x7 x34 h)
def y5wu (x0 x1 x5 x6 x7 x11 x34:Value) (h:H) (Kn:K3) (Kr:K2) (Ke0:K3):Prop :=
 sloop (S:=Value×Value×Value×Value×Value×Value×Value) (fun s h K=>yxip s.1 s.2.1 s.2.2.1 s.2.2.2.1 s.2.2.2.2.1 s.2.2.2.2.2.1 s.2.2.2.2.2.2 h (fun y0 y1 y5 y6 y7 y11 y34 h=>K (y0,y1,y5,y6,y7,y11,y34) h) Kr Ke0) (x0,x1,x5,x6,x7,x11,x34) h
def ysus (x0 x1 x5 x6 x7 x11 x34:Value) (h:H) (Kn:K3) (Kr:K2):Prop :=
 y5wu x0 x1 x5 x6 x7 x11 x34 h Kn Kr Kn
def ylsl (x0 x1 x5 x6 x7 x34:Value) (h:H) (Kn:K3) (Kr:K2):Prop :=
 ysus x0 x1 x5 x6 x7 (.int .i64 0) x34 h Kn Kr
def y6xi (x6 x7 x34:Value) (h:H) (Kn Kr:K2):Prop :=
 ybqh true 4 x7 h fun v33=>ylel 4 x6 v33 h fun h=>Kr x6 x34 h
def yrs1 (x0 x1 x5 x6 x7 x34:Value) (h:H) (Kn Kr:K2):Prop :=
 ylsl x0 x1 x5 x6 x7 x34 h (fun y6 y7 y34 h=>y6xi y6 y7 y34 h Kn Kr) Kr
def ysae (x0 x1 x2 x34:Value) (h:H) (Kn Kr:K2):Prop :=
 boxV x2=true∧u_new (Value.cells x2).toList yuil .exact h fun b5 h=>u_new [.int .u8 0,.int .u8 0,.int .u8 0,.int .u8 0] yuil .exact h fun b6 h=>u_new [.int .u8 0,.int .u8 0,.int .u8 0,.int .u8 0] yuil .exact h fun b7 h=>yrs1 x0 x1 (.pointer (some ⟨b5,0,none⟩)) (.pointer (some ⟨b6,0,none⟩)) (.pointer (some ⟨b7,0,none⟩)) x34 h Kn Kr
theorem ymiu {Kn:K7} {Kr:K2} {Ke0:K3} {t:T} {h:H} (H0:yu94 (t 0) (t 1) (t 5) (t 6) (t 7) (t 11) (t 34) h Kn Kr Ke0):Wp PG 34 (seqL (rest 2 (lopC (blkC (rest 1 (seqL (rest 2 (ygjk Tryz.f321.body)))))))) (mkQ (fun t h=>Kn (t 0) (t 1) (t 5) (t 6) (t 7) (t 11) (t 34) h) (q2 Kr 6 34) (keAdd 0 (q3 Ke0 6 7 34) ke0)) t h :=
 (bkE 1 (toE E5_ok 3 H0 fun t h (H:ye6n (t 0) (t 1) (t 5) (t 6) (t 7) (t 8) (t 9) (t 11) (t 21) (t 34) h Kn Kr Kn Ke0)=>(cdE H (fun H=>(drE E5_ok [0,1,2,3,4,5,6,7,8,9,10] H)) fun H=>(wpE E5_ok H))))
theorem ybbb {Kn:K3} {Kr:K2} {t:T} {h:H} (H0:ylsl (t 0) (t 1) (t 5) (t 6) (t 7) (t 34) h Kn Kr):Wp PG 34 (seqL (rest 2 (ygjk Tryz.f321.body))) (mkQ (q3 Kn 6 7 34) (q2 Kr 6 34) ke0) t h :=
 (toE E5_ok 1 H0 fun t h (H:ysus (t 0) (t 1) (t 5) (t 6) (t 7) (t 11) (t 34) h Kn Kr)=>(bkE 0 (lpE (fun t=>(t 0,t 1,t 5,t 6,t 7,t 11,t 34)) H fun t h K H=>(toE E5_ok 2 H fun t h (H:yj3t (t 0) (t 1) (t 5) (t 6) (t 7) (t 11) (t 34) h (fun y0 y1 y5 y6 y7 y11 y34 h=>K (y0,y1,y5,y6,y7,y11,y34) h) Kr Kn)=>(sqE _ (ymiu H) fun t h H=>(wpE E5_ok H))))))
theorem y3f6 {Kn Kr:K2} {t:T} {h:H} (H0:ysae (t 0) (t 1) (t 2) (t 34) h Kn Kr):Wp PG 34 (ygjk Tryz.f321.body) (mkQ (q2 Kn 6 34) (q2 Kr 6 34) ke0) t h :=
 (toE E5_ok 2 H0 fun t h (H:yrs1 (t 0) (t 1) (t 5) (t 6) (t 7) (t 34) h Kn Kr)=>(sqE _ (ybbb H) fun t h H=>(wpE E5_ok H)))
def ymdj (x0 x1 x2:Value) (h:H) (Q:K1):Prop:=ysae x0 x1 x2 undef h (fun y6 y34 h=>o_ret y34 h (fun h=>ybqh true 4 y6 h fun v=>Q v h)) (fun y6 y34 h=>o_ret y34 h (fun h=>ybqh true 4 y6 h fun v=>Q v h))
theorem ycwu (x0 x1 x2:Value) (h:H) (Q:K1) (H0:ymdj x0 x1 x2 h Q):AM.Spec PG yozs [x0,x1,x2] h Q :=
 spC mixed Tryz.func321 6 54 true 4 (y3f6 H0)
end Go.Proofs.YtnckimioabkheaaGreat
set_option linter.unusedVariables false
set_option maxRecDepth 100000
namespace Go.Proofs.YtnckimioabkheaaGreat
open Go.Proofs.YtnckimioabkheaaGreat.AM
@[simp] theorem yfni {a0:Option Addr} {a1:Int} {a2:Bool} {a3:Int} {a4:Int} {K:Value→Prop} {u:Dm K}:ysnr PG ysiy [(0,.pointer a0),(1,.int .i64 a1),(2,.bool a2),(3,.int .u32 a3),(4,.int .u32 a4)] K u=K (.agg #[.pointer a0,.int .i64 a1,.bool a2,.int .u32 a3,.int .u32 a4,.int .u32 0,.int .u32 0,.int .u32 0,.int .u32 0,.int .u32 0,.int .u32 0,.int .u32 0,.int .u32 0,.int .u32 0,.int .u32 0,.int .u32 0,.int .u32 0,.int .u32 0,.int .u32 0,.int .u32 0,.int .u32 0,.int .u32 0,.int .u32 0,.int .u32 0,.int .u32 0,.int .u32 0,.int .u32 0,.int .u32 0,.int .u32 0,.int .u32 0,.int .u32 0,.int .u32 0,.int .u32 0,.int .u32 0,.int .u32 0,.int .u32 0,.int .u32 0,.int .u32 0,.int .u32 0,.int .u32 0,.int .u32 0,.int .u32 0,.int .u32 0,.int .u32 0,.int .u32 0,.int .u32 0,.int .u32 0,.int .u32 0,.int .u32 0,.int .u32 0,.int .u32 0,.int .u32 0,.int .u32 0,.int .u32 0,.int .u32 0,.int .u32 0,.int .u32 0,.int .u32 0,.int .u32 0,.int .u32 0,.int .u32 0,.int .u32 0,.int .u32 0,.int .u32 0,.int .u32 0,.int .u32 0,.int .u32 0,.int .u32 0,.int .u32 0,.int .u32 0,.int .u32 0,.int .u32 0,.int .u32 0,.int .u32 0,.int .u32 0,.int .u32 0,.int .u32 0,.int .u32 0,.int .u32 0,.int .u32 0,.int .u32 0,.int .u32 0,.int .u32 0,.int .u32 0,.int .u32 0,.int .u32 0,.int .u32 0,.int .u32 0,.int .u32 0,.int .u32 0,.int .u32 0,.int .u32 0,.int .u32 0,.int .u32 0,.int .u32 0,.int .u32 0,.int .u32 0,.int .u32 0,.int .u32 0,.int .u32 0,.int .u32 0,.int .u32 0,.int .u32 0,.int .u32 0,.int .u32 0,.int .u32 0,.int .u32 0,.int .u32 0,.int .u32 0,.int .u32 0,.int .u32 0,.int .u32 0,.int .u32 0,.int .u32 0,.int .u32 0,.int .u32 0,.int .u32 0,.int .u32 0,.int .u32 0,.int .u32 0,.int .u32 0,.int .u32 0,.int .u32 0,.int .u32 0,.int .u32 0,.int .u32 0,.int .u32 0,.int .u32 0,.int .u32 0,.int .u32 0,.int .u32 0,.int .u32 0,.int .u32 0,.int .u32 0,.int .u32 0,.int .u32 0,.int .u32 0,.int .u32 0,.int .u32 0,.int .u32 0,.int .u32 0,.int .u32 0,.int .u32 0,.int .u32 0,.int .u32 0,.int .u32 0,.int .u32 0,.int .u32 0,.int .u32 0,.int .u32 0,.int .u32 0,.int .u32 0,.int .u32 0,.int .u32 0,.int .u32 0,.int .u32 0,.int .u32 0,.int .u32 0,.int .u32 0,.int .u32 0,.int .u32 0,.int .u32 0,.int .u32 0,.int .u32 0,.int .u32 0,.int .u32 0,.int .u32 0,.int .u32 0,.int .u32 0,.int .u32 0,.int .u32 0,.int .u32 0,.int .u32 0,.int .u32 0,.int .u32 0,.int .u32 0,.int .u32 0,.int .u32 0,.int .u32 0,.int .u32 0,.int .u32 0,.int .u32 0,.int .u32 0,.int .u32 0,.int .u32 0,.int .u32 0,.int .u32 0,.int .u32 0,.int .u32 0,.int .u32 0,.int .u32 0,.int .u32 0,.int .u32 0,.int .u32 0,.int .u32 0,.int .u32 0,.int .u32 0,.int .u32 0,.int .u32 0,.int .u32 0,.int .u32 0,.int .u32 0,.int .u32 0,.int .u32 0,.int .u32 0,.int .u32 0,.int .u32 0,.int .u32 0,.int .u32 0,.int .u32 0,.int .u32 0,.int .u32 0,.int .u32 0,.int .u32 0,.int .u32 0,.int .u32 0,.int .u32 0,.int .u32 0,.int .u32 0,.int .u32 0,.int .u32 0,.int .u32 0,.int .u32 0,.int .u32 0,.int .u32 0,.int .u32 0,.int .u32 0,.int .u32 0,.int .u32 0,.int .u32 0,.int .u32 0,.int .u32 0,.int .u32 0,.int .u32 0,.int .u32 0,.int .u32 0,.int .u32 0,.int .u32 0,.int .u32 0,.int .u32 0,.int .u32 0,.int .u32 0,.int .u32 0,.int .u32 0,.int .u32 0,.int .u32 0,.int .u32 0,.int .u32 0,.int .u32 0,.int .u32 0,.int .u32 0,.int .u32 0,.int .u32 0,.int .u32 0,.int .u32 0,.int .u32 0,.int .u32 0,.int .u32 0,.int .u32 0,.int .u32 0,.int .u32 0,.int .u8 0,.int .u8 0,.int .u8 0,.int .u8 0,.int .u8 0,.int .u8 0,.int .u8 0,.int .u8 0,.int .u8 0,.int .u8 0,.int .u8 0,.int .u8 0,.int .u8 0,.int .u8 0,.int .u8 0,.int .u8 0,.int .u8 0,.int .u8 0,.int .u8 0,.int .u8 0,.int .u8 0,.int .u8 0,.int .u8 0,.int .u8 0,.int .u8 0,.int .u8 0,.int .u8 0,.int .u8 0,.int .u8 0,.int .u8 0,.int .u8 0,.int .u8 0,.int .u8 0,.int .u8 0,.int .u8 0,.int .u8 0,.int .u8 0,.int .u8 0,.int .u8 0,.int .u8 0,.int .u8 0,.int .u8 0,.int .u8 0,.int .u8 0,.int .u8 0,.int .u8 0,.int .u8 0,.int .u8 0,.int .u8 0,.int .u8 0,.int .u8 0,.int .u8 0,.int .u8 0,.int .u8 0,.int .u8 0,.int .u8 0,.int .u8 0,.int .u8 0,.int .u8 0,.int .u8 0,.int .u8 0,.int .u8 0,.int .u8 0,.int .u8 0,.int .u8 0,.int .u8 0,.int .u8 0,.int .u8 0,.int .u8 0,.int .u8 0,.int .u8 0,.int .u8 0,.int .u8 0,.int .u8 0,.int .u8 0,.int .u8 0,.int .u8 0,.int .u8 0,.int .u8 0,.int .u8 0,.int .u8 0,.int .u8 0,.int .u8 0,.int .u8 0,.int .u8 0,.int .u8 0,.int .u8 0,.int .u8 0,.int .u8 0,.int .u8 0,.int .u8 0,.int .u8 0,.int .u8 0,.int .u8 0,.int .u8 0,.int .u8 0,.int .u8 0,.int .u8 0,.int .u8 0,.int .u8 0,.int .u8 0,.int .u8 0,.int .u8 0,.int .u8 0,.int .u8 0,.int .u8 0,.int .u8 0,.int .u8 0,.int .u8 0,.int .u8 0,.int .u8 0,.int .u8 0,.int .u8 0,.int .u8 0,.int .u8 0,.int .u8 0,.int .u8 0,.int .u8 0,.int .u8 0,.int .u8 0,.int .u8 0,.int .u8 0,.int .u8 0,.int .u8 0,.int .u8 0,.int .u8 0,.int .u8 0,.int .u8 0,.int .u8 0,.int .u8 0,.int .u8 0,.int .u8 0,.int .u8 0,.int .u8 0,.int .u8 0,.int .u8 0,.int .u8 0,.int .u8 0,.int .u8 0,.int .u8 0,.int .u8 0,.int .u8 0,.int .u8 0,.int .u8 0,.int .u8 0,.int .u8 0,.int .u8 0,.int .u8 0,.int .u8 0,.int .u8 0,.int .u8 0,.int .u8 0,.int .u8 0,.int .u8 0,.int .u8 0,.int .u8 0,.int .u8 0,.int .u8 0,.int .u8 0,.int .u8 0,.int .u8 0,.int .u8 0,.int .u8 0,.int .u8 0,.int .u8 0,.int .u8 0,.int .u8 0,.int .u8 0,.int .u8 0,.int .u8 0,.int .u8 0,.int .u8 0,.int .u8 0,.int .u8 0,.int .u8 0,.int .u8 0,.int .u8 0,.int .u8 0,.int .u8 0,.int .u8 0,.int .u8 0,.int .u8 0,.int .u8 0,.int .u8 0,.int .u8 0,.int .u8 0,.int .u8 0,.int .u8 0,.int .u8 0,.int .u8 0,.int .u8 0,.int .u8 0,.int .u8 0,.int .u8 0,.int .u8 0,.int .u8 0,.int .u8 0,.int .u8 0,.int .u8 0,.int .u8 0,.int .u8 0,.int .u8 0,.int .u8 0,.int .u8 0,.int .u8 0,.int .u8 0,.int .u8 0,.int .u8 0,.int .u8 0,.int .u8 0,.int .u8 0,.int .u8 0,.int .u8 0,.int .u8 0,.int .u8 0,.int .u8 0,.int .u8 0,.int .u8 0,.int .u8 0,.int .u8 0,.int .u8 0,.int .u8 0,.int .u8 0,.int .u8 0,.int .u8 0,.int .u8 0,.int .u8 0,.int .u8 0,.int .u8 0,.int .u8 0,.int .u8 0,.int .u8 0,.int .u8 0,.int .u8 0,.int .u8 0,.int .u8 0,.int .u8 0,.int .u8 0,.int .u8 0,.int .u8 0,.int .u8 0,.int .u8 0,.int .u8 0,.int .u8 0,.int .u8 0,.int .u8 0,.int .u8 0,.int .u8 0,.int .u8 0,.int .u8 0,.int .u8 0,.int .u8 0,.int .u8 0,.int .u8 0,.int .u8 0,.int .u8 0,.int .u8 0,.int .u8 0,.int .u8 0,.int .u8 0,.int .u8 0,.int .u8 0,.int .u8 0,.int .u8 0,.int .u8 0,.int .u8 0,.int .u8 0,.int .u8 0,.int .u8 0,.int .u8 0,.int .u8 0,.int .u8 0,.int .u8 0,.int .u8 0,.int .u8 0,.int .u8 0,.int .u8 0,.int .u8 0,.int .u8 0,.int .u8 0,.int .u8 0,.int .u8 0,.int .u8 0,.int .u8 0,.int .u8 0,.int .u8 0,.int .u8 0,.int .u8 0,.int .u8 0,.int .u8 0,.int .u8 0,.int .u8 0,.int .u8 0,.int .u8 0,.int .u8 0,.int .u8 0,.int .u8 0,.int .u8 0,.int .u8 0,.int .u8 0,.int .u8 0,.int .u8 0,.int .u8 0,.int .u8 0,.int .u8 0,.int .u8 0,.int .u8 0,.int .u8 0,.int .u8 0,.int .u8 0,.int .u8 0,.int .u8 0,.int .u8 0,.int .u8 0,.int .u8 0,.int .u8 0,.int .u8 0,.int .u8 0,.int .u8 0,.int .u8 0,.int .u8 0,.int .u8 0,.int .u8 0,.int .u8 0,.int .u8 0,.int .u8 0,.int .u8 0,.int .u8 0,.int .u8 0,.int .u8 0,.int .u8 0,.int .u8 0,.int .u8 0,.int .u8 0,.int .u8 0,.int .u8 0,.int .u8 0,.int .u8 0,.int .u8 0,.int .u8 0,.int .u8 0,.int .u8 0,.int .u8 0,.int .u8 0,.int .u8 0,.int .u8 0,.int .u8 0,.int .u8 0,.int .u8 0,.int .u8 0,.int .u8 0,.int .u8 0,.int .u8 0,.int .u8 0,.int .u8 0,.int .u8 0,.int .u8 0,.int .u8 0,.int .u8 0,.int .u8 0,.int .u8 0,.int .u8 0,.int .u8 0,.int .u8 0,.int .u8 0,.int .u8 0,.int .u8 0,.int .u8 0,.int .u8 0,.int .u8 0,.int .u8 0,.int .u8 0,.int .u8 0,.int .u8 0,.int .u8 0,.int .u8 0,.int .u8 0,.int .u8 0,.int .u8 0,.int .u8 0,.int .u8 0,.int .u8 0,.int .u8 0,.int .u8 0,.int .u8 0,.int .u8 0,.int .u8 0,.int .u8 0,.int .u8 0,.int .u8 0,.int .u8 0,.int .u8 0,.int .u8 0,.int .u8 0,.int .u8 0,.int .u8 0,.int .u8 0,.int .u8 0,.int .u8 0,.int .u8 0,.int .u8 0,.int .u8 0,.int .u8 0,.int .u8 0,.int .u8 0,.int .u8 0,.int .u8 0,.int .u8 0,.int .u8 0,.int .u8 0,.int .u8 0,.int .u8 0,.int .u8 0,.int .u8 0,.int .u8 0,.int .u8 0,.int .u8 0,.int .u8 0,.int .u8 0,.int .u8 0,.int .u8 0,.int .u8 0,.int .u8 0,.int .u8 0,.int .u8 0,.int .u8 0,.int .u8 0,.int .u8 0,.int .u8 0,.int .u8 0,.int .u8 0,.int .u8 0,.int .u8 0,.int .u8 0,.int .u8 0,.int .u8 0,.int .u8 0,.int .u8 0,.int .u8 0,.int .u8 0,.int .u8 0,.int .u8 0,.int .u8 0,.int .u8 0,.int .u8 0,.int .u8 0,.int .u8 0,.int .u8 0,.int .u8 0,.int .u8 0,.int .u8 0,.int .u8 0,.int .u8 0,.int .u8 0,.int .u8 0,.int .u8 0,.int .u8 0,.int .u8 0,.int .u8 0,.int .u8 0,.int .u8 0,.int .u8 0,.int .u8 0,.int .u8 0,.int .u8 0,.int .u8 0,.int .u8 0,.int .u8 0,.int .u8 0,.int .u8 0,.int .u8 0,.int .u8 0,.int .u8 0,.int .u8 0,.int .u8 0,.int .u8 0,.int .u8 0,.int .u8 0,.int .u8 0,.int .u8 0,.int .u8 0,.int .u8 0,.int .u8 0,.int .u8 0,.int .u8 0,.int .u8 0,.int .u8 0,.int .u8 0,.int .u8 0,.int .u8 0,.int .u8 0,.int .u8 0,.int .u8 0,.int .u8 0,.int .u8 0,.int .u8 0,.int .u8 0,.int .u8 0,.int .u8 0,.int .u8 0,.int .u8 0,.int .u8 0,.int .u8 0,.int .u8 0,.int .u8 0,.int .u8 0,.int .u8 0,.int .u8 0,.int .u8 0,.int .u8 0,.int .u8 0,.int .u8 0,.int .u8 0,.int .u8 0,.int .u8 0,.int .u8 0,.int .u8 0,.int .u8 0,.int .u8 0,.int .u8 0,.int .u8 0,.int .u8 0,.int .u8 0,.int .u8 0,.int .u8 0,.int .u8 0,.int .u8 0,.int .u8 0,.int .u8 0,.int .u8 0,.int .u8 0,.int .u8 0,.int .u8 0,.int .u8 0,.int .u8 0,.int .u8 0,.int .u8 0,.int .u8 0,.int .u8 0,.int .u8 0,.int .u8 0,.int .u8 0,.int .u8 0,.int .u8 0,.int .u8 0,.int .u8 0,.int .u8 0,.int .u8 0,.int .u8 0,.int .u8 0,.int .u8 0,.int .u8 0,.int .u8 0,.int .u8 0,.int .u8 0,.int .u8 0,.int .u8 0,.int .u8 0,.int .u8 0,.int .u8 0,.int .u8 0,.int .u8 0,.int .u8 0,.int .u8 0,.int .u8 0,.int .u8 0,.int .u8 0,.int .u8 0,.int .u8 0,.int .u8 0,.int .u8 0,.int .u8 0,.int .u8 0,.int .u8 0,.int .u8 0,.int .u8 0,.int .u8 0,.int .u8 0,.int .u8 0,.int .u8 0,.int .u8 0,.int .u8 0,.int .u8 0,.int .u8 0,.int .u8 0,.int .u8 0,.int .u8 0,.int .u8 0,.int .u8 0,.int .u8 0,.int .u8 0,.int .u8 0,.int .u8 0,.int .u8 0,.int .u8 0,.int .u8 0,.int .u8 0,.int .u8 0,.int .u8 0,.int .u8 0,.int .u8 0,.int .u8 0,.int .u8 0,.int .u8 0,.int .u8 0,.int .u8 0,.int .u8 0,.int .u8 0,.int .u8 0,.int .u8 0,.int .u8 0,.int .u8 0,.int .u8 0,.int .u8 0,.int .u8 0,.int .u8 0,.int .u8 0,.int .u8 0,.int .u8 0,.int .u8 0,.int .u8 0,.int .u8 0,.int .u8 0,.int .u8 0,.int .u8 0,.int .u8 0,.int .u8 0,.int .u8 0,.int .u8 0,.int .u8 0,.int .u8 0,.int .u8 0,.int .u8 0,.int .u8 0,.int .u8 0,.int .u8 0,.int .u8 0,.int .u8 0,.int .u8 0,.int .u8 0,.int .u8 0,.int .u8 0,.int .u8 0,.int .u8 0,.int .u8 0,.int .u8 0,.int .u8 0,.int .u8 0,.int .u8 0,.int .u8 0,.int .u8 0,.int .u8 0,.int .u8 0,.int .u8 0,.int .u8 0,.int .u8 0,.int .u8 0,.int .u8 0,.int .u8 0,.int .u8 0,.int .u8 0,.int .u8 0,.int .u8 0,.int .u8 0,.int .u8 0,.int .u8 0,.int .u8 0,.int .u8 0,.int .u8 0,.int .u8 0,.int .u8 0,.int .u8 0,.int .u8 0,.int .u8 0,.int .u8 0,.int .u8 0,.int .u8 0,.int .u8 0,.int .u8 0,.int .u8 0,.int .u8 0,.int .u8 0,.int .u8 0,.int .u8 0,.int .u8 0,.int .u8 0,.int .u8 0,.int .u8 0,.int .u8 0,.int .u8 0,.int .u8 0,.int .u8 0,.int .u8 0,.int .u8 0,.int .u8 0,.int .u8 0,.int .u8 0,.int .u8 0,.int .u8 0,.int .u8 0,.int .u8 0,.int .u8 0,.int .u8 0,.int .u8 0,.int .u8 0,.int .u8 0,.int .u8 0,.int .u8 0,.int .u8 0,.int .u8 0,.int .u8 0,.int .u8 0,.int .u8 0,.int .u8 0,.int .u8 0,.int .u8 0,.int .u8 0,.int .u8 0,.int .u8 0,.int .u8 0,.int .u8 0,.int .u8 0,.int .u8 0,.int .u8 0,.int .u8 0,.int .u8 0,.int .u8 0,.int .u8 0,.int .u8 0,.int .u8 0,.int .u8 0,.int .u8 0,.int .u8 0,.int .u8 0,.int .u8 0,.int .u8 0,.int .u8 0,.int .u8 0,.int .u8 0,.int .u8 0,.int .u8 0,.int .u8 0,.int .u8 0,.int .u8 0,.int .u8 0,.int .u8 0,.int .u8 0,.int .u8 0,.int .u8 0,.int .u8 0,.int .u8 0,.int .u8 0,.int .u8 0,.int .u8 0,.int .u8 0,.int .u8 0,.int .u8 0,.int .u8 0,.int .u8 0,.int .u8 0,.int .u8 0,.int .u8 0,.int .u8 0,.int .u8 0,.int .u8 0,.int .u8 0,.int .u8 0,.int .u8 0,.int .u8 0,.int .u8 0,.int .u8 0,.int .u8 0,.int .u8 0,.int .u8 0,.int .u8 0,.int .u8 0,.int .u8 0,.int .u8 0,.int .u8 0,.int .u8 0,.int .u8 0,.int .u8 0,.int .u8 0,.int .u8 0,.int .u8 0,.int .u8 0,.int .u8 0,.int .u8 0,.int .u8 0,.int .u8 0,.int .u8 0,.int .u8 0,.int .u8 0,.int .u8 0,.int .u8 0,.int .u8 0,.int .u8 0,.int .u8 0,.int .u8 0,.int .u8 0,.int .u8 0,.int .u8 0,.int .u8 0,.int .u8 0,.int .u8 0,.int .u8 0,.int .u8 0,.int .u8 0,.int .u8 0,.int .u8 0,.int .u8 0,.int .u8 0,.int .u8 0,.int .u8 0,.int .u8 0,.int .u8 0,.int .u8 0,.int .u8 0,.int .u8 0,.int .u8 0,.int .u8 0,.int .u8 0,.int .u8 0,.int .u8 0,.int .u8 0,.int .u8 0,.int .u8 0,.int .u8 0,.int .u8 0,.int .u8 0,.int .u8 0,.int .u8 0,.int .u8 0,.int .u8 0,.int .u8 0,.int .u8 0,.int .u8 0,.int .u8 0,.int .u8 0,.int .u8 0,.int .u8 0,.int .u8 0,.int .u8 0,.int .u8 0,.int .u8 0,.int .u8 0,.int .u8 0,.int .u8 0,.int .u8 0,.int .u8 0,.int .u8 0,.int .u8 0,.int .u8 0,.int .u8 0,.int .u8 0,.int .u8 0,.int .u8 0,.int .u8 0,.int .u8 0,.int .u8 0,.int .u8 0,.int .u8 0,.int .u8 0,.int .u8 0,.int .u8 0,.int .u8 0,.int .u8 0,.int .u8 0,.int .u8 0,.int .u8 0,.int .u8 0,.int .u8 0,.int .u8 0,.int .u8 0,.int .u8 0,.int .u8 0,.int .u8 0,.int .u8 0,.int .u8 0,.int .u8 0,.int .u8 0,.int .u8 0,.int .u8 0,.int .u8 0,.int .u8 0,.int .u8 0,.int .u8 0,.int .u8 0,.int .u8 0,.int .u8 0,.int .u8 0,.int .u8 0,.int .u8 0,.int .u8 0,.int .u8 0,.int .u8 0,.int .u8 0,.int .u8 0,.int .u8 0,.int .u8 0,.int .u8 0,.int .u8 0,.int .u8 0,.int .u8 0,.int .u8 0,.int .u8 0,.int .u8 0,.int .u8 0,.int .u8 0,.int .u8 0,.int .u8 0,.int .u8 0,.int .u8 0,.int .u8 0,.int .u8 0,.int .u8 0,.int .u8 0,.int .u8 0,.int .u8 0,.int .u8 0,.int .u8 0,.int .u8 0,.int .u8 0,.int .u8 0,.int .u8 0,.int .u8 0,.int .u8 0,.int .u8 0,.int .u8 0,.int .u8 0,.int .u8 0,.int .u8 0,.int .u8 0,.int .u8 0,.int .u8 0,.int .u8 0,.int .u8 0,.int .u8 0,.int .u8 0,.int .u8 0,.int .u8 0,.int .u8 0,.int .u8 0,.int .u8 0,.int .u8 0,.int .u8 0,.int .u8 0,.int .u8 0,.int .u8 0,.int .u8 0,.int .u8 0,.int .u8 0,.int .u8 0,.int .u8 0,.int .u8 0,.int .u8 0,.int .u8 0,.int .u8 0,.int .u8 0,.int .u8 0,.int .u8 0,.int .u8 0,.int .u8 0,.int .u8 0,.int .u8 0,.int .u8 0,.int .u8 0,.int .u8 0,.int .u8 0,.int .u8 0,.int .u8 0,.int .u8 0,.int .u8 0,.int .u8 0,.int .u8 0,.int .u8 0,.int .u8 0,.int .u8 0,.int .u8 0,.int .u8 0,.int .u8 0,.int .u8 0,.int .u8 0,.int .u8 0,.int .u8 0,.int .u8 0,.int .u8 0,.int .u8 0,.int .u8 0,.int .u8 0,.int .u8 0,.int .u8 0,.int .u8 0,.int .u8 0,.int .u8 0,.int .u8 0,.int .u8 0,.int .u8 0,.int .u8 0,.int .u8 0,.int .u8 0,.int .u8 0,.int .u8 0,.int .u8 0,.int .u8 0,.int .u8 0,.int .u8 0,.int .u8 0,.int .u8 0,.int .u8 0,.int .u8 0,.int .u8 0,.int .u8 0,.int .u8 0,.int .u8 0,.int .u8 0,.int .u8 0,.int .u8 0,.int .u8 0,.int .u8 0,.int .u8 0,.int .u8 0,.int .u8 0,.int .u8 0,.bool false,.int .i64 0,.int .u32 0,.int .i64 0,.int .i64 0,.bool false]):=by kernel_rfl
@[simp] theorem yzt1 {a0:Int} {a1:Int} {a2:Int} {K:Value→Prop} {u:Dm K}:ysnr PG ys2z [(0,.int .i64 a0),(1,.int .u32 a1),(2,.int .i64 a2)] K u=K (.agg #[.int .i64 a0,.int .u32 a1,.int .i64 a2]):=by kernel_rfl
@[simp] theorem y79t {K:Value→Prop} {u:Dm K}:ysnr PG yuil [] K u=K (.agg #[.int .u8 0,.int .u8 0,.int .u8 0,.int .u8 0]):=by kernel_rfl
@[simp] theorem y43u {K:Value→Prop} {u:Dm K}:ysnr PG yqha [] K u=K (.agg #[.int .i64 0,.int .u32 0,.int .i64 0,.int .i64 0,.bool false]):=by kernel_rfl
@[simp] theorem yf9r {a0_0:Int} {a0_1:Int} {a0_2:Int} {K:Value→Prop} {u:Dm K}:ysnr PG yqha [(0,.agg #[.int .i64 a0_0,.int .u32 a0_1,.int .i64 a0_2])] K u=K (.agg #[.int .i64 a0_0,.int .u32 a0_1,.int .i64 a0_2,.int .i64 0,.bool false]):=by kernel_rfl
@[simp] theorem ycw1 {a1:Int} {K:Value→Prop} {u:Dm K}:ysnr PG yqha [(1,.int .i64 a1)] K u=K (.agg #[.int .i64 0,.int .u32 0,.int .i64 0,.int .i64 a1,.bool false]):=by kernel_rfl
def yeov (x0 x1 x2 x3 x18:Value) (h:H) (Kn Kr:K2):Prop :=
 u_new [.int .i64 0,.int .u32 0,.int .i64 0,.int .i64 0,.bool false] yqha .exact h fun b8 h=>yjdf PG yym2 [x1] h fun v10 h=>u_un PG .not v10 fun v11=>u_if v11 (ysnr PG yqha [(1,(.int .i64 1))] fun v12=>ylel 5 (.pointer (some ⟨b8,0,none⟩)) v12 h fun h=>Kr (.pointer (some ⟨b8,0,none⟩)) x18 h) (yjdf PG yzuk [x0,x1,x2,x3] h fun v17 h=>ylel 5 (.pointer (some ⟨b8,0,none⟩)) v17 h fun h=>Kr (.pointer (some ⟨b8,0,none⟩)) x18 h)
theorem yjur {Kn Kr:K2} {t:T} {h:H} (H0:yeov (t 0) (t 1) (t 2) (t 3) (t 18) h Kn Kr):Wp PG 18 (ygjk Tryz.f26.body) (mkQ (q2 Kn 8 18) (q2 Kr 8 18) ke0) t h :=
 (wpE E5_ok H0)
def yc6k (x0 x1 x2 x3:Value) (h:H) (Q:K1):Prop:=yeov x0 x1 x2 x3 undef h (fun y8 y18 h=>o_ret y18 h (fun h=>ybqh true 5 y8 h fun v=>Q v h)) (fun y8 y18 h=>o_ret y18 h (fun h=>ybqh true 5 y8 h fun v=>Q v h))
theorem y5x6 (x0 x1 x2 x3:Value) (h:H) (Q:K1) (H0:yc6k x0 x1 x2 x3 h Q):AM.Spec PG yv3a [x0,x1,x2,x3] h Q :=
 spC mixed Tryz.func26 8 83 true 5 (yjur H0)
def yidf (x0 x1 x2 x3 x8 x48:Value) (h:H) (Kn:K4) (Kr:K2):Prop :=
 yji6 none 5 x1 (.int .i64 0) fun v16=>y0wt 4 v16 fun v17=>u_pf false 1 0 x0 h fun v22=>u_ixf false 1 4 none 5 x1 (.int .i64 0) h fun v26=>(ybqh false 1 v17 h fun v18=>yjdf PG yd4l [v22,v26] h fun v27 h=>ysnr PG ysiy [(0,x0),(1,x2),(2,x3),(3,v18),(4,v27)] fun v28=>boxV v28=true∧u_new (Value.cells v28).toList ysiy .exact h fun b29 h=>Kn x1 x8 (.pointer (some ⟨b29,0,none⟩)) x48 h)∧(yjdf PG yd4l [v22,v26] h fun v27 h=>ybqh false 1 v17 h fun v18=>ysnr PG ysiy [(0,x0),(1,x2),(2,x3),(3,v18),(4,v27)] fun v28=>boxV v28=true∧u_new (Value.cells v28).toList ysiy .exact h fun b29 h=>Kn x1 x8 (.pointer (some ⟨b29,0,none⟩)) x48 h)
def yket (x8 x9 x30 x31 x32 x48:Value) (h:H) (Kn:K6) (Kr:K2) (Ke0:K3):Prop :=
 u_bin PG .lss T_int x32 x31 fun v33=>u_if v33 (u_ix true 5 none x30 x32 h fun v35=>u_new [.int .i64 0,.int .i64 0,.int .i64 0,.int .i64 0,.int .u32 0] yq0s .exact h fun b11 h=>ylel 5 (.pointer (some ⟨b11,0,none⟩)) v35 h fun h=>ybqh true 5 (.pointer (some ⟨b11,0,none⟩)) h fun v37=>yjdf PG yo19 [x9,v37] h fun v38 h=>u_pf false 1 1285 x9 h fun v42=>u_if v42 (Ke0 x8 x9 x48 h) (u_bin PG .add T_int x32 (.int .i64 1) fun v43=>Kn x8 x9 x30 x31 v43 x48 h)) (Ke0 x8 x9 x48 h)
def y11e (x8 x9 x30 x31 x32 x48:Value) (h:H) (Kn:K3) (Kr:K2) (Ke0:K3):Prop :=
 sloop (S:=Value×Value×Value×Value×Value×Value) (fun s h K=>yket s.1 s.2.1 s.2.2.1 s.2.2.2.1 s.2.2.2.2.1 s.2.2.2.2.2 h (fun y8 y9 y30 y31 y32 y48 h=>K (y8,y9,y30,y31,y32,y48) h) Kr Ke0) (x8,x9,x30,x31,x32,x48) h
def yd0v (x8 x9 x30 x31 x32 x48:Value) (h:H) (Kn:K3) (Kr:K2):Prop :=
 y11e x8 x9 x30 x31 x32 x48 h Kn Kr Kn
def y92s (x1 x8 x9 x48:Value) (h:H) (Kn:K3) (Kr:K2):Prop :=
 ywmm x1 fun v31=>yd0v x8 x9 x1 v31 (.int .i64 0) x48 h Kn Kr
def yhe0 (x8 x9 x48:Value) (h:H) (Kn Kr:K2):Prop :=
 u_pf true 5 1286 x9 h fun v47=>ylel 5 x8 v47 h fun h=>Kr x8 x48 h
def y1ib (x1 x8 x9 x48:Value) (h:H) (Kn Kr:K2):Prop :=
 y92s x1 x8 x9 x48 h (fun y8 y9 y48 h=>yhe0 y8 y9 y48 h Kn Kr) Kr
def ymh3 (x0 x1 x2 x3 x8 x48:Value) (h:H) (Kn Kr:K2):Prop :=
 yidf x0 x1 x2 x3 x8 x48 h (fun y1 y8 y9 y48 h=>y1ib y1 y8 y9 y48 h Kn Kr) Kr
def y9hi (x0 x1 x2 x3 x48:Value) (h:H) (Kn Kr:K2):Prop :=
 u_new [.int .i64 0,.int .u32 0,.int .i64 0,.int .i64 0,.bool false] yqha .exact h fun b8 h=>ymh3 x0 x1 x2 x3 (.pointer (some ⟨b8,0,none⟩)) x48 h Kn Kr
theorem yq8f {Kn Kr:K2} {t:T} {h:H} (H0:y9hi (t 0) (t 1) (t 2) (t 3) (t 48) h Kn Kr):Wp PG 48 (ygjk Tryz.f75.body) (mkQ (q2 Kn 8 48) (q2 Kr 8 48) ke0) t h :=
 (toE E5_ok 1 H0 fun t h (H:ymh3 (t 0) (t 1) (t 2) (t 3) (t 8) (t 48) h Kn Kr)=>(sqE (q4 (fun y1 y8 y9 y48 h=>y1ib y1 y8 y9 y48 h Kn Kr) 1 8 9 48) (drP E5_ok [0,1,2,3,4,5,7,8,9,10,11,12,13,14] 6 15 [16,17,18] H) fun t h H=>(sqE (q3 (fun y8 y9 y48 h=>yhe0 y8 y9 y48 h Kn Kr) 8 9 48) (toE E5_ok 1 H fun t h (H:yd0v (t 8) (t 9) (t 30) (t 31) (t 32) (t 48) h (fun y8 y9 y48 h=>yhe0 y8 y9 y48 h Kn Kr) Kr)=>(bkE 0 (lpE (fun t=>(t 8,t 9,t 30,t 31,t 32,t 48)) H fun t h K H=>(wpE E5_ok H)))) fun t h H=>(wpE E5_ok H))))
def y0c7 (x0 x1 x2 x3:Value) (h:H) (Q:K1):Prop:=y9hi x0 x1 x2 x3 undef h (fun y8 y48 h=>o_ret y48 h (fun h=>ybqh true 5 y8 h fun v=>Q v h)) (fun y8 y48 h=>o_ret y48 h (fun h=>ybqh true 5 y8 h fun v=>Q v h))
theorem yn0z (x0 x1 x2 x3:Value) (h:H) (Q:K1) (H0:y0c7 x0 x1 x2 x3 h Q):AM.Spec PG yzuk [x0,x1,x2,x3] h Q :=
 spC mixed Tryz.func75 8 83 true 5 (yq8f H0)
def ytdg (x0 x1:Value) (h:H) (Kn Kr:K0):Prop :=
 boxV x1=true∧u_new (Value.cells x1).toList yq0s .exact h fun b3 h=>ybqh true 5 (.pointer (some ⟨b3,0,none⟩)) h fun v5=>yjdf PG yinw [x0,v5] h fun v6 h=>ydv6 v6 false (fun k6=>ybqh true 5 (.pointer (some ⟨b3,0,none⟩)) h fun v9=>yjdf PG yebn [x0,v9] h fun v10 h=>k6 v10 h) (fun v10 h=>y9rg v6 (.bool true) v10 fun v11=>u_if v11 (Kr h) (u_bf false 1 0 (.pointer (some ⟨b3,0,none⟩)) h fun v13=>u_bin PG .eql T_int v13 (.int .i64 6) fun v18=>u_if v18 (ybqh true 5 (.pointer (some ⟨b3,0,none⟩)) h fun v20=>yjdf PG y634 [x0,v20] h fun v21 h=>Kn h) (yi4e PG T_int v13 [(.int .i64 7),(.int .i64 18)] fun w22=>u_if w22 (ybqh true 5 (.pointer (some ⟨b3,0,none⟩)) h fun v26=>yjdf PG y0ng [x0,v26] h fun v27 h=>Kn h) (u_bin PG .eql T_int v13 (.int .i64 8) fun v29=>u_if v29 (ybqh true 5 (.pointer (some ⟨b3,0,none⟩)) h fun v31=>yjdf PG ys9t [x0,v31] h fun v32 h=>Kn h) (u_bin PG .eql T_int v13 (.int .i64 9) fun v34=>u_if v34 (u_pf false 1 0 x0 h fun v38=>y394 v38 fun v39=>y0wt 2 v39 fun v40=>u_bf false 1 33 v40 h fun v42=>u_bin PG .add yeb5 v42 (.int .i64 1) fun v43=>y394 v38 fun v44=>y0wt 2 v44 fun v45=>u_st 1 33 v45 v43 h fun h=>Kn h) (u_bin PG .eql T_int v13 (.int .i64 20) fun v48=>u_if v48 (ybqh true 5 (.pointer (some ⟨b3,0,none⟩)) h fun v50=>yjdf PG yvo7 [x0,v50] h fun v51 h=>Kn h) (ybqh true 5 (.pointer (some ⟨b3,0,none⟩)) h fun v15=>yjdf PG yduv [x0,v15] h fun v16 h=>Kn h))))))) h
def yyqe (x0 x1:Value) (h:H) (Q:K1):Prop:=ytdg x0 x1 h (fun h=>bif [].all boxV then Q (.tuple #[]) h else False) (fun h=>bif [].all boxV then Q (.tuple #[]) h else False)
theorem ymat (x0 x1:Value) (h:H) (Q:K1) (H0:yyqe x0 x1 h Q):AM.Spec PG yo19 [x0,x1] h Q :=
 spE mixed E5_ok Tryz.func179 [] H0
def ybth (x0 x3:Value) (h:H) (Kn:K0) (Kr:K1) (Ke0:K0):Prop :=
 u_bf false 1 1 x3 h fun v16=>u_bf false 1 4 x3 h fun v18=>yjdf PG y6b0 [x0,v16,v18] h fun v19 h=>Kn h
def ylur (x0 x3:Value) (h:H) (Kn:K0) (Kr:K1) (Ke0:K0):Prop :=
 y0wt 1 x3 fun v23=>u_bf false 1 4 x3 h fun v27=>(ybqh false 1 v23 h fun v24=>yjdf PG yw1c [x0,v27] h fun v28 h=>yjdf PG y6b0 [x0,v24,v28] h fun v29 h=>Kn h)∧(yjdf PG yw1c [x0,v27] h fun v28 h=>ybqh false 1 v23 h fun v24=>yjdf PG y6b0 [x0,v24,v28] h fun v29 h=>Kn h)
def y74t (x0 x3:Value) (h:H) (Kn:K0) (Kr:K1) (Ke0:K0):Prop :=
 u_pf false 1 0 x0 h fun v35=>u_bf false 1 4 x3 h fun v37=>u_bf false 1 2 x3 h fun v40=>y394 x0 fun v41=>y0wt 5 v41 fun v42=>u_ix false 1 (some 256) v42 v40 h fun v44=>y394 v35 fun v45=>y0wt 2 v45 fun v46=>y0wt 0 v46 fun v47=>yji6 (some 32) 1 v47 v37 fun v48=>ylel 1 v48 v44 h fun h=>Kn h
def ykct (x0 x3:Value) (h:H) (Kn:K3) (Kr:K1) (Ke0:K0):Prop :=
 u_bf false 1 4 x3 h fun v53=>y2x6 .i64 v53 fun v54=>u_bf false 1 2 x3 h fun v57=>y394 x0 fun v58=>y0wt 5 v58 fun v59=>u_ix false 1 (some 256) v59 v57 h fun v61=>u_bf false 1 3 x3 h fun v64=>y394 x0 fun v65=>y0wt 5 v65 fun v66=>u_ix false 1 (some 256) v66 v64 h fun v68=>u_ct yuuq [v54,v61,v68] h fun v69 h=>yvu8 v69 0 fun v70=>yvu8 v69 1 fun v71=>Kn x0 x3 v70 h
def yoba (x0 x3 x5:Value) (h:H) (Kn:K0) (Kr:K1) (Ke0:K0):Prop :=
 u_bf false 1 1 x3 h fun v74=>yjdf PG y6b0 [x0,v74,x5] h fun v76 h=>Kn h
def y1dj (x0 x3:Value) (h:H) (Kn:K0) (Kr:K1) (Ke0:K0):Prop :=
 ykct x0 x3 h (fun y0 y3 y5 h=>yoba y0 y3 y5 h Kn Kr Ke0) Kr Ke0
def yu2l (x0 x3:Value) (h:H) (Kn:K3) (Kr:K1) (Ke0:K0):Prop :=
 u_bf false 1 4 x3 h fun v81=>y2x6 .i64 v81 fun v82=>u_bf false 1 2 x3 h fun v85=>y394 x0 fun v86=>y0wt 5 v86 fun v87=>u_ix false 1 (some 256) v87 v85 h fun v89=>u_bf false 1 3 x3 h fun v92=>y394 x0 fun v93=>y0wt 5 v93 fun v94=>u_ix false 1 (some 256) v94 v92 h fun v96=>u_ct yxpp [v82,v89,v96] h fun v97 h=>yvu8 v97 0 fun v98=>yvu8 v97 1 fun v99=>Kn x0 x3 v98 h
def ysvr (x0 x3 x7:Value) (h:H) (Kn:K0) (Kr:K1) (Ke0:K0):Prop :=
 u_if x7 (u_bf false 1 1 x3 h fun v103=>yjdf PG y6b0 [x0,v103,(.int .u32 1)] h fun v105 h=>Kn h) (u_bf false 1 1 x3 h fun v103=>yjdf PG y6b0 [x0,v103,(.int .u32 0)] h fun v105 h=>Kn h)
def ynax (x0 x3:Value) (h:H) (Kn:K0) (Kr:K1) (Ke0:K0):Prop :=
 yu2l x0 x3 h (fun y0 y3 y7 h=>ysvr y0 y3 y7 h Kn Kr Ke0) Kr Ke0
def yo2m (h:H) (Kn:K0) (Kr:K1) (Ke0:K0):Prop :=
 Kr (.bool false) h
def y7j1 (x0 x3 x77:Value) (h:H) (Kn:K0) (Kr:K1) (Ke0:K0):Prop :=
 u_if x77 (ynax x0 x3 h Kn Kr Ke0) (yo2m h Kn Kr Ke0)
def y2gx (x0 x3 x11:Value) (h:H) (Kn:K0) (Kr:K1) (Ke0:K0):Prop :=
 u_bin PG .eql T_int x11 (.int .i64 5) fun v78=>y7j1 x0 x3 v78 h Kn Kr Ke0
def yw2y (x0 x3 x11 x49:Value) (h:H) (Kn:K0) (Kr:K1) (Ke0:K0):Prop :=
 u_if x49 (y1dj x0 x3 h Kn Kr Ke0) (y2gx x0 x3 x11 h Kn Kr Ke0)
def y8tj (x0 x3 x11:Value) (h:H) (Kn:K0) (Kr:K1) (Ke0:K0):Prop :=
 u_bin PG .eql T_int x11 (.int .i64 4) fun v50=>yw2y x0 x3 x11 v50 h Kn Kr Ke0
def ygh1 (x0 x3 x11 x30:Value) (h:H) (Kn:K0) (Kr:K1) (Ke0:K0):Prop :=
 u_if x30 (y74t x0 x3 h Kn Kr Ke0) (y8tj x0 x3 x11 h Kn Kr Ke0)
def yqtx (x0 x3 x11:Value) (h:H) (Kn:K0) (Kr:K1) (Ke0:K0):Prop :=
 u_bin PG .eql T_int x11 (.int .i64 3) fun v31=>ygh1 x0 x3 x11 v31 h Kn Kr Ke0
def ye2q (x0 x3 x11 x20:Value) (h:H) (Kn:K0) (Kr:K1) (Ke0:K0):Prop :=
 u_if x20 (ylur x0 x3 h Kn Kr Ke0) (yqtx x0 x3 x11 h Kn Kr Ke0)
def yqb7 (x0 x3 x11:Value) (h:H) (Kn:K0) (Kr:K1) (Ke0:K0):Prop :=
 u_bin PG .eql T_int x11 (.int .i64 2) fun v21=>ye2q x0 x3 x11 v21 h Kn Kr Ke0
def yrks (x0 x3 x11 x12:Value) (h:H) (Kn:K0) (Kr:K1) (Ke0:K0):Prop :=
 u_if x12 (ybth x0 x3 h Kn Kr Ke0) (yqb7 x0 x3 x11 h Kn Kr Ke0)
def yqpa (x0 x3 x11:Value) (h:H) (Kn:K0) (Kr:K1) (Ke0:K0):Prop :=
 u_bin PG .eql T_int x11 (.int .i64 1) fun v13=>yrks x0 x3 x11 v13 h Kn Kr Ke0
def yxmw (x0 x3 x11:Value) (h:H) (Kn:K0) (Kr:K1):Prop :=
 yqpa x0 x3 x11 h Kn Kr Kn
def ycji (x0 x3:Value) (h:H) (Kn:K0) (Kr:K1):Prop :=
 u_bf false 1 0 x3 h fun v11=>yxmw x0 x3 v11 h Kn Kr
def yv6f (h:H) (Kn Kr:K1):Prop :=
 Kr (.bool true) h
def yimd (x0 x3:Value) (h:H) (Kn Kr:K1):Prop :=
 ycji x0 x3 h (fun h=>yv6f h Kn Kr) Kr
def yglw (x0 x1:Value) (h:H) (Kn Kr:K1):Prop :=
 boxV x1=true∧u_new (Value.cells x1).toList yq0s .exact h fun b3 h=>yimd x0 (.pointer (some ⟨b3,0,none⟩)) h Kn Kr
theorem yvkv {Kn:K0} {Kr:K1} {Ke0:K0} {t:T} {h:H} (H0:yw2y (t 0) (t 3) (t 11) (t 49) h Kn Kr Ke0):Wp PG 106 (rest 1 (cndY (rest 1 (cndY (rest 1 (cndY (rest 1 (blkC (rest 1 (seqL (rest 1 (ygjk Tryz.f238.body)))))))))))) (mkQ (q0 Kn) (q1 Kr 4) (keAdd 0 (q0 Ke0) ke0)) t h :=
 (cdE H0 (fun H=>(sqE (q3 (fun y0 y3 y5 h=>yoba y0 y3 y5 h Kn Kr Ke0) 0 3 5) (drE E5_ok [0,1,2,3,4,5,6,7,8,9,10,11,12,13,14,15,16,17,18,19,20,21,22] H) fun t h H=>(wpE E5_ok H))) fun H=>(toE E5_ok 1 H fun t h (H:y7j1 (t 0) (t 3) (t 77) h Kn Kr Ke0)=>(cdE H (fun H=>(sqE (q3 (fun y0 y3 y7 h=>ysvr y0 y3 y7 h Kn Kr Ke0) 0 3 7) (drE E5_ok [0,1,2,3,4,5,6,7,8,9,10,11,12,13,14,15,16,17,18,19,20,21,22] H) fun t h H=>(wpE E5_ok H))) fun H=>(wpE E5_ok H))))
theorem yy2f {Kn:K0} {Kr:K1} {Ke0:K0} {t:T} {h:H} (H0:ye2q (t 0) (t 3) (t 11) (t 20) h Kn Kr Ke0):Wp PG 106 (rest 1 (cndY (rest 1 (blkC (rest 1 (seqL (rest 1 (ygjk Tryz.f238.body)))))))) (mkQ (q0 Kn) (q1 Kr 4) (keAdd 0 (q0 Ke0) ke0)) t h :=
 (cdE H0 (fun H=>(drP E5_ok [0,1,3,4,5] 2 6 [7] H)) fun H=>(toE E5_ok 1 H fun t h (H:ygh1 (t 0) (t 3) (t 11) (t 30) h Kn Kr Ke0)=>(cdE H (fun H=>(drE E5_ok [0,1,2,3,4,5,6,7,8,9,10,11,12,13,14,15,16,17] H)) fun H=>(toE E5_ok 1 H fun t h (H:yw2y (t 0) (t 3) (t 11) (t 49) h Kn Kr Ke0)=>(yvkv H)))))
theorem ys0n {Kn:K0} {Kr:K1} {t:T} {h:H} (H0:ycji (t 0) (t 3) h Kn Kr):Wp PG 106 (seqL (rest 1 (ygjk Tryz.f238.body))) (mkQ (q0 Kn) (q1 Kr 4) ke0) t h :=
 (toE E5_ok 1 H0 fun t h (H:yxmw (t 0) (t 3) (t 11) h Kn Kr)=>(bkE 0 (toE E5_ok 1 H fun t h (H:yrks (t 0) (t 3) (t 11) (t 12) h Kn Kr Kn)=>(cdE H (fun H=>(wpE E5_ok H)) fun H=>(toE E5_ok 1 H fun t h (H:ye2q (t 0) (t 3) (t 11) (t 20) h Kn Kr Kn)=>(yy2f H))))))
theorem yzm5 {Kn Kr:K1} {t:T} {h:H} (H0:yglw (t 0) (t 1) h Kn Kr):Wp PG 106 (ygjk Tryz.f238.body) (mkQ (q1 Kn 4) (q1 Kr 4) ke0) t h :=
 (toE E5_ok 1 H0 fun t h (H:yimd (t 0) (t 3) h Kn Kr)=>(sqE _ (ys0n H) fun t h H=>(wpE E5_ok H)))
def yxl5 (x0 x1:Value) (h:H) (Q:K1):Prop:=yglw x0 x1 h Q Q
theorem yqpf (x0 x1:Value) (h:H) (Q:K1) (H0:yxl5 x0 x1 h Q):AM.Spec PG yinw [x0,x1] h Q :=
 spH mixed Tryz.func238 [4] (yzm5 H0)
def yl5q (x0 x3:Value) (h:H) (Kn:K2) (Kr:K1) (Ke0:K0):Prop :=
 u_bf false 1 1 x3 h fun v13=>ysnr PG yuil [] fun v14=>y394 x0 fun v15=>y0wt 261 v15 fun v16=>yji6 (some 256) 4 v16 v13 fun v17=>ylel 4 v17 v14 h fun h=>Kn x0 x3 h
def ys0v (x0 x3:Value) (h:H) (Kn:K0) (Kr:K1) (Ke0:K0):Prop :=
 u_bf false 1 1 x3 h fun v23=>u_pf false 1 0 x0 h fun v27=>u_bf false 1 4 x3 h fun v29=>y394 v27 fun v30=>y0wt 36 v30 fun v31=>u_ix true 4 (some 32) v31 v29 h fun v33=>y394 x0 fun v34=>y0wt 261 v34 fun v35=>yji6 (some 256) 4 v35 v23 fun v36=>ylel 4 v36 v33 h fun h=>Kn h
def ykll (h:H) (Kn:K0) (Kr:K1) (Ke0:K0):Prop :=
 Kn h
def y0r4 (x0 x3 x20:Value) (h:H) (Kn:K0) (Kr:K1) (Ke0:K0):Prop :=
 u_if x20 (ys0v x0 x3 h Kn Kr Ke0) (ykll h Kn Kr Ke0)
def ykpe (x0 x3:Value) (h:H) (Kn:K0) (Kr:K1) (Ke0:K0):Prop :=
 u_bf false 1 4 x3 h fun v19=>u_bin PG .gtr ycpa v19 (.int .u32 0) fun v20=>y0r4 x0 x3 v20 h Kn Kr Ke0
def y0mo (x0 x3:Value) (h:H) (Kn:K0) (Kr:K1) (Ke0:K0):Prop :=
 yl5q x0 x3 h (fun y0 y3 h=>ykpe y0 y3 h Kn Kr Ke0) Kr Ke0
def yizi (x0 x3:Value) (h:H) (Kn:K0) (Kr:K1) (Ke0:K0):Prop :=
 u_pf false 1 0 x0 h fun v42=>u_bf false 1 4 x3 h fun v44=>u_bf false 1 2 x3 h fun v47=>y394 x0 fun v48=>y0wt 261 v48 fun v49=>u_ix true 4 (some 256) v49 v47 h fun v51=>y394 v42 fun v52=>y0wt 36 v52 fun v53=>yji6 (some 32) 4 v53 v44 fun v54=>ylel 4 v54 v51 h fun h=>Kn h
def y833 (x0 x3:Value) (h:H) (Kn:K0) (Kr:K1) (Ke0:K0):Prop :=
 y0wt 1 x3 fun v59=>u_bf false 1 4 x3 h fun v62=>y2x6 .i64 v62 fun v63=>u_bf false 1 2 x3 h fun v66=>y394 x0 fun v67=>y0wt 5 v67 fun v68=>u_ix false 1 (some 256) v68 v66 h fun v70=>u_bf false 1 3 x3 h fun v73=>y394 x0 fun v74=>y0wt 5 v74 fun v75=>u_ix false 1 (some 256) v75 v73 h fun v77=>u_bf false 1 2 x3 h fun v80=>y394 x0 fun v81=>y0wt 261 v81 fun v82=>u_ix true 4 (some 256) v82 v80 h fun v84=>u_bf false 1 3 x3 h fun v87=>y394 x0 fun v88=>y0wt 261 v88 fun v89=>u_ix true 4 (some 256) v89 v87 h fun v91=>y394 x0 fun v95=>y0wt 261 v95 fun v96=>(ybqh false 1 v59 h fun v60=>yjdf PG yjud [v63,v70,v77,v84,v91] h fun v92 h=>yvu8 v92 0 fun v93=>yvu8 v92 1 fun v94=>yji6 (some 256) 4 v96 v60 fun v97=>ylel 4 v97 v93 h fun h=>Kn h)∧(yjdf PG yjud [v63,v70,v77,v84,v91] h fun v92 h=>ybqh false 1 v59 h fun v60=>yvu8 v92 0 fun v93=>yvu8 v92 1 fun v94=>yji6 (some 256) 4 v96 v60 fun v97=>ylel 4 v97 v93 h fun h=>Kn h)
def ygdg (x0 x3 x5 x6:Value) (h:H) (Kn:K0) (Kr:K1) (Ke0:K0):Prop :=
 y0wt 1 x3 fun v107=>ybqh false 1 v107 h fun v108=>y394 x0 fun v110=>y0wt 0 v110 fun v111=>ybqh false 1 v111 h fun v112=>y394 v112 fun v113=>y0wt 1 v113 fun v114=>ybqh false 1 v114 h fun v115=>y0wt 2 x3 fun v117=>ybqh false 1 v117 h fun v118=>y394 x0 fun v119=>y0wt 5 v119 fun v120=>yji6 (some 256) 1 v120 v118 fun v121=>ybqh false 1 v121 h fun v122=>y394 x0 fun v128=>y0wt 261 v128 fun v129=>yjdf PG yziu [v115,v122,x5] h fun v124 h=>(ybqh false 1 v107 h fun w108=>w108=v108)∧yjdf PG yl27 [v124,x5,x6] h fun v127 h=>(ybqh false 1 v107 h fun w108=>w108=v108)∧yji6 (some 256) 4 v129 v108 fun v130=>ylel 4 v130 v127 h fun h=>Kn h
def ytjr (x0 x3:Value) (h:H) (Kn:K0) (Kr:K1) (Ke0:K0):Prop :=
 u_bf false 1 4 x3 h fun v102=>u_ct ym1f [v102] h fun v103 h=>yvu8 v103 0 fun v104=>yvu8 v103 1 fun v105=>ygdg x0 x3 v104 v105 h Kn Kr Ke0
def ykki (x0 x3:Value) (h:H) (Kn:K0) (Kr:K1) (Ke0:K0):Prop :=
 u_bf false 1 1 x3 h fun v135=>u_bf false 1 1 x3 h fun v138=>y394 x0 fun v139=>y0wt 261 v139 fun v140=>u_ix true 4 (some 256) v140 v138 h fun v142=>u_bf false 1 2 x3 h fun v145=>y394 x0 fun v146=>y0wt 261 v146 fun v147=>u_ix true 4 (some 256) v147 v145 h fun v149=>u_ct ythy [v149] h fun v150 h=>u_ct y70b [v150] h fun v151 h=>u_ct yj35 [v142,v151] h fun v152 h=>y394 x0 fun v153=>y0wt 261 v153 fun v154=>yji6 (some 256) 4 v154 v135 fun v155=>ylel 4 v155 v152 h fun h=>Kn h
def ybkv (h:H) (Kn:K0) (Kr:K1) (Ke0:K0):Prop :=
 Kr (.bool false) h
def yrzr (x0 x3 x131:Value) (h:H) (Kn:K0) (Kr:K1) (Ke0:K0):Prop :=
 u_if x131 (ykki x0 x3 h Kn Kr Ke0) (ybkv h Kn Kr Ke0)
def ynoo (x0 x3 x8:Value) (h:H) (Kn:K0) (Kr:K1) (Ke0:K0):Prop :=
 u_bin PG .eql T_int x8 (.int .i64 19) fun v132=>yrzr x0 x3 v132 h Kn Kr Ke0
def yv0x (x0 x3 x8 x98:Value) (h:H) (Kn:K0) (Kr:K1) (Ke0:K0):Prop :=
 u_if x98 (ytjr x0 x3 h Kn Kr Ke0) (ynoo x0 x3 x8 h Kn Kr Ke0)
def y56s (x0 x3 x8:Value) (h:H) (Kn:K0) (Kr:K1) (Ke0:K0):Prop :=
 u_bin PG .eql T_int x8 (.int .i64 17) fun v99=>yv0x x0 x3 x8 v99 h Kn Kr Ke0
def y9bv (x0 x3 x8 x55:Value) (h:H) (Kn:K0) (Kr:K1) (Ke0:K0):Prop :=
 u_if x55 (y833 x0 x3 h Kn Kr Ke0) (y56s x0 x3 x8 h Kn Kr Ke0)
def ydbx (x0 x3 x8:Value) (h:H) (Kn:K0) (Kr:K1) (Ke0:K0):Prop :=
 u_bin PG .eql T_int x8 (.int .i64 16) fun v56=>y9bv x0 x3 x8 v56 h Kn Kr Ke0
def yj9p (x0 x3 x8 x37:Value) (h:H) (Kn:K0) (Kr:K1) (Ke0:K0):Prop :=
 u_if x37 (yizi x0 x3 h Kn Kr Ke0) (ydbx x0 x3 x8 h Kn Kr Ke0)
def yfjm (x0 x3 x8:Value) (h:H) (Kn:K0) (Kr:K1) (Ke0:K0):Prop :=
 u_bin PG .eql T_int x8 (.int .i64 15) fun v38=>yj9p x0 x3 x8 v38 h Kn Kr Ke0
def yk4v (x0 x3 x8 x9:Value) (h:H) (Kn:K0) (Kr:K1) (Ke0:K0):Prop :=
 u_if x9 (y0mo x0 x3 h Kn Kr Ke0) (yfjm x0 x3 x8 h Kn Kr Ke0)
def ytpj (x0 x3 x8:Value) (h:H) (Kn:K0) (Kr:K1) (Ke0:K0):Prop :=
 u_bin PG .eql T_int x8 (.int .i64 14) fun v10=>yk4v x0 x3 x8 v10 h Kn Kr Ke0
def y8ky (x0 x3 x8:Value) (h:H) (Kn:K0) (Kr:K1):Prop :=
 ytpj x0 x3 x8 h Kn Kr Kn
def y2ez (x0 x3:Value) (h:H) (Kn:K0) (Kr:K1):Prop :=
 u_bf false 1 0 x3 h fun v8=>y8ky x0 x3 v8 h Kn Kr
def yd91 (h:H) (Kn Kr:K1):Prop :=
 Kr (.bool true) h
def yckj (x0 x3:Value) (h:H) (Kn Kr:K1):Prop :=
 y2ez x0 x3 h (fun h=>yd91 h Kn Kr) Kr
def yyr6 (x0 x1:Value) (h:H) (Kn Kr:K1):Prop :=
 boxV x1=true∧u_new (Value.cells x1).toList yq0s .exact h fun b3 h=>yckj x0 (.pointer (some ⟨b3,0,none⟩)) h Kn Kr
theorem yso6 {Kn:K0} {Kr:K1} {Ke0:K0} {t:T} {h:H} (H0:ytjr (t 0) (t 3) h Kn Kr Ke0):Wp PG 156 (cndX (rest 1 (cndY (rest 1 (cndY (rest 1 (cndY (rest 1 (blkC (rest 1 (seqL (rest 1 (ygjk Tryz.f239.body))))))))))))) (mkQ (q0 Kn) (q1 Kr 4) (keAdd 0 (q0 Ke0) ke0)) t h :=
 (toE E5_ok 1 H0 fun t h (H:ygdg (t 0) (t 3) (t 5) (t 6) h Kn Kr Ke0)=>(drR E5_ok [(0,[],[]),(1,[],[]),(2,[],[]),(3,[],[]),(4,[],[]),(5,[],[]),(6,[],[]),(7,[],[]),(8,[],[]),(9,[],[]),(10,[],[]),(11,[],[]),(12,[],[]),(13,[],[]),(14,[],[]),(15,[],[]),(16,[],[]),(17,[],[]),(19,[],[]),(20,[],[]),(22,[],[]),(23,[],[]),(18,[2],[]),(21,[2],[]),(24,[],[]),(25,[],[])] H))
theorem yrww {Kn:K0} {Kr:K1} {Ke0:K0} {t:T} {h:H} (H0:y56s (t 0) (t 3) (t 8) h Kn Kr Ke0):Wp PG 156 (cndY (rest 1 (cndY (rest 1 (cndY (rest 1 (blkC (rest 1 (seqL (rest 1 (ygjk Tryz.f239.body))))))))))) (mkQ (q0 Kn) (q1 Kr 4) (keAdd 0 (q0 Ke0) ke0)) t h :=
 (toE E5_ok 1 H0 fun t h (H:yv0x (t 0) (t 3) (t 8) (t 98) h Kn Kr Ke0)=>(cdE H (fun H=>(yso6 H)) fun H=>(toE E5_ok 1 H fun t h (H:yrzr (t 0) (t 3) (t 131) h Kn Kr Ke0)=>(cdE H (fun H=>(drE E5_ok [0,1,2,3,4,5,6,7,8,9,10,11,12,13,14,15,16,17,18,19,20,21,22,23] H)) fun H=>(wpE E5_ok H)))))
theorem yk4u {Kn:K0} {Kr:K1} {Ke0:K0} {t:T} {h:H} (H0:yfjm (t 0) (t 3) (t 8) h Kn Kr Ke0):Wp PG 156 (cndY (rest 1 (blkC (rest 1 (seqL (rest 1 (ygjk Tryz.f239.body))))))) (mkQ (q0 Kn) (q1 Kr 4) (keAdd 0 (q0 Ke0) ke0)) t h :=
 (toE E5_ok 1 H0 fun t h (H:yj9p (t 0) (t 3) (t 8) (t 37) h Kn Kr Ke0)=>(cdE H (fun H=>(drE E5_ok [0,1,2,3,4,5,6,7,8,9,10,11,12,13,14,15,16] H)) fun H=>(toE E5_ok 1 H fun t h (H:y9bv (t 0) (t 3) (t 8) (t 55) h Kn Kr Ke0)=>(cdE H (fun H=>(drP E5_ok [0,1,3,4,5,6,7,8,9,10,11,12,13,14,15,16,17,18,19,20,21,22,23,24,25,26,27,28,29,30,31,32,33,38,39] 2 34 [35,36,37,40,41] H)) fun H=>(yrww H)))))
theorem yf13 {Kn:K0} {Kr:K1} {Ke0:K0} {t:T} {h:H} (H0:yk4v (t 0) (t 3) (t 8) (t 9) h Kn Kr Ke0):Wp PG 156 (rest 1 (blkC (rest 1 (seqL (rest 1 (ygjk Tryz.f239.body)))))) (mkQ (q0 Kn) (q1 Kr 4) (keAdd 0 (q0 Ke0) ke0)) t h :=
 (cdE H0 (fun H=>(sqE (q2 (fun y0 y3 h=>ykpe y0 y3 h Kn Kr Ke0) 0 3) (drE E5_ok [0,1,2,3,4,5,6,7] H) fun t h H=>(toE E5_ok 1 H fun t h (H:y0r4 (t 0) (t 3) (t 20) h Kn Kr Ke0)=>(cdE H (fun H=>(drE E5_ok [0,1,2,3,4,5,6,7,8,9,10,11,12,13,14,15,16] H)) fun H=>(wpE E5_ok H))))) fun H=>(yk4u H))
theorem ynk6 {Kn Kr:K1} {t:T} {h:H} (H0:yyr6 (t 0) (t 1) h Kn Kr):Wp PG 156 (ygjk Tryz.f239.body) (mkQ (q1 Kn 4) (q1 Kr 4) ke0) t h :=
 (toE E5_ok 1 H0 fun t h (H:yckj (t 0) (t 3) h Kn Kr)=>(sqE (q0 (fun h=>yd91 h Kn Kr)) (toE E5_ok 1 H fun t h (H:y8ky (t 0) (t 3) (t 8) h (fun h=>yd91 h Kn Kr) Kr)=>(bkE 0 (toE E5_ok 1 H fun t h (H:yk4v (t 0) (t 3) (t 8) (t 9) h (fun h=>yd91 h Kn Kr) Kr (fun h=>yd91 h Kn Kr))=>(yf13 H)))) fun t h H=>(wpE E5_ok H)))
def yy26 (x0 x1:Value) (h:H) (Q:K1):Prop:=yyr6 x0 x1 h Q Q
theorem yfrs (x0 x1:Value) (h:H) (Q:K1) (H0:yy26 x0 x1 h Q):AM.Spec PG yebn [x0,x1] h Q :=
 spH mixed Tryz.func239 [4] (ynk6 H0)
def y8zn (x0 x3:Value) (h:H) (Kn:K1) (Kr:K0):Prop :=
 u_pf false 1 0 x0 h fun v7=>u_bf false 1 4 x3 h fun v9=>y394 v7 fun v10=>y0wt 2 v10 fun v11=>u_st 1 32 v11 v9 h fun h=>Kn x0 h
def y1fv (x0:Value) (h:H) (Kn:K2) (Kr:K0):Prop :=
 u_pf false 1 0 x0 h fun v16=>y394 v16 fun v17=>y0wt 2 v17 fun v18=>u_bf false 1 33 v18 h fun v20=>u_pf false 1 1 x0 h fun v24=>u_bin PG .geq yeb5 v20 v24 fun v25=>y498 (undef,undef,undef) v25 false (fun k28=>u_pf false 1 0 x0 h fun v30=>u_pf false 1 0 v30 h fun v33=>u_pf false 1 3 x0 h fun v37=>y394 x0 fun v40=>y0wt 4 v40 fun v41=>k28 (v33,v37,v41) h) (fun s28 h=>(ydv6 v25 false (fun k30=>ybqh false 1 s28.2.2 h fun v42=>yjdf PG yd4l [s28.1,s28.2.1] h fun v38 h=>u_bin PG .neq ycpa v38 v42 fun v43=>k30 v43 h) (fun v43 h=>y9rg v25 (.bool true) v43 fun v44=>Kn x0 v44 h) h)∧(ydv6 v25 false (fun k30=>yjdf PG yd4l [s28.1,s28.2.1] h fun v38 h=>ybqh false 1 s28.2.2 h fun v42=>u_bin PG .neq ycpa v38 v42 fun v43=>k30 v43 h) (fun v43 h=>y9rg v25 (.bool true) v43 fun v44=>Kn x0 v44 h) h)) h
def yx3d (x0 x44:Value) (h:H) (Kn Kr:K0):Prop :=
 u_if x44 (ysnr PG yqha [] fun v46=>yjdf PG yfrg [x0,v46] h fun v47 h=>Kn h) (Kn h)
def yk6l (x0:Value) (h:H) (Kn Kr:K0):Prop :=
 y1fv x0 h (fun y0 y44 h=>yx3d y0 y44 h Kn Kr) Kr
def y1wr (x0 x3:Value) (h:H) (Kn Kr:K0):Prop :=
 y8zn x0 x3 h (fun y0 h=>yk6l y0 h Kn Kr) Kr
def ydv2 (x0 x1:Value) (h:H) (Kn Kr:K0):Prop :=
 boxV x1=true∧u_new (Value.cells x1).toList yq0s .exact h fun b3 h=>y1wr x0 (.pointer (some ⟨b3,0,none⟩)) h Kn Kr
theorem y2nh {Kn Kr:K0} {t:T} {h:H} (H0:ydv2 (t 0) (t 1) h Kn Kr):Wp PG 48 (ygjk Tryz.f242.body) (mkQ (q0 Kn) (q0 Kr) ke0) t h :=
 (toE E5_ok 1 H0 fun t h (H:y1wr (t 0) (t 3) h Kn Kr)=>(sqE (q1 (fun y0 h=>yk6l y0 h Kn Kr) 0) (drE E5_ok [0,1,2,3,4,5,6,7,8,9] H) fun t h H=>(sqE (q2 (fun y0 y44 h=>yx3d y0 y44 h Kn Kr) 0 44) (drP E5_ok [0,1,2,3,4,5,6,7,8,9,10,11,12,13,14,15,16,17,18,19,20,21,22,23,24,26,27,28] 29 25 [30,31] H) fun t h H=>(wpE E5_ok H))))
def ylyv (x0 x1:Value) (h:H) (Q:K1):Prop:=ydv2 x0 x1 h (fun h=>bif [].all boxV then Q (.tuple #[]) h else False) (fun h=>bif [].all boxV then Q (.tuple #[]) h else False)
theorem ydx0 (x0 x1:Value) (h:H) (Q:K1) (H0:ylyv x0 x1 h Q):AM.Spec PG ys9t [x0,x1] h Q :=
 spH mixed Tryz.func242 [] (y2nh H0)
def ysr9 (x0 x3:Value) (h:H) (Kn:K2) (Kr Ke0:K0):Prop :=
 u_bf false 1 2 x3 h fun v11=>y394 x0 fun v12=>y0wt 5 v12 fun v13=>u_ix false 1 (some 256) v13 v11 h fun v15=>u_bin PG .neq ycpa v15 (.int .u32 0) fun v16=>ydv6 v16 true (fun k12=>u_bf false 1 4 x3 h fun v20=>yjdf PG y095 [x0,v20] h fun v21 h=>k12 v21 h) (fun v21 h=>y9rg v16 v21 (.bool false) fun v22=>Kn x0 v22 h) h
def y4th (x0 x22:Value) (h:H) (Kn Kr Ke0:K0):Prop :=
 u_if x22 (u_pf false 1 0 x0 h fun v26=>y394 v26 fun v27=>y0wt 2 v27 fun v28=>u_bf false 1 33 v28 h fun v30=>u_bin PG .add yeb5 v30 (.int .i64 1) fun v31=>y394 v26 fun v32=>y0wt 2 v32 fun v33=>u_st 1 33 v33 v31 h fun h=>Kn h) (Kn h)
def ylf4 (x0 x3:Value) (h:H) (Kn Kr Ke0:K0):Prop :=
 ysr9 x0 x3 h (fun y0 y22 h=>y4th y0 y22 h Kn Kr Ke0) Kr Ke0
def y1ho (x0 x3:Value) (h:H) (Kn Kr Ke0:K0):Prop :=
 u_bf false 1 2 x3 h fun v40=>y394 x0 fun v41=>y0wt 5 v41 fun v42=>u_ix false 1 (some 256) v42 v40 h fun v44=>yjdf PG y095 [x0,v44] h fun v45 h=>Kn h
def yifm (x0 x3:Value) (h:H) (Kn Kr Ke0:K0):Prop :=
 u_bf false 1 4 x3 h fun v50=>yjdf PG y095 [x0,v50] h fun v51 h=>Kn h
def yrkp (x0 x3:Value) (h:H) (Kn Kr Ke0:K0):Prop :=
 u_bf false 1 4 x3 h fun v56=>y2x6 .i64 v56 fun v57=>u_pf false 1 0 x0 h fun v61=>y394 v61 fun v62=>y0wt 2 v62 fun v63=>u_bf false 1 32 v63 h fun v65=>yjdf PG yhb9 [x0,v57,v65,(.int .i64 0)] h fun v66 h=>Kn h
def y3g6 (x0 x3:Value) (h:H) (Kn:K2) (Kr Ke0:K0):Prop :=
 u_bf false 1 2 x3 h fun v71=>y394 x0 fun v72=>y0wt 5 v72 fun v73=>u_ix false 1 (some 256) v73 v71 h fun v75=>Kn x0 v75 h
def y3vz (x0 x4:Value) (h:H) (Kn Kr Ke0:K0):Prop :=
 u_bin PG .rem ycpa x4 (.int .u32 4) fun v77=>u_bin PG .neq ycpa v77 (.int .u32 0) fun v78=>u_if v78 (yjdf PG yhb9 [x0,(.int .i64 7),x4,(.int .i64 0)] h fun v81 h=>Kn h) (Kn h)
def y01f (x0 x3:Value) (h:H) (Kn Kr Ke0:K0):Prop :=
 y3g6 x0 x3 h (fun y0 y4 h=>y3vz y0 y4 h Kn Kr Ke0) Kr Ke0
def y7up (h:H) (Kn Kr Ke0:K0):Prop :=
 Kn h
def yt49 (x0 x3 x67:Value) (h:H) (Kn Kr Ke0:K0):Prop :=
 u_if x67 (y01f x0 x3 h Kn Kr Ke0) (y7up h Kn Kr Ke0)
def ycr2 (x0 x3 x6:Value) (h:H) (Kn Kr Ke0:K0):Prop :=
 u_bin PG .eql T_int x6 (.int .i64 21) fun v68=>yt49 x0 x3 v68 h Kn Kr Ke0
def ybtx (x0 x3 x6 x52:Value) (h:H) (Kn Kr Ke0:K0):Prop :=
 u_if x52 (yrkp x0 x3 h Kn Kr Ke0) (ycr2 x0 x3 x6 h Kn Kr Ke0)
def ylxu (x0 x3 x6:Value) (h:H) (Kn Kr Ke0:K0):Prop :=
 u_bin PG .eql T_int x6 (.int .i64 13) fun v53=>ybtx x0 x3 x6 v53 h Kn Kr Ke0
def yqun (x0 x3 x6 x46:Value) (h:H) (Kn Kr Ke0:K0):Prop :=
 u_if x46 (yifm x0 x3 h Kn Kr Ke0) (ylxu x0 x3 x6 h Kn Kr Ke0)
def yiaa (x0 x3 x6:Value) (h:H) (Kn Kr Ke0:K0):Prop :=
 u_bin PG .eql T_int x6 (.int .i64 12) fun v47=>yqun x0 x3 x6 v47 h Kn Kr Ke0
def yqh2 (x0 x3 x6 x35:Value) (h:H) (Kn Kr Ke0:K0):Prop :=
 u_if x35 (y1ho x0 x3 h Kn Kr Ke0) (yiaa x0 x3 x6 h Kn Kr Ke0)
def y024 (x0 x3 x6:Value) (h:H) (Kn Kr Ke0:K0):Prop :=
 u_bin PG .eql T_int x6 (.int .i64 11) fun v36=>yqh2 x0 x3 x6 v36 h Kn Kr Ke0
def yw2v (x0 x3 x6 x7:Value) (h:H) (Kn Kr Ke0:K0):Prop :=
 u_if x7 (ylf4 x0 x3 h Kn Kr Ke0) (y024 x0 x3 x6 h Kn Kr Ke0)
def ys7a (x0 x3 x6:Value) (h:H) (Kn Kr Ke0:K0):Prop :=
 u_bin PG .eql T_int x6 (.int .i64 10) fun v8=>yw2v x0 x3 x6 v8 h Kn Kr Ke0
def yv8f (x0 x3 x6:Value) (h:H) (Kn Kr:K0):Prop :=
 ys7a x0 x3 x6 h Kn Kr Kn
def yr0i (x0 x1:Value) (h:H) (Kn Kr:K0):Prop :=
 boxV x1=true∧u_new (Value.cells x1).toList yq0s .exact h fun b3 h=>u_bf false 1 0 (.pointer (some ⟨b3,0,none⟩)) h fun v6=>yv8f x0 (.pointer (some ⟨b3,0,none⟩)) v6 h Kn Kr
theorem y7px {Kn Kr Ke0:K0} {t:T} {h:H} (H0:yiaa (t 0) (t 3) (t 6) h Kn Kr Ke0):Wp PG 82 (cndY (rest 1 (cndY (rest 1 (blkC (rest 2 (ygjk Tryz.f244.body))))))) (mkQ (q0 Kn) (q0 Kr) (keAdd 0 (q0 Ke0) ke0)) t h :=
 (toE E5_ok 1 H0 fun t h (H:yqun (t 0) (t 3) (t 6) (t 46) h Kn Kr Ke0)=>(cdE H (fun H=>(wpE E5_ok H)) fun H=>(toE E5_ok 1 H fun t h (H:ybtx (t 0) (t 3) (t 6) (t 52) h Kn Kr Ke0)=>(cdE H (fun H=>(drE E5_ok [0,1,2,3,4,5,6,7,8,9,10,11,12] H)) fun H=>(toE E5_ok 1 H fun t h (H:yt49 (t 0) (t 3) (t 67) h Kn Kr Ke0)=>(cdE H (fun H=>(sqE (q2 (fun y0 y4 h=>y3vz y0 y4 h Kn Kr Ke0) 0 4) (drE E5_ok [0,1,2,3,4,5,6,7] H) fun t h H=>(wpE E5_ok H))) fun H=>(wpE E5_ok H)))))))
theorem ycmg {Kn Kr:K0} {t:T} {h:H} (H0:yr0i (t 0) (t 1) h Kn Kr):Wp PG 82 (ygjk Tryz.f244.body) (mkQ (q0 Kn) (q0 Kr) ke0) t h :=
 (toE E5_ok 2 H0 fun t h (H:yv8f (t 0) (t 3) (t 6) h Kn Kr)=>(bkE 0 (toE E5_ok 1 H fun t h (H:yw2v (t 0) (t 3) (t 6) (t 7) h Kn Kr Kn)=>(cdE H (fun H=>(sqE (q2 (fun y0 y22 h=>y4th y0 y22 h Kn Kr Kn) 0 22) (drE E5_ok [0,1,2,3,4,5,6,7,8,9,10,11,12,13] H) fun t h H=>(wpE E5_ok H))) fun H=>(toE E5_ok 1 H fun t h (H:yqh2 (t 0) (t 3) (t 6) (t 35) h Kn Kr Kn)=>(cdE H (fun H=>(drE E5_ok [0,1,2,3,4,5,6,7,8] H)) fun H=>(y7px H)))))))
def ywmd (x0 x1:Value) (h:H) (Q:K1):Prop:=yr0i x0 x1 h (fun h=>bif [].all boxV then Q (.tuple #[]) h else False) (fun h=>bif [].all boxV then Q (.tuple #[]) h else False)
theorem ynag (x0 x1:Value) (h:H) (Q:K1) (H0:ywmd x0 x1 h Q):AM.Spec PG yduv [x0,x1] h Q :=
 spH mixed Tryz.func244 [] (ycmg H0)
def yswl (x0 x1 x2 x3:Value) (h:H) (Kn Kr:K0):Prop :=
 ysnr PG ys2z [(0,x1),(1,x2),(2,x3)] fun v12=>ysnr PG yqha [(0,v12)] fun v13=>yjdf PG yfrg [x0,v13] h fun v14 h=>Kn h
def y6it (x0 x1 x2 x3:Value) (h:H) (Q:K1):Prop:=yswl x0 x1 x2 x3 h (fun h=>bif [].all boxV then Q (.tuple #[]) h else False) (fun h=>bif [].all boxV then Q (.tuple #[]) h else False)
theorem yb17 (x0 x1 x2 x3:Value) (h:H) (Q:K1) (H0:y6it x0 x1 x2 x3 h Q):AM.Spec PG yhb9 [x0,x1,x2,x3] h Q :=
 spE mixed E5_ok Tryz.func296 [] H0
def yor2 (x0 x3:Value) (h:H) (Kn Kr:K0):Prop :=
 y394 x0 fun v7=>y0wt 1285 v7 fun v8=>(ybqh true 5 x3 h fun v6=>ylel 1 v8 (.bool true) h fun h=>y394 x0 fun v9=>u_st 5 1286 v9 v6 h fun h=>Kn h)∧(ylel 1 v8 (.bool true) h fun h=>ybqh true 5 x3 h fun v6=>y394 x0 fun v9=>u_st 5 1286 v9 v6 h fun h=>Kn h)
def ymow (x0 x1:Value) (h:H) (Kn Kr:K0):Prop :=
 boxV x1=true∧u_new (Value.cells x1).toList yqha .exact h fun b3 h=>yor2 x0 (.pointer (some ⟨b3,0,none⟩)) h Kn Kr
theorem yz7h {Kn Kr:K0} {t:T} {h:H} (H0:ymow (t 0) (t 1) h Kn Kr):Wp PG 11 (ygjk Tryz.f299.body) (mkQ (q0 Kn) (q0 Kr) ke0) t h :=
 (toE E5_ok 1 H0 fun t h (H:yor2 (t 0) (t 3) h Kn Kr)=>(drP E5_ok [0,1,3,4] 2 5 [6,7,8] H))
def ypv2 (x0 x1:Value) (h:H) (Q:K1):Prop:=ymow x0 x1 h (fun h=>bif [].all boxV then Q (.tuple #[]) h else False) (fun h=>bif [].all boxV then Q (.tuple #[]) h else False)
theorem ym9s (x0 x1:Value) (h:H) (Q:K1) (H0:ypv2 x0 x1 h Q):AM.Spec PG yfrg [x0,x1] h Q :=
 spH mixed Tryz.func299 [] (yz7h H0)
end Go.Proofs.YtnckimioabkheaaGreat
set_option linter.unusedVariables false
set_option maxRecDepth 100000
namespace Go.Proofs.YtnckimioabkheaaGreat
open Go.Proofs.YtnckimioabkheaaGreat.AM
def ytwo (x6 x9:Value) (h:H) (Kn:K2) (Kr Ke0:K1):Prop :=
 u_bf false 1 0 x6 h fun v74=>ywmm v74 fun v75=>u_bin PG .lss T_int x9 v75 fun v76=>u_if v76 (u_bf false 1 0 x6 h fun v80=>u_ix false 1 none v80 x9 h fun v83=>y5hj v83 fun v84=>u_bin PG .gtr T_int v84 (.int .i64 100) fun v85=>u_if v85 (Kr (.bool false) h) (u_bin PG .add T_int x9 (.int .i64 1) fun v78=>Kn x6 v78 h)) (Ke0 x6 h)
def yy1q (x6 x9:Value) (h:H) (Kn Kr Ke0:K1):Prop :=
 sloop (S:=Value×Value) (fun s h K=>ytwo s.1 s.2 h (fun y6 y9 h=>K (y6,y9) h) Kr Ke0) (x6,x9) h
def yre3 (x6 x9:Value) (h:H) (Kn Kr:K1):Prop :=
 yy1q x6 x9 h Kn Kr Kn
def ygjr (x6:Value) (h:H) (Kn Kr:K1):Prop :=
 yre3 x6 (.int .i64 0) h Kn Kr
def y5lf (x6 x10:Value) (h:H) (Kn:K2) (Kr:K1) (Ke2:K0):Prop :=
 u_bf false 1 5 x6 h fun v88=>ywmm v88 fun v89=>u_bin PG .lss T_int x10 v89 fun v90=>u_if v90 (u_bf false 1 5 x6 h fun v94=>u_ixf false 1 0 none 2 v94 x10 h fun v98=>y5hj v98 fun v99=>u_bin PG .gtr T_int v99 (.int .i64 60) fun v100=>ydv6 v100 false (fun k16=>u_bf false 1 5 x6 h fun v103=>u_ixf false 1 1 none 2 v103 x10 h fun v107=>ywmm v107 fun v108=>u_bin PG .gtr T_int v108 (.int .i64 300) fun v109=>k16 v109 h) (fun v109 h=>y9rg v100 (.bool true) v109 fun v110=>u_if v110 (Kr (.bool false) h) (u_bin PG .add T_int x10 (.int .i64 1) fun v92=>Kn x6 v92 h)) h) (Ke2 h)
def yoei (x6 x10:Value) (h:H) (Kn:K0) (Kr:K1) (Ke2:K0):Prop :=
 sloop (S:=Value×Value) (fun s h K=>y5lf s.1 s.2 h (fun y6 y10 h=>K (y6,y10) h) Kr Ke2) (x6,x10) h
def yq9t (x6 x10:Value) (h:H) (Kn:K0) (Kr:K1):Prop :=
 yoei x6 x10 h Kn Kr Kn
def y3au (x6:Value) (h:H) (Kn:K0) (Kr:K1):Prop :=
 yq9t x6 (.int .i64 0) h Kn Kr
def ye3n (h:H) (Kn Kr:K1):Prop :=
 Kr (.bool true) h
def y45k (x6:Value) (h:H) (Kn Kr:K1):Prop :=
 y3au x6 h (fun h=>ye3n h Kn Kr) Kr
def ymy3 (x6:Value) (h:H) (Kn Kr:K1):Prop :=
 ygjr x6 h (fun y6 h=>y45k y6 h Kn Kr) Kr
def ydkz (x0 x1 x2 x3:Value) (h:H) (Kn Kr:K1):Prop :=
 boxV x2=true∧u_new (Value.cells x2).toList ylzr .exact h fun b6 h=>boxV x3=true∧u_new (Value.cells x3).toList y4pp .exact h fun b7 h=>ywmm x0 fun v12=>u_bin PG .lss T_int v12 (.int .i64 1) fun v13=>ydv6 v13 false (fun k6=>ywmm x0 fun v16=>u_bin PG .gtr T_int v16 (.int .i64 200) fun v17=>k6 v17 h) (fun v17 h=>y9rg v13 (.bool true) v17 fun v18=>ydv6 v18 false (fun k11=>ywmm x1 fun v21=>u_bin PG .gtr T_int v21 (.int .i64 512) fun v22=>k11 v22 h) (fun v22 h=>y9rg v18 (.bool true) v22 fun v23=>ydv6 v23 false (fun k17=>u_bf false 1 1 (.pointer (some ⟨b6,0,none⟩)) h fun v26=>ywmm v26 fun v27=>u_bin PG .gtr T_int v27 (.int .i64 300) fun v28=>k17 v28 h) (fun v28 h=>y9rg v23 (.bool true) v28 fun v29=>ydv6 v29 false (fun k23=>u_bf false 1 2 (.pointer (some ⟨b6,0,none⟩)) h fun v32=>ywmm v32 fun v33=>u_bin PG .gtr T_int v33 (.int .i64 20) fun v34=>k23 v34 h) (fun v34 h=>y9rg v29 (.bool true) v34 fun v35=>ydv6 v35 false (fun k29=>u_bf false 1 5 (.pointer (some ⟨b6,0,none⟩)) h fun v38=>ywmm v38 fun v39=>u_bin PG .gtr T_int v39 (.int .i64 5) fun v40=>k29 v40 h) (fun v40 h=>y9rg v35 (.bool true) v40 fun v41=>ydv6 v41 false (fun k35=>u_bf false 1 3 (.pointer (some ⟨b6,0,none⟩)) h fun v44=>ywmm v44 fun v45=>u_bin PG .gtr T_int v45 (.int .i64 300) fun v46=>k35 v46 h) (fun v46 h=>y9rg v41 (.bool true) v46 fun v47=>ydv6 v47 false (fun k41=>u_bf false 1 4 (.pointer (some ⟨b6,0,none⟩)) h fun v50=>ywmm v50 fun v51=>u_bin PG .gtr T_int v51 (.int .i64 20) fun v52=>k41 v52 h) (fun v52 h=>y9rg v47 (.bool true) v52 fun v53=>ydv6 v53 false (fun k47=>u_bf false 1 0 (.pointer (some ⟨b6,0,none⟩)) h fun v56=>ywmm v56 fun v57=>u_bin PG .gtr T_int v57 (.int .i64 10) fun v58=>k47 v58 h) (fun v58 h=>y9rg v53 (.bool true) v58 fun v59=>ydv6 v59 false (fun k53=>u_bf false 1 1 (.pointer (some ⟨b7,0,none⟩)) h fun v62=>ywmm v62 fun v63=>u_bin PG .gtr T_int v63 (.int .i64 32) fun v64=>k53 v64 h) (fun v64 h=>y9rg v59 (.bool true) v64 fun v65=>ydv6 v65 false (fun k59=>u_bf false 1 2 (.pointer (some ⟨b7,0,none⟩)) h fun v68=>ywmm v68 fun v69=>u_bin PG .gtr T_int v69 (.int .i64 32) fun v70=>k59 v70 h) (fun v70 h=>y9rg v65 (.bool true) v70 fun v71=>u_if v71 (Kr (.bool false) h) (ymy3 (.pointer (some ⟨b6,0,none⟩)) h Kn Kr)) h) h) h) h) h) h) h) h) h) h
theorem ybtz {Kn Kr:K1} {t:T} {h:H} (H0:ymy3 (t 6) h Kn Kr):Wp PG 111 (rest 2 (ygjk Tryz.f16.body)) (mkQ (q1 Kn 8) (q1 Kr 8) ke0) t h :=
 (sqE (q1 (fun y6 h=>y45k y6 h Kn Kr) 6) (toE E5_ok 1 H0 fun t h (H:yre3 (t 6) (t 9) h (fun y6 h=>y45k y6 h Kn Kr) Kr)=>(bkE 0 (lpE (fun t=>(t 6,t 9)) H fun t h K H=>(wpE E5_ok H)))) fun t h H=>(sqE (q0 (fun h=>ye3n h Kn Kr)) (toE E5_ok 1 H fun t h (H:yq9t (t 6) (t 10) h (fun h=>ye3n h Kn Kr) Kr)=>(bkE 2 (lpE (fun t=>(t 6,t 10)) H fun t h K H=>(wpE E5_ok H)))) fun t h H=>(wpE E5_ok H)))
theorem yku2 {Kn Kr:K1} {t:T} {h:H} (H0:ydkz (t 0) (t 1) (t 2) (t 3) h Kn Kr):Wp PG 111 (ygjk Tryz.f16.body) (mkQ (q1 Kn 8) (q1 Kr 8) ke0) t h :=
 (toE E5_ok 2 H0 fun t h (H:ymy3 (t 6) h Kn Kr)=>(ybtz H))
def ykcv (x0 x1 x2 x3:Value) (h:H) (Q:K1):Prop:=ydkz x0 x1 x2 x3 h Q Q
theorem yz2s (x0 x1 x2 x3:Value) (h:H) (Q:K1) (H0:ykcv x0 x1 x2 x3 h Q):AM.Spec PG y4hf [x0,x1,x2,x3] h Q :=
 spH mixed Tryz.func16 [8] (yku2 H0)
end Go.Proofs.YtnckimioabkheaaGreat
