/-
  Proved here: the law 'WeaveGood' (tincturelaw22) answers true at every list of words, every number, every bound and every policy, in every world, and changes nothing that came in; no conditions. By contracts of the program's functions over an abstract memory. Several texts put together, long names shortened by a program.
-/
import Derived.Test.YtnckimioabkheaaGreatZ6
import Derived.Test.YtnckimioabkheaaGreatZ3
import Derived.Test.YtnckimioabkheaaGreatZ2
import Derived.KernelRfl
import Derived.ProofKit
import Derived.Deep.Slices
import Derived.Test.YtnckimioabkheaaGreatRows
set_option linter.unusedSimpArgs false
set_option linter.unusedVariables false
set_option maxRecDepth 100000
set_option maxHeartbeats 4000000
namespace Go.Proofs.YtnckimioabkheaaGreat
open AM
abbrev Tg:=Int×Int×Int×Int
def tgC (t:Tg):List Value:=tg4 t.1 t.2.1 t.2.2.1 t.2.2.2
def tgI (t:Tg):List Int:=[t.1,t.2.1,t.2.2.1,t.2.2.2]
def tz:Tg:=(0,0,0,0)
theorem ydre:∀{T:List Tg},(T.flatMap tgI).map (Value.int .u8)=T.flatMap tgC
 | []=>rfl
 | t::r=>by rw [List.flatMap_cons,List.flatMap_cons,List.map_append,ydre];rfl
theorem ygil {T:List Tg}:(T.flatMap tgC).length=T.length*4:=yr37 fun _ _=>rfl
theorem tl_at {T:List Tg} {i:Nat} (hi:i<T.length):((T.flatMap tgC).drop (4*i)).take 4=tgC T[i]:=by
 rw [Nat.mul_comm];exact youw (sz:=4) i hi fun _ _=>rfl
theorem ylmw {t:Tg} {w:Tg}:tgC w=setL (tgC t) 0 (tgC w):=(y24r rfl).symm
theorem yaws {T:List Tg} {i:Nat} (hi:i<T.length) {w:Tg}:setL (T.flatMap tgC) (4*i) (tgC w)=(T.set i w).flatMap tgC:=by
 have:=ysvh (enc:=tgC) (sz:=4) hi (w:=w) (vs:=tgC w) (o:=0) (fun _ _=>rfl) (by simp [tgC,tg4]) ylmw
 rw [Nat.mul_comm];exact this.symm
section
variable {c:MC}
theorem MC.drop36 (h:c.Ok):c.cells.drop 36=c.t.map (.int .u8)++c.rest:=by
 have h1:=h.x
 unfold MC.cells
 rw [← List.append_assoc,←List.append_assoc]
 exact List.drop_left' (by simp [h1])
theorem MC.at_tg (h:c.Ok) {T:List Tg} (ht:c.t=T.flatMap tgI) (hl:T.length=32) {r:Nat} (hr:r<32):(c.cells.drop (36+4*r)).take 4=tgC (T[r]'(by omega)):=by
 have h2:=h.t
 rw [← List.drop_drop,MC.drop36 h,ht,ydre,List.drop_append_of_le_length (by rw [ygil];omega),List.take_append_of_le_length (by rw [List.length_drop,ygil];omega),tl_at (by omega)]
theorem MC.set_tg (h:c.Ok) {T:List Tg} (ht:c.t=T.flatMap tgI) (hl:T.length=32) {r:Nat} (hr:r<32) {w:Tg}:setL c.cells (36+4*r) (tgC w)={ c with t:=(T.set r w).flatMap tgI }.cells:=by
 have h1:=h.x
 have e:c.cells=([c.q,c.s]++c.x.map (Value.int .u32)++[Value.int .u32 c.pc,Value.int .i64 c.ret])++(T.flatMap tgC++c.rest):=by
  unfold MC.cells;rw [ht,ydre];simp
 have hlp:([c.q,c.s]++c.x.map (Value.int .u32)++[Value.int .u32 c.pc,Value.int .i64 c.ret]).length=36:=by simp [h1]
 have:=y5p0 (vs:=tgC w) (p:=[c.q,c.s]++c.x.map (Value.int .u32)++[Value.int .u32 c.pc,Value.int .i64 c.ret]) (cs:=T.flatMap tgC++c.rest) (o:=4*r)
 rw [hlp] at this
 rw [e,this,y8q6 (by rw [ygil];simp [tgC,tg4];omega),yaws (by omega)]
 unfold MC.cells
 rw [ydre]
 simp [MC.rest]
theorem yq20 {T:List Tg}:(T.flatMap tgI).length=T.length*4:=by
 have:=congrArg List.length (ydre (T:=T))
 rw [List.length_map,ygil] at this;exact this
end
section
variable {h:H} {K:K1}
theorem ix_l {br i:Nat} {X:XC} {m:AM.Own} {L:List Tg} (hb:h br=some (.cells X.cells ysiy m)) (ho:X.Ok) (hl:X.l=L.flatMap tgC) (hL:L.length=256) (hi:i<256) {K:Value→Prop} {u:Dm K} :
 u_ix true 4 (some 256) (.pointer (some ⟨br,261,none⟩)) (.int .i64 i) h K u=K (.agg (tgC (L[i]'(by omega))).toArray):=by
 have hi2:(i:Int)<256:=by omega
 have hx:cellsAt h br (261+i*4) 4=some (tgC (L[i]'(by omega))):=by
  rw [yzql hb,if_pos (by have:=XC.len ho;omega),Nat.mul_comm i 4,XC.at_l ho hi,hl,tl_at (by omega)]
 simp (config:={dsimp:=false}) [hi2,hx]
theorem st_l {br i:Nat} {X:XC} {m:AM.Own} {L:List Tg} {w:Tg} (hb:h br=some (.cells X.cells ysiy m)) (hm:m≠.ro) (ho:X.Ok) (hl:X.l=L.flatMap tgC) (hL:L.length=256) (hi:i<256) {K:H→Prop} {u:Dm K} :
 ylel 4 (.pointer (some ⟨br,261+i*4,none⟩)) (.agg (tgC w).toArray) h K u=K (upd h br (.cells ({ X with l:=(L.set i w).flatMap tgC }:XC).cells ysiy m)):=by
 rw [show tgC w=tg4 w.1 w.2.1 w.2.2.1 w.2.2.2 from rfl,y8qt hb hm ho hi,←show tgC w=tg4 w.1 w.2.1 w.2.2.1 w.2.2.2 from rfl,hl,yaws (by omega)]
theorem ix_tg {bm r:Nat} {C:MC} {m:AM.Own} {T:List Tg} (hc:h bm=some (.cells C.cells ynne m)) (hC:C.Ok) (ht:C.t=T.flatMap tgI) (hT:T.length=32) (hr:r<32) {K:Value→Prop} {u:Dm K} :
 u_ix true 4 (some 32) (.pointer (some ⟨bm,36,none⟩)) (.int .u32 r) h K u=K (.agg (tgC (T[r]'(by omega))).toArray):=by
 have hi2:(r:Int)<32:=by omega
 have hx:cellsAt h bm (36+r*4) 4=some (tgC (T[r]'(by omega))):=by
  rw [yzql hc,if_pos (by have:=MC.len hC;omega),Nat.mul_comm r 4,MC.at_tg hC ht hT hr]
 simp (config:={dsimp:=false}) [hi2,hx]
theorem st_tg {bm r:Nat} {C:MC} {m:AM.Own} {T:List Tg} {w:Tg} (hc:h bm=some (.cells C.cells ynne m)) (hm:m≠.ro) (hC:C.Ok) (ht:C.t=T.flatMap tgI) (hT:T.length=32) (hr:r<32) {K:H→Prop} {u:Dm K} :
 ylel 4 (.pointer (some ⟨bm,36+r*4,none⟩)) (.agg (tgC w).toArray) h K u=K (upd h bm (.cells ({ C with t:=(T.set r w).flatMap tgI }:MC).cells ynne m)):=by
 have hlen:=MC.len hC
 rw [ykdp,hc]
 simp only
 have e1:boxV (.agg (tgC w).toArray)=true:=rfl
 have e2:(Value.agg (tgC w).toArray).cells.size=4:=rfl
 have e3:(Value.agg (tgC w).toArray).cells.toList=tgC w:=rfl
 have e4:36+4*r+4≤C.cells.length:=by omega
 rw [e1,e2,e3,Nat.mul_comm r 4,MC.set_tg hC ht hT hr]
 simp [hm,e4]
theorem yzuc {br bm i r:Nat} {X:XC} {C:MC} {m m':AM.Own} {L T:List Tg} {nd:Nd} (hop:nd.op=14) (hto:nd.to=i) (hi:i<256) (hv:nd.v=r) (hr:r<32)
 (hb:h br=some (.cells X.cells ysiy m)) (hm:m≠.ro) (ho:X.Ok) (hl:X.l=L.flatMap tgC) (hL:L.length=256) (hX:X.m=ptr bm 0) (hc:h bm=some (.cells C.cells ynne m')) (hC:C.Ok) (ht:C.t=T.flatMap tgI) (hT:T.length=32)
 (hk:∀h',h' br=some (.cells ({ X with l:=(L.set i (if r=0 then tz else T.getD r tz)).flatMap tgC }:XC).cells ysiy m)→Fr (· = br) h h'→K (.bool true) h'):AM.Spec PG yebn [ptr br 0,.agg nd.cells.toArray] h K:=by
 refine yfrs _ _ _ _ ?_
 unfold yy26 yyr6
 refine ⟨rfl,yd3h fun b3 h1 _ hb3 s1 c1=>?_⟩
 have hb1:=s1 _ _ hb
 have hc1:=s1 _ _ hc
 have hi2:(i:Int)<256:=by omega
 have nbr:br≠bm:=fun e=>by rw [e,hc] at hb;simp only [Option.some.injEq,AObj.cells.injEq] at hb;exact absurd hb.2.1 (by decide)
 have nb3:b3≠br:=fun e=>by rw [e,hb] at hb3;cases hb3
 have st1:∀(K:H→Prop) (u:Dm K),ylel 4 (.pointer (some ⟨br,261+i*4,none⟩)) (.agg #[.int .u8 0,.int .u8 0,.int .u8 0,.int .u8 0]) h1 K u=K (upd h1 br (.cells ({ X with l:=(L.set i tz).flatMap tgC }:XC).cells ysiy m)):=fun K u=>st_l (w:=tz) hb1 hm ho hl hL hi
 have hb2:=yy0e h1 br (.cells ({ X with l:=(L.set i tz).flatMap tgC }:XC).cells ysiy m)
 have hc2:=(yrkk h1 (.cells ({ X with l:=(L.set i tz).flatMap tgC }:XC).cells ysiy m) (Ne.symm nbr)).trans hc1
 have c3:=(yrkk h1 (.cells ({ X with l:=(L.set i tz).flatMap tgC }:XC).cells ysiy m) nb3).trans c1
 have f2:Fr (· = br) h (upd h1 br (.cells ({ X with l:=(L.set i tz).flatMap tgC }:XC).cells ysiy m)):=fun c o hcc hh=>(yrkk _ _ hcc).trans (s1 _ _ hh)
 simp (config:={dsimp:=false}) [↓yckj,↓y2ez,↓y8ky,↓ytpj,↓yk4v,↓y0mo,↓yl5q,yb3e c1,Nd.cells,hop,hto,hi2,st1]
 generalize upd h1 br _=h2 at *
 have c3t:h2 b3=some (.cells nd.cells yq0s .exact):=c3
 have n1:nd.cells[1]?=some (.int .i64 i):=by rw [← hto];rfl
 have n4:nd.cells[4]?=some (.int .u32 r):=by rw [← hv];rfl
 have ho2:({ X with l:=(L.set i tz).flatMap tgC }:XC).Ok:=⟨ho.n,by show _=_;rw [ygil];simp [hL],ho.e⟩
 have hr2:(r:Int)<32:=by omega
 have x0:({ X with l:=(L.set i tz).flatMap tgC }:XC).cells[0]?=some (ptr bm 0):=by rw [XC.at_0,hX]
 by_cases h0:r=0
 ·subst h0
  simp (config:={dsimp:=false}) [↓ykpe,↓y0r4,↓ykll,↓yd91,yb3e c3t,n4]
  rw [if_pos rfl] at hk
  exact hk h2 hb2 f2
 ·rw [if_neg h0] at hk
  have h1p:0<r:=by omega
  have ixm:=fun (K:Value→Prop) (u:Dm K)=>ix_tg hc2 hC ht hT hr (K:=K) (u:=u)
  have st2:∀(K:H→Prop) (u:Dm K),ylel 4 (.pointer (some ⟨br,261+i*4,none⟩)) (.agg (tgC (T[r]'(by omega))).toArray) h2 K u=K (upd h2 br (.cells ({ X with l:=(L.set i (T[r]'(by omega))).flatMap tgC }:XC).cells ysiy m)):=fun K u=>by
   have:=st_l (w:=T[r]'(by omega)) (i:=i) hb2 hm ho2 rfl (by simp [hL]) hi (K:=K) (u:=u)
   rw [this,List.set_set]
  have e0:T.getD r tz=T[r]'(by omega):=by
   rw [List.getD_eq_getElem?_getD,List.getElem?_eq_getElem (by omega)];rfl
  rw [e0] at hk
  unfold ykpe y0r4
  simp (config:={dsimp:=false}) only [s_bf,y1rg c3t n4,Nat.zero_add]
  simp (config:={dsimp:=false}) [h1p]
  unfold ys0v
  simp (config:={dsimp:=false}) only [s_bf,s_pf,y1rg c3t n4,y1rg c3t n1,y1rg hb2 x0,s_nil,s_fa,Nat.zero_add,ixm,s_iaA]
  refine ⟨by omega,hi2,?_⟩
  rw [Int.toNat_natCast,st2]
  simp (config:={dsimp:=false}) [↓yd91]
  exact hk _ (yy0e _ _ _) fun c o hcc hh=>(yrkk _ _ hcc).trans (f2 _ _ hcc hh)
theorem ytkd {br bm a r:Nat} {X:XC} {C:MC} {m m':AM.Own} {L T:List Tg} {nd:Nd} (hop:nd.op=15) (hna:nd.a=a) (ha:a<256) (hv:nd.v=r) (hr:r<32)
 (hb:h br=some (.cells X.cells ysiy m)) (hm:m'≠.ro) (ho:X.Ok) (hl:X.l=L.flatMap tgC) (hL:L.length=256) (hX:X.m=ptr bm 0) (hc:h bm=some (.cells C.cells ynne m')) (hC:C.Ok) (ht:C.t=T.flatMap tgI) (hT:T.length=32)
 (hk:∀h',h' bm=some (.cells ({ C with t:=(T.set r (L.getD a tz)).flatMap tgI }:MC).cells ynne m')→Fr (· = bm) h h'→K (.bool true) h'):AM.Spec PG yebn [ptr br 0,.agg nd.cells.toArray] h K:=by
 refine yfrs _ _ _ _ ?_
 unfold yy26 yyr6
 refine ⟨rfl,yd3h fun b3 h1 _ hb3 s1 c1=>?_⟩
 have hb1:=s1 _ _ hb
 have hc1:=s1 _ _ hc
 have x0:X.cells[0]?=some (ptr bm 0):=by rw [XC.at_0,hX]
 have c1t:h1 b3=some (.cells nd.cells yq0s .exact):=c1
 have n2:nd.cells[2]?=some (.int .i64 a):=by rw [← hna];rfl
 have n4:nd.cells[4]?=some (.int .u32 r):=by rw [← hv];rfl
 have ixl:=fun (K:Value→Prop) (u:Dm K)=>ix_l hb1 ho hl hL ha (K:=K) (u:=u)
 have e0:L.getD a tz=L[a]'(by omega):=by
  rw [List.getD_eq_getElem?_getD,List.getElem?_eq_getElem (by omega)];rfl
 rw [e0] at hk
 have st2:=fun (K:H→Prop) (u:Dm K)=>st_tg (w:=L[a]'(by omega)) hc1 hm hC ht hT hr (K:=K) (u:=u)
 simp (config:={dsimp:=false}) [↓yckj,↓y2ez,↓y8ky,↓ytpj,↓yk4v,↓yfjm,↓yj9p,yb3e c1,Nd.cells,hop]
 unfold yizi
 simp (config:={dsimp:=false}) only [s_bf,s_pf,y1rg c1t n4,y1rg c1t n2,y1rg hb1 x0,s_nil,s_fa,Nat.zero_add,ixl,s_iaA]
 refine ⟨by omega,by omega,?_⟩
 rw [Int.toNat_natCast,st2]
 simp (config:={dsimp:=false}) [↓yd91]
 exact hk _ (yy0e _ _ _) fun c o hcc hh=>(yrkk _ _ hcc).trans (s1 _ _ hh)
def allT (t:Tg):Int:=ywht t.1 t.2.1 t.2.2.1 t.2.2.2
def fillT (l:Int):Tg:=(l,l,l,l)
def joinT (s t:Tg):Tg:=(yotj s.1 s.2.1 s.2.2.1 s.2.2.2 t.1 t.2.1 t.2.2.1 t.2.2.2,y528 s.1 s.2.1 s.2.2.1 s.2.2.2 t.1 t.2.1 t.2.2.1 t.2.2.2,yirl s.1 s.2.1 s.2.2.1 s.2.2.2 t.1 t.2.1 t.2.2.1 t.2.2.2,yk9z s.1 s.2.1 s.2.2.1 s.2.2.2 t.1 t.2.1 t.2.2.1 t.2.2.2)
theorem yx3y {t:Tg} {u:Dm K}:u_ct ythy [.agg (tgC t).toArray] h K u=K (.int .u8 (allT t)) h:=by
 simp (config:={dsimp:=false}) [tgC,tg4,allT]
theorem yfh9 {l:Int} {u:Dm K}:u_ct y70b [.int .u8 l] h K u=K (.agg (tgC (fillT l)).toArray) h:=by
 simp (config:={dsimp:=false}) [tgC,tg4,fillT]
theorem yy36 {s t:Tg} {u:Dm K}:u_ct yj35 [.agg (tgC s).toArray,.agg (tgC t).toArray] h K u=K (.agg (tgC (joinT s t)).toArray) h:=by
 simp (config:={dsimp:=false}) [tgC,tg4,joinT]
theorem tget {L:List Tg} {a:Nat} (h:a<L.length):L.getD a tz=L[a]:=by
 rw [List.getD_eq_getElem?_getD,List.getElem?_eq_getElem h];rfl
end
end Go.Proofs.YtnckimioabkheaaGreat
set_option linter.unusedSimpArgs false
set_option linter.unusedVariables false
set_option maxRecDepth 100000
set_option maxHeartbeats 4000000
namespace Go.Proofs.YtnckimioabkheaaGreat
open AM
section
variable {h:H} {K:K1}
def byAt (a:Int) (i:Nat):Int:=IntKind.u8.wrap (a.fdiv (2^(min (8*i) 32)))
def mByte (a b:Int) (i:Nat) (s t:Int):Int:=if (s=0∧byAt a i=0)∨(t=0∧byAt b i=0) then 0 else IntKind.u8.wrap (BitVec.ofInt IntKind.u8.bits s ||| BitVec.ofInt IntKind.u8.bits t).toNat
def maskT (a b:Int) (s t:Tg):Tg:=(mByte a b 0 s.1 t.1,mByte a b 1 s.2.1 t.2.1,mByte a b 2 s.2.2.1 t.2.2.1,mByte a b 3 s.2.2.2 t.2.2.2)
theorem yjg7 {a b:Int} {s t:Tg} (hk:∀h',Sub h h'→K (.agg (tgC (maskT a b s t)).toArray) h'):AM.Spec PG yax6 [.int .u32 a,.int .u32 b,.agg (tgC s).toArray,.agg (tgC t).toArray] h K:=by
 refine yurj _ _ _ _ _ _ ?_
 unfold yvl8 y3gt
 refine ⟨rfl,yd3h fun b6 h1 _ _ s1 c6=>⟨rfl,yd3h fun b7 h2 _ _ s2 c7=>yd3h fun b8 h3 _ hb8 s3 c8=>yd3h fun b9 h4 _ hb9 s4 c9=>?_⟩⟩
 have c6':h4 b6=some (.cells (tgC s) yuil .exact):=s4 _ _ (s3 _ _ (s2 _ _ c6))
 have c7':h4 b7=some (.cells (tgC t) yuil .exact):=s4 _ _ (s3 _ _ c7)
 have n69:b6≠b9:=fun e=>by rw [← e,s3 _ _ (s2 _ _ c6)] at hb9;cases hb9
 have n79:b7≠b9:=fun e=>by rw [← e,s3 _ _ c7] at hb9;cases hb9
 have n89:b8≠b9:=fun e=>by rw [← e,c8] at hb9;cases hb9
 obtain ⟨s0,s1',s2',s3'⟩:=s
 obtain ⟨t0,t1,t2,t3⟩:=t
 have step:∀(i:Nat) (hi:i<4) (o:Int×Int×Int×Int) (h':H) (Kn:K8) (Kr:K2) (Ke1:K8) (Ke0:K3),h' b6=some (.cells (tgC (s0,s1',s2',s3')) yuil .exact)→h' b7=some (.cells (tgC (t0,t1,t2,t3)) yuil .exact) →
  h' b9=some (.cells (tgC o) yuil .exact)→(tgI o)[i]?=some 0 →
  (∀ o' h'',h'' b9=some (.cells (tgC o') yuil .exact)→tgI o'=(tgI o).set i (mByte a b i ((tgI (s0,s1',s2',s3')).getD i 0) ((tgI (t0,t1,t2,t3)).getD i 0))→Fr (· = b9) h' h''→Kn (.int .u32 a) (.int .u32 b) (ptr b6 0) (ptr b7 0) (ptr b8 0) (ptr b9 0) (.int .i64 i) undef h'') →
  (∀ o' h'',h'' b9=some (.cells (tgC o') yuil .exact)→tgI o'=(tgI o).set i (mByte a b i ((tgI (s0,s1',s2',s3')).getD i 0) ((tgI (t0,t1,t2,t3)).getD i 0))→Fr (· = b9) h' h''→Ke1 (.int .u32 a) (.int .u32 b) (ptr b6 0) (ptr b7 0) (ptr b8 0) (ptr b9 0) (.int .i64 i) undef h'') →
  yebw (.int .u32 a) (.int .u32 b) (ptr b6 0) (ptr b7 0) (ptr b8 0) (ptr b9 0) (.int .i64 i) undef h' Kn Kr Ke1 Ke0:=by
  intro i hi o h' Kn Kr Ke1 Ke0 e6 e7 e9 ho hK hE
  obtain ⟨o0,o1,o2,o3⟩:=o
  match i,hi with
  | 0,_ =>
    simp only [tgI,List.getElem?_cons_zero,List.getElem?_cons_succ,Option.some.injEq] at ho
    subst ho
    have hK0:=hK (mByte a b 0 s0 t0,o1,o2,o3)
    have hE0:=hE (mByte a b 0 s0 t0,o1,o2,o3)
    unfold yebw y07d ys1r
    simp (config:={dsimp:=false}) [↓yww8,yb3e e6,yb3e e7,tgC,tg4]
    split
    ·rename_i hc
     have hm:mByte a b 0 s0 t0=0:=by
      unfold mByte byAt
      rw [if_pos (by simpa [IntKind.bits] using hc)]
     rw [hm] at hE0
     refine hE0 h' e9 ?_ fun _ _ _ hh=>hh
     simp [tgI,hm]
    ·rename_i hc
     have hm:mByte a b 0 s0 t0=IntKind.u8.wrap (BitVec.ofInt IntKind.u8.bits s0 ||| BitVec.ofInt IntKind.u8.bits t0).toNat:=by
      unfold mByte byAt
      rw [if_neg (by simpa [IntKind.bits] using hc)]
     simp (config:={dsimp:=false}) [↓yb5w,yb3e e6,yb3e e7,e9,tgC,tg4]
     refine hK0 _ (by rw [yy0e,hm];simp [tgC,tg4]) (by simp [tgI]) fun c o hc hh=>(yrkk _ _ hc).trans hh
  | 1,_ =>
    simp only [tgI,List.getElem?_cons_zero,List.getElem?_cons_succ,Option.some.injEq] at ho
    subst ho
    have hK0:=hK (o0,mByte a b 1 s1' t1,o2,o3)
    have hE0:=hE (o0,mByte a b 1 s1' t1,o2,o3)
    unfold yebw y07d ys1r
    simp (config:={dsimp:=false}) [↓yww8,yb3e e6,yb3e e7,tgC,tg4]
    split
    ·rename_i hc
     have hm:mByte a b 1 s1' t1=0:=by
      unfold mByte byAt
      rw [if_pos (by simpa [IntKind.bits] using hc)]
     rw [hm] at hE0
     refine hE0 h' e9 ?_ fun _ _ _ hh=>hh
     simp [tgI,hm]
    ·rename_i hc
     have hm:mByte a b 1 s1' t1=IntKind.u8.wrap (BitVec.ofInt IntKind.u8.bits s1' ||| BitVec.ofInt IntKind.u8.bits t1).toNat:=by
      unfold mByte byAt
      rw [if_neg (by simpa [IntKind.bits] using hc)]
     simp (config:={dsimp:=false}) [↓yb5w,yb3e e6,yb3e e7,e9,tgC,tg4]
     refine hK0 _ (by rw [yy0e,hm];simp [tgC,tg4]) (by simp [tgI]) fun c o hc hh=>(yrkk _ _ hc).trans hh
  | 2,_ =>
    simp only [tgI,List.getElem?_cons_zero,List.getElem?_cons_succ,Option.some.injEq] at ho
    subst ho
    have hK0:=hK (o0,o1,mByte a b 2 s2' t2,o3)
    have hE0:=hE (o0,o1,mByte a b 2 s2' t2,o3)
    unfold yebw y07d ys1r
    simp (config:={dsimp:=false}) [↓yww8,yb3e e6,yb3e e7,tgC,tg4]
    split
    ·rename_i hc
     have hm:mByte a b 2 s2' t2=0:=by
      unfold mByte byAt
      rw [if_pos (by simpa [IntKind.bits] using hc)]
     rw [hm] at hE0
     refine hE0 h' e9 ?_ fun _ _ _ hh=>hh
     simp [tgI,hm]
    ·rename_i hc
     have hm:mByte a b 2 s2' t2=IntKind.u8.wrap (BitVec.ofInt IntKind.u8.bits s2' ||| BitVec.ofInt IntKind.u8.bits t2).toNat:=by
      unfold mByte byAt
      rw [if_neg (by simpa [IntKind.bits] using hc)]
     simp (config:={dsimp:=false}) [↓yb5w,yb3e e6,yb3e e7,e9,tgC,tg4]
     refine hK0 _ (by rw [yy0e,hm];simp [tgC,tg4]) (by simp [tgI]) fun c o hc hh=>(yrkk _ _ hc).trans hh
  | 3,_ =>
    simp only [tgI,List.getElem?_cons_zero,List.getElem?_cons_succ,Option.some.injEq] at ho
    subst ho
    have hK0:=hK (o0,o1,o2,mByte a b 3 s3' t3)
    have hE0:=hE (o0,o1,o2,mByte a b 3 s3' t3)
    unfold yebw y07d ys1r
    simp (config:={dsimp:=false}) [↓yww8,yb3e e6,yb3e e7,tgC,tg4]
    split
    ·rename_i hc
     have hm:mByte a b 3 s3' t3=0:=by
      unfold mByte byAt
      rw [if_pos (by simpa [IntKind.bits] using hc)]
     rw [hm] at hE0
     refine hE0 h' e9 ?_ fun _ _ _ hh=>hh
     simp [tgI,hm]
    ·rename_i hc
     have hm:mByte a b 3 s3' t3=IntKind.u8.wrap (BitVec.ofInt IntKind.u8.bits s3' ||| BitVec.ofInt IntKind.u8.bits t3).toNat:=by
      unfold mByte byAt
      rw [if_neg (by simpa [IntKind.bits] using hc)]
     simp (config:={dsimp:=false}) [↓yb5w,yb3e e6,yb3e e7,e9,tgC,tg4]
     refine hK0 _ (by rw [yy0e,hm];simp [tgC,tg4]) (by simp [tgI]) fun c o hc hh=>(yrkk _ _ hc).trans hh
 unfold y1ej y14q yk7l ycih
 obtain ⟨M,hM⟩:∃M:List Int,M=[mByte a b 0 s0 t0,mByte a b 1 s1' t1,mByte a b 2 s2' t2,mByte a b 3 s3' t3]:=⟨_,rfl⟩
 refine yo1k 4 (fun i s h'=>s=(.int .u32 a,.int .u32 b,ptr b6 0,ptr b7 0,ptr b8 0,ptr b9 0,.int .i64 i,undef)∧Fr (· = b9) h4 h'∧∃o,h' b9=some (.cells (tgC o) yuil .exact)∧tgI o=M.take i++List.replicate (4-i) 0) ⟨rfl,fun _ _ _ hh=>hh,(0,0,0,0),c9,rfl⟩ ?_
 rintro i s h' K' hi ⟨rfl,hf,o,e9,hoI⟩ hk'
 have e6:=hf _ _ n69 c6'
 have e7:=hf _ _ n79 c7'
 have hl:(tgI o).length=4:=rfl
 refine (show ylgy (.int .u32 a) (.int .u32 b) (ptr b6 0) (ptr b7 0) (ptr b8 0) (ptr b9 0) (.int .i64 i) undef h' _ _ _ from ?_)
 unfold ylgy
 by_cases hlt:i<4
 ·have hlt2:(i:Int)<4:=by omega
  have w1:IntKind.i64.wrap ((i:Int)+1)=(i:Int)+1:=w_i64 (by omega) (by omega)
  have nxt:∀o':Tg,tgI o'=(tgI o).set i (mByte a b i ((tgI (s0,s1',s2',s3')).getD i 0) ((tgI (t0,t1,t2,t3)).getD i 0))→tgI o'=M.take (i+1)++List.replicate (4-(i+1)) 0:=fun o' he=>by
   rw [he,hoI,hM]
   match i,hlt with
   | 0,_=>rfl
   | 1,_=>rfl
   | 2,_=>rfl
   | 3,_=>rfl
  have hz:(tgI o)[i]?=some 0:=by
   rw [hoI,hM]
   match i,hlt with
   | 0,_=>rfl
   | 1,_=>rfl
   | 2,_=>rfl
   | 3,_=>rfl
  simp (config:={dsimp:=false}) only [s_lss,s_if,decide_eq_true hlt2]
  rw [if_pos trivial]
  unfold y9ps y74y
  refine step i hlt o h' _ _ _ _ e6 e7 e9 hz ?_ ?_
  ·intro o' h'' e9' he f'
   simp (config:={dsimp:=false}) [↓yt8f,w1]
   exact hk' (.int .u32 a,.int .u32 b,ptr b6 0,ptr b7 0,ptr b8 0,ptr b9 0,.int .i64 ((i:Int)+1),undef) h'' hlt ⟨by simp,fun c o hc hh=>f' _ _ hc (hf _ _ hc hh),o',e9',nxt o' he⟩
  ·intro o' h'' e9' he f'
   simp (config:={dsimp:=false}) [↓yt8f,w1]
   exact hk' (.int .u32 a,.int .u32 b,ptr b6 0,ptr b7 0,ptr b8 0,ptr b9 0,.int .i64 ((i:Int)+1),undef) h'' hlt ⟨by simp,fun c o hc hh=>f' _ _ hc (hf _ _ hc hh),o',e9',nxt o' he⟩
 ·have hie:i=4:=by omega
  subst hie
  have ho4:o=maskT a b (s0,s1',s2',s3') (t0,t1,t2,t3):=by
   obtain ⟨o0,o1,o2,o3⟩:=o
   rw [hM] at hoI
   simp [tgI] at hoI
   obtain ⟨rfl,rfl,rfl,rfl⟩:=hoI
   rfl
  rw [ho4] at e9
  have c8':h' b8=some (.cells (tgC tz) yuil .exact):=hf _ _ n89 (s4 _ _ c8)
  simp (config:={dsimp:=false}) only [s_lss,s_if]
  rw [if_neg (by decide)]
  generalize maskT a b (s0,s1',s2',s3') (t0,t1,t2,t3)=w at *
  unfold ykgi
  rw [y2bf (show cellsAt h' b9 0 4=some (tgC w) by rw [yzql e9];rfl),ykdp,c8']
  refine ⟨by decide,rfl,rfl,by simp [tgC,tg4],?_⟩
  rw [show setL (tgC tz) 0 (Value.agg (tgC w).toArray).cells.toList=tgC w from y24r rfl]
  have c9f:=yy0e h' b8 (.cells (tgC w) yuil .exact)
  refine (show ybqh true 4 (ptr b8 0) (upd h' b8 (.cells (tgC w) yuil .exact)) (fun v=>K v (upd h' b8 (.cells (tgC w) yuil .exact))) from ?_)
  rw [y2bf (show cellsAt (upd h' b8 (.cells (tgC w) yuil .exact)) b8 0 4=some (tgC w) by rw [yzql c9f];rfl)]
  refine hk _ fun c o hh=>?_
  have hc8:c≠b8:=fun e=>by rw [e] at hh;have:=s2 _ _ (s1 _ _ hh);rw [hb8] at this;cases this
  have hc9:c≠b9:=fun e=>by rw [e] at hh;have:=s3 _ _ (s2 _ _ (s1 _ _ hh));rw [hb9] at this;cases this
  rw [yrkk _ _ hc8]
  exact hf _ _ hc9 (s4 _ _ (s3 _ _ (s2 _ _ (s1 _ _ hh))))
end
end Go.Proofs.YtnckimioabkheaaGreat
set_option linter.unusedSimpArgs false
set_option linter.unusedVariables false
set_option maxRecDepth 100000
set_option maxHeartbeats 4000000
namespace Go.Proofs.YtnckimioabkheaaGreat
open AM
def orB (x y:Int):Int:=IntKind.u8.wrap (BitVec.ofInt IntKind.u8.bits x ||| BitVec.ofInt IntKind.u8.bits y).toNat
def shL (k b:Int) (s:List Int):Nat→List Int
 | 0=>[0,0,0,0]
 | p+1=>if y40k k p b=true then (shL k b s p).set (p / 8) (orB ((shL k b s p).getD (p / 8) 0) (s.getD ((y5zy k p b).toNat / 8) 0)) else shL k b s p
theorem yvt1 {k b:Int} {s:List Int}:∀p,(shL k b s p).length=4
 | 0=>rfl
 | p+1=>by rw [shL];split <;> simp [yvt1 p]
def ofL (l:List Int):Tg:=(l.getD 0 0,l.getD 1 0,l.getD 2 0,l.getD 3 0)
theorem ofL_I {l:List Int} (h:l.length=4):l.map (Value.int .u8)=tgC (ofL l):=by
 match l,h with
 | [a,b,c,d],_=>rfl
def shT (k b:Int) (s:Tg):Tg:=ofL (shL k b (tgI s) 32)
theorem ywfh {k p b:Int} (h:y40k k p b=true):0≤y5zy k p b∧y5zy k p b<32:=by
 unfold y40k at h
 unfold y5zy
 split at h
 ·rename_i c;rw [if_pos c];simpa using h
 ·rename_i c;rw [if_neg c]
  split at h
  ·rename_i c2;rw [if_pos c2];simp only [Bool.and_eq_true,decide_eq_true_eq] at h;exact h
  ·rename_i c2;rw [if_neg c2];simpa using h
section
variable {h:H} {K:K1}
theorem ix4 {b i:Nat} {l:List Int} {E:TypeId} {m:AM.Own} (hb:h b=some (.cells (l.map (.int .u8)) E m)) (hl:l.length=4) (hi:i<4) {K:Value→Prop} {u:Dm K} :
 u_ix false 1 (some 4) (.pointer (some ⟨b,0,none⟩)) (.int .i64 i) h K u=K (.int .u8 (l.getD i 0)):=by
 have hi2:(i:Int)<4:=by omega
 have hx:(l.map (Value.int .u8))[i]?=some (.int .u8 (l.getD i 0)):=by
  rw [List.getElem?_map,List.getElem?_eq_getElem (by omega),List.getD_eq_getElem?_getD,List.getElem?_eq_getElem (by omega)];rfl
 simp (config:={dsimp:=false}) only [s_ixA,Nat.zero_add,Int.toNat_natCast,Nat.mul_one,y1rg hb hx]
 simp [hi2]
theorem st4 {b i:Nat} {l:List Int} {v:Int} {E:TypeId} {m:AM.Own} (hb:h b=some (.cells (l.map (.int .u8)) E m)) (hm:m≠.ro) (hl:l.length=4) (hi:i<4) {K:H→Prop} {u:Dm K} :
 ylel 1 (.pointer (some ⟨b,i,none⟩)) (.int .u8 v) h K u=K (upd h b (.cells ((l.set i v).map (.int .u8)) E m)) :=
 ypi4 hb hm rfl rfl (by simp;omega) (by rw [List.map_set])
theorem yud3 {k b:Int} {s:Tg} (hk:∀h',Sub h h'→K (.agg (tgC (shT k b s)).toArray) h'):AM.Spec PG yozs [.int .i64 k,.int .i64 b,.agg (tgC s).toArray] h K:=by
 refine ycwu _ _ _ _ _ ?_
 unfold ymdj ysae
 refine ⟨rfl,yd3h fun b5 h2 _ _ s2 c5=>yd3h fun b6 h3 _ hb6 s3 c6=>yd3h fun b7 h4 _ hb7 s4 c7=>?_⟩
 have c5':h4 b5=some (.cells ((tgI s).map (.int .u8)) yuil .exact):=s4 _ _ (s3 _ _ c5)
 have n57:b5≠b7:=fun e=>by rw [← e,s3 _ _ c5] at hb7;cases hb7
 have n67:b6≠b7:=fun e=>by rw [← e,c6] at hb7;cases hb7
 unfold yrs1 ylsl ysus y5wu
 refine yo1k 32 (fun i s' h'=>s'=(.int .i64 k,.int .i64 b,ptr b5 0,ptr b6 0,ptr b7 0,.int .i64 i,undef)∧Fr (· = b7) h4 h'∧h' b7=some (.cells ((shL k b (tgI s) i).map (.int .u8)) yuil .exact)) ⟨rfl,fun _ _ _ hh=>hh,c7⟩ ?_
 rintro i s' h' K' hi ⟨rfl,hf,e7⟩ hk'
 have e5:=hf _ _ n57 c5'
 refine (show yxip (.int .i64 k) (.int .i64 b) (ptr b5 0) (ptr b6 0) (ptr b7 0) (.int .i64 i) undef h' _ _ _ from ?_)
 unfold yxip
 by_cases hlt:i<32
 ·have hlt2:(i:Int)<32:=by omega
  have w1:IntKind.i64.wrap ((i:Int)+1)=(i:Int)+1:=w_i64 (by omega) (by omega)
  simp (config:={dsimp:=false}) only [s_lss,s_if,decide_eq_true hlt2]
  rw [if_pos trivial]
  unfold yj3t yu94 ybcc
  simp (config:={dsimp:=false})
  unfold ye6n
  by_cases hs:y40k k i b=true
  ·obtain ⟨g0,g1⟩:=ywfh hs
   have q1:IntKind.i64.wrap ((i:Int).tdiv 8)=((i / 8:Nat):Int):=by rw [Int.tdiv_eq_ediv_of_nonneg (by omega),w_i64 (by omega) (by omega)];omega
   have q2:IntKind.i64.wrap ((y5zy k i b).tdiv 8)=(((y5zy k i b).toNat / 8:Nat):Int):=by rw [Int.tdiv_eq_ediv_of_nonneg (by omega),w_i64 (by omega) (by omega)];omega
   have hq1:i / 8<4:=by omega
   have hq2:(y5zy k i b).toNat / 8<4:=by omega
   rw [hs]
   simp (config:={dsimp:=false}) only [s_if]
   rw [if_pos trivial]
   unfold yr5h
   rw [s_quo (by decide),q1,ix4 e7 (yvt1 i) hq1,s_quo (by decide),q2,ix4 e5 rfl hq2,s_bor,s_iaA]
   refine ⟨by omega,by omega,?_⟩
   simp only [Nat.zero_add,Int.toNat_natCast,Nat.mul_one]
   rw [st4 e7 (by decide) (yvt1 i) hq1]
   simp (config:={dsimp:=false}) only [↓y6e4,s_add,w1]
   refine hk' (.int .i64 k,.int .i64 b,ptr b5 0,ptr b6 0,ptr b7 0,.int .i64 ((i:Int)+1),undef) _ hlt ⟨by simp,fun c o hc hh=>(yrkk _ _ hc).trans (hf _ _ hc hh),?_⟩
   rw [yy0e,shL,if_pos hs];rfl
  ·have hs':y40k k i b=false:=by simpa using hs
   rw [hs']
   simp (config:={dsimp:=false}) only [s_if]
   rw [if_neg (by decide)]
   unfold yofn
   simp (config:={dsimp:=false}) only [↓y6e4,s_add,w1]
   refine hk' (.int .i64 k,.int .i64 b,ptr b5 0,ptr b6 0,ptr b7 0,.int .i64 ((i:Int)+1),undef) _ hlt ⟨by simp,hf,?_⟩
   rw [e7,shL,if_neg hs]
 ·have hie:i=32:=by omega
  subst hie
  have e7':h' b7=some (.cells (tgC (shT k b s)) yuil .exact):=by rw [e7,ofL_I (yvt1 32)];rfl
  have c6':h' b6=some (.cells (tgC tz) yuil .exact):=hf _ _ n67 (s4 _ _ c6)
  simp (config:={dsimp:=false}) only [s_lss,s_if]
  rw [if_neg (by decide)]
  generalize shT k b s=w at *
  unfold y6xi
  rw [y2bf (show cellsAt h' b7 0 4=some (tgC w) by rw [yzql e7'];rfl),ykdp,c6']
  refine ⟨by decide,rfl,rfl,by simp [tgC,tg4],?_⟩
  rw [show setL (tgC tz) 0 (Value.agg (tgC w).toArray).cells.toList=tgC w from y24r rfl]
  have c9f:=yy0e h' b6 (.cells (tgC w) yuil .exact)
  refine (show ybqh true 4 (ptr b6 0) (upd h' b6 (.cells (tgC w) yuil .exact)) (fun v=>K v (upd h' b6 (.cells (tgC w) yuil .exact))) from ?_)
  rw [y2bf (show cellsAt (upd h' b6 (.cells (tgC w) yuil .exact)) b6 0 4=some (tgC w) by rw [yzql c9f];rfl)]
  refine hk _ fun c o hh=>?_
  have hc8:c≠b6:=fun e=>by rw [e] at hh;have:=s2 _ _ hh;rw [hb6] at this;cases this
  have hc9:c≠b7:=fun e=>by rw [e] at hh;have:=s3 _ _ (s2 _ _ hh);rw [hb7] at this;cases this
  rw [yrkk _ _ hc8]
  exact hf _ _ hc9 (s4 _ _ (s3 _ _ (s2 _ _ hh)))
end
end Go.Proofs.YtnckimioabkheaaGreat
set_option linter.unusedSimpArgs false
set_option linter.unusedVariables false
set_option maxRecDepth 100000
set_option maxHeartbeats 4000000
namespace Go.Proofs.YtnckimioabkheaaGreat
open AM
def upT (t:Tg):Tg:=(t.1,yz5x t.1 t.2.1 t.2.2.1 t.2.2.2,y71z t.1 t.2.1 t.2.2.1 t.2.2.2,yuu6 t.1 t.2.1 t.2.2.1 t.2.2.2)
def flowT (k a b:Int) (s t:Tg):Tg :=
 if ydw0 k a b≠0 then tz
 else if k=5∨k=8 then joinT s t
 else if k=9 then maskT a b s t
 else if (k=0∨k=1)∨k=10 then upT (joinT s t)
 else if (k=2∨k=6)∨k=7 then (if t.1≠0 then fillT (orB (allT s) t.1) else shT k (b.tmod 32) s)
 else if k=3∨k=4 then (orB (allT s) (allT t),0,0,0)
 else fillT (orB (allT s) (allT t))
section
variable {h:H} {K:K1}
theorem yrjl {t:Tg} {u:Dm K}:u_ct yykz [.agg (tgC t).toArray] h K u=K (.agg (tgC (upT t)).toArray) h:=by
 simp (config:={dsimp:=false}) [tgC,tg4,upT]
theorem yq1a {k a b:Int} {s t:Tg} (hb:0≤b∧b<4294967296) (hk:∀h',Sub h h'→K (.tuple #[.agg (tgC (flowT k a b s t)).toArray,.int .i64 (ydw0 k a b)]) h') :
 AM.Spec PG yjud [.int .i64 k,.int .u32 a,.int .u32 b,.agg (tgC s).toArray,.agg (tgC t).toArray] h K:=by
 refine ytvk _ _ _ _ _ _ _ ?_
 unfold yo5i yyav
 refine ⟨rfl,yd3h fun b8 h1 _ hb8 s1 c8=>⟨rfl,yd3h fun b9 h2 _ hb9 s2 c9=>yd3h fun b10 h3 _ hb10 s3 c10=>?_⟩⟩
 have c8':h3 b8=some (.cells (tgC s) yuil .exact):=s3 _ _ (s2 _ _ c8)
 have c9':h3 b9=some (.cells (tgC t) yuil .exact):=s3 _ _ c9
 have c10':h3 b10=some (.cells (tgC tz) yuil .exact):=c10
 have hall:=(s1.trans s2).trans s3
 have l8:∀{h':H},Sub h3 h'→∀(K:Value→Prop) (u:Dm K),ybqh true 4 (.pointer (some ⟨b8,0,none⟩)) h' K u=K (.agg (tgC s).toArray):=fun sb K u=>y2bf (by rw [yzql (sb _ _ c8')];rfl)
 have l9:∀{h':H},Sub h3 h'→∀(K:Value→Prop) (u:Dm K),ybqh true 4 (.pointer (some ⟨b9,0,none⟩)) h' K u=K (.agg (tgC t).toArray):=fun sb K u=>y2bf (by rw [yzql (sb _ _ c9')];rfl)
 have out:∀{h':H} (w:Tg) (e:Int),Sub h3 h'→flowT k a b s t=w→ydw0 k a b=e →
  ylel 4 (.pointer (some ⟨b10,0,none⟩)) (.agg (tgC w).toArray) h' (fun h=>o_ret undef h fun h=>ybqh true 4 (.pointer (some ⟨b10,0,none⟩)) h fun v=>[v,.int .i64 e].all boxV=true∧K (.tuple #[v,.int .i64 e]) h):=fun {h'} w e sb hw he=>by
  have c10h:=sb _ _ c10'
  rw [ykdp,c10h]
  refine ⟨by decide,rfl,rfl,by simp [tgC,tg4],?_⟩
  rw [show setL (tgC tz) 0 (Value.agg (tgC w).toArray).cells.toList=tgC w from y24r rfl]
  have cf:=yy0e h' b10 (.cells (tgC w) yuil .exact)
  refine (show ybqh true 4 (ptr b10 0) (upd h' b10 (.cells (tgC w) yuil .exact)) (fun v=>[v,.int .i64 e].all boxV=true∧K (.tuple #[v,.int .i64 e]) (upd h' b10 (.cells (tgC w) yuil .exact))) from ?_)
  rw [y2bf (show cellsAt (upd h' b10 (.cells (tgC w) yuil .exact)) b10 0 4=some (tgC w) by rw [yzql cf];rfl)]
  rw [← hw,←he]
  refine ⟨rfl,hk _ fun c o hh=>?_⟩
  have hc:c≠b10:=fun e=>by rw [e] at hh;have:=s2 _ _ (s1 _ _ hh);rw [hb10] at this;cases this
  rw [yrkk _ _ hc]
  exact sb _ _ (hall _ _ hh)
 have hal:∀(K:K1) (u:Dm K),u_ct yuuq [.int .i64 k,.int .u32 a,.int .u32 b] h3 K u=K (.tuple #[.int .u32 (yc81 k a b),.int .i64 (ydw0 k a b)]) h3:=fun K u=>by
  simp (config:={dsimp:=false}) [hb.1,hb.2]
 rw [hal]
 simp (config:={dsimp:=false}) only [s_ex0,s_ex1,s_neq,s_if]
 by_cases he:ydw0 k a b=0
 case neg =>
  rw [if_pos (by simpa using he)]
  simp (config:={dsimp:=false}) only [y79t]
  exact out tz _ (Sub.refl _) (by unfold flowT;rw [if_pos he]) rfl
 rw [if_neg (by simpa using he)]
 unfold yqrq yap0
 rw [l8 (Sub.refl _),yx3y,l9 (Sub.refl _),yx3y,s_bor]
 have f0:∀w,(if k=5∨k=8 then joinT s t
  else if k=9 then maskT a b s t
  else if (k=0∨k=1)∨k=10 then upT (joinT s t)
  else if (k=2∨k=6)∨k=7 then (if t.1≠0 then fillT (orB (allT s) t.1) else shT k (b.tmod 32) s)
  else if k=3∨k=4 then (orB (allT s) (allT t),0,0,0)
  else fillT (orB (allT s) (allT t)))=w→flowT k a b s t=w:=fun w hw=>by unfold flowT;rw [if_neg (by simpa using he)];exact hw
 unfold ys0u y4jn y8b2 yxpy
 by_cases k1:k=5∨k=8
 ·simp (config:={dsimp:=false}) [↓ye4n,k1]
  unfold yd6a
  rw [l8 (Sub.refl _),l9 (Sub.refl _),yy36]
  exact out _ 0 (Sub.refl _) (f0 _ (if_pos k1)) he
 by_cases k2:k=9
 ·simp (config:={dsimp:=false}) [↓ye4n,↓ywk7,↓yz6b,k1,k2]
  unfold y8be
  rw [l8 (Sub.refl _),l9 (Sub.refl _)]
  refine ⟨rfl,yjg7 fun h4 s4=>?_⟩
  exact out _ 0 s4 (f0 _ (by rw [if_neg k1,if_pos k2])) he
 by_cases k3:(k=0∨k=1)∨k=10
 ·simp (config:={dsimp:=false}) [↓ye4n,↓ywk7,↓yz6b,↓yxuj,↓y97t,k1,k2,k3]
  unfold yv18
  rw [l8 (Sub.refl _),l9 (Sub.refl _),yy36,yrjl]
  exact out _ 0 (Sub.refl _) (f0 _ (by rw [if_neg k1,if_neg k2,if_pos k3])) he
 by_cases k4:(k=2∨k=6)∨k=7
 ·simp (config:={dsimp:=false}) [↓ye4n,↓ywk7,↓yz6b,↓yxuj,↓y97t,↓y93d,↓yi4f,k1,k2,k3,k4]
  unfold yfhf yr5w
  have ixt:∀(K:Value→Prop) (u:Dm K),u_ix false 1 (some 4) (.pointer (some ⟨b9,0,none⟩)) (.int .i64 0) h3 K u=K (.int .u8 t.1):=fun K u=>by
   have c9m:h3 b9=some (.cells ((tgI t).map (.int .u8)) yuil .exact):=c9'
   exact ix4 (i:=0) c9m rfl (by decide)
  rw [ixt]
  by_cases k5:t.1=0
  ·simp (config:={dsimp:=false}) only [s_neq,s_if,k5]
   unfold yewb
   simp (config:={dsimp:=false}) only [s_neq,s_if]
   rw [if_neg (by simp)]
   simp (config:={dsimp:=false}) only [↓yi8t]
   have w5:IntKind.i64.wrap (b.tmod 32)=b.tmod 32:=by
    have h1:=Int.tmod_nonneg 32 hb.1
    have h2:=Int.tmod_lt_of_pos b (show (0:Int)<32 by decide)
    exact w_i64 (by omega) (by omega)
   unfold yk7i
   rw [s_rem (by decide),ym88,w5,l8 (Sub.refl _)]
   refine ⟨rfl,yud3 fun h4 s4=>?_⟩
   exact out _ 0 s4 (f0 _ (by rw [if_neg k1,if_neg k2,if_neg k3,if_pos k4,if_neg (by simpa using k5)])) he
  ·simp (config:={dsimp:=false}) only [s_neq,s_if]
   unfold yewb
   simp (config:={dsimp:=false}) only [s_if]
   rw [if_pos (by simpa using k5)]
   unfold y0r2 yz46
   rw [l8 (Sub.refl _),yx3y,ixt,s_bor,yfh9]
   exact out _ 0 (Sub.refl _) (f0 _ (by rw [if_neg k1,if_neg k2,if_neg k3,if_pos k4,if_pos k5];rfl)) he
 by_cases k6:k=3∨k=4
 ·have fin:=out (orB (allT s) (allT t),0,0,0) 0 (Sub.refl _) (f0 _ (by rw [if_neg k1,if_neg k2,if_neg k3,if_neg k4,if_pos k6])) he
  rw [show IntKind.u8.wrap (BitVec.ofInt IntKind.u8.bits (allT s) ||| BitVec.ofInt IntKind.u8.bits (allT t)).toNat=orB (allT s) (allT t) from rfl]
  generalize orB (allT s) (allT t)=w at fin ⊢
  simp (config:={dsimp:=false}) [c10',tgC,tg4] at fin
  simp (config:={dsimp:=false}) [↓ye4n,↓ywk7,↓yz6b,↓yxuj,↓y97t,↓y93d,↓yi4f,↓yogs,k1,k2,k3,k4,k6,c10',tgC,tg4]
  exact fin
 rw [show IntKind.u8.wrap (BitVec.ofInt IntKind.u8.bits (allT s) ||| BitVec.ofInt IntKind.u8.bits (allT t)).toNat=orB (allT s) (allT t) from rfl]
 simp (config:={dsimp:=false}) [↓ye4n,↓ywk7,↓yz6b,↓yxuj,↓y97t,↓y93d,↓yi4f,↓yogs,k1,k2,k3,k4,k6]
 unfold yg2x
 rw [yfh9]
 exact out _ 0 (Sub.refl _) (f0 _ (by rw [if_neg k1,if_neg k2,if_neg k3,if_neg k4,if_neg k6])) he
end
end Go.Proofs.YtnckimioabkheaaGreat
set_option linter.unusedSimpArgs false
set_option linter.unusedVariables false
set_option maxRecDepth 100000
set_option maxHeartbeats 4000000
namespace Go.Proofs.YtnckimioabkheaaGreat
open AM
section
variable {h:H} {K:K1}
theorem yslw {br i a b:Nat} {X:XC} {m:AM.Own} {L:List Tg} {nd:Nd} (hop:nd.op=16) (hto:nd.to=i) (hi:i<256) (hna:nd.a=a) (ha:a<256) (hnb:nd.b=b) (hbb:b<256) (hv:0≤nd.v∧nd.v<4294967296) (hy:0≤X.n.getD b 0∧X.n.getD b 0<4294967296)
 (hb:h br=some (.cells X.cells ysiy m)) (hm:m≠.ro) (ho:X.Ok) (hl:X.l=L.flatMap tgC) (hL:L.length=256)
 (hk:∀h',h' br=some (.cells ({ X with l:=(L.set i (flowT nd.v (X.n.getD a 0) (X.n.getD b 0) (L.getD a tz) (L.getD b tz))).flatMap tgC }:XC).cells ysiy m)→Fr (· = br) h h'→K (.bool true) h'):AM.Spec PG yebn [ptr br 0,.agg nd.cells.toArray] h K:=by
 refine yfrs _ _ _ _ ?_
 unfold yy26 yyr6
 refine ⟨rfl,yd3h fun b3 h1 _ hb3 s1 c1=>?_⟩
 have hb1:=s1 _ _ hb
 have c1t:h1 b3=some (.cells nd.cells yq0s .exact):=c1
 have n1:nd.cells[1]?=some (.int .i64 i):=by rw [← hto];rfl
 have n2:nd.cells[2]?=some (.int .i64 a):=by rw [← hna];rfl
 have n3:nd.cells[3]?=some (.int .i64 b):=by rw [← hnb];rfl
 have n4:nd.cells[4]?=some (.int .u32 nd.v):=rfl
 have w1:IntKind.i64.wrap nd.v=nd.v:=w_i64 (by omega) (by omega)
 have ixa:=fun (K:Value→Prop) (u:Dm K)=>ix_l hb1 ho hl hL ha (K:=K) (u:=u)
 have ixb:=fun (K:Value→Prop) (u:Dm K)=>ix_l hb1 ho hl hL hbb (K:=K) (u:=u)
 have nxa:=fun (K:Value→Prop) (u:Dm K)=>ix_n hb1 ho ha (K:=K) (u:=u)
 have nxb:=fun (K:Value→Prop) (u:Dm K)=>ix_n hb1 ho hbb (K:=K) (u:=u)
 rw [tget (by omega),tget (by omega)] at hk
 simp (config:={dsimp:=false}) [↓yckj,↓y2ez,↓y8ky,↓ytpj,↓yk4v,↓yfjm,↓yj9p,↓ydbx,↓y9bv,yb3e c1,Nd.cells,hop]
 unfold y833
 simp (config:={dsimp:=false}) only [s_bf,s_pf,y1rg c1t n1,y1rg c1t n2,y1rg c1t n3,y1rg c1t n4,s_nil,s_fa,Nat.zero_add,ixa,ixb,nxa,nxb,ym88,w1]
 have fin:∀h2,Sub h1 h2→ylel 4 (.pointer (some ⟨br,261+i*4,none⟩)) (.agg (tgC (flowT nd.v (X.n.getD a 0) (X.n.getD b 0) (L[a]'(by omega)) (L[b]'(by omega)))).toArray) h2 (fun h=>yd91 h K K):=fun h2 s2=>by
  rw [st_l (i:=i) (s2 _ _ hb1) hm ho hl hL hi]
  simp (config:={dsimp:=false}) [↓yd91]
  exact hk _ (yy0e _ _ _) fun c o hcc hh=>(yrkk _ _ hcc).trans (s2 _ _ (s1 _ _ hh))
 refine ⟨⟨rfl,yq1a hy fun h2 s2=>?_⟩,⟨rfl,yq1a hy fun h2 s2=>?_⟩⟩
 ·simp (config:={dsimp:=false}) only [s_ex0,s_ex1,s_iaA]
  refine ⟨by omega,by omega,?_⟩
  rw [Int.toNat_natCast]
  exact fin h2 s2
 ·rw [y1rg (s2 _ _ c1t) n1]
  simp (config:={dsimp:=false}) only [s_ex0,s_ex1,s_iaA]
  refine ⟨by omega,by omega,?_⟩
  rw [Int.toNat_natCast]
  exact fin h2 s2
end
end Go.Proofs.YtnckimioabkheaaGreat
set_option linter.unusedSimpArgs false
set_option linter.unusedVariables false
set_option maxRecDepth 100000
set_option maxHeartbeats 4000000
namespace Go.Proofs.YtnckimioabkheaaGreat
open AM
structure SD where
 q:Nat
 m:Nat
 pg:Int→Nat
structure SS where
 budget:Int
 pages:List (Int×List Int×Int)
def shC (p:List Int×Int):List Value:=p.1.map (Value.int .u8)++[.int .i64 p.2]
structure ShAt (S:SD) (h:H) (σ:SS):Prop where
 q:h S.q=some (.cells [.int .i64 σ.budget,.map (some S.m)] y2um .exact)
 m:∃ck,h S.m=some (.map (.int .u32) (σ.pages.map fun p=>(.int .u32 p.1,ptr (S.pg p.1) 0)) ck)
 pg:∀p∈σ.pages,h (S.pg p.1)=some (.cells (shC p.2) yokg .exact)
structure SSok (σ:SS):Prop where
 len:∀p∈σ.pages,p.2.1.length=256
section
variable {S:SD} {h:H} {σ:SS} {K:K1} {a:Int}
@[simp] theorem ywf6 {a:Option Addr} {K:Value→Prop} {u:Dm K}:u_bin PG .eql yyt9 (.pointer a) (.pointer none) K u=K (.bool a.isNone):=by
  cases a <;> kernel_rfl
theorem ShAt.sub {h':H} (hs:ShAt S h σ) (hh:Sub h h'):ShAt S h' σ:=by
 obtain ⟨ck,hp⟩:=hs.m
 exact ⟨hh _ _ hs.q,⟨ck,hh _ _ hp⟩,fun p hp=>hh _ _ (hs.pg p hp)⟩
end
end Go.Proofs.YtnckimioabkheaaGreat
set_option linter.unusedSimpArgs false
set_option linter.unusedVariables false
set_option maxRecDepth 100000
set_option maxHeartbeats 4000000
namespace Go.Proofs.YtnckimioabkheaaGreat
open AM
section
variable {h:H} {K:K1}
theorem yzyl {br bm:Nat} {X:XC} {C:MC} {m m':AM.Own} {nd:Nd} (hop:nd.op=9) (hb:h br=some (.cells X.cells ysiy m)) (hX:X.m=ptr bm 0) (hc:h bm=some (.cells C.cells ynne m')) (hm:m'≠.ro) (hC:C.Ok)
 (hk:∀h',h' bm=some (.cells ({ C with ret:=IntKind.i64.wrap (C.ret+1) }:MC).cells ynne m')→Fr (· = bm) h h'→K (.tuple #[]) h'):AM.Spec PG yo19 [ptr br 0,.agg nd.cells.toArray] h K:=by
 refine ymat _ _ _ _ ?_
 unfold yyqe ytdg
 refine ⟨rfl,yd3h fun b3 h1 _ hb3 s1 c1=>?_⟩
 have n1:¬(1≤nd.op∧nd.op≤5):=by omega
 have n2:¬(14≤nd.op∧nd.op≤19):=by omega
 have ld:∀{h':H},Sub h1 h'→∀(K:Value→Prop) (u:Dm K),ybqh true 5 (.pointer (some ⟨b3,0,none⟩)) h' K u=K (.agg nd.cells.toArray):=fun s K u=>by
  have:=s _ _ c1
  simp [yzql this,Nd.cells]
 rw [ld (Sub.refl _)]
 refine ⟨rfl,y9kg n1 fun h2 s2=>?_⟩
 simp (config:={dsimp:=false}) only [↓s_gff]
 rw [ld s2]
 refine ⟨rfl,y0ok n2 fun h3 s3=>?_⟩
 have c3:=(s2.trans s3) _ _ c1
 have op3:nd.cells[0]?=some (.int .i64 9):=by rw [← hop];rfl
 have c3':h3 b3=some (.cells nd.cells yq0s .exact):=c3
 have s03:=s1.trans (s2.trans s3)
 have hb3':=s03 _ _ hb
 have hc3:=s03 _ _ hc
 have x0:X.cells[0]?=some (ptr bm 0):=by rw [XC.at_0,hX]
 have r0:=MC.at_ret hC
 have hlen:=MC.len hC
 have stq:∀(K:H→Prop) (u:Dm K),u_st 1 33 (.pointer (some ⟨bm,2,none⟩)) (.int .i64 (IntKind.i64.wrap (C.ret+1))) h3 K u=K (upd h3 bm (.cells ({ C with ret:=IntKind.i64.wrap (C.ret+1) }:MC).cells ynne m')):=fun K u=>by
  rw [s_st];exact ypi4 hc3 hm rfl rfl (by omega) (MC.set_ret hC)
 simp (config:={dsimp:=false}) [yb3e c3',op3,yb3e hb3',x0,yb3e hc3,r0,stq]
 exact hk _ (yy0e _ _ _) fun c o hcc hh=>(yrkk _ _ hcc).trans (s03 _ _ hh)
end
end Go.Proofs.YtnckimioabkheaaGreat
set_option linter.unusedSimpArgs false
set_option linter.unusedVariables false
set_option maxRecDepth 100000
set_option maxHeartbeats 4000000
namespace Go.Proofs.YtnckimioabkheaaGreat
open AM
section
variable {h:H} {K:K1}
structure Pl (h:H) (br bm:Nat) (X:XC) (C:MC) (m m':AM.Own):Prop where
 b:h br=some (.cells X.cells ysiy m)
 m:m≠.ro
 o:X.Ok
 x:X.m=ptr bm 0
 c:h bm=some (.cells C.cells ynne m')
 m':m'≠.ro
 C:C.Ok
theorem Pl.sub {h':H} {br bm:Nat} {X:XC} {C:MC} {m m':AM.Own} (p:Pl h br bm X C m m') (s:Sub h h'):Pl h' br bm X C m m':=⟨s _ _ p.b,p.m,p.o,p.x,s _ _ p.c,p.m',p.C⟩
theorem Pl.ne {br bm:Nat} {X:XC} {C:MC} {m m':AM.Own} (p:Pl h br bm X C m m'):br≠bm:=fun e=>by
 have hb:=p.b
 rw [e,p.c] at hb;simp only [Option.some.injEq,AObj.cells.injEq] at hb;exact absurd hb.2.1 (by decide)
end
end Go.Proofs.YtnckimioabkheaaGreat
set_option linter.unusedSimpArgs false
set_option linter.unusedVariables false
set_option maxRecDepth 100000
set_option maxHeartbeats 4000000
namespace Go.Proofs.YtnckimioabkheaaGreat
open AM
section
variable {h:H} {K:K1}
theorem ybfk {br:Nat} {nd:Nd} {Q:H→Prop} (hn:∀{h1:H} {K':K1},Sub h h1→(∀ h',Q h'→K' (.bool true) h')→AM.Spec PG yinw [ptr br 0,.agg nd.cells.toArray] h1 K')
 (hk:∀h',Q h'→K (.tuple #[]) h'):AM.Spec PG yo19 [ptr br 0,.agg nd.cells.toArray] h K:=by
 refine ymat _ _ _ _ ?_
 unfold yyqe ytdg
 refine ⟨rfl,yd3h fun b3 h1 _ hb3 s1 c1=>?_⟩
 have ld:∀{h':H},Sub h1 h'→∀(K:Value→Prop) (u:Dm K),ybqh true 5 (.pointer (some ⟨b3,0,none⟩)) h' K u=K (.agg nd.cells.toArray):=fun s K u=>by
  have:=s _ _ c1
  simp [yzql this,Nd.cells]
 rw [ld (Sub.refl _)]
 refine ⟨rfl,hn s1 fun h2 q2=>?_⟩
 simp (config:={dsimp:=false}) only [↓s_gtf]
 simp (config:={dsimp:=false})
 exact hk h2 q2
theorem y2j2 {br:Nat} {nd:Nd} {Q:H→Prop} (n1:¬(1≤nd.op∧nd.op≤5)) (hn:∀{h1:H} {K':K1},Sub h h1→(∀ h',Q h'→K' (.bool true) h')→AM.Spec PG yebn [ptr br 0,.agg nd.cells.toArray] h1 K')
 (hk:∀h',Q h'→K (.tuple #[]) h'):AM.Spec PG yo19 [ptr br 0,.agg nd.cells.toArray] h K:=by
 refine ymat _ _ _ _ ?_
 unfold yyqe ytdg
 refine ⟨rfl,yd3h fun b3 h1 _ hb3 s1 c1=>?_⟩
 have ld:∀{h':H},Sub h1 h'→∀(K:Value→Prop) (u:Dm K),ybqh true 5 (.pointer (some ⟨b3,0,none⟩)) h' K u=K (.agg nd.cells.toArray):=fun s K u=>by
  have:=s _ _ c1
  simp [yzql this,Nd.cells]
 rw [ld (Sub.refl _)]
 refine ⟨rfl,y9kg n1 fun h2 s2=>?_⟩
 simp (config:={dsimp:=false}) only [↓s_gff]
 rw [ld s2]
 refine ⟨rfl,hn (s1.trans s2) fun h3 q3=>?_⟩
 simp (config:={dsimp:=false})
 exact hk h3 q3
end
end Go.Proofs.YtnckimioabkheaaGreat
set_option linter.unusedSimpArgs false
set_option linter.unusedVariables false
set_option maxRecDepth 100000
set_option maxHeartbeats 4000000
namespace Go.Proofs.YtnckimioabkheaaGreat
open AM
structure St where
 n:List Int
 l:List Tg
 x:List Int
 t:List Tg
 pc:Int
 ret:Int
 over:Bool
 e:Int×Int×Int×Int×Bool
 μ:MS
 σ:SS
 al:Value
structure EP where
 br:Nat
 bm:Nat
 D:MD
 S:SD
 C:MC
 fuel:Int
 stop:Bool
 page:Int
 gen:Int
def EP.xc (E:EP) (s:St):XC:=⟨ptr E.bm 0,E.fuel,E.stop,E.page,E.gen,s.n,s.l.flatMap tgC,s.over,endC s.e.1 s.e.2.1 s.e.2.2.1 s.e.2.2.2.1 s.e.2.2.2.2⟩
def EP.mc (E:EP) (s:St):MC:=⟨ptr E.D.q 0,ptr E.S.q 0,s.x,s.pc,s.ret,s.t.flatMap tgI,E.C.f,E.C.pp,E.C.src,E.C.snk,E.C.brk,E.C.flo,s.al⟩
def U32L (l:List Int):Prop:=∀x∈l,0≤x∧x<4294967296
structure At (E:EP) (h:H) (s:St):Prop where
 b:h E.br=some (.cells (E.xc s).cells ysiy .exact)
 c:h E.bm=some (.cells (E.mc s).cells ynne .exact)
 me:MemAt E.D h s.μ
 mok:MSok s.μ
 sh:ShAt E.S h s.σ
 sok:SSok s.σ
 nl:s.n.length=256
 nb:U32L s.n
 ll:s.l.length=256
 xl:s.x.length=32
 xb:U32L s.x
 tl:s.t.length=32
def SOwn (S:SD) (σ:SS) (b:Nat):Prop:=b=S.q∨b=S.m∨∃p∈σ.pages,b=S.pg p.1
def EP.Own (E:EP) (s:St) (c:Nat):Prop:=c=E.br∨c=E.bm∨MOwn E.D s.μ c∨SOwn E.S s.σ c
structure Chg (E:EP) (h:H) (s:St) (h':H) (s':St):Prop where
 k:∀c o,h c=some o→¬E.Own s c→h' c=some o
 g:∀c,E.Own s' c→E.Own s c∨h c=none
theorem Chg.trans {E:EP} {h h' h'':H} {s s' s'':St} (a:Chg E h s h' s') (b:Chg E h' s' h'' s''):Chg E h s h'' s'':=by
 have key:∀c o,h c=some o→¬E.Own s c→¬E.Own s' c:=fun c o ho hn hc=>(a.g c hc).elim hn fun h=>by rw [ho] at h;cases h
 refine ⟨fun c o ho hn=>b.k c o (a.k c o ho hn) (key c o ho hn),fun c hc=>?_⟩
 rcases b.g c hc with h1 | h1
 ·exact a.g c h1
 ·by_cases hn:E.Own s c
  ·exact .inl hn
  ·refine .inr ?_
   cases ho:h c with
   | none=>rfl
   | some o=>rw [a.k c o ho hn] at h1;cases h1
theorem Chg.refl {E:EP} {h:H} {s:St}:Chg E h s h s:=⟨fun _ _ h _=>h,fun _ h=>.inl h⟩
theorem U32L.get {l:List Int} (h:U32L l) {i:Nat}:0≤l.getD i 0∧l.getD i 0<4294967296:=by
 rw [List.getD_eq_getElem?_getD]
 cases hq:l[i]? with
 | none=>simp
 | some v=>exact h v (List.mem_of_getElem? hq)
theorem U32L.set {l:List Int} (h:U32L l) {i:Nat} {v:Int} (hv:0≤v∧v<4294967296):U32L (l.set i v):=fun x hx=>by
 rcases List.mem_or_eq_of_mem_set hx with h1 | h1
 ·exact h x h1
 ·rw [h1];exact hv
section
variable {E:EP} {h h' h1:H} {s s':St} {K:K1}
theorem ShAt.other {S:SD} {σ:SS} (hs:ShAt S h σ) {b:Nat} {cs:List Value} {T:TypeId} {m:AM.Own} (hb:h b=some (.cells cs T m)) (h1:T≠y2um) (h2:T≠yokg):¬SOwn S σ b:=by
 rintro (rfl | rfl | ⟨e,he,rfl⟩)
 ·have:=hs.q
  rw [hb] at this
  simp only [Option.some.injEq,AObj.cells.injEq] at this
  exact h1 this.2.1
 ·obtain ⟨ck,this⟩:=hs.m
  rw [hb] at this;cases this
 ·have:=hs.pg e he
  rw [hb] at this
  simp only [Option.some.injEq,AObj.cells.injEq] at this
  exact h2 this.2.1
theorem ShAt.fr {S:SD} {σ:SS} {O:Nat→Prop} (hs:ShAt S h σ) (hf:Fr O h h') (ho:∀b,SOwn S σ b→¬O b):ShAt S h' σ:=by
 refine ⟨hf _ _ (ho _ (.inl rfl)) hs.q,?_,fun p hp=>hf _ _ (ho _ (.inr (.inr ⟨p,hp,rfl⟩))) (hs.pg p hp)⟩
 obtain ⟨ck,hh⟩:=hs.m
 exact ⟨ck,hf _ _ (ho _ (.inr (.inl rfl))) hh⟩
theorem MemAt.frO {D:MD} {μ:MS} {O:Nat→Prop} (hm:MemAt D h μ) (hf:Fr O h h') (ho:∀b,MOwn D μ b→¬O b):MemAt D h' μ:=by
 refine ⟨hf _ _ (ho _ (.inl rfl)) hm.q,?_,?_,fun p hp=>hf _ _ (ho _ (.inr (.inr (.inr ⟨p,hp,rfl⟩)))) (hm.pg p hp)⟩
 ·obtain ⟨ck,hh⟩:=hm.pm
  exact ⟨ck,hf _ _ (ho _ (.inr (.inl rfl))) hh⟩
 ·obtain ⟨ck,hh⟩:=hm.gm
  exact ⟨ck,hf _ _ (ho _ (.inr (.inr (.inl rfl)))) hh⟩
theorem At.nbr (a:At E h s):E.br≠E.bm:=fun e=>by
 have:=a.b
 rw [e,a.c] at this
 simp only [Option.some.injEq,AObj.cells.injEq] at this
 exact absurd this.2.1 (by decide)
theorem At.mbr (a:At E h s):¬MOwn E.D s.μ E.br:=a.me.other a.b (by decide) (by decide)
theorem At.mbm (a:At E h s):¬MOwn E.D s.μ E.bm:=a.me.other a.c (by decide) (by decide)
theorem At.sbr (a:At E h s):¬SOwn E.S s.σ E.br:=a.sh.other a.b (by decide) (by decide)
theorem At.sbm (a:At E h s):¬SOwn E.S s.σ E.bm:=a.sh.other a.c (by decide) (by decide)
theorem At.sub (a:At E h s) (hs:Sub h h'):At E h' s:=⟨hs _ _ a.b,hs _ _ a.c,a.me.sub hs,a.mok,a.sh.sub hs,a.sok,a.nl,a.nb,a.ll,a.xl,a.xb,a.tl⟩
theorem At.xok (a:At E h s):(E.xc s).Ok:=⟨a.nl,by show _=_;unfold EP.xc;rw [ygil,a.ll],rfl⟩
theorem At.mcok (a:At E h s):(E.mc s).Ok:=⟨a.xl,by show _=_;unfold EP.mc;rw [yq20,a.tl]⟩
theorem At.pl (a:At E h s):Pl h E.br E.bm (E.xc s) (E.mc s) .exact .exact:=⟨a.b,by decide,a.xok,rfl,a.c,by decide,a.mcok⟩
theorem At.both (a:At E h s) (hb:h' E.br=some (.cells (E.xc s').cells ysiy .exact)) (hc:h' E.bm=some (.cells (E.mc s').cells ynne .exact)) (hf:Fr (fun c=>c=E.br∨c=E.bm) h h')
 (e1:s'.μ=s.μ) (e2:s'.σ=s.σ) (hn:s'.n.length=256) (hnb:U32L s'.n) (hl:s'.l.length=256) (hx:s'.x.length=32) (hxb:U32L s'.x) (ht:s'.t.length=32):At E h' s'∧Chg E h s h' s':=by
 refine ⟨⟨hb,hc,?_,e1▸a.mok,?_,e2▸a.sok,hn,hnb,hl,hx,hxb,ht⟩,fun c o ho hn=>hf _ _ (fun hh=>hn (hh.elim .inl fun h=>.inr (.inl h))) ho,fun c hc=>.inl ?_⟩
 ·rw [e1];exact a.me.frO hf fun b hb hh=>hh.elim (fun h=>a.mbr (h▸hb)) fun h=>a.mbm (h▸hb)
 ·rw [e2];exact a.sh.fr hf fun b hb hh=>hh.elim (fun h=>a.sbr (h▸hb)) fun h=>a.sbm (h▸hb)
 ·unfold EP.Own at *;rw [e1,e2] at hc;exact hc
theorem At.run (a:At E h s) (hs:Sub h h1) (hb:h' E.br=some (.cells (E.xc s').cells ysiy .exact)) (hf:Fr (· = E.br) h1 h') (e0:E.mc s'=E.mc s)
 (e1:s'.μ=s.μ) (e2:s'.σ=s.σ) (e3:s'.x=s.x) (e4:s'.t=s.t) (hn:s'.n.length=256) (hnb:U32L s'.n) (hl:s'.l.length=256):At E h' s'∧Chg E h s h' s' :=
 a.both hb (by rw [e0];exact hf _ _ (Ne.symm a.nbr) (hs _ _ a.c)) (fun c o hc ho=>hf _ _ (fun h=>hc (.inl h)) (hs _ _ ho)) e1 e2 hn hnb hl (by rw [e3];exact a.xl) (by rw [e3];exact a.xb) (by rw [e4];exact a.tl)
theorem At.mach (a:At E h s) (hs:Sub h h1) (hc:h' E.bm=some (.cells (E.mc s').cells ynne .exact)) (hf:Fr (· = E.bm) h1 h') (e0:E.xc s'=E.xc s)
 (e1:s'.μ=s.μ) (e2:s'.σ=s.σ) (e3:s'.n=s.n) (e4:s'.l=s.l) (hx:s'.x.length=32) (hxb:U32L s'.x) (ht:s'.t.length=32):At E h' s'∧Chg E h s h' s' :=
 a.both (by rw [e0];exact hf _ _ a.nbr (hs _ _ a.b)) hc (fun c o hc ho=>hf _ _ (fun h=>hc (.inr h)) (hs _ _ ho)) e1 e2 (by rw [e3];exact a.nl) (by rw [e3];exact a.nb) (by rw [e4];exact a.ll) hx hxb ht
def yt0m (E:EP) (n:Nd) (s s':St):Prop:=∀{h:H} {K:K1},At E h s→(∀ h',At E h' s'∧Chg E h s h' s'→K (.tuple #[]) h')→AM.Spec PG yo19 [ptr E.br 0,.agg n.cells.toArray] h K
end
end Go.Proofs.YtnckimioabkheaaGreat
set_option linter.unusedSimpArgs false
set_option linter.unusedVariables false
set_option maxRecDepth 100000
set_option maxHeartbeats 4000000
namespace Go.Proofs.YtnckimioabkheaaGreat
open AM
theorem yosw {a:Int} {n:Nat} (h:0≤a∧a<4294967296):0≤a.fdiv (2^n)∧a.fdiv (2^n)<4294967296:=by
 have h2:(0:Int)<2^n:=Int.pow_pos (by decide)
 rw [Int.fdiv_eq_ediv_of_nonneg _ (by omega)]
 exact ⟨Int.ediv_nonneg h.1 (by omega),Int.lt_of_le_of_lt (Int.ediv_le_self _ h.1) h.2⟩
theorem y2j6 {a b:Int} (h:0≤a∧a<4294967296):0≤a.tmod b∧a.tmod b<4294967296:=by
 refine ⟨Int.tmod_nonneg _ h.1,?_⟩
 rw [Int.tmod_eq_emod_of_nonneg h.1]
 by_cases hb:b=0
 ·subst hb;simp;exact h.2
 ·have:=Int.mul_ediv_add_emod a b
  have h3:0≤b*(a / b):=by
   by_cases h0:0≤b
   ·exact Int.mul_nonneg h0 (Int.ediv_nonneg h.1 h0)
   ·exact Int.mul_nonneg_of_nonpos_of_nonpos (by omega) (Int.ediv_nonpos_of_nonneg_of_nonpos h.1 (by omega))
  omega
theorem ys10 {x:Int}:0≤IntKind.u32.wrap x∧IntKind.u32.wrap x<4294967296:=⟨yd12,yina⟩
theorem yk62 {k a b:Int} (ha:0≤a∧a<4294967296):0≤yc81 k a b∧yc81 k a b<4294967296:=by
 have hb:∀p,0≤y6sn p∧y6sn p<4294967296:=fun p=>by unfold y6sn;split <;> decide
 unfold yc81
 split
 ·unfold y6b7
  repeat' split
  all_goals first | exact ys10 | exact yosw ha | exact hb _ | decide
 ·unfold yk74 yeuu ygzx y8ip
  repeat' split
  all_goals first | exact ys10 | exact y2j6 ha | exact ha | decide
section
variable {E:EP} {s:St} {n:Nd}
def St.put (s:St) (i:Nat) (v:Int):St:={ s with n:=s.n.set i v,l:=s.l.set i tz }
theorem ywdg {h:H} (a:At E h s) {i:Nat} (hi:i<256) {v:Int}:({ E.xc s with n:=(E.xc s).n.set i v,l:=setL (E.xc s).l (4*i) (tg4 0 0 0 0) }:XC)=E.xc (s.put i v):=by
 have:=yaws (T:=s.l) (i:=i) (by rw [a.ll];exact hi) (w:=tz)
 unfold EP.xc St.put
 simp only
 rw [← this];rfl
theorem At.put {h h1 h':H} (a:At E h s) (hs:Sub h h1) {i:Nat} (hi:i<256) {v:Int} (hv:0≤v∧v<4294967296) (hb:h' E.br=some (.cells ({ E.xc s with n:=(E.xc s).n.set i v,l:=setL (E.xc s).l (4*i) (tg4 0 0 0 0) }:XC).cells ysiy .exact)) (hf:Fr (· = E.br) h1 h'):At E h' (s.put i v)∧Chg E h s h' (s.put i v):=by
 rw [ywdg a hi] at hb
 exact a.run hs hb hf rfl rfl rfl rfl rfl (by simp [St.put,a.nl]) (a.nb.set hv) (by simp [St.put,a.ll])
theorem At.lab {h h1 h':H} (a:At E h s) (hs:Sub h h1) {i:Nat} {w:Tg} (hb:h' E.br=some (.cells ({ E.xc s with l:=(s.l.set i w).flatMap tgC }:XC).cells ysiy .exact)) (hf:Fr (· = E.br) h1 h'):At E h' { s with l:=s.l.set i w }∧Chg E h s h' { s with l:=s.l.set i w } :=
 a.run hs hb hf rfl rfl rfl rfl rfl a.nl a.nb (by simp [a.ll])
theorem y6dr {x:Int} (h:0≤x):x=(x.toNat:Nat):=(Int.toNat_of_nonneg h).symm
theorem ypf2 (hf:yln3 n=true) (ho:n.op=2∨n.op=3∨n.op=14∨n.op=15):n.v≤31:=by
 simp only [yln3,Bool.and_eq_true] at hf
 have:=hf.1.1.1.2
 unfold ykl2 at this
 rcases ho with h | h | h | h <;> rw [h] at this <;> simp at this <;> omega
theorem yufh (hop:n.op=2) (hf:yln3 n=true) (hv:0≤n.v∧n.v<4294967296):yt0m E n s (s.put n.to.toNat (if n.v.toNat=0 then 0 else s.x.getD n.v.toNat 0)):=fun {h K} a hk=>by
 have f:=ya30 hf
 have h31:=ypf2 hf (.inl hop)
 exact ybfk (fun hs hk'=>ydhf hop (y6dr f.1) (by omega) (y6dr hv.1) (by omega) (hs _ _ a.b) (by decide) a.xok rfl (hs _ _ a.c) a.mcok fun h' e' f'=>hk' h' (a.put hs (by omega) (by split;decide;exact a.xb.get) e' f')) hk
theorem yd9j (hop:n.op=3) (hf:yln3 n=true) (hv:0≤n.v∧n.v<4294967296):yt0m E n s { s with x:=s.x.set n.v.toNat (s.n.getD n.a.toNat 0) }:=fun {h K} a hk=>by
 have f:=ya30 hf
 have h31:=ypf2 hf (.inr (.inl hop))
 exact ybfk (fun hs hk'=>yukd hop (y6dr f.2.2.1) (by omega) (y6dr hv.1) (by omega) (hs _ _ a.b) a.xok rfl (hs _ _ a.c) (by decide) a.mcok fun h' e' f'=>hk' h' (a.mach (s':={ s with x:=s.x.set n.v.toNat (s.n.getD n.a.toNat 0) }) hs e' f' rfl rfl rfl rfl rfl (by simp [a.xl]) (a.xb.set a.nb.get) a.tl)) hk
theorem st_do (hop:n.op=4) (hf:yln3 n=true) (hv:0≤n.v∧n.v<4294967296):yt0m E n s (s.put n.to.toNat (yc81 n.v (s.n.getD n.a.toNat 0) (s.n.getD n.b.toNat 0))):=fun {h K} a hk=>by
 have f:=ya30 hf
 exact ybfk (fun hs hk'=>ynnk hop (y6dr f.1) (by omega) (y6dr f.2.2.1) (by omega) (y6dr f.2.2.2.2.1) (by omega) hv a.nb.get (hs _ _ a.b) (by decide) a.xok fun h' e' f'=>hk' h' (a.put hs (by omega) (yk62 a.nb.get) e' f')) hk
theorem yw88 (hop:n.op=14) (hf:yln3 n=true) (hv:0≤n.v∧n.v<4294967296):yt0m E n s { s with l:=s.l.set n.to.toNat (if n.v.toNat=0 then tz else s.t.getD n.v.toNat tz) }:=fun {h K} a hk=>by
 have f:=ya30 hf
 have h31:=ypf2 hf (.inr (.inr (.inl hop)))
 exact y2j2 (by omega) (fun hs hk'=>yzuc hop (y6dr f.1) (by omega) (y6dr hv.1) (by omega) (hs _ _ a.b) (by decide) a.xok rfl a.ll rfl (hs _ _ a.c) a.mcok rfl a.tl fun h' e' f'=>hk' h' (a.lab hs e' f')) hk
theorem yb6s (hop:n.op=15) (hf:yln3 n=true) (hv:0≤n.v∧n.v<4294967296):yt0m E n s { s with t:=s.t.set n.v.toNat (s.l.getD n.a.toNat tz) }:=fun {h K} a hk=>by
 have f:=ya30 hf
 have h31:=ypf2 hf (.inr (.inr (.inr hop)))
 exact y2j2 (by omega) (fun hs hk'=>ytkd hop (y6dr f.2.2.1) (by omega) (y6dr hv.1) (by omega) (hs _ _ a.b) (by decide) a.xok rfl a.ll rfl (hs _ _ a.c) a.mcok rfl a.tl fun h' e' f'=>hk' h' (a.mach (s':={ s with t:=s.t.set n.v.toNat (s.l.getD n.a.toNat tz) }) hs e' f' rfl rfl rfl rfl rfl a.xl a.xb (by simp [a.tl]))) hk
theorem y65r (hop:n.op=16) (hf:yln3 n=true) (hv:0≤n.v∧n.v<4294967296):yt0m E n s { s with l:=s.l.set n.to.toNat (flowT n.v (s.n.getD n.a.toNat 0) (s.n.getD n.b.toNat 0) (s.l.getD n.a.toNat tz) (s.l.getD n.b.toNat tz)) }:=fun {h K} a hk=>by
 have f:=ya30 hf
 exact y2j2 (by omega) (fun hs hk'=>yslw hop (y6dr f.1) (by omega) (y6dr f.2.2.1) (by omega) (y6dr f.2.2.2.2.1) (by omega) hv a.nb.get (hs _ _ a.b) (by decide) a.xok rfl a.ll fun h' e' f'=>hk' h' (a.lab hs e' f')) hk
theorem ya1k (hop:n.op=9):yt0m E n s { s with ret:=IntKind.i64.wrap (s.ret+1) }:=fun {h K} a hk =>
 yzyl hop a.b rfl a.c (by decide) a.mcok fun h' e' f'=>hk h' (a.mach (s':={ s with ret:=IntKind.i64.wrap (s.ret+1) }) (Sub.refl h) e' f' rfl rfl rfl rfl rfl a.xl a.xb a.tl)
def y8ir (E:EP) (s:St):Prop:=s.ret<E.fuel∧(fnd (yovn E.page) s.μ.gens).getD 0=E.gen
theorem ywhm (hop:n.op=8) (hg:y8ir E s):yt0m E n s { s with pc:=n.v }:=fun {h K} a hk =>
 yb0k hop a.b rfl a.c (by decide) a.mcok rfl a.me hg.1 hg.2 fun h' e' f'=>hk h' (a.mach (s':={ s with pc:=n.v }) (Sub.refl h) e' f' rfl rfl rfl rfl rfl a.xl a.xb a.tl)
theorem yt7q (hop:n.op=13) (hv:0≤n.v∧n.v<4294967296):yt0m E n s { s with over:=true,e:=(n.v,s.pc,0,0,false) }:=fun {h K} a hk =>
 ytf9 hop hv a.b (by decide) a.xok rfl a.c a.mcok fun h' e' f'=>hk h' (a.run (s':={ s with over:=true,e:=(n.v,s.pc,0,0,false) }) (Sub.refl h) e' f' rfl rfl rfl rfl rfl a.nl a.nb a.ll)
end
end Go.Proofs.YtnckimioabkheaaGreat
set_option linter.unusedSimpArgs false
set_option linter.unusedVariables false
set_option maxRecDepth 100000
set_option maxHeartbeats 4000000
namespace Go.Proofs.YtnckimioabkheaaGreat
open AM
inductive Steps (E:EP):List Nd→St→St→Prop
 | nil {s:St}:Steps E [] s s
 | stop {n:Nd} {r:List Nd} {s s':St} (h:yt0m E n s s') (ho:s'.over=true):Steps E (n::r) s s'
 | more {n:Nd} {r:List Nd} {s s1 s':St} (h:yt0m E n s s1) (ho:s1.over=false) (hr:Steps E r s1 s'):Steps E (n::r) s s'
structure MAt (E:EP) (h:H) (s:St):Prop where
 c:h E.bm=some (.cells (E.mc s).cells ynne .exact)
 me:MemAt E.D h s.μ
 mok:MSok s.μ
 sh:ShAt E.S h s.σ
 sok:SSok s.σ
 xl:s.x.length=32
 xb:U32L s.x
 tl:s.t.length=32
def EP.Mch (E:EP) (s:St) (c:Nat):Prop:=c=E.bm∨MOwn E.D s.μ c∨SOwn E.S s.σ c
structure MChg (E:EP) (h:H) (s:St) (h':H) (s':St):Prop where
 k:∀c o,h c=some o→¬E.Mch s c→h' c=some o
 g:∀c,E.Mch s' c→E.Mch s c∨h c=none
def endV (e:Int×Int×Int×Int×Bool):Value:=.agg (endC e.1 e.2.1 e.2.2.1 e.2.2.2.1 e.2.2.2.2).toArray
section
variable {E:EP} {h h':H} {s s':St} {K:K1}
theorem MAt.sub (a:MAt E h s) (hs:Sub h h'):MAt E h' s:=⟨hs _ _ a.c,a.me.sub hs,a.mok,a.sh.sub hs,a.sok,a.xl,a.xb,a.tl⟩
theorem At.mat (a:At E h s):MAt E h s:=⟨a.c,a.me,a.mok,a.sh,a.sok,a.xl,a.xb,a.tl⟩
theorem MAt.nMch (a:MAt E h s) {c:Nat} {cs:List Value} {T:TypeId} {m:AM.Own} (hc:h c=some (.cells cs T m)) (h2:T≠ynne) (h3:T≠y7k4) (h4:T≠ynw2) (h5:T≠y2um) (h6:T≠yokg):¬E.Mch s c:=by
 rintro (rfl | h1 | h1)
 ·have:=a.c
  rw [hc] at this
  simp only [Option.some.injEq,AObj.cells.injEq] at this
  exact h2 this.2.1
 ·exact a.me.other hc h3 h4 h1
 ·exact a.sh.other hc h5 h6 h1
theorem At.nOwn (a:At E h s) {c:Nat} {cs:List Value} {T:TypeId} {m:AM.Own} (hc:h c=some (.cells cs T m)) (h1:T≠ysiy) (h2:T≠ynne) (h3:T≠y7k4) (h4:T≠ynw2) (h5:T≠y2um) (h6:T≠yokg):¬E.Own s c:=by
 rintro (rfl | h7)
 ·have:=a.b
  rw [hc] at this
  simp only [Option.some.injEq,AObj.cells.injEq] at this
  exact h1 this.2.1
 ·exact a.mat.nMch hc h2 h3 h4 h5 h6 h7
theorem ymeb {b8:Nat} {v:Value} {l:List Nd} (a:At E h s) (hov:s.over=false) (hst:Steps E l s s') (hlen:l.length≤1000000)
 (hl:∀h' s1,At E h' s1→Chg E h s h' s1→Sl Nd.cells 5 h' v l) (h8:h b8=some (.cells (endC 0 0 0 0 false) yqha .exact))
 (hk:∀h1 h',At E h1 s'→Chg E h s h1 s'→(∀ c,c≠b8→h' c=h1 c)→K (endV s'.e) h') :
 y1ib v (ptr b8 0) (ptr E.br 0) undef h (fun y8 y48 h=>o_ret y48 h fun h=>ybqh true 5 y8 h fun v=>K v h) (fun y8 y48 h=>o_ret y48 h fun h=>ybqh true 5 y8 h fun v=>K v h):=by
 have hs0:=hl h s a Chg.refl
 have hul:=fun (K:Value→Prop) (u:Dm K)=>hs0.ulen (K:=K) (u:=u)
 unfold y1ib y92s yd0v y11e
 rw [hul]
 have fin:∀h1,At E h1 s'→Chg E h s h1 s'→yhe0 (ptr b8 0) (ptr E.br 0) undef h1 (fun y8 y48 h=>o_ret y48 h fun h=>ybqh true 5 y8 h fun v=>K v h) (fun y8 y48 h=>o_ret y48 h fun h=>ybqh true 5 y8 h fun v=>K v h):=fun h1 a1 c1=>by
  have h81:=c1.k _ _ h8 (a.nOwn h8 (by decide) (by decide) (by decide) (by decide) (by decide) (by decide))
  have hcs:=yzql a1.b (i:=1286) (n:=5)
  rw [XC.len a1.xok,if_pos (by decide),show (((E.xc s').cells.drop 1286).take 5)=endC s'.e.1 s'.e.2.1 s'.e.2.2.1 s'.e.2.2.2.1 s'.e.2.2.2.2 by
   rw [show 1286=1285+1 from rfl,←List.drop_drop,XC.drop1285 a1.xok];rfl] at hcs
  unfold yhe0
  simp (config:={dsimp:=false}) only [s_pf,Nat.zero_add]
  rw [y2bf hcs,ykdp,h81]
  refine ⟨by decide,rfl,rfl,by decide,?_⟩
  have c8':upd h1 b8 (.cells (endC s'.e.1 s'.e.2.1 s'.e.2.2.1 s'.e.2.2.2.1 s'.e.2.2.2.2) yqha .exact) b8=some (.cells (endC s'.e.1 s'.e.2.1 s'.e.2.2.1 s'.e.2.2.2.1 s'.e.2.2.2.2) yqha .exact):=yy0e _ _ _
  refine (show ybqh true 5 (ptr b8 0) (upd h1 b8 (.cells (endC s'.e.1 s'.e.2.1 s'.e.2.2.1 s'.e.2.2.2.1 s'.e.2.2.2.2) yqha .exact)) (fun v=>K v (upd h1 b8 (.cells (endC s'.e.1 s'.e.2.1 s'.e.2.2.1 s'.e.2.2.2.1 s'.e.2.2.2.2) yqha .exact))) from ?_)
  rw [load5 c8']
  exact hk h1 _ a1 c1 fun c hc=>yrkk _ _ hc
 refine yo1k l.length (fun i q h'=>q=(ptr b8 0,ptr E.br 0,v,.int .i64 l.length,.int .i64 i,undef)∧∃si,Steps E (l.drop i) si s'∧si.over=false∧At E h' si∧Chg E h s h' si) ⟨rfl,s,hst,hov,a,Chg.refl⟩ ?_
 rintro i q h' K' hi ⟨rfl,si,hsi,hoi,ai,ci⟩ hk'
 refine (show yket (ptr b8 0) (ptr E.br 0) v (.int .i64 l.length) (.int .i64 i) undef h' _ _ _ from ?_)
 unfold yket
 simp (config:={dsimp:=false}) only [s_lss,s_if]
 by_cases hlt:i<l.length
 ·have hsl:=hl h' si ai ci
  have hix:=fun (K:Value→Prop) (u:Dm K)=>hsl.ixA (k:=.i64) hlt (K:=K) (u:=u)
  rw [decide_eq_true (by omega:(i:Int)<l.length),if_pos rfl,hix]
  refine yd3h fun b11 h2 _ hb11 s2 c11=>y1nc s2 hb11 c11 (by decide) rfl rfl rfl fun h3 s3 c3 f3=>?_
  rw [ykeu c3]
  rw [List.drop_eq_getElem_cons hlt] at hsi
  have a3:=ai.sub s3
  have w1:IntKind.i64.wrap ((i:Int)+1)=(i:Int)+1:=w_i64 (by omega) (by omega)
  have toC:∀{h4:H} {s4:St},Chg E h3 si h4 s4→Chg E h' si h4 s4:=fun c4=>⟨fun c o ho hn=>c4.k c o (s3 _ _ ho) hn,fun c hc=>(c4.g c hc).imp id fun hn=>Sub.none s3 hn⟩
  cases hsi with
  | stop hst ho =>
    refine ⟨rfl,hst a3 fun h4 ⟨a4,c4⟩=>?_⟩
    have o4:(E.xc s').cells[1285]?=some (.bool true):=by rw [XC.at_over a4.xok];unfold EP.xc;rw [ho]
    simp (config:={dsimp:=false}) only [s_pf,Nat.zero_add]
    rw [y1rg a4.b o4,s_if,if_pos rfl]
    exact fin h4 a4 (ci.trans (toC c4))
  | @more _ _ _ s1 _ hst ho hr =>
    refine ⟨rfl,hst a3 fun h4 ⟨a4,c4⟩=>?_⟩
    have o4:(E.xc s1).cells[1285]?=some (.bool false):=by rw [XC.at_over a4.xok];unfold EP.xc;rw [ho]
    simp (config:={dsimp:=false}) only [s_pf,Nat.zero_add]
    rw [y1rg a4.b o4,s_if,if_neg (by decide),s_add,w1]
    exact hk' (ptr b8 0,ptr E.br 0,v,.int .i64 l.length,.int .i64 ((i:Int)+1),undef) h4 hlt ⟨rfl,s1,hr,ho,a4,ci.trans (toC c4)⟩
 ·have hie:i=l.length:=by omega
  subst hie
  rw [List.drop_length] at hsi
  cases hsi
  rw [decide_eq_false (by omega),if_neg (by decide)]
  exact fin h' ai ci
def EP.at (E:EP) (br:Nat):EP:={ E with br:=br }
structure Fresh (E:EP) (s:St) (ns:List Nd):Prop where
 n:s.n=zeros 256
 l:s.l=List.replicate 256 tz
 over:s.over=false
 e:s.e=(0,0,0,0,false)
 page:∃n0 r,ns=n0::r∧E.page=n0.v
 gen:E.gen=(fnd (yovn E.page) s.μ.gens).getD 0
theorem yznc {E:EP} {s:St} {l:List Nd} (f:Fresh E s l) {br:Nat}:(E.at br).xc s=xc0 (some ⟨E.bm,0,none⟩) E.fuel E.stop E.page E.gen:=by
 unfold EP.xc xc0 EP.at
 simp only [f.n,f.l,f.over,f.e]
 have:(List.replicate 256 tz).flatMap tgC=List.replicate 1024 (.int .u8 0):=by
  rw [List.flatMap_replicate];rfl
 rw [this]
theorem y95q {k:Nat}:U32L (zeros k):=fun x hx=>by
 unfold zeros at hx
 rw [(List.mem_replicate.1 hx).2];decide
def yp1x (h h':H):Prop:=∀c cs m,h c=some (.cells cs yq0s m)→h' c=some (.cells cs yq0s m)
theorem yvx9 {v:Value} {l:List Nd} (M:MAt E h s) (f:Fresh E s l) (hst:∀br,Steps (E.at br) l s s') (hlen:l.length≤1000000) (hl:∀h',yp1x h h'→Sl Nd.cells 5 h' v l)
 (hk:∀h',MAt E h' s'→MChg E h s h' s'→K (endV s'.e) h'):AM.Spec PG yzuk [ptr E.bm 0,v,.int .i64 E.fuel,.bool E.stop] h K:=by
 obtain ⟨n0,r,rfl,hpage⟩:=f.page
 refine yn0z _ _ _ _ _ _ ?_
 unfold y0c7 y9hi
 refine yd3h fun b8 h1 _ hb8 s1 c8=>?_
 have M1:=M.sub s1
 have hs1:=hl h1 fun c cs m hc=>s1 _ _ hc
 obtain ⟨ib,io,hia,hcs⟩:=ynae hs1 (i:=0) (by simp)
 have hix0:∀(K:Value→Prop) (u:Dm K),u_ixf false 1 4 none 5 v (.int .i64 0) h1 K u=K (.int .u32 n0.v):=fun K u=>hs1.ixf (k:=.i64) (i:=0) (off:=4) (w:=.int .u32 n0.v) (by simp) rfl (K:=K) (u:=u)
 have hld:∀{h':H},Sub h1 h'→∀(K:Value→Prop) (u:Dm K),ybqh false 1 (.pointer (some ⟨ib,io+4,none⟩)) h' K u=K (.int .u32 n0.v):=fun s K u=>by
  have:=yg2r (m:=4) (s.cellsAt hcs) (by decide)
  simp [this,Nd.cells]
 have q0:(E.mc s).cells[0]?=some (ptr E.D.q 0):=rfl
 have hgo:=fun (K:K1) (hk:K (.int .u32 E.gen) h1)=>ycvw (D:=E.D) (a:=n0.v) M1.me (K:=K) (by rw [← hpage,←f.gen];exact hk)
 have run:∀b29 h2,h1 b29=none→Sub h1 h2→h2 b29=some (.cells (xc0 (some ⟨E.bm,0,none⟩) E.fuel E.stop n0.v E.gen).cells ysiy .exact) →
  y1ib v (ptr b8 0) (ptr b29 0) undef h2 (fun y8 y48 h=>o_ret y48 h fun h=>ybqh true 5 y8 h fun v=>K v h) (fun y8 y48 h=>o_ret y48 h fun h=>ybqh true 5 y8 h fun v=>K v h):=fun b29 h2 hb29 s2 c29=>by
  have s12:=s1.trans s2
  rw [← hpage,←yznc f (br:=b29)] at c29
  have M2:=M.sub s12
  have a:At (E.at b29) h2 s:=⟨c29,M2.c,M2.me,M2.mok,M2.sh,M2.sok,by rw [f.n];exact List.length_replicate,by rw [f.n];exact y95q,by rw [f.l];exact List.length_replicate,M2.xl,M2.xb,M2.tl⟩
  have nb29:h b29=none:=Sub.none s1 hb29
  refine ymeb (E:=E.at b29) a f.over (hst b29) hlen (fun h' s1' a' c'=>hl h' fun c cs m hc=>c'.k _ _ (s12 _ _ hc) (a.nOwn (s12 _ _ hc) (by decide) (by decide) (by decide) (by decide) (by decide) (by decide))) (s2 _ _ c8) fun h3 h' a3 c3 e3=>?_
  have n8m:¬E.Mch s' b8:=by
   have h83:=c3.k _ _ (s2 _ _ c8) (a.nOwn (s2 _ _ c8) (by decide) (by decide) (by decide) (by decide) (by decide) (by decide))
   exact a3.mat.nMch h83 (by decide) (by decide) (by decide) (by decide) (by decide)
  have key:∀c,E.Mch s c→(E.at b29).Own s c:=fun c hc=>.inr hc
  refine hk h' ?_ ⟨fun c o ho hn=>?_,fun c hc=>?_⟩
  ·have ne:∀c,E.Mch s' c→c≠b8:=fun c hc e=>n8m (e▸hc)
   have hfr:Fr (· = b8) h3 h':=fun c o hc ho=>(e3 c hc).trans ho
   refine ⟨(e3 _ (ne _ (.inl rfl))).trans a3.c,a3.me.frO hfr fun b hb he=>ne b (.inr (.inl hb)) he,a3.mok,a3.sh.fr hfr fun b hb he=>ne b (.inr (.inr hb)) he,a3.sok,a3.xl,a3.xb,a3.tl⟩
  ·have n8:c≠b8:=fun e=>by rw [e,hb8] at ho;cases ho
   rw [e3 c n8]
   refine c3.k _ _ (s12 _ _ ho) fun hc=>?_
   rcases hc with h1 | h1
   ·rw [show c=b29 from h1,nb29] at ho;cases ho
   ·exact hn h1
  ·rcases c3.g c (.inr hc) with h1 | h1
   ·rcases h1 with h2 | h2
    ·exact .inr (h2▸nb29)
    ·exact .inl h2
   ·exact .inr (Sub.none s12 h1)
 unfold ymh3 yidf
 have hia0:∀(K:Value→Prop) (u:Dm K),yji6 none 5 v (.int .i64 0) K u=K (.pointer (some ⟨ib,io,none⟩)):=fun K u=>hia .i64 K u
 rw [hia0]
 simp (config:={dsimp:=false}) only [s_fa,s_pf,y1rg M1.c q0,hix0,Nat.zero_add]
 refine ⟨?_,?_⟩
 ·rw [hld (Sub.refl _)]
  refine ⟨rfl,hgo _ ?_⟩
  rw [ymyj,yuk8]
  exact ⟨yjs8,yd3h fun b29 h2 _ hb29 s2 c29=>run b29 h2 hb29 s2 c29⟩
 ·refine ⟨rfl,hgo _ ?_⟩
  rw [hld (Sub.refl _),ymyj,yuk8]
  exact ⟨yjs8,yd3h fun b29 h2 _ hb29 s2 c29=>run b29 h2 hb29 s2 c29⟩
theorem ymi4 {v:Value} {l:List Nd} (hgood:goodB l=true) (M:MAt E h s) (f:Fresh E s l) (hst:∀br,Steps (E.at br) l s s') (hlen:l.length≤1000000) (hl:∀h',yp1x h h'→Sl Nd.cells 5 h' v l)
 (hk:∀h',MAt E h' s'→MChg E h s h' s'→K (endV s'.e) h'):AM.Spec PG yv3a [ptr E.bm 0,v,.int .i64 E.fuel,.bool E.stop] h K:=by
 refine y5x6 _ _ _ _ _ _ ?_
 unfold yc6k yeov
 refine yd3h fun b8 h1 _ hb8 s1 c8=>?_
 have hs1:=hl h1 fun c cs m hc=>s1 _ _ hc
 have hvb:=hs1.box
 refine ⟨by simp [hvb],yfs3 hs1 (by omega) ?_⟩
 rw [hgood]
 simp (config:={dsimp:=false}) only [s_not,s_if]
 rw [if_neg (by decide)]
 refine ⟨by simp [hvb],yvx9 (M.sub s1) f hst hlen (fun h' hn=>hl h' fun c cs m hc=>hn _ _ _ (s1 _ _ hc)) fun h2 M2 c2=>?_⟩
 have h8:=c2.k _ _ c8 ((M.sub s1).nMch c8 (by decide) (by decide) (by decide) (by decide) (by decide))
 rw [ykdp,h8]
 refine ⟨by decide,rfl,rfl,by decide,?_⟩
 have c8':upd h2 b8 (.cells (endC s'.e.1 s'.e.2.1 s'.e.2.2.1 s'.e.2.2.2.1 s'.e.2.2.2.2) yqha .exact) b8=some (.cells (endC s'.e.1 s'.e.2.1 s'.e.2.2.1 s'.e.2.2.2.1 s'.e.2.2.2.2) yqha .exact):=yy0e _ _ _
 refine (show ybqh true 5 (ptr b8 0) (upd h2 b8 (.cells (endC s'.e.1 s'.e.2.1 s'.e.2.2.1 s'.e.2.2.2.1 s'.e.2.2.2.2) yqha .exact)) (fun v=>K v (upd h2 b8 (.cells (endC s'.e.1 s'.e.2.1 s'.e.2.2.1 s'.e.2.2.2.1 s'.e.2.2.2.2) yqha .exact))) from ?_)
 rw [load5 c8']
 have n8m:¬E.Mch s' b8:=M2.nMch h8 (by decide) (by decide) (by decide) (by decide) (by decide)
 have ne:∀c,E.Mch s' c→c≠b8:=fun c hc e=>n8m (e▸hc)
 have hfr:Fr (· = b8) h2 (upd h2 b8 (.cells (endC s'.e.1 s'.e.2.1 s'.e.2.2.1 s'.e.2.2.2.1 s'.e.2.2.2.2) yqha .exact)):=fun c o hc ho=>(yrkk _ _ hc).trans ho
 refine hk _ ⟨(yrkk _ _ (ne _ (.inl rfl))).trans M2.c,M2.me.frO hfr fun b hb he=>ne b (.inr (.inl hb)) he,M2.mok,M2.sh.fr hfr fun b hb he=>ne b (.inr (.inr hb)) he,M2.sok,M2.xl,M2.xb,M2.tl⟩ ⟨fun c o ho hn=>?_,fun c hc=>?_⟩
 ·rw [yrkk _ _ fun e=>by rw [e,hb8] at ho;cases ho]
  exact c2.k _ _ (s1 _ _ ho) hn
 ·exact (c2.g c hc).imp id fun hn=>Sub.none s1 hn
end
end Go.Proofs.YtnckimioabkheaaGreat
set_option linter.unusedVariables false
set_option maxRecDepth 100000
namespace Go.Proofs.YtnckimioabkheaaGreat
open Go.Proofs.YtnckimioabkheaaGreat.AM
@[simp] theorem y1ia {K:Value→Prop} {u:Dm K}:ysnr PG ylzr [] K u=K (.agg #[.slice none 0 0,.slice none 0 0,.slice none 0 0,.slice none 0 0,.slice none 0 0,.slice none 0 0]):=by kernel_rfl
@[simp] theorem y0ll {K:Value→Prop} {u:Dm K}:ysnr PG y4pp [] K u=K (.agg #[.bool false,.slice none 0 0,.slice none 0 0]):=by kernel_rfl
@[simp] theorem ycge {a0:Int} {a1:Int} {K:Value→Prop} {u:Dm K}:ysnr PG ys2z [(0,.int .i64 a0),(1,.int .u32 a1)] K u=K (.agg #[.int .i64 a0,.int .u32 a1,.int .i64 0]):=by kernel_rfl
@[simp] theorem ymyz {a0:Int} {K:Value→Prop} {u:Dm K}:ysnr PG yuil [(0,.int .u8 a0)] K u=K (.agg #[.int .u8 a0,.int .u8 0,.int .u8 0,.int .u8 0]):=by kernel_rfl
@[simp] theorem yf7j {a0_0:Int} {a0_1:Int} {a0_2:Int} {K:Value→Prop} {u:Dm K}:ysnr PG yqha [(0,.agg #[.int .i64 a0_0,.int .u32 a0_1,.int .i64 a0_2])] K u=K (.agg #[.int .i64 a0_0,.int .u32 a0_1,.int .i64 a0_2,.int .i64 0,.bool false]):=by kernel_rfl
@[simp] theorem yqw8 {a0:Int} {a1:Int} {h:H} {K:K1} {u:Dm K}:ynqb PG yoi5 2 [(0,.int .u32 a0),(1,.int .u32 a1)] h K u=u_new [.int .u32 a0,.int .u32 a1] ycpa .exact h fun b h=>K (.slice (some ⟨b,0,none⟩) 2 2) h:=by kernel_rfl
def ypk1 (h:H) (Kn Kr:K1):Prop :=
 ynqb PG yoi5 2 [(0,(.int .u32 3211443)),(1,(.int .u32 115))] h fun v8 h=>ysnr PG ylzr [] fun v9=>ysnr PG y4pp [] fun v10=>yjdf PG y7ww [v8,(.slice none 0 0),(.bool false),v9,v10,(.int .i64 30),(.int .i64 0)] h fun v11 h=>yvu8 v11 0 fun v12=>yvu8 v11 1 fun v13=>u_bin PG .eql ygd0 v12 (.pointer none) fun v15=>u_if v15 (Kr (.bool false) h) (ysnr PG yuil [(0,(.int .u8 1))] fun v17=>y394 v12 fun v18=>y0wt 36 v18 fun v19=>yji6 (some 32) 4 v19 (.int .i64 2) fun v20=>ylel 4 v20 v17 h fun h=>u_pf false 1 0 v12 h fun v25=>yjdf PG yvbn [v25,(.int .u32 4096),(.int .i64 8)] h fun v26 h=>yvu8 v26 0 fun v27=>yvu8 v26 1 fun v28=>u_new [.int .u32 0,.slice none 0 0,.int .u32 0] yrjx .exact h fun b3 h=>u_new [.int .i64 0,.int .u32 0,.int .i64 0] ys2z .exact h fun b4 h=>ylel 3 (.pointer (some ⟨b3,0,none⟩)) v27 h fun h=>ylel 3 (.pointer (some ⟨b4,0,none⟩)) v28 h fun h=>ybqh true 3 (.pointer (some ⟨b3,0,none⟩)) h fun v29=>yjdf PG y849 [v29] h fun v30 h=>ysnr PG y4pp [] fun v31=>yjdf PG y96d [v30,v31] h fun v32 h=>yjdf PG yv3a [v12,v32,(.int .i64 9),(.bool false)] h fun v35 h=>u_new [.int .i64 0,.int .u32 0,.int .i64 0,.int .i64 0,.bool false] yqha .exact h fun b6 h=>ylel 5 (.pointer (some ⟨b6,0,none⟩)) v35 h fun h=>yjdf PG yym2 [v32] h fun v37 h=>ydv6 v37 true (fun k6=>ybqh true 5 (.pointer (some ⟨b6,0,none⟩)) h fun v39=>ysnr PG ys2z [(0,(.int .i64 5)),(1,(.int .u32 4100))] fun v40=>ysnr PG yqha [(0,v40)] fun v41=>u_bin PG .eql yqha v39 v41 fun v42=>k6 v42 h) (fun v42 h=>y9rg v37 v42 (.bool false) fun v43=>ydv6 v43 true (fun k16=>u_pf true 128 36 v12 h fun v48=>yjdf PG yj9t [v48] h fun v49 h=>ywq9 false 32 true 4 v49 (.int .i64 1) fun v50=>ysnr PG yuil [(0,(.int .u8 1)),(1,(.int .u8 1)),(2,(.int .u8 1)),(3,(.int .u8 1))] fun v51=>u_bin PG .eql yuil v50 v51 fun v52=>k16 v52 h) (fun v52 h=>y9rg v43 v52 (.bool false) fun v53=>Kr v53 h) h) h)
def yt8o (h:H) (Q:K1):Prop:=ypk1 h Q Q
theorem y89i (h:H) (Q:K1) (H0:yt8o h Q):AM.Spec PG y880 [] h Q :=
 spE mixed E5_ok Tryz.func15 [0] H0
def ytd8 (x7 x13 x14 x15:Value) (h:H) (Kn:K4) (Kr:K1) (Ke0:K2):Prop :=
 ywmm x14 fun v54=>u_bin PG .lss T_int x15 v54 fun v55=>u_if v55 (u_ixf false 1 0 none 5 x14 x15 h fun v62=>u_bin PG .eql T_int v62 (.int .i64 20) fun v63=>ydv6 v63 true (fun k10=>u_bf false 1 2 x7 h fun v66=>ywmm v66 fun v67=>u_bin PG .eql T_int v67 (.int .i64 0) fun v68=>k10 v68 h) (fun v68 h=>y9rg v63 v68 (.bool false) fun v69=>u_if v69 (Kr (.bool false) h) (u_bin PG .add T_int x15 (.int .i64 1) fun v57=>Kn x7 x13 x14 v57 h)) h) (Ke0 x13 x14 h)
def y4gf (x7 x13 x14 x15:Value) (h:H) (Kn:K2) (Kr:K1) (Ke0:K2):Prop :=
 sloop (S:=Value×Value×Value×Value) (fun s h K=>ytd8 s.1 s.2.1 s.2.2.1 s.2.2.2 h (fun y7 y13 y14 y15 h=>K (y7,y13,y14,y15) h) Kr Ke0) (x7,x13,x14,x15) h
def yv0l (x7 x13 x14 x15:Value) (h:H) (Kn:K2) (Kr:K1):Prop :=
 y4gf x7 x13 x14 x15 h Kn Kr Kn
def ytmf (x7 x13 x14:Value) (h:H) (Kn:K2) (Kr:K1):Prop :=
 yv0l x7 x13 x14 (.int .i64 0) h Kn Kr
def y6dq (x13 x14:Value) (h:H) (Kn Kr:K1):Prop :=
 yjdf PG yym2 [x14] h fun v71 h=>ydv6 v71 true (fun k9=>ywmm x14 fun v74=>ywmm x13 fun v76=>u_bin PG .mul T_int (.int .i64 3) v76 fun v77=>u_bin PG .add T_int v77 (.int .i64 2) fun v78=>u_bin PG .leq T_int v74 v78 fun v79=>k9 v79 h) (fun v79 h=>y9rg v71 v79 (.bool false) fun v80=>Kr v80 h) h
def yjv2 (x7 x13 x14:Value) (h:H) (Kn Kr:K1):Prop :=
 ytmf x7 x13 x14 h (fun y13 y14 h=>y6dq y13 y14 h Kn Kr) Kr
def yx2j (x0 x1 x2 x3:Value) (h:H) (Kn Kr:K1):Prop :=
 boxV x3=true∧u_new (Value.cells x3).toList y4pp .exact h fun b7 h=>yjdf PG y880 [] h fun v16 h=>u_un PG .not v16 fun v17=>u_if v17 (Kr (.bool false) h) (ysnr PG ylzr [] fun v19=>ybqh true 3 (.pointer (some ⟨b7,0,none⟩)) h fun v20=>yjdf PG y4hf [x0,(.slice none 0 0),v19,v20] h fun v21 h=>u_un PG .not v21 fun v22=>u_if v22 (Kr (.bool true) h) (ysnr PG ylzr [] fun v25=>ysnr PG y4pp [] fun v26=>yjdf PG y7ww [x0,(.slice none 0 0),(.bool true),v25,v26,(.int .i64 60),(.int .i64 0)] h fun v27 h=>yvu8 v27 0 fun v28=>yvu8 v27 1 fun v29=>u_bin PG .eql ygd0 v28 (.pointer none) fun v31=>u_if v31 (Kr (.bool true) h) (u_pf false 1 0 v28 h fun v36=>u_bin PG .and ycpa x1 (.int .u32 1020) fun v38=>u_bin PG .add ycpa (.int .u32 4096) v38 fun v39=>yjdf PG yvbn [v36,v39,x2] h fun v41 h=>yvu8 v41 0 fun v42=>yvu8 v41 1 fun v43=>u_new [.int .u32 0,.slice none 0 0,.int .u32 0] yrjx .exact h fun b11 h=>u_new [.int .i64 0,.int .u32 0,.int .i64 0] ys2z .exact h fun b12 h=>ylel 3 (.pointer (some ⟨b11,0,none⟩)) v42 h fun h=>ylel 3 (.pointer (some ⟨b12,0,none⟩)) v43 h fun h=>u_bf false 1 0 (.pointer (some ⟨b12,0,none⟩)) h fun v45=>u_bin PG .neq T_int v45 (.int .i64 0) fun v46=>u_if v46 (Kr (.bool true) h) (ybqh true 3 (.pointer (some ⟨b11,0,none⟩)) h fun v47=>yjdf PG y849 [v47] h fun v48 h=>ybqh true 3 (.pointer (some ⟨b7,0,none⟩)) h fun v50=>yjdf PG y96d [v48,v50] h fun v51 h=>yjv2 (.pointer (some ⟨b7,0,none⟩)) v48 v51 h Kn Kr))))
theorem y1iz {Kn Kr:K1} {t:T} {h:H} (H0:yx2j (t 0) (t 1) (t 2) (t 3) h Kn Kr):Wp PG 81 (ygjk Tryz.f4.body) (mkQ (q1 Kn 8) (q1 Kr 8) ke0) t h :=
 (toE E5_ok 9 H0 fun t h (H:yjv2 (t 7) (t 13) (t 14) h Kn Kr)=>(sqE (q2 (fun y13 y14 h=>y6dq y13 y14 h Kn Kr) 13 14) (toE E5_ok 1 H fun t h (H:yv0l (t 7) (t 13) (t 14) (t 15) h (fun y13 y14 h=>y6dq y13 y14 h Kn Kr) Kr)=>(bkE 0 (lpE (fun t=>(t 7,t 13,t 14,t 15)) H fun t h K H=>(wpE E5_ok H)))) fun t h H=>(wpE E5_ok H)))
def ytuu (x0 x1 x2 x3:Value) (h:H) (Q:K1):Prop:=yx2j x0 x1 x2 x3 h Q Q
theorem yaui (x0 x1 x2 x3:Value) (h:H) (Q:K1) (H0:ytuu x0 x1 x2 x3 h Q):AM.Spec PG ylwf [x0,x1,x2,x3] h Q :=
 spH mixed Tryz.func4 [8] (y1iz H0)
def yelh (x0 x4:Value) (h:H) (Kn Kr:K2):Prop :=
 boxV x0=true∧u_new (Value.cells x0).toList ycs9 .exact h fun b1 h=>u_new (List.replicate 128 ((.int .u8 0):Value)) y4zt .exact h fun b2 h=>ybqh true 128 (.pointer (some ⟨b1,0,none⟩)) h fun v3=>ylel 128 (.pointer (some ⟨b2,0,none⟩)) v3 h fun h=>Kr (.pointer (some ⟨b2,0,none⟩)) x4 h
theorem y491 {Kn Kr:K2} {t:T} {h:H} (H0:yelh (t 0) (t 4) h Kn Kr):Wp PG 4 (ygjk Tryz.f59.body) (mkQ (q2 Kn 2 4) (q2 Kr 2 4) ke0) t h :=
 (wpE E5_ok H0)
def ymg0 (x0:Value) (h:H) (Q:K1):Prop:=yelh x0 undef h (fun y2 y4 h=>o_ret y4 h (fun h=>ybqh true 128 y2 h fun v=>Q v h)) (fun y2 y4 h=>o_ret y4 h (fun h=>ybqh true 128 y2 h fun v=>Q v h))
theorem ygdt (x0:Value) (h:H) (Q:K1) (H0:ymg0 x0 h Q):AM.Spec PG yj9t [x0] h Q :=
 spC mixed Tryz.func59 2 55 true 128 (y491 H0)
end Go.Proofs.YtnckimioabkheaaGreat
set_option linter.unusedVariables false
set_option maxRecDepth 100000
namespace Go.Proofs.YtnckimioabkheaaGreat
open Go.Proofs.YtnckimioabkheaaGreat.AM
@[simp] theorem yvwq {a1_0:Bool} {a1_1a:Option Addr} {a1_1n:Nat} {a1_1c:Nat} {a1_2a:Option Addr} {a1_2n:Nat} {a1_2c:Nat} {K:Value→Prop} {u:Dm K}:ysnr PG ypyw [(1,.agg #[.bool a1_0,.slice a1_1a a1_1n a1_1c,.slice a1_2a a1_2n a1_2c])] K u=K (.agg #[.slice none 0 0,.bool a1_0,.slice a1_1a a1_1n a1_1c,.slice a1_2a a1_2n a1_2c,.bool false,.bool false,.bool false,.bool false]):=by kernel_rfl
@[simp] theorem y0up {a0:Int} {a1:Int} {a2:Int} {a3:Int} {a4:Int} {K:Value→Prop} {u:Dm K}:ysnr PG yq0s [(0,.int .i64 a0),(1,.int .i64 a1),(2,.int .i64 a2),(3,.int .i64 a3),(4,.int .u32 a4)] K u=K (.agg #[.int .i64 a0,.int .i64 a1,.int .i64 a2,.int .i64 a3,.int .u32 a4]):=by kernel_rfl
@[simp] theorem yozv {a0_0:Int} {a0_1:Int} {a0_2:Int} {a0_3:Int} {a0_4:Int} {h:H} {K:K1} {u:Dm K}:ynqb PG yf02 1 [(0,.agg #[.int .i64 a0_0,.int .i64 a0_1,.int .i64 a0_2,.int .i64 a0_3,.int .u32 a0_4])] h K u=u_new [.int .i64 a0_0,.int .i64 a0_1,.int .i64 a0_2,.int .i64 a0_3,.int .u32 a0_4] yq0s .exact h fun b h=>K (.slice (some ⟨b,0,none⟩) 1 1) h:=by kernel_rfl
def y769 (x0 x1 x2 x3 x4 x5:Value) (h:H) (Kn Kr:K0):Prop :=
 u_pf false 1 0 x0 h fun v16=>ysnr PG yq0s [(0,x1),(1,x2),(2,x3),(3,x4),(4,x5)] fun v22=>ynqb PG yf02 1 [(0,v22)] h fun v23 h=>yx4h yq0s 5 40 v16 v23 h fun v24 h=>y394 x0 fun v25=>u_st 1 0 v25 v24 h fun h=>Kn h
def yi8g (x0 x1 x2 x3 x4 x5:Value) (h:H) (Q:K1):Prop:=y769 x0 x1 x2 x3 x4 x5 h (fun h=>bif [].all boxV then Q (.tuple #[]) h else False) (fun h=>bif [].all boxV then Q (.tuple #[]) h else False)
theorem yrta (x0 x1 x2 x3 x4 x5:Value) (h:H) (Q:K1) (H0:yi8g x0 x1 x2 x3 x4 x5 h Q):AM.Spec PG ynur [x0,x1,x2,x3,x4,x5] h Q :=
 spE mixed E5_ok Tryz.func171 [] H0
def yg7x (x0 x1 x2:Value) (h:H) (Kn Kr:K0):Prop :=
 y394 x0 fun v8=>y0wt 4 v8 fun v9=>u_ix false 1 (some 4) v9 x1 h fun v11=>u_if v11 (y2x6 .u32 x1 fun v15=>yjdf PG ynur [x0,(.int .i64 20),(.int .i64 0),x2,(.int .i64 0),v15] h fun v16 h=>Kn h) (Kn h)
def y0kk (x0 x1 x2:Value) (h:H) (Q:K1):Prop:=yg7x x0 x1 x2 h (fun h=>bif [].all boxV then Q (.tuple #[]) h else False) (fun h=>bif [].all boxV then Q (.tuple #[]) h else False)
theorem ywms (x0 x1 x2:Value) (h:H) (Q:K1) (H0:y0kk x0 x1 x2 h Q):AM.Spec PG yv6u [x0,x1,x2] h Q :=
 spE mixed E5_ok Tryz.func170 [] H0
def y7ps (x0 x1:Value) (h:H) (Kn Kr:K0):Prop :=
 boxV x1=true∧u_new (Value.cells x1).toList yq0s .exact h fun b3 h=>u_bf false 1 2 (.pointer (some ⟨b3,0,none⟩)) h fun v6=>yjdf PG yv6u [x0,(.int .i64 3),v6] h fun v7 h=>y394 x0 fun v9=>y0wt 1 v9 fun v10=>u_bf false 1 0 v10 h fun v12=>u_if v12 (u_bf false 1 3 (.pointer (some ⟨b3,0,none⟩)) h fun v15=>u_bf false 1 2 (.pointer (some ⟨b3,0,none⟩)) h fun v17=>yjdf PG ynur [x0,(.int .i64 19),v15,v17,(.int .i64 0),(.int .u32 0)] h fun v18 h=>u_bf false 1 2 (.pointer (some ⟨b3,0,none⟩)) h fun v21=>u_bf false 1 3 (.pointer (some ⟨b3,0,none⟩)) h fun v23=>u_bf false 1 4 (.pointer (some ⟨b3,0,none⟩)) h fun v25=>yjdf PG ynur [x0,(.int .i64 18),(.int .i64 0),v21,v23,v25] h fun v26 h=>Kn h) (u_bf false 1 2 (.pointer (some ⟨b3,0,none⟩)) h fun v21=>u_bf false 1 3 (.pointer (some ⟨b3,0,none⟩)) h fun v23=>u_bf false 1 4 (.pointer (some ⟨b3,0,none⟩)) h fun v25=>yjdf PG ynur [x0,(.int .i64 18),(.int .i64 0),v21,v23,v25] h fun v26 h=>Kn h)
def yjbo (x0 x1:Value) (h:H) (Q:K1):Prop:=y7ps x0 x1 h (fun h=>bif [].all boxV then Q (.tuple #[]) h else False) (fun h=>bif [].all boxV then Q (.tuple #[]) h else False)
theorem yfn0 (x0 x1:Value) (h:H) (Q:K1) (H0:yjbo x0 x1 h Q):AM.Spec PG ykhz [x0,x1] h Q :=
 spE mixed E5_ok Tryz.func168 [] H0
def y88j (x0 x3:Value) (h:H) (Kn:K2) (Kr:K0):Prop :=
 u_pf false 1 0 x0 h fun v12=>ybqh true 5 x3 h fun v13=>ynqb PG yf02 1 [(0,v13)] h fun v14 h=>yx4h yq0s 5 40 v12 v14 h fun v15 h=>y394 x0 fun v16=>u_st 1 0 v16 v15 h fun h=>Kn x0 x3 h
def ymm6 (x0 x3:Value) (h:H) (Kn Kr:K0):Prop :=
 u_bf false 1 1 x3 h fun v20=>u_bf false 1 2 x3 h fun v22=>u_bf false 1 4 x3 h fun v24=>yjdf PG ynur [x0,(.int .i64 17),v20,v22,(.int .i64 0),v24] h fun v25 h=>y394 x0 fun v27=>y0wt 1 v27 fun v28=>u_bf false 1 0 v28 h fun v30=>u_if v30 (u_bf false 1 1 x3 h fun v33=>u_bf false 1 2 x3 h fun v35=>yjdf PG ynur [x0,(.int .i64 19),v33,v35,(.int .i64 0),(.int .u32 0)] h fun v36 h=>Kn h) (Kn h)
def y91c (x0 x3:Value) (h:H) (Kn Kr:K0):Prop :=
 y88j x0 x3 h (fun y0 y3 h=>ymm6 y0 y3 h Kn Kr) Kr
def y0fj (x0 x1:Value) (h:H) (Kn Kr:K0):Prop :=
 boxV x1=true∧u_new (Value.cells x1).toList yq0s .exact h fun b3 h=>u_bf false 1 2 (.pointer (some ⟨b3,0,none⟩)) h fun v6=>yjdf PG yv6u [x0,(.int .i64 2),v6] h fun v7 h=>y91c x0 (.pointer (some ⟨b3,0,none⟩)) h Kn Kr
theorem yj1e {Kn Kr:K0} {t:T} {h:H} (H0:y0fj (t 0) (t 1) h Kn Kr):Wp PG 37 (ygjk Tryz.f169.body) (mkQ (q0 Kn) (q0 Kr) ke0) t h :=
 (toE E5_ok 2 H0 fun t h (H:y91c (t 0) (t 3) h Kn Kr)=>(sqE (q2 (fun y0 y3 h=>ymm6 y0 y3 h Kn Kr) 0 3) (drE E5_ok [0,1,2,3,4,5,6,7,8,9,10] H) fun t h H=>(wpE E5_ok H)))
def yk3h (x0 x1:Value) (h:H) (Q:K1):Prop:=y0fj x0 x1 h (fun h=>bif [].all boxV then Q (.tuple #[]) h else False) (fun h=>bif [].all boxV then Q (.tuple #[]) h else False)
theorem ybhz (x0 x1:Value) (h:H) (Q:K1) (H0:yk3h x0 x1 h Q):AM.Spec PG yfaz [x0,x1] h Q :=
 spH mixed Tryz.func169 [] (yj1e H0)
def yu4f (x0 x3:Value) (h:H) (Kn:K2) (Kr:K0):Prop :=
 u_bf false 1 0 x3 h fun v5=>u_bin PG .eql T_int v5 (.int .i64 7) fun v7=>u_if v7 (ybqh true 5 x3 h fun v9=>yjdf PG ykhz [x0,v9] h fun v10 h=>Kr h) (u_bin PG .eql T_int v5 (.int .i64 6) fun v12=>u_if v12 (ybqh true 5 x3 h fun v14=>yjdf PG yfaz [x0,v14] h fun v15 h=>Kr h) (u_bin PG .eql T_int v5 (.int .i64 21) fun v17=>u_if v17 (u_bf false 1 2 x3 h fun v20=>yjdf PG yv6u [x0,(.int .i64 1),v20] h fun v21 h=>Kn x0 x3 h) (Kn x0 x3 h)))
def ycok (x0 x3:Value) (h:H) (Kn:K2) (Kr:K0):Prop :=
 u_pf false 1 0 x0 h fun v26=>ybqh true 5 x3 h fun v27=>ynqb PG yf02 1 [(0,v27)] h fun v28 h=>yx4h yq0s 5 40 v26 v28 h fun v29 h=>y394 x0 fun v30=>u_st 1 0 v30 v29 h fun h=>Kn x0 x3 h
def y81u (x0 x3:Value) (h:H) (Kn Kr:K0):Prop :=
 u_bf false 1 0 x3 h fun v33=>u_bin PG .eql T_int v33 (.int .i64 2) fun v35=>u_if v35 (u_bf false 1 1 x3 h fun v38=>u_bf false 1 4 x3 h fun v40=>yjdf PG ynur [x0,(.int .i64 14),v38,(.int .i64 0),(.int .i64 0),v40] h fun v41 h=>Kn h) (u_bin PG .eql T_int v33 (.int .i64 3) fun v43=>u_if v43 (u_bf false 1 2 x3 h fun v46=>u_bf false 1 4 x3 h fun v48=>yjdf PG ynur [x0,(.int .i64 15),(.int .i64 0),v46,(.int .i64 0),v48] h fun v49 h=>Kn h) (u_bin PG .eql T_int v33 (.int .i64 4) fun v51=>u_if v51 (u_bf false 1 1 x3 h fun v54=>u_bf false 1 2 x3 h fun v56=>u_bf false 1 3 x3 h fun v58=>u_bf false 1 4 x3 h fun v60=>yjdf PG ynur [x0,(.int .i64 16),v54,v56,v58,v60] h fun v61 h=>Kn h) (Kn h)))
def ynk5 (x0 x3:Value) (h:H) (Kn Kr:K0):Prop :=
 ycok x0 x3 h (fun y0 y3 h=>y81u y0 y3 h Kn Kr) Kr
def y9qp (x0 x3:Value) (h:H) (Kn Kr:K0):Prop :=
 yu4f x0 x3 h (fun y0 y3 h=>ynk5 y0 y3 h Kn Kr) Kr
def yayd (x0 x1:Value) (h:H) (Kn Kr:K0):Prop :=
 boxV x1=true∧u_new (Value.cells x1).toList yq0s .exact h fun b3 h=>y9qp x0 (.pointer (some ⟨b3,0,none⟩)) h Kn Kr
theorem yko2 {Kn Kr:K0} {t:T} {h:H} (H0:yayd (t 0) (t 1) h Kn Kr):Wp PG 62 (ygjk Tryz.f64.body) (mkQ (q0 Kn) (q0 Kr) ke0) t h :=
 (toE E5_ok 1 H0 fun t h (H:y9qp (t 0) (t 3) h Kn Kr)=>(sqE (q2 (fun y0 y3 h=>ynk5 y0 y3 h Kn Kr) 0 3) (wpE E5_ok H) fun t h H=>(sqE (q2 (fun y0 y3 h=>y81u y0 y3 h Kn Kr) 0 3) (drE E5_ok [0,1,2,3,4,5,6,7,8,9,10] H) fun t h H=>(wpE E5_ok H))))
def yblq (x0 x1:Value) (h:H) (Q:K1):Prop:=yayd x0 x1 h (fun h=>bif [].all boxV then Q (.tuple #[]) h else False) (fun h=>bif [].all boxV then Q (.tuple #[]) h else False)
theorem yvyn (x0 x1:Value) (h:H) (Q:K1) (H0:yblq x0 x1 h Q):AM.Spec PG yury [x0,x1] h Q :=
 spH mixed Tryz.func64 [] (yko2 H0)
def yb1r (x0 x1 x7 x8:Value) (h:H) (Kn:K4) (Kr:K1) (Ke0:K0):Prop :=
 u_bin PG .lss T_int x8 x7 fun v9=>u_if v9 (u_ix true 5 none x0 x8 h fun v15=>u_dyn PG x1 [v15] h fun v16 h=>u_if v16 (Kr x8 h) (u_bin PG .add T_int x8 (.int .i64 1) fun v18=>Kn x0 x1 x7 v18 h)) (Ke0 h)
def ylg1 (x0 x1 x7 x8:Value) (h:H) (Kn:K0) (Kr:K1) (Ke0:K0):Prop :=
 sloop (S:=Value×Value×Value×Value) (fun s h K=>yb1r s.1 s.2.1 s.2.2.1 s.2.2.2 h (fun y0 y1 y7 y8 h=>K (y0,y1,y7,y8) h) Kr Ke0) (x0,x1,x7,x8) h
def yohb (x0 x1 x7 x8:Value) (h:H) (Kn:K0) (Kr:K1):Prop :=
 ylg1 x0 x1 x7 x8 h Kn Kr Kn
def yo6v (x0 x1:Value) (h:H) (Kn:K0) (Kr:K1):Prop :=
 ywmm x0 fun v7=>yohb x0 x1 v7 (.int .i64 0) h Kn Kr
def yi9c (h:H) (Kn Kr:K1):Prop :=
 Kr (.int .i64 (-1)) h
def y9z2 (x0 x1:Value) (h:H) (Kn Kr:K1):Prop :=
 yo6v x0 x1 h (fun h=>yi9c h Kn Kr) Kr
def ywnq (x0 x1:Value) (h:H) (Kn Kr:K1):Prop :=
 y9z2 x0 x1 h Kn Kr
theorem ybg5 {Kn Kr:K1} {t:T} {h:H} (H0:ywnq (t 0) (t 1) h Kn Kr):Wp PG 19 (ygjk Tryz.f172.body) (mkQ (q1 Kn 4) (q1 Kr 4) ke0) t h :=
 (toE E5_ok 1 H0 fun t h (H:y9z2 (t 0) (t 1) h Kn Kr)=>(sqE (q0 (fun h=>yi9c h Kn Kr)) (toE E5_ok 1 H fun t h (H:yohb (t 0) (t 1) (t 7) (t 8) h (fun h=>yi9c h Kn Kr) Kr)=>(bkE 0 (lpE (fun t=>(t 0,t 1,t 7,t 8)) H fun t h K H=>(wpE E5_ok H)))) fun t h H=>(wpE E5_ok H)))
def y356 (x0 x1:Value) (h:H) (Q:K1):Prop:=ywnq x0 x1 h Q Q
theorem ygge (x0 x1:Value) (h:H) (Q:K1) (H0:y356 x0 x1 h Q):AM.Spec PG ywwv [x0,x1] h Q :=
 spH mixed Tryz.func172 [4] (ybg5 H0)
def yqe8 (x0 x1:Value) (h:H) (Kn Kr:K1):Prop :=
 yjdf PG ywwv [x0,x1] h fun v7 h=>u_bin PG .geq T_int v7 (.int .i64 0) fun v8=>Kr v8 h
def yfm5 (x0 x1:Value) (h:H) (Q:K1):Prop:=yqe8 x0 x1 h Q Q
theorem yxpm (x0 x1:Value) (h:H) (Q:K1) (H0:yfm5 x0 x1 h Q):AM.Spec PG ymgs [x0,x1] h Q :=
 spE mixed E5_ok Tryz.func65 [4] H0
def y8o7 (x0:Value) (h:H) (Kn Kr:K1):Prop :=
 boxV x0=true∧u_new (Value.cells x0).toList yq0s .exact h fun b1 h=>u_bf false 1 0 (.pointer (some ⟨b1,0,none⟩)) h fun v4=>u_bin PG .geq T_int v4 (.int .i64 14) fun v5=>ydv6 v5 true (fun k6=>u_bf false 1 0 (.pointer (some ⟨b1,0,none⟩)) h fun v8=>u_bin PG .leq T_int v8 (.int .i64 20) fun v9=>k6 v9 h) (fun v9 h=>y9rg v5 v9 (.bool false) fun v10=>Kr v10 h) h
def ywq3 (x0:Value) (h:H) (Q:K1):Prop:=y8o7 x0 h Q Q
theorem yq72 (x0:Value) (h:H) (Q:K1) (H0:ywq3 x0 h Q):AM.Spec PG yqlt [x0] h Q :=
 spE mixed E5_ok Tryz.func66 [2] H0
def y1gh (x0 x5 x7 x14 x15 x16:Value) (h:H) (Kn:K5) (Kr:K1) (Ke1:K5) (Ke0:K2):Prop :=
 u_bf false 1 0 x7 h fun v30=>y394 x5 fun v31=>y0wt 4 v31 fun v32=>yji6 (some 4) 1 v32 v30 fun v33=>ylel 1 v33 (.bool true) h fun h=>Kn x0 x5 x14 x15 x16 h
def y0ut (x0 x5 x14 x15 x16:Value) (h:H) (Kn:K5) (Kr:K1) (Ke1:K5) (Ke0:K2):Prop :=
 Kn x0 x5 x14 x15 x16 h
def ylnk (x0 x5 x7 x14 x15 x16 x27:Value) (h:H) (Kn:K5) (Kr:K1) (Ke1:K5) (Ke0:K2):Prop :=
 u_if x27 (y1gh x0 x5 x7 x14 x15 x16 h Kn Kr Ke1 Ke0) (y0ut x0 x5 x14 x15 x16 h Kn Kr Ke1 Ke0)
def yupo (x0 x5 x14 x15 x16:Value) (h:H) (Kn:K5) (Kr:K1) (Ke1:K5) (Ke0:K2):Prop :=
 u_ix true 3 none x14 x16 h fun v19=>u_new [.int .i64 0,.int .i64 0,.int .u8 0] yti5 .exact h fun b7 h=>ylel 3 (.pointer (some ⟨b7,0,none⟩)) v19 h fun h=>u_bf false 1 0 (.pointer (some ⟨b7,0,none⟩)) h fun v21=>u_bin PG .geq T_int v21 (.int .i64 1) fun v22=>ydv6 v22 true (fun k6=>u_bf false 1 0 (.pointer (some ⟨b7,0,none⟩)) h fun v25=>u_bin PG .leq T_int v25 (.int .i64 3) fun v26=>k6 v26 h) (fun v26 h=>y9rg v22 v26 (.bool false) fun v27=>ylnk x0 x5 (.pointer (some ⟨b7,0,none⟩)) x14 x15 x16 v27 h Kn Kr Ke1 Ke0) h
def ynz3 (x0 x5 x14 x15 x16:Value) (h:H) (Kn:K5) (Kr:K1) (Ke0:K2):Prop :=
 yupo x0 x5 x14 x15 x16 h Kn Kr Kn Ke0
def yfls (x0 x5 x14 x15 x16:Value) (h:H) (Kn:K5) (Kr:K1) (Ke0:K2):Prop :=
 u_bin PG .add T_int x16 (.int .i64 1) fun v34=>Kn x0 x5 x14 x15 v34 h
def ya55 (x0 x5 x14 x15 x16:Value) (h:H) (Kn:K5) (Kr:K1) (Ke0:K2):Prop :=
 ynz3 x0 x5 x14 x15 x16 h (fun y0 y5 y14 y15 y16 h=>yfls y0 y5 y14 y15 y16 h Kn Kr Ke0) Kr Ke0
def yjl9 (x0 x5 x14 x15 x16:Value) (h:H) (Kn:K5) (Kr:K1) (Ke0:K2):Prop :=
 u_bin PG .lss T_int x16 x15 fun v17=>u_if v17 (ya55 x0 x5 x14 x15 x16 h Kn Kr Ke0) (Ke0 x0 x5 h)
def ywy5 (x0 x5 x14 x15 x16:Value) (h:H) (Kn:K2) (Kr:K1) (Ke0:K2):Prop :=
 sloop (S:=Value×Value×Value×Value×Value) (fun s h K=>yjl9 s.1 s.2.1 s.2.2.1 s.2.2.2.1 s.2.2.2.2 h (fun y0 y5 y14 y15 y16 h=>K (y0,y5,y14,y15,y16) h) Kr Ke0) (x0,x5,x14,x15,x16) h
def yj78 (x0 x5 x14 x15 x16:Value) (h:H) (Kn:K2) (Kr:K1):Prop :=
 ywy5 x0 x5 x14 x15 x16 h Kn Kr Kn
def yt35 (x0 x3 x5:Value) (h:H) (Kn:K2) (Kr:K1):Prop :=
 u_bf false 1 2 x3 h fun v14=>ywmm v14 fun v15=>yj78 x0 x5 v14 v15 (.int .i64 0) h Kn Kr
def y04c (x0 x5 x35 x36 x37:Value) (h:H) (Kn:K5) (Kr:K1) (Ke2:K2):Prop :=
 u_bin PG .lss T_int x37 x36 fun v38=>u_if v38 (u_ix true 5 none x35 x37 h fun v40=>u_new [.int .i64 0,.int .i64 0,.int .i64 0,.int .i64 0,.int .u32 0] yq0s .exact h fun b9 h=>ylel 5 (.pointer (some ⟨b9,0,none⟩)) v40 h fun h=>ybqh true 5 (.pointer (some ⟨b9,0,none⟩)) h fun v42=>yjdf PG yury [x5,v42] h fun v43 h=>u_bin PG .add T_int x37 (.int .i64 1) fun v44=>Kn x0 x5 x35 x36 v44 h) (Ke2 x0 x5 h)
def yg4d (x0 x5 x35 x36 x37:Value) (h:H) (Kn:K2) (Kr:K1) (Ke2:K2):Prop :=
 sloop (S:=Value×Value×Value×Value×Value) (fun s h K=>y04c s.1 s.2.1 s.2.2.1 s.2.2.2.1 s.2.2.2.2 h (fun y0 y5 y35 y36 y37 h=>K (y0,y5,y35,y36,y37) h) Kr Ke2) (x0,x5,x35,x36,x37) h
def yfwq (x0 x5 x35 x36 x37:Value) (h:H) (Kn:K2) (Kr:K1):Prop :=
 yg4d x0 x5 x35 x36 x37 h Kn Kr Kn
def ynef (x0 x5:Value) (h:H) (Kn:K2) (Kr:K1):Prop :=
 ywmm x0 fun v36=>yfwq x0 x5 x0 v36 (.int .i64 0) h Kn Kr
def yu1f (x0 x5:Value) (h:H) (Kn Kr:K1):Prop :=
 u_pf false 1 0 x5 h fun v48=>yjdf PG yym2 [v48] h fun v49 h=>u_un PG .not v49 fun v50=>ydv6 v50 false (fun k8=>yjdf PG ymgs [x0,(.func (.func yqlt) #[] #[])] h fun v53 h=>k8 v53 h) (fun v53 h=>y9rg v50 (.bool true) v53 fun v54=>u_if v54 (Kr (.slice none 0 0) h) (u_pf false 1 0 x5 h fun v58=>Kr v58 h)) h
def y0o7 (x0 x5:Value) (h:H) (Kn Kr:K1):Prop :=
 ynef x0 x5 h (fun y0 y5 h=>yu1f y0 y5 h Kn Kr) Kr
def y9o7 (x0 x3 x5:Value) (h:H) (Kn Kr:K1):Prop :=
 yt35 x0 x3 x5 h (fun y0 y5 h=>y0o7 y0 y5 h Kn Kr) Kr
def yf2z (x0 x1:Value) (h:H) (Kn Kr:K1):Prop :=
 boxV x1=true∧u_new (Value.cells x1).toList y4pp .exact h fun b3 h=>ybqh true 3 (.pointer (some ⟨b3,0,none⟩)) h fun v10=>ysnr PG ypyw [(1,v10)] fun v11=>boxV v11=true∧u_new (Value.cells v11).toList ypyw .exact h fun b12 h=>y9o7 x0 (.pointer (some ⟨b3,0,none⟩)) (.pointer (some ⟨b12,0,none⟩)) h Kn Kr
theorem ylj5 {Kn:K5} {Kr:K1} {Ke0:K2} {t:T} {h:H} (H0:ynz3 (t 0) (t 5) (t 14) (t 15) (t 16) h Kn Kr Ke0):Wp PG 59 (seqL (rest 2 (lopC (blkC (rest 1 (seqL (rest 2 (ygjk Tryz.f18.body)))))))) (mkQ (q5 Kn 0 5 14 15 16) (q1 Kr 4) (keAdd 0 (q2 Ke0 0 5) ke0)) t h :=
 (bkE 1 (toE E5_ok 2 H0 fun t h (H:ylnk (t 0) (t 5) (t 7) (t 14) (t 15) (t 16) (t 27) h Kn Kr Kn Ke0)=>(cdE H (fun H=>(drE E5_ok [0,1,2,3,4,5,6] H)) fun H=>(wpE E5_ok H))))
theorem ymyi {Kn Kr:K1} {t:T} {h:H} (H0:y9o7 (t 0) (t 3) (t 5) h Kn Kr):Wp PG 59 (rest 2 (ygjk Tryz.f18.body)) (mkQ (q1 Kn 4) (q1 Kr 4) ke0) t h :=
 (sqE (q2 (fun y0 y5 h=>y0o7 y0 y5 h Kn Kr) 0 5) (toE E5_ok 1 H0 fun t h (H:yj78 (t 0) (t 5) (t 14) (t 15) (t 16) h (fun y0 y5 h=>y0o7 y0 y5 h Kn Kr) Kr)=>(bkE 0 (lpE (fun t=>(t 0,t 5,t 14,t 15,t 16)) H fun t h K H=>(toE E5_ok 2 H fun t h (H:ya55 (t 0) (t 5) (t 14) (t 15) (t 16) h (fun y0 y5 y14 y15 y16 h=>K (y0,y5,y14,y15,y16) h) Kr (fun y0 y5 h=>y0o7 y0 y5 h Kn Kr))=>(sqE _ (ylj5 H) fun t h H=>(wpE E5_ok H)))))) fun t h H=>(sqE (q2 (fun y0 y5 h=>yu1f y0 y5 h Kn Kr) 0 5) (toE E5_ok 1 H fun t h (H:yfwq (t 0) (t 5) (t 35) (t 36) (t 37) h (fun y0 y5 h=>yu1f y0 y5 h Kn Kr) Kr)=>(bkE 2 (lpE (fun t=>(t 0,t 5,t 35,t 36,t 37)) H fun t h K H=>(wpE E5_ok H)))) fun t h H=>(wpE E5_ok H)))
theorem yiqv {Kn Kr:K1} {t:T} {h:H} (H0:yf2z (t 0) (t 1) h Kn Kr):Wp PG 59 (ygjk Tryz.f18.body) (mkQ (q1 Kn 4) (q1 Kr 4) ke0) t h :=
 (toE E5_ok 2 H0 fun t h (H:y9o7 (t 0) (t 3) (t 5) h Kn Kr)=>(ymyi H))
def yydt (x0 x1:Value) (h:H) (Q:K1):Prop:=yf2z x0 x1 h Q Q
theorem yx2c (x0 x1:Value) (h:H) (Q:K1) (H0:yydt x0 x1 h Q):AM.Spec PG y96d [x0,x1] h Q :=
 spH mixed Tryz.func18 [4] (yiqv H0)
end Go.Proofs.YtnckimioabkheaaGreat
set_option linter.unusedSimpArgs false
set_option linter.unusedVariables false
set_option maxRecDepth 100000
set_option maxHeartbeats 4000000
namespace Go.Proofs.YtnckimioabkheaaGreat
open AM
def watN (w:Int→Bool) (k t:Int):List Nd:=if w k=true then [⟨20,0,t,0,k⟩] else []
def ptrN (p:Bool) (to a:Int):List Nd:=if p=true then [⟨19,to,a,0,0⟩] else []
def tagN (n:Nd):List Nd :=
 if n.op=2 then [⟨14,n.to,0,0,n.v⟩] else if n.op=3 then [⟨15,0,n.a,0,n.v⟩] else if n.op=4 then [⟨16,n.to,n.a,n.b,n.v⟩] else []
def wvN (w:Int→Bool) (p:Bool) (n:Nd):List Nd :=
 if n.op=7 then watN w 3 n.a++ptrN p n.b n.a++[⟨18,0,n.a,n.b,n.v⟩]
 else if n.op=6 then watN w 2 n.a++[n]++[⟨17,n.to,n.a,0,n.v⟩]++ptrN p n.to n.a
 else (if n.op=21 then watN w 1 n.a else [])++[n]++tagN n
def yyha (w:Int→Bool) (p:Bool) (l:List Nd):List Nd:=l.flatMap (wvN w p)
section
variable {w:Int→Bool} {p:Bool}
theorem yzy0 {n:Nd} {th:Int→Bool} (ho:opOk n=true) (hg:ywct [n] th=true):ywct (wvN w p n) th=true∧aft (wvN w p n) th=aft [n] th:=by
 obtain ⟨op,to,a,b,v⟩:=n
 simp only [opOk,Bool.or_eq_true,decide_eq_true_eq] at ho
 have h1:1≤op:=by simp only [ywct,yln3,Bool.and_eq_true,decide_eq_true_eq] at hg;omega
 have hop:op=1∨op=2∨op=3∨op=4∨op=5∨op=6∨op=7∨op=8∨op=9∨op=10∨op=11∨op=12∨op=13∨op=21:=by omega
 clear ho h1
 unfold wvN watN ptrN tagN
 cases p <;> cases w 1 <;> cases w 2 <;> cases w 3 <;> rcases hop with rfl | rfl | rfl | rfl | rfl | rfl | rfl | rfl | rfl | rfl | rfl | rfl | rfl | rfl <;>
  (revert hg;simp [ywct,aft,yln3,ykl2,hasL,yalu,tagsB,rl,y65c,put,yyyr] <;> grind)
theorem yesq {n:Nd} {r:List Nd} {th:Int→Bool}:ywct (n::r) th=(ywct [n] th&&ywct r (aft [n] th)):=yh43 (a:=[n])
theorem ycad:∀{l:List Nd} {th:Int→Bool},l.all opOk=true→ywct l th=true→ywct (yyha w p l) th=true
 | [],_,_,_=>rfl
 | n::r,th,ho,hg=>by
   rw [yesq,Bool.and_eq_true] at hg
   rw [List.all_cons,Bool.and_eq_true] at ho
   obtain ⟨h1,h2⟩:=yzy0 (w:=w) (p:=p) ho.1 hg.1
   unfold yyha
   rw [List.flatMap_cons,yh43,h1,h2,Bool.true_and]
   exact ycad ho.2 hg.2
def wvM (op:Int):Nat:=if op=6 then 4 else if op=7 then 3 else if op=21∨op=2∨op=3∨op=4 then 2 else 1
theorem yk84 {n:Nd}:(wvN w p n).length≤wvM n.op:=by
 unfold wvN wvM watN ptrN tagN
 cases p <;> cases w 1 <;> cases w 2 <;> cases w 3 <;> simp <;> grind
def wvS:List Nd→Nat
 | []=>0
 | n::r=>wvM n.op+wvS r
theorem yxhb:∀{a b:List Nd},wvS (a++b)=wvS a+wvS b
 | [],b=>by simp [wvS]
 | n::r,b=>by simp only [List.cons_append,wvS,yxhb (a:=r)];omega
theorem y0ki:∀{l:List Nd},(yyha w p l).length≤wvS l
 | []=>Nat.le_refl _
 | n::r=>by
   have h1:=yk84 (w:=w) (p:=p) (n:=n)
   have h2:=y0ki (l:=r)
   unfold yyha at *
   rw [List.flatMap_cons,List.length_append,wvS]
   omega
theorem ysa2 {pc:Int} {i:Ins}:wvS (oneN pc i)≤2*(oneN pc i).length:=by
 obtain ⟨op,rd,r1,r2,imm⟩:=i
 have hs:∀{r t:Int},wvS (setN r t)≤2*(setN r t).length:=fun {r t}=>by unfold setN;split <;> simp [wvS,wvM]
 unfold oneN jalN jalrN ykm8 memN reckN addrN getN numN
 repeat' split
 all_goals simp only [List.cons_append,List.nil_append,List.append_assoc,wvS,yxhb,wvM,List.length_cons,List.length_append,List.length_nil]
 all_goals first
  | (have:=@hs rd 3;simp at *;omega)
  | (have:=@hs rd 0;simp at *;omega)
  | (have:=@hs rd 2;simp at *;omega)
  | (simp;done)
theorem y0r0 {l:List Ins} {pc:Int}:∀n,wvS (ygxs l pc n).1≤2*(ygxs l pc n).1.length
 | 0=>Nat.le_refl _
 | n+1=>by
   have h1:=y0r0 (l:=l) (pc:=pc) n
   have h2:=ysa2 (pc:=(ygxs l pc n).2) (i:=l.getD n (0,0,0,0,0))
   simp only [ygxs,yxhb,List.length_append]
   omega
theorem yl20 {l:List Ins} {pc:Int}:wvS (makeN pc l)≤2*(makeN pc l).length:=by
 have h:=y0r0 (l:=l) (pc:=pc) l.length
 unfold makeN
 split
 ·exact Nat.le_refl _
 split
 ·rw [yxhb,List.length_append]
  have:wvS [⟨12,0,0,0,(ygxs l pc l.length).2⟩]=1:=rfl
  simp only [List.length_cons,List.length_nil]
  omega
 ·exact h
theorem yrf6 {n:Nd} (h:8≤n.op∧n.op≤13):wvN w p n=[n]:=by
 unfold wvN tagN
 rw [if_neg (by omega),if_neg (by omega),if_neg (by omega),if_neg (by omega),if_neg (by omega),if_neg (by omega)];rfl
theorem wv_ne {n:Nd}:wvN w p n≠[]:=by
 unfold wvN
 split
 ·simp
 split <;> simp
theorem ykd8:∀{l:List Nd},11≤yg6t l∧yg6t l≤13→yg6t (yyha w p l)=yg6t l
 | [],h=>rfl
 | [n],h=>by
   have h':11≤n.op∧n.op≤13:=h
   unfold yyha
   rw [List.flatMap_cons,yrf6 (by omega)];rfl
 | n::m::r,h=>by
   have ih:=ykd8 (l:=m::r) h
   have hne:yyha w p (m::r)≠[]:=by
    unfold yyha
    rw [List.flatMap_cons]
    have:=wv_ne (w:=w) (p:=p) (n:=m)
    simp [this]
   unfold yyha at *
   rw [List.flatMap_cons,yedm hne,ih];rfl
theorem ylmj {l:List Nd} (ho:l.all opOk=true) (hg:goodB l=true) (hl:wvS l≤2000):goodB (yyha w p l)=true:=by
 have hlen:=y0ki (w:=w) (p:=p) (l:=l)
 cases l with
 | nil=>cases hg
 | cons n r =>
   simp only [goodB,Bool.and_eq_true,decide_eq_true_eq] at hg
   obtain ⟨⟨⟨h1,h2⟩,h3⟩,h4⟩:=hg
   have hr:=ycad (w:=w) (p:=p) ho h3
   have hla:=ykd8 (w:=w) (p:=p) h4
   have e:yyha w p (n::r)=n::yyha w p r:=by unfold yyha;rw [List.flatMap_cons,yrf6 (by omega)];rfl
   rw [e] at hr hla hlen ⊢
   simp only [goodB,Bool.and_eq_true,decide_eq_true_eq]
   exact ⟨⟨⟨by omega,h2⟩,hr⟩,by rw [hla];exact h4⟩
theorem ywvk {l:List Nd} (hw:∀k,w k=false) (ho:l.all opOk=true):∀n∈yyha w p l,n.op≠20:=by
 intro n hn
 unfold yyha at hn
 obtain ⟨m,hm,hn⟩:=List.mem_flatMap.1 hn
 have h1:=List.all_eq_true.1 ho m hm
 simp only [opOk,Bool.or_eq_true,decide_eq_true_eq] at h1
 unfold wvN watN ptrN tagN at hn
 simp only [hw] at hn
 revert hn
 cases p <;> grind
end
end Go.Proofs.YtnckimioabkheaaGreat
set_option linter.unusedSimpArgs false
set_option linter.unusedVariables false
set_option maxRecDepth 100000
set_option maxHeartbeats 4000000
namespace Go.Proofs.YtnckimioabkheaaGreat
open AM
def wvC (v:Value) (p:Bool) (s k:Value) (w:Int→Bool):List Value:=[v,.bool p,s,k,.bool (w 0),.bool (w 1),.bool (w 2),.bool (w 3)]
def WK (h0 h:H) (m:Nat) (p:Bool) (s k:Value) (w:Int→Bool) (l:List Nd):Prop:=∃v,h m=some (.cells (wvC v p s k w) ypyw .exact)∧Gr Nd.cells 5 yq0s h0 h v l∧Sub h0 h∧h0 m=none
section
variable {h0 h:H} {m:Nat} {p:Bool} {s k:Value} {w:Int→Bool} {l:List Nd} {K:K1}
theorem WK.new (hm:WK h0 h m p s k w l) {b:Nat} {q:AObj} (hb:h b=none):WK h0 (upd h b q) m p s k w l:=by
 obtain ⟨v,e,hg,hs,hn⟩:=hm
 have:m≠b:=fun x=>by rw [x,hb] at e;cases e
 refine ⟨v,(yrkk _ _ this).trans e,hg.keep fun c hc=>yrkk _ _ fun x=>hg.there hc (x▸hb),hs.newer hb,hn⟩
theorem WK.ne (hm:WK h0 h m p s k w l) {b:Nat} (hb:h b=none):b≠m:=by
 obtain ⟨v,e,hg,hs,hn⟩:=hm
 exact fun x=>by rw [← x,hb] at e;cases e
theorem yi8p {n:Nd} {v:Value} {cs:List Value} (e:h m=some (.cells (wvC v p s k w) ypyw .exact)) (hg:Gr Nd.cells 5 yq0s h0 h v l) (hs:Sub h0 h) (hn:h0 m=none) (hl:l.length<1000000) (hcs:cs=n.cells) {K:H→Prop}
 (hk:∀h',WK h0 h' m p s k w (l++[n])→Keep m h h'→K h') :
 u_new cs yq0s .exact h fun b h=>yx4h yq0s 5 40 v (.slice (some ⟨b,0,none⟩) 1 1) h fun v' h=>y394 (ptr m 0) fun v2=>u_st 1 0 v2 v' h fun h=>K h:=by
 refine yw9z (x:=n) hg hs rfl (by omega) (by omega) (by omega) (fun v' h' g' s' hke hfr=>?_) hcs
 have e':=hke _ _ e (hg.exact_ne e)
 simp (config:={dsimp:=false}) [e',wvC,g'.cells1,g'.sl.box]
 refine hk _ ⟨v',by simp [upd,wvC],g'.over e' (by simp),Sub.upd s' hn,hn⟩ ?_
 intro c cs E hc hq
 rw [yrkk _ _ hc]
 exact hke _ _ hq (hg.exact_ne hq)
theorem y8uz {op to a b x:Int} (hm:WK h0 h m p s k w l) (hl:l.length<1000000)
 (hk:∀h',WK h0 h' m p s k w (l++[⟨op,to,a,b,x⟩])→Keep m h h'→K (.tuple #[]) h') :
 AM.Spec PG ynur [ptr m 0,.int .i64 op,.int .i64 to,.int .i64 a,.int .i64 b,.int .u32 x] h K:=by
 obtain ⟨v,e,hg,hs,hn⟩:=hm
 refine yrta _ _ _ _ _ _ _ _ ?_
 have e0:(wvC v p s k w)[0]?=some v:=rfl
 simp (config:={dsimp:=false}) [↓yi8g,↓y769,yb3e e,e0]
 exact yi8p (n:=⟨op,to,a,b,x⟩) e hg hs hn hl rfl hk
theorem y822 {i:Nat} {a:Int} (hi:1≤i∧i≤3) (hm:WK h0 h m p s k w l) (hl:l.length<1000000)
 (hk:∀h',WK h0 h' m p s k w (l++watN w i a)→Keep m h h'→K (.tuple #[]) h'):AM.Spec PG yv6u [ptr m 0,.int .i64 i,.int .i64 a] h K:=by
 refine ywms _ _ _ _ _ ?_
 unfold y0kk yg7x
 have hw:∀(K:Value→Prop) (u:Dm K),u_ix false 1 (some 4) (.pointer (some ⟨m,4,none⟩)) (.int .i64 i) h K u=K (.bool (w i)):=by
  obtain ⟨v,e,_⟩:=hm
  intro K u
  rcases (by omega:i=1∨i=2∨i=3) with rfl | rfl | rfl <;> simp (config:={dsimp:=false}) [yb3e e,wvC]
 simp (config:={dsimp:=false}) only [s_nil,s_fa,Nat.zero_add,hw,s_if]
 unfold watN at hk
 split
 ·rename_i c
  rw [if_pos c] at hk
  have w1:IntKind.u32.wrap (i:Int)=i:=w_u32 (by omega) (by omega)
  simp (config:={dsimp:=false}) only [ym88,w1]
  exact ⟨rfl,y8uz hm hl hk⟩
 ·rename_i c
  rw [if_neg c,List.append_nil] at hk
  exact hk h hm fun _ _ _ _ e=>e
theorem WK.mono {h':H} (hm:WK h0 h m p s k w l) (hs':Sub h h'):WK h0 h' m p s k w l:=by
 obtain ⟨v,e,hg,hs,hn⟩:=hm
 exact ⟨v,hs' _ _ e,yfv7 hg fun c cs hh=>hs' _ _ hh,hs.trans hs',hn⟩
theorem Keep.sub {h1 h':H} (hs:Sub h h1) (hk:Keep m h1 h'):Keep m h h':=fun c cs E hc e=>hk c cs E hc (hs _ _ e)
theorem yn6u {i a:Int}:(watN w i a).length≤1:=by unfold watN;split <;> simp
theorem ydk6 {n:Nd} (hm:WK h0 h m p s k w l) (hl:l.length<999990)
 (hk:∀h',WK h0 h' m p s k w (l++(watN w 3 n.a++ptrN p n.b n.a++[⟨18,0,n.a,n.b,n.v⟩]))→Keep m h h'→K (.tuple #[]) h'):AM.Spec PG ykhz [ptr m 0,.agg n.cells.toArray] h K:=by
 obtain ⟨op,to,a,b,v⟩:=n
 refine yfn0 _ _ _ _ ?_
 unfold yjbo y7ps
 refine ⟨rfl,yd3h fun b3 h1 _ hb3 s1 c3=>?_⟩
 have c3:h1 b3=some (.cells [.int .i64 op,.int .i64 to,.int .i64 a,.int .i64 b,.int .u32 v] yq0s .exact):=c3
 have n3:=hm.ne hb3
 simp (config:={dsimp:=false}) [yb3e c3]
 refine ⟨rfl,y822 (i:=3) (by omega) (hm.mono s1) (by omega) fun h2 m2 k2=>?_⟩
 have hw:=yn6u (w:=w) (i:=3) (a:=a)
 have c3':=k2 _ _ _ n3 c3
 have pp:cellAt h2 m 1=some (.bool p):=by obtain ⟨v,e,_⟩:=m2;rw [yb3e e];rfl
 simp (config:={dsimp:=false}) [pp,yb3e c3']
 unfold ptrN at hk
 split
 ·rename_i c
  rw [if_pos c] at hk
  refine ⟨rfl,y8uz m2 (by simp;omega) fun h3 m3 k3=>?_⟩
  have c3'':=k3 _ _ _ n3 c3'
  simp (config:={dsimp:=false}) [yb3e c3'']
  refine ⟨rfl,y8uz m3 (by simp;omega) fun h4 m4 k4=>?_⟩
  exact hk h4 (by simpa using m4) (((k2.trans k3).trans k4).sub s1)
 ·rename_i c
  rw [if_neg c] at hk
  refine ⟨rfl,y8uz m2 (by simp;omega) fun h4 m4 k4=>?_⟩
  exact hk h4 (by simpa using m4) ((k2.trans k4).sub s1)
theorem y1bn {n:Nd} (hm:WK h0 h m p s k w l) (hl:l.length<999990)
 (hk:∀h',WK h0 h' m p s k w (l++(watN w 2 n.a++[n]++[⟨17,n.to,n.a,0,n.v⟩]++ptrN p n.to n.a))→Keep m h h'→K (.tuple #[]) h'):AM.Spec PG yfaz [ptr m 0,.agg n.cells.toArray] h K:=by
 obtain ⟨op,to,a,b,v⟩:=n
 refine ybhz _ _ _ _ ?_
 unfold yk3h y0fj
 refine ⟨rfl,yd3h fun b3 h1 _ hb3 s1 c3=>?_⟩
 have c3:h1 b3=some (.cells [.int .i64 op,.int .i64 to,.int .i64 a,.int .i64 b,.int .u32 v] yq0s .exact):=c3
 have n3:=hm.ne hb3
 simp (config:={dsimp:=false}) [yb3e c3]
 refine ⟨rfl,y822 (i:=2) (by omega) (hm.mono s1) (by omega) fun h2 m2 k2=>?_⟩
 have hw:=yn6u (w:=w) (i:=2) (a:=a)
 have c3':=k2 _ _ _ n3 c3
 have pp:∀{h':H} {l':List Nd},WK h0 h' m p s k w l'→cellAt h' m 1=some (.bool p):=fun m2=>by obtain ⟨v,e,_⟩:=m2;rw [yb3e e];rfl
 obtain ⟨lv,e,hg,hs,hn⟩:=m2
 have e0:(wvC lv p s k w)[0]?=some lv:=rfl
 simp (config:={dsimp:=false}) [↓y91c,↓y88j,yb3e e,e0,yzql c3']
 refine yi8p (n:=⟨op,to,a,b,v⟩) e hg hs hn (by simp;omega) rfl fun h3 m3 k3=>?_
 have c3'':=k3 _ _ _ n3 c3'
 simp (config:={dsimp:=false}) [↓ymm6,yb3e c3'']
 refine ⟨rfl,y8uz m3 (by simp;omega) fun h4 m4 k4=>?_⟩
 have c3t:=k4 _ _ _ n3 c3''
 simp (config:={dsimp:=false}) [pp m4,yb3e c3t]
 have k14:=((k2.trans k3).trans k4).sub s1
 unfold ptrN at hk
 split
 ·rename_i c
  rw [if_pos c] at hk
  refine ⟨rfl,y8uz m4 (by simp;omega) fun h5 m5 k5=>?_⟩
  exact hk h5 (by simpa using m5) (k14.trans k5)
 ·rename_i c
  rw [if_neg c] at hk
  exact hk h4 (by simpa using m4) k14
theorem y6vl {n:Nd} (hm:WK h0 h m p s k w l) (hl:l.length<999900)
 (hk:∀h',WK h0 h' m p s k w (l++wvN w p n)→Keep m h h'→K (.tuple #[]) h'):AM.Spec PG yury [ptr m 0,.agg n.cells.toArray] h K:=by
 obtain ⟨op,to,a,b,v⟩:=n
 refine yvyn _ _ _ _ ?_
 unfold yblq yayd
 refine ⟨rfl,yd3h fun b3 h1 _ hb3 s1 c3=>?_⟩
 have c3:h1 b3=some (.cells [.int .i64 op,.int .i64 to,.int .i64 a,.int .i64 b,.int .u32 v] yq0s .exact):=c3
 have n3:=hm.ne hb3
 have m1:=hm.mono s1
 have kp:=fun {h':H} (q:Keep m h1 h')=>q.sub s1
 unfold wvN at hk
 simp only at hk
 have fin:∀{h2:H} {l':List Nd},WK h0 h2 m p s k w l'→l'.length<999990→Keep m h1 h2→(∀ h',WK h0 h' m p s k w (l'++[⟨op,to,a,b,v⟩]++tagN ⟨op,to,a,b,v⟩)→Keep m h h'→K (.tuple #[]) h') →
  ynk5 (ptr m 0) (ptr b3 0) h2 (fun h=>bif [].all boxV then K (.tuple #[]) h else False) (fun h=>bif [].all boxV then K (.tuple #[]) h else False):=fun {h2 l'} m2 hl2 k2 hk=>by
  have c3':=k2 _ _ _ n3 c3
  obtain ⟨lv,e,hg,hs,hn⟩:=m2
  have e0:(wvC lv p s k w)[0]?=some lv:=rfl
  simp (config:={dsimp:=false}) [↓ynk5,↓ycok,yb3e e,e0,yzql c3']
  refine yi8p (n:=⟨op,to,a,b,v⟩) e hg hs hn (by omega) rfl fun h3 m3 k3=>?_
  have c3'':=k3 _ _ _ n3 c3'
  have hl3:(l'++[(⟨op,to,a,b,v⟩:Nd)]).length<1000000:=by simp;omega
  unfold tagN at hk
  simp only at hk
  by_cases o2:op=2
  ·rw [if_pos o2] at hk
   simp (config:={dsimp:=false}) [↓y81u,yb3e c3'',o2]
   exact ⟨rfl,y8uz m3 hl3 fun h4 m4 k4=>hk h4 m4 (kp ((k2.trans k3).trans k4))⟩
  by_cases o3:op=3
  ·rw [if_neg o2,if_pos o3] at hk
   simp (config:={dsimp:=false}) [↓y81u,yb3e c3'',o3]
   exact ⟨rfl,y8uz m3 hl3 fun h4 m4 k4=>hk h4 m4 (kp ((k2.trans k3).trans k4))⟩
  by_cases o4:op=4
  ·rw [if_neg o2,if_neg o3,if_pos o4] at hk
   simp (config:={dsimp:=false}) [↓y81u,yb3e c3'',o4]
   exact ⟨rfl,y8uz m3 hl3 fun h4 m4 k4=>hk h4 m4 (kp ((k2.trans k3).trans k4))⟩
  rw [if_neg o2,if_neg o3,if_neg o4,List.append_nil] at hk
  simp (config:={dsimp:=false}) [↓y81u,yb3e c3'',o2,o3,o4]
  exact hk h3 m3 (kp (k2.trans k3))
 by_cases o7:op=7
 ·rw [if_pos o7] at hk
  simp (config:={dsimp:=false}) [↓y9qp,↓yu4f,yb3e c3,yzql c3,o7]
  exact ⟨rfl,ydk6 (n:=⟨7,to,a,b,v⟩) m1 (by omega) fun h2 m2 k2=>hk h2 m2 (kp k2)⟩
 rw [if_neg o7] at hk
 by_cases o6:op=6
 ·rw [if_pos o6] at hk
  subst o6
  simp (config:={dsimp:=false}) [↓y9qp,↓yu4f,yb3e c3,yzql c3]
  exact ⟨rfl,y1bn (n:=⟨6,to,a,b,v⟩) m1 (by omega) fun h2 m2 k2=>hk h2 m2 (kp k2)⟩
 rw [if_neg o6] at hk
 by_cases o21:op=21
 ·rw [if_pos o21] at hk
  simp (config:={dsimp:=false}) [↓y9qp,↓yu4f,yb3e c3,o21]
  refine ⟨rfl,y822 (i:=1) (by omega) m1 (by omega) fun h2 m2 k2=>?_⟩
  have hw:=yn6u (w:=w) (i:=1) (a:=a)
  simp (config:={dsimp:=false})
  refine fin m2 (by simp;omega) k2 fun h3 m3 k3=>hk h3 ?_ k3
  simpa [o21] using m3
 ·rw [if_neg o21] at hk
  simp (config:={dsimp:=false}) [↓y9qp,↓yu4f,yb3e c3,o7,o6,o21]
  refine fin m1 (by omega) (fun _ _ _ _ e=>e) fun h3 m3 k3=>hk h3 ?_ k3
  simpa using m3
end
end Go.Proofs.YtnckimioabkheaaGreat
set_option linter.unusedSimpArgs false
set_option linter.unusedVariables false
set_option maxRecDepth 100000
set_option maxHeartbeats 4000000
namespace Go.Proofs.YtnckimioabkheaaGreat
open AM
abbrev Sk:=Int×Int×Int
def skC (x:Sk):List Value:=[.int .i64 x.1,.int .i64 x.2.1,.int .u8 x.2.2]
def wfl (ks:List Sk) (n:Nat):Int→Bool:=fun i=>decide (1≤i∧i≤3)&&(ks.take n).any fun s=>decide (s.1=i)
theorem y4as {ks:List Sk} {n:Nat} (hn:n<ks.length) {j:Int}:wfl ks (n+1) j=(wfl ks n j||(decide (1≤j∧j≤3)&&decide (ks[n].1=j))):=by
 unfold wfl
 rw [List.take_succ_eq_append_getElem hn,List.any_append]
 simp only [List.any_cons,List.any_nil,Bool.or_false]
 cases decide (1≤j∧j≤3) <;> simp
theorem y8bm {ks:List Sk} {j:Int}:wfl ks 0 j=false:=by simp [wfl]
section
variable {h:H} {K:K1}
theorem _root_.Go.Proofs.YtnckimioabkheaaGreat.AM.Sl.form1 {α:Type} {enc:α→List Value} {sz:Nat} {v:Value} {l:List α} (hs:Sl enc sz h v l):∃a n c,v=.slice a n c:=by
 obtain ⟨_,⟨_,rfl⟩ | ⟨b,o,c,rfl,_⟩⟩:=hs
 ·exact ⟨_,_,_,rfl⟩
 ·exact ⟨_,_,_,rfl⟩
theorem ytp5 {x:Value} {l:List Nd} (hx:Sl Nd.cells 5 h x l) (ho:l.all opOk=true) (hl:l.length<1000000) (hk:∀h',Sub h h'→K (.bool false) h') :
 AM.Spec PG ymgs [x,.func (.func yqlt) #[] #[]] h K:=by
 refine yxpm _ _ _ _ ?_
 unfold yfm5 yqe8
 refine ⟨by simp [hx.box],ygge _ _ _ _ ?_⟩
 have hlen:=fun {h':H} (s:Sub h h') (K:Value→Prop) (u:Dm K)=>(hx.mono s).ulen (K:=K) (u:=u)
 simp (config:={dsimp:=false}) [↓y356,↓ywnq,↓y9z2,↓yo6v,hlen (Sub.refl _)]
 unfold yohb ylg1
 refine yo1k l.length (fun i s h'=>s=(x,.func (.func yqlt) #[] #[],.int .i64 l.length,.int .i64 i)∧Sub h h') ⟨rfl,Sub.refl _⟩ ?_
 rintro i s h' K' hi ⟨rfl,hs⟩ hk'
 by_cases hlt:i<l.length
 ·have hix:=fun (K:Value→Prop) (u:Dm K)=>(hx.mono hs).ixA (k:=.i64) hlt (K:=K) (u:=u)
  have hop:=List.all_eq_true.1 ho l[i] (List.getElem_mem hlt)
  simp only [opOk,Bool.or_eq_true,decide_eq_true_eq] at hop
  simp (config:={dsimp:=false}) [↓yb1r,hlt,hix]
  refine ⟨rfl,rfl,yq72 _ _ _ ?_⟩
  unfold ywq3 y8o7
  refine ⟨rfl,yd3h fun b3 h1 _ hb3 s1 c3=>?_⟩
  have c0:(Value.cells (.agg l[i].cells.toArray)).toList[0]?=some (.int .i64 l[i].op):=rfl
  have c3':h1 b3=some (.cells l[i].cells yq0s .exact):=c3
  have e0:l[i].cells[0]?=some (.int .i64 l[i].op):=rfl
  have w1:IntKind.i64.wrap ((i:Int)+1)=(i:Int)+1:=w_i64 (by omega) (by omega)
  by_cases h14:14≤l[i].op
  ·have h20:¬l[i].op≤20:=by omega
   simp (config:={dsimp:=false}) [yb3e c3',e0,h14,h20,w1]
   exact hk' (x,.func (.func yqlt) #[] #[],.int .i64 l.length,.int .i64 ((i:Int)+1)) _ hlt ⟨rfl,hs.trans s1⟩
  ·simp (config:={dsimp:=false}) [yb3e c3',e0,h14,w1]
   exact hk' (x,.func (.func yqlt) #[] #[],.int .i64 l.length,.int .i64 ((i:Int)+1)) _ hlt ⟨rfl,hs.trans s1⟩
 ·simp (config:={dsimp:=false}) [↓yb1r,↓yi9c,hlt]
  exact hk h' hs
theorem y9wn {ks:List Sk} {i:Nat} (hi:i<ks.length) {v:Value} {p:Bool} {s k:Value} (hk:1≤ks[i].1∧ks[i].1≤3):(wvC v p s k (wfl ks i)).set (4+ks[i].1.toNat) (.bool true)=wvC v p s k (wfl ks (i+1)):=by
 unfold wvC
 simp only [y4as hi]
 generalize ks[i].1=q at *
 rcases (by omega:q=1∨q=2∨q=3) with rfl | rfl | rfl <;> simp
theorem yj0z {ks:List Sk} {i:Nat} (hi:i<ks.length) (hk:¬(1≤ks[i].1∧ks[i].1≤3)):wfl ks (i+1)=wfl ks i:=by
 funext j
 rw [y4as hi]
 generalize ks[i].1=q at *
 by_cases h1:1≤j∧j≤3 <;> simp [h1] <;> omega
theorem y0rb {x s k:Value} {p:Bool} {l:List Nd} {ks:List Sk} (hx:Sl Nd.cells 5 h x l) (hs:boxV s=true) (hs1:∃a n c,s=.slice a n c) (hk0:Sl skC 3 h k ks) (hl:l.length≤1000) (hks:ks.length≤1000000)
 (ho:l.all opOk=true) (hgood:goodB (yyha (wfl ks ks.length) p l)=true)
 (hk:∀v h',Sub h h'→Gr Nd.cells 5 yq0s h h' v (yyha (wfl ks ks.length) p l)→K v h'):AM.Spec PG y96d [x,.agg #[.bool p,s,k]] h K:=by
 refine yx2c _ _ _ _ ?_
 unfold yydt yf2z
 have hkb:=hk0.box
 obtain ⟨sa,sn,sc,rfl⟩:=hs1
 obtain ⟨ka,kn,kc,ek⟩:=hk0.form1
 refine ⟨by simp [hkb],yd3h fun b3 h1 _ hb3 s1 c3=>?_⟩
 have c3:h1 b3=some (.cells [.bool p,.slice sa sn sc,k] y4pp .exact):=c3
 simp (config:={dsimp:=false}) [yzql c3]
 subst ek
 simp (config:={dsimp:=false})
 intro m _ hm
 have s2:=Sub.new (o:=.cells [.slice none 0 0,.bool p,.slice sa sn sc,.slice ka kn kc,.bool false,.bool false,.bool false,.bool false] ypyw .exact) hm
 have c2:=yy0e h1 m (.cells [.slice none 0 0,.bool p,.slice sa sn sc,.slice ka kn kc,.bool false,.bool false,.bool false,.bool false] ypyw .exact)
 generalize upd h1 m _=h2 at *
 have s12:=s1.trans s2
 have hmn:=Sub.none s1 hm
 have m2:WK h h2 m p (.slice sa sn sc) (.slice ka kn kc) (wfl ks 0) []:=by
  refine ⟨.slice none 0 0,?_,Gr.empty,s12,hmn⟩
  rw [c2];simp [wvC,y8bm]
 have c3':=s2 _ _ c3
 have hkl:=fun (K:Value→Prop) (u:Dm K)=>hk0.ulen (K:=K) (u:=u)
 simp (config:={dsimp:=false}) [↓y9o7,↓yt35,yb3e c3',hkl]
 unfold yj78 ywy5
 refine yo1k ks.length (fun i s' h'=>s'=(x,ptr m 0,.slice ka kn kc,.int .i64 ks.length,.int .i64 i)∧WK h h' m p (.slice sa sn sc) (.slice ka kn kc) (wfl ks i) []) ⟨rfl,m2⟩ ?_
 rintro i s' h3 K' hi ⟨rfl,m3⟩ hk'
 have s3:Sub h h3:=by obtain ⟨_,_,_,e,_⟩:=m3;exact e
 by_cases hlt:i<ks.length
 ·have hix:=fun (K:Value→Prop) (u:Dm K)=>(hk0.mono s3).ixA (k:=.i64) hlt (K:=K) (u:=u)
  have w1:IntKind.i64.wrap ((i:Int)+1)=(i:Int)+1:=w_i64 (by omega) (by omega)
  refine (show yjl9 x (ptr m 0) (.slice ka kn kc) (.int .i64 ks.length) (.int .i64 i) h3 _ _ _ from ?_)
  unfold yjl9 ya55 ynz3 yupo
  simp (config:={dsimp:=false}) only [s_lss,s_if]
  rw [decide_eq_true (by omega:(i:Int)<ks.length),if_pos rfl,hix]
  refine yd3h fun b7 h4 _ hb7 s4 c4=>y1nc s4 hb7 c4 (by decide) rfl rfl rfl fun h5 s5 c5 _=>?_
  have c5:h5 b7=some (.cells (skC ks[i]) yti5 .exact):=c5
  have e0:(skC ks[i])[0]?=some (.int .i64 ks[i].1):=rfl
  have m5:=m3.mono s5
  by_cases h1:1≤ks[i].1
  ·by_cases h3:ks[i].1≤3
   ·obtain ⟨v,e,hg,hsb,hn⟩:=m5
    have hcs:=y9wn hlt (v:=v) (p:=p) (s:=.slice sa sn sc) (k:=.slice ka kn kc) ⟨h1,h3⟩
    have hlen:(wvC v p (.slice sa sn sc) (.slice ka kn kc) (wfl ks i)).length=8:=rfl
    have hk2:=hk' (x,ptr m 0,.slice ka kn kc,.int .i64 ks.length,.int .i64 ((i:Int)+1)) _ hlt ⟨rfl,v,yy0e h5 m _,hg.over e (by simp),Sub.upd hsb hn,hn⟩
    simp (config:={dsimp:=false}) [yb3e c5,e0,h1,h3,↓ylnk,↓y1gh,↓yfls]
    rw [e]
    refine ⟨by omega,by omega,by simp,by rw [hlen];omega,?_⟩
    rw [hcs,w1]
    exact hk2
   ·simp (config:={dsimp:=false}) [yb3e c5,e0,h1,h3,↓ylnk,↓y0ut,↓yfls,w1]
    exact hk' (x,ptr m 0,.slice ka kn kc,.int .i64 ks.length,.int .i64 ((i:Int)+1)) _ hlt ⟨rfl,by rw [yj0z hlt (by omega)];exact m5⟩
  ·simp (config:={dsimp:=false}) [yb3e c5,e0,h1,↓ylnk,↓y0ut,↓yfls,w1]
   exact hk' (x,ptr m 0,.slice ka kn kc,.int .i64 ks.length,.int .i64 ((i:Int)+1)) _ hlt ⟨rfl,by rw [yj0z hlt (by omega)];exact m5⟩
 ·have hie:i=ks.length:=by omega
  subst hie
  clear hk' hi
  have hxl:=fun {h':H} (K:Value→Prop) (u:Dm K)=>hx.ulen (K:=K) (u:=u)
  simp (config:={dsimp:=false}) [↓yjl9,↓y0o7,↓ynef,@hxl h3]
  unfold yfwq yg4d
  refine yo1k l.length (fun i s' h'=>s'=(x,ptr m 0,x,.int .i64 l.length,.int .i64 i)∧WK h h' m p (.slice sa sn sc) (.slice ka kn kc) (wfl ks ks.length) (yyha (wfl ks ks.length) p (l.take i))) ⟨rfl,m3⟩ ?_
  rintro i s' h4 K' hi ⟨rfl,m4⟩ hk'
  have s4:Sub h h4:=by obtain ⟨_,_,_,e,_⟩:=m4;exact e
  have hwl:∀i,(yyha (wfl ks ks.length) p (l.take i)).length≤4*1000:=fun i=>by
   have h1:=y0ki (w:=wfl ks ks.length) (p:=p) (l:=l.take i)
   have h2:∀l:List Nd,wvS l≤4*l.length:=fun l=>by
    induction l with
    | nil=>exact Nat.le_refl _
    | cons n r ih=>simp only [wvS,List.length_cons];have:wvM n.op≤4:=by unfold wvM;grind
                   omega
   have:=h2 (l.take i)
   have:(l.take i).length≤l.length:=by simp;omega
   omega
  by_cases hlt:i<l.length
  ·have hix:=fun (K:Value→Prop) (u:Dm K)=>(hx.mono s4).ixA (k:=.i64) hlt (K:=K) (u:=u)
   have w1:IntKind.i64.wrap ((i:Int)+1)=(i:Int)+1:=w_i64 (by omega) (by omega)
   refine (show y04c x (ptr m 0) x (.int .i64 l.length) (.int .i64 i) h4 _ _ _ from ?_)
   unfold y04c
   simp (config:={dsimp:=false}) only [s_lss,s_if]
   rw [decide_eq_true (by omega:(i:Int)<l.length),if_pos rfl,hix]
   refine yd3h fun b9 h5 _ hb9 s5 c9=>y1nc s5 hb9 c9 (by decide) rfl rfl rfl fun h6 s6 c6 _=>?_
   rw [ykeu c6]
   refine ⟨rfl,y6vl (m4.mono s6) (by have:=hwl i;omega) fun h7 m7 _=>?_⟩
   simp (config:={dsimp:=false}) [w1]
   refine hk' (x,ptr m 0,x,.int .i64 l.length,.int .i64 ((i:Int)+1)) _ hlt ⟨rfl,?_⟩
   have:yyha (wfl ks ks.length) p (l.take (i+1))=yyha (wfl ks ks.length) p (l.take i)++wvN (wfl ks ks.length) p l[i]:=by
    unfold yyha
    rw [List.take_succ_eq_append_getElem hlt,List.flatMap_append];simp
   rw [this];exact m7
  ·have hie:i=l.length:=by omega
   subst hie
   rw [List.take_length] at m4
   have hwl:=hwl l.length
   rw [List.take_length] at hwl
   obtain ⟨v,e,hg,hsb,hn⟩:=m4
   have e0:(wvC v p (.slice sa sn sc) (.slice ka kn kc) (wfl ks ks.length))[0]?=some v:=rfl
   simp (config:={dsimp:=false}) [↓y04c,↓yu1f,yb3e e,e0]
   refine ⟨by simp [hg.sl.box],yfs3 hg.sl (by omega) ?_⟩
   rw [hgood]
   simp (config:={dsimp:=false})
   refine ⟨by simp [hx.box],ytp5 (hx.mono s4) ho (by omega) fun h5 s5=>?_⟩
   simp (config:={dsimp:=false}) [yb3e (s5 _ _ e),e0]
   exact hk v h5 (s4.trans s5) (yfv7 hg fun c cs hh=>s5 _ _ hh)
end
end Go.Proofs.YtnckimioabkheaaGreat
set_option linter.unusedSimpArgs false
set_option linter.unusedVariables false
set_option maxRecDepth 100000
set_option maxHeartbeats 4000000
namespace Go.Proofs.YtnckimioabkheaaGreat
open AM
abbrev Sr:=Int×Int×Int×Int
def srC (x:Sr):List Value:=[.int .i64 x.1,.int .u32 x.2.1,.int .u32 x.2.2.1,.int .u8 x.2.2.2]
abbrev polV (p:Bool) (s k:Value):Value:=.agg #[.bool p,s,k]
section
variable {h:H} {K:K1}
theorem ymax {v vd s k:Value} {p:Bool} {ws ds:List Int} {ss:List Sr} {ks:List Sk} (hv:Sl u32V 1 h v ws) (hd:Sl u8V 1 h vd ds) (hs:Sl srC 4 h s ss) (hk0:Sl skC 3 h k ks)
 (hk:∀b h',Sub h h'→(b=true→1≤ws.length∧ws.length≤200∧ds.length≤512∧ss.length≤32∧ks.length≤32)→K (.bool b) h'):AM.Spec PG y4hf [v,vd,yh6o,polV p s k] h K:=by
 refine yz2s _ _ _ _ _ _ ?_
 have hsb:=hs.box
 have hkb:=hk0.box
 unfold ykcv ydkz
 refine ⟨rfl,yd3h fun b6 h6 _ _ s6 c6=>⟨by simp [hsb,hkb],yd3h fun b7 h1 _ _ s7 c7=>?_⟩⟩
 have c7:h1 b7=some (.cells [.bool p,s,k] y4pp .exact):=c7
 replace c6:=s7 _ _ c6
 have s1:=s6.trans s7
 have l1:=fun (K:Value→Prop) (u:Dm K)=>hv.ulen (K:=K) (u:=u)
 have l2:=fun (K:Value→Prop) (u:Dm K)=>hd.ulen (K:=K) (u:=u)
 have l3:=fun (K:Value→Prop) (u:Dm K)=>hs.ulen (K:=K) (u:=u)
 have l4:=fun (K:Value→Prop) (u:Dm K)=>hk0.ulen (K:=K) (u:=u)
 simp (config:={dsimp:=false}) [l1,l2,l3,l4,yb3e c6,yb3e c7,↓ymy3,↓ygjr,↓yre3,↓yy1q]
 split
 ·rename_i c
  exact hk _ h1 s1 fun h=>by cases h
 ·rename_i c
  refine yq9z fun K'=>?_
  simp (config:={dsimp:=false}) [↓ytwo,↓y45k,↓y3au,↓yq9t,↓yoei,yb3e c6]
  refine yq9z fun K'=>?_
  simp (config:={dsimp:=false}) [↓y5lf,↓ye3n,yb3e c6]
  exact hk _ h1 s1 fun _=>by omega
end
end Go.Proofs.YtnckimioabkheaaGreat
set_option linter.unusedSimpArgs false
set_option linter.unusedVariables false
set_option maxRecDepth 100000
set_option maxHeartbeats 4000000
namespace Go.Proofs.YtnckimioabkheaaGreat
open AM
section
variable {h:H} {K:K1}
theorem ydad {v s k:Value} {p:Bool} {ws:List Int} {n most:Int} {ss:List Sr} {ks:List Sk} (hv:Sl u32V 1 h v ws) (hw:∀x∈ws,0≤x∧x<4294967296) (hn:0≤n∧n<4294967296) (hs:Sl srC 4 h s ss) (hk0:Sl skC 3 h k ks)
 (haw:∀{K:K1} {h:H},(∀ h',Sub h h'→K (.bool true) h')→AM.Spec PG y880 [] h K)
 (hk:∀h',Sub h h'→K (.bool true) h'):AM.Spec PG ylwf [v,.int .u32 n,.int .i64 most,polV p s k] h K:=by
 refine yaui _ _ _ _ _ _ ?_
 have hvb:=hv.box
 have hsb:=hs.box
 have hkb:=hk0.box
 unfold ytuu yx2j
 refine ⟨by simp [hsb,hkb],yd3h fun b7 h0 _ _ s0 c7=>⟨rfl,haw fun h1 s1'=>?_⟩⟩
 have c7:h0 b7=some (.cells [.bool p,s,k] y4pp .exact):=c7
 have s1:=s0.trans s1'
 replace c7:=s1' _ _ c7
 clear s0 s1'
 simp (config:={dsimp:=false}) [yzql c7]
 refine ⟨by simp [hvb,hsb,hkb],ymax (hv.mono s1) Sl.nil (hs.mono s1) (hk0.mono s1) fun lb h2 s2 c=>?_⟩
 have s12:=s1.trans s2
 replace c7:=s2 _ _ c7
 cases lb
 case false =>
  simp (config:={dsimp:=false})
  exact hk h2 s12
 replace c:=c rfl
 simp (config:={dsimp:=false})
 refine ⟨by simp [hvb],yjd9 (all:=true) (data:=[]) (hv.mono s12) hw (by omega) Sl.nil (by simp) (by simp) ⟨by decide,by decide⟩ ⟨by decide,by decide⟩ ?_ ?_⟩
 ·intro h3 s3 _
  simp (config:={dsimp:=false})
  exact hk h3 (s12.trans s3)
 ·intro bm bm' D sq sm f h3 μ hμ hm hw1 hz1 s3 hbm0 hbm hsq hsm hown
  simp (config:={dsimp:=false}) [yb3e hbm,MC.at_0]
  generalize hpc:IntKind.u32.wrap (4096+_)=pc
  have hp0:0≤pc:=by rw [← hpc];exact yd12
  have hp1:pc<4294967296:=by rw [← hpc];exact yina
  clear hpc
  refine ⟨rfl,y9xs hm.at_ hw1 hp0 hp1 fun w gen h4 s4 hins=>?_⟩
  have hwb:=hins.box
  simp (config:={dsimp:=false}) only [s_ex0,s_ex1]
  refine yd3h fun b9 h5 _ hb9 s5 c9=>yd3h fun b10 h6 _ hb10 s6 c10=>?_
  have s46:=s5.trans s6
  have n9:b10≠b9:=fun e=>by rw [e,c9] at hb10;cases hb10
  refine y1nc s46 hb9 (s6 _ _ c9) (by decide) (by simp [hwb]) rfl rfl fun h7 s7 c9 f7=>?_
  refine y1nc s7 (Sub.none s5 hb10) ((f7 _ n9).trans c10) (by decide) rfl rfl rfl fun h8 s8 c10 f8=>?_
  replace c9:=(f8 _ (Ne.symm n9)).trans c9
  have s48:=s4.trans s8
  have hall:=(s12.trans s3).trans s48
  replace c7:=(s3.trans s48) _ _ c7
  rcases yy6p (μ:=μ) (pc:=pc) (most:=most) with ⟨hne,hev⟩ | ⟨hne,hev⟩
  ·rw [hev] at c9 c10
   have c10':h8 b10=some (.cells [.int .i64 0,.int .u32 0,.int .i64 0] ys2z .exact):=c10
   have c9':h8 b9=some (.cells [.int .u32 pc,w,.int .u32 gen] yrjx .exact):=c9
   simp (config:={dsimp:=false}) [yzql c9',yb3e c10',hwb]
   refine ⟨by simp [hwb],yfp0 (hins.mono s8) (by have:=yifi (μ:=μ) (pc:=pc) (most:=most);omega) fun x h9 s9 hx=>?_⟩
   have hlenI:=yifi (μ:=μ) (pc:=pc) (most:=most)
   have hgood:=yvki (pc:=pc) (yyem (μ:=μ) (pc:=pc) (most:=most)) hne hlenI
   have hops:=y4zl (pc:=pc) (l:=(findF μ pc most).1)
   have hlen:=yxhi (pc:=pc) (l:=(findF μ pc most).1)
   have hws:=yl20 (pc:=pc) (l:=(findF μ pc most).1)
   generalize makeN pc (findF μ pc most).1=l at hx hgood hops hlen hws
   have hl1:l.length≤1000:=by omega
   have s29:=(s3.trans s48).trans s9
   have c7':=s9 _ _ c7
   have hsl:=s12.trans s29
   have hkl:=hk0.mono hsl
   simp (config:={dsimp:=false}) [yzql c7']
   have hg2:=ylmj (w:=wfl ks ks.length) (p:=p) hops hgood (by omega)
   have hwl:=y0ki (w:=wfl ks ks.length) (p:=p) (l:=l)
   refine ⟨by simp [hx.box,hsb,hkb],y0rb hx hsb (hs.form1) hkl hl1 (by omega) hops hg2 fun y h10 s10 hy=>?_⟩
   have c7'':=s10 _ _ c7'
   have hxl:=fun (K:Value→Prop) (u:Dm K)=>(hx.mono s10).ulen (K:=K) (u:=u)
   have hwat:=fun hks:ks.length=0=>ywvk (w:=wfl ks ks.length) (p:=p) (l:=l) (fun j=>by rw [hks];exact y8bm) hops
   have hkl2:=fun (K:Value→Prop) (u:Dm K)=>hk0.ulen (K:=K) (u:=u)
   have hle:((yyha (wfl ks ks.length) p l).length:Int)≤3*l.length+2:=by omega
   generalize yyha (wfl ks ks.length) p l=q at hy hg2 hwl hwat hle
   unfold yjv2 ytmf yv0l y4gf
   refine yo1k q.length (fun i s' h'=>s'=(ptr b7 0,x,y,.int .i64 i)∧h'=h10) ⟨rfl,rfl⟩ ?_
   rintro i s' h' K' hi ⟨rfl,rfl⟩ hk'
   have hyl:=fun (K:Value→Prop) (u:Dm K)=>hy.sl.ulen (K:=K) (u:=u)
   by_cases hlt:i<q.length
   ·have hix:=fun (K:Value→Prop) (u:Dm K)=>hy.sl.ixf (k:=.i64) hlt (off:=0) (w:=.int .i64 q[i].op) rfl (K:=K) (u:=u)
    have w1:IntKind.i64.wrap ((i:Int)+1)=(i:Int)+1:=w_i64 (by omega) (by omega)
    have hc:¬(q[i].op=20∧ks.length=0):=fun ⟨h1,h2⟩=>hwat h2 q[i] (List.getElem_mem hlt) h1
    simp (config:={dsimp:=false}) [↓ytd8,hyl,hix,hlt,w1,yb3e c7'',hkl2]
    have go:=hk' (ptr b7 0,x,y,.int .i64 ((i:Int)+1)) h' hlt ⟨by simp,rfl⟩
    split
    ·rename_i c2
     exact absurd ⟨c2.1,by simpa using c2.2⟩ hc
    ·exact go
   ·have w1:IntKind.i64.wrap (3*(l.length:Int))=3*(l.length:Int):=w_i64 (by omega) (by omega)
    have w2:IntKind.i64.wrap (3*(l.length:Int)+2)=3*(l.length:Int)+2:=w_i64 (by omega) (by omega)
    simp (config:={dsimp:=false}) [↓ytd8,hyl,hlt,↓y6dq]
    refine ⟨by simp [hy.sl.box],yfs3 hy.sl (by omega) ?_⟩
    rw [hg2]
    simp (config:={dsimp:=false}) [hyl,hxl,w1,w2,hle]
    exact hk _ ((hall.trans s9).trans s10)
  ·have c10:=c10
   have c10':h8 b10=some (.cells [.int .i64 (findF μ pc most).2.1,.int .u32 (findF μ pc most).2.2.1,.int .i64 (findF μ pc most).2.2.2] ys2z .exact):=c10
   simp (config:={dsimp:=false}) [yb3e c10',hev]
   exact hk _ hall
end
end Go.Proofs.YtnckimioabkheaaGreat
set_option linter.unusedSimpArgs false
set_option linter.unusedVariables false
set_option maxRecDepth 100000
set_option maxHeartbeats 4000000
namespace Go.Proofs.YtnckimioabkheaaGreat
open AM
theorem fitsW:Fits 30 (segP false) (ytw8 [3211443,115]) []:=⟨by decide +kernel,by decide +kernel,by unfold RFits;decide +kernel⟩
theorem findW:findF (lay2 30 (segP false) (ytw8 [3211443,115]) []).2 4096 8=([(28,1,2,3,0),(48,0,0,0,0)],(0,0,0)):=by decide +kernel
def y1a8:List Nd:=[⟨8,0,0,0,4096⟩,⟨2,0,0,0,2⟩,⟨2,1,0,0,3⟩,⟨4,2,0,1,0⟩,⟨3,0,2,0,1⟩,⟨9,0,0,0,0⟩,⟨8,0,0,0,4100⟩,⟨13,0,0,0,5⟩]
def ylgv:List Nd:=[⟨8,0,0,0,4096⟩,⟨2,0,0,0,2⟩,⟨14,0,0,0,2⟩,⟨2,1,0,0,3⟩,⟨14,1,0,0,3⟩,⟨4,2,0,1,0⟩,⟨16,2,0,1,0⟩,⟨3,0,2,0,1⟩,⟨15,0,2,0,1⟩,⟨9,0,0,0,0⟩,⟨8,0,0,0,4100⟩,⟨13,0,0,0,5⟩]
theorem makeW:makeN 4096 [(28,1,2,3,0),(48,0,0,0,0)]=y1a8:=by decide +kernel
theorem yht5:yyha (wfl [] ([]:List Sk).length) false y1a8=ylgv:=by decide +kernel
theorem opsW:y1a8.all opOk=true:=by decide +kernel
theorem goodW:goodB ylgv=true:=by decide +kernel
def stW (μ:MS) (d:Int):St:=⟨zeros 256,List.replicate 256 tz,(zeros 32).set 2 2147479536,(List.replicate 32 tz).set 2 (1,0,0,0),4096,0,false,(0,0,0,0,false),μ,⟨d,[]⟩,nilV⟩
theorem y4dk {E:EP} {μ:MS} {d:Int} (hf:E.fuel=9) (hg:(fnd (yovn E.page) μ.gens).getD 0=E.gen):∃s',(∀ br,Steps (E.at br) ylgv (stW μ d) s')∧s'.e=(5,4100,0,0,false)∧s'.t.length=32∧s'.t.getD 1 tz=(1,1,1,1):=by
 have go:∀(br:Nat) (s:St),s.ret<9→s.μ=μ→y8ir (E.at br) s:=fun br s h1 h2=>⟨by show s.ret<E.fuel;rw [hf];exact h1,by rw [h2];exact hg⟩
 refine ⟨_,fun br=>.more (ywhm rfl (go br _ (show (0:Int)<9 by decide) rfl)) rfl (.more (yufh rfl (by decide) (by decide)) rfl (.more (yw88 rfl (by decide) (by decide)) rfl (.more (yufh rfl (by decide) (by decide)) rfl
  (.more (yw88 rfl (by decide) (by decide)) rfl (.more (st_do rfl (by decide) (by decide)) rfl (.more (y65r rfl (by decide) (by decide)) rfl (.more (yd9j rfl (by decide) (by decide)) rfl
  (.more (yb6s rfl (by decide) (by decide)) rfl (.more (ya1k rfl) rfl (.more (ywhm rfl (go br _ (show IntKind.i64.wrap (0+1)<9 by decide +kernel) rfl)) rfl (.stop (yt7q rfl (by decide)) rfl))))))))))),rfl,by kernel_rfl,by kernel_rfl⟩
section
variable {h:H} {K:K1}
theorem ymtn {cs:List Value} (hl:cs.length=128) (hb:boxV (.agg cs.toArray)=true) (hk:∀h',Sub h h'→K (.agg cs.toArray) h'):AM.Spec PG yj9t [.agg cs.toArray] h K:=by
 refine ygdt _ _ _ ?_
 unfold ymg0 yelh
 refine ⟨hb,yd3h fun b1 h1 _ hb1 s1 c1=>yd3h fun b2 h2 _ hb2 s2 c2=>?_⟩
 have c1':h2 b1=some (.cells cs ycs9 .exact):=s2 _ _ c1
 rw [y2bf (l:=cs) (by rw [yzql c1',if_pos (by omega),List.drop_zero,List.take_of_length_le (by omega)])]
 refine y1nc (s1.trans s2) (Sub.none s1 hb2) c2 (by decide) hb (by simp [Value.cells,hl]) (by simp) fun h3 s3 c3 f3=>?_
 simp (config:={dsimp:=false}) only [s_ret]
 rw [y2bf (l:=cs) (by rw [yzql c3];simp [Value.cells,hl,List.take_of_length_le])]
 exact hk h3 s3
theorem ylrz {K:Value→Prop} {u:Dm K}:u_bin PG .eql yuil (.agg (tgC (1,1,1,1)).toArray) (.agg #[.int .u8 1,.int .u8 1,.int .u8 1,.int .u8 1]) K u=K (.bool true):=by kernel_rfl
theorem yxwu {K:Value→Prop} {u:Dm K}:u_bin PG .eql yqha (endV (5,4100,0,0,false)) (.agg #[.int .i64 5,.int .u32 4100,.int .i64 0,.int .i64 0,.bool false]) K u=K (.bool true):=by kernel_rfl
theorem y56q {x y:Int} {u:Dm K}:ynqb PG yoi5 2 [(0,.int .u32 x),(1,.int .u32 y)] h K u=u_new [.int .u32 x,.int .u32 y] ycpa .exact h fun b h=>K (.slice (some ⟨b,0,none⟩) 2 2) h:=by kernel_rfl
theorem yhss {x y:Int} {K:Value→Prop} {u:Dm K}:ysnr PG ys2z [(0,.int .i64 x),(1,.int .u32 y)] K u=K (.agg #[.int .i64 x,.int .u32 y,.int .i64 0]):=by kernel_rfl
theorem y4xy {x:Int} {K:Value→Prop} {u:Dm K}:ysnr PG yuil [(0,.int .u8 x)] K u=K (.agg (tgC (x,0,0,0)).toArray):=by kernel_rfl
theorem iaT {b o:Nat} {K:Value→Prop} {u:Dm K}:yji6 (some 32) 4 (ptr b o) (.int .i64 2) K u=K (.pointer (some ⟨b,o+2*4,none⟩)):=by simp
theorem yb2o {b n:Nat} {o:AObj} {a v:Value} {K:H→Prop} {u:Dm K} (hst:ylel n a v h K u=K (upd h b o)) (hk:∀h',h' b=some o→(∀ c,c≠b→h' c=h c)→K h'):ylel n a v h K u:=hst▸hk _ (yy0e _ _ _) fun c hc=>yrkk _ _ hc
theorem y1mq {T:List Tg} (hT:T.length=32) {i:Nat} (hi:i<32) {k:IntKind} {K:Value→Prop} {u:Dm K}:ywq9 false 32 true 4 (.agg (T.flatMap tgC).toArray) (.int k i) K u=K (.agg (tgC (T.getD i tz)).toArray):=by
 show (false=false∧0≤(i:Int)∧(i:Int)<32∧(match y042 true 4 ((i:Int).toNat*4) (T.flatMap tgC).toArray with | some v=>K v | none=>False))=_
 have h1:(0:Int)≤i∧(i:Int)<32:=by omega
 have h2:y042 true 4 ((i:Int).toNat*4) (T.flatMap tgC).toArray=some (.agg (tgC (T.getD i tz)).toArray):=by
  unfold y042
  have e:=tl_at (T:=T) (i:=i) (by omega)
  rw [tget (by omega),←e]
  have hl:(T.flatMap tgC).length=128:=by rw [ygil,hT]
  have h8:i*4+4≤128:=by omega
  simp [hl,h8,Nat.mul_comm 4 i]
 rw [h2]
 simp [h1]
theorem y4nl {T:List Tg} (hT:T.length=32) {k:IntKind} {K:Value→Prop} {u:Dm K}:ywq9 false 32 true 4 (.agg (T.flatMap tgC).toArray) (.int k 1) K u=K (.agg (tgC (T.getD 1 tz)).toArray):=y1mq hT (i:=1) (by decide)
theorem yedg {x y z w:Int} {K:Value→Prop} {u:Dm K}:ysnr PG yuil [(0,.int .u8 x),(1,.int .u8 y),(2,.int .u8 z),(3,.int .u8 w)] K u=K (.agg #[.int .u8 x,.int .u8 y,.int .u8 z,.int .u8 w]):=by kernel_rfl
theorem yygy (hk:∀h',Sub h h'→K (.bool true) h'):AM.Spec PG y880 [] h K:=by
 refine y89i _ _ ?_
 unfold yt8o ypk1
 rw [y56q]
 refine yd3h fun b0 h0 _ hb0 s0 c0=>?_
 have hv:Sl u32V 1 h0 (.slice (some ⟨b0,0,none⟩) 2 2) [3211443,115]:=Sl.of_block (l:=[3211443,115]) (by simp) c0 rfl (by simp)
 simp (config:={dsimp:=false})
 refine ⟨rfl,yjd9 (all:=false) (data:=[]) hv (by simp) (by simp) Sl.nil (by simp) (by simp) ⟨by decide,by decide⟩ ⟨by decide,by decide⟩ (fun h1 _ hf=>absurd fitsW hf) ?_⟩
 intro bm bm' D sq sm f h1 μ hμ hm hw1 hz1 s1 hbm0 hbm hsq hsm hown
 have hC:(mc0 (ptr D.q 0) (ptr sq 0) f).Ok:=mc_ok (by simp [zeros])
 have hn:h bm=none:=Sub.none s0 hbm0
 have st:=fun (K:H→Prop) (u:Dm K)=>st_tg (r:=2) (T:=List.replicate 32 tz) (w:=(1,0,0,0)) hbm (by decide) hC (by kernel_rfl) (by simp) (by decide) (K:=K) (u:=u)
 simp (config:={dsimp:=false}) only [s_ex0,s_ex1,yxdi,s_if,Option.isNone_some,Bool.false_eq_true,if_false]
 rw [y4xy,s_nil,s_fa,iaT]
 refine yb2o (st _ _) fun h2 hbm2 e2=>?_
 clear st
 have ne:∀{c:Nat} {cs:List Value} {T:TypeId} {m:AM.Own},h1 c=some (.cells cs T m)→T≠ynne→c≠bm:=fun hc hT e=>by
  rw [e,hbm] at hc;simp only [Option.some.injEq,AObj.cells.injEq] at hc;exact hT hc.2.1.symm
 have hfr:Fr (· = bm) h1 h2:=fun c o hc ho=>(e2 c hc).trans ho
 have s2:Sub h h2:=hfr.sub (s0.trans s1) fun b hb=>hb▸hn
 have hsq2:=(e2 _ (ne hsq (by decide))).trans hsq
 have hsm2:=(e2 sm fun e=>by rw [e,hbm] at hsm;cases hsm).trans hsm
 have hmem2:MemAt D h2 μ:=hm.at_.frO hfr fun b hb e=>hm.at_.other hbm (by decide) (by decide) (e▸hb)
 have q0:(mc0 (ptr D.q 0) (ptr sq 0) f).cells[0]?=some (ptr D.q 0):=rfl
 simp (config:={dsimp:=false}) only [s_pf,y1rg hbm2 (i:=0+0) (v:=ptr D.q 0) rfl]
 refine ⟨rfl,y9xs hmem2 hw1 (by decide) (by decide) fun w gen h3 s3 hins=>?_⟩
 rw [hμ,findW] at hins ⊢
 have hwb:=hins.box
 simp (config:={dsimp:=false}) only [s_ex0,s_ex1]
 refine yd3h fun b3 h4 _ hb3 s4 c3=>yd3h fun b4 h5 _ hb4 s5 c4=>?_
 have s35:=s4.trans s5
 have n4:b4≠b3:=fun e=>by rw [e,c3] at hb4;cases hb4
 refine y1nc s35 hb3 (s5 _ _ c3) (by decide) (by simp [hwb]) rfl rfl fun h6 s6 c3 f6=>?_
 refine y1nc s6 (Sub.none s4 hb4) ((f6 _ n4).trans c4) (by decide) rfl rfl rfl fun h7 s7 c4 f7=>?_
 replace c3:=(f7 _ (Ne.symm n4)).trans c3
 have s27:=s3.trans s7
 have c3':h7 b3=some (.cells [.int .u32 4096,w,.int .u32 gen] yrjx .exact):=c3
 rw [y2bf (l:=[.int .u32 4096,w,.int .u32 gen]) (by rw [yzql c3'];rfl)]
 refine ⟨by simp [hwb],yfp0 (hins.mono s7) (by simp) fun x h8 s8 hx=>?_⟩
 rw [makeW] at hx
 simp (config:={dsimp:=false}) only [y0ll]
 refine ⟨by simp [hx.box],y0rb (ks:=[]) hx rfl ⟨_,_,_,rfl⟩ Sl.nil (by decide) (by simp) opsW (by rw [yht5];exact goodW) fun y h9 s9 hy=>?_⟩
 rw [yht5] at hy
 have s29:=(s27.trans s8).trans s9
 have hbm9:=s29 _ _ hbm2
 let E:EP:=⟨0,bm,D,⟨sq,sm,fun _=>0⟩,mc0 (ptr D.q 0) (ptr sq 0) f,9,false,4096,(fnd (yovn 4096) μ.gens).getD 0⟩
 obtain ⟨s',hst,he,htl,ht1⟩:=y4dk (E:=E) (μ:=μ) (d:=0) rfl rfl
 have M:MAt E h9 (stW μ 0):=⟨hbm9,hmem2.sub s29,hw1,⟨s29 _ _ hsq2,⟨0,s29 _ _ hsm2⟩,by simp [stW]⟩,⟨by simp [stW]⟩,by simp [stW,zeros],y95q.set (by decide),by simp [stW]⟩
 have F:Fresh E (stW μ 0) ylgv:=⟨rfl,rfl,rfl,rfl,⟨_,_,rfl,rfl⟩,rfl⟩
 refine ⟨by simp [hy.sl.box],ymi4 (E:=E) goodW M F hst (by decide) (fun h' hn=>(yfv7 hy fun c cs hc=>hn _ _ _ hc).sl) fun h10 M10 c10=>?_⟩
 refine yd3h fun b6 h11 _ hb6 s11 c6=>y1nc s11 hb6 c6 (by decide) rfl rfl rfl fun h12 s12 c6' f12=>?_
 have M12:=M10.sub s12
 have hy12:=yfv7 hy fun c cs hc=>s12 _ _ (c10.k _ _ hc (M.nMch hc (by decide) (by decide) (by decide) (by decide) (by decide)))
 refine ⟨by simp [hy.sl.box],yfs3 hy12.sl (by decide) ?_⟩
 rw [goodW,he] at *
 have c6t:h12 b6=some (.cells (endC 5 4100 0 0 false) yqha .exact):=c6'
 have hcs:cellsAt h12 bm 36 128=some (s'.t.flatMap tgC):=by
  rw [yzql M12.c,if_pos (by rw [MC.len ⟨M12.xl,by show _=_;unfold EP.mc;rw [yq20,M12.tl]⟩];decide),MC.drop36 ⟨M12.xl,by show _=_;unfold EP.mc;rw [yq20,M12.tl]⟩]
  show some (((s'.t.flatMap tgI).map (Value.int .u8)++_).take 128)=_
  rw [ydre,List.take_left' (by rw [ygil,htl])]
 have hbx:boxV (.agg (s'.t.flatMap tgC).toArray)=true:=rfl
 rw [s_gtt,load5 c6t,yhss,yf7j,show (Value.agg (endC 5 4100 0 0 false).toArray)=endV (5,4100,0,0,false) from rfl,yxwu]
 simp (config:={dsimp:=false}) only [ywjn]
 rw [show (bif true then Value.bool true else Value.bool false)=.bool true from rfl,s_gtt]
 simp (config:={dsimp:=false}) only [s_pf,Nat.zero_add]
 rw [y2bf hcs]
 refine ⟨by simp [hbx],ymtn (by rw [ygil,htl]) hbx fun h13 s13=>?_⟩
 rw [y4nl htl,ht1,yedg,ylrz]
 simp (config:={dsimp:=false}) only [ywjn]
 refine hk h13 fun c o hc=>s13 _ _ (s12 _ _ (c10.k _ _ (s29 _ _ (s2 _ _ hc)) fun ho=>?_))
 have:=s0 _ _ hc
 rcases ho with h1 | h1 | h1 | h1 | ⟨_,h1,_⟩
 ·rw [show c=bm from h1,hn] at hc;cases hc
 ·rw [hm.new c h1] at this;cases this
 ·rw [show c=sq from h1,hown.2.1] at this;cases this
 ·rw [show c=sm from h1,hown.2.2] at this;cases this
 ·simp [stW] at h1
end
end Go.Proofs.YtnckimioabkheaaGreat
set_option linter.unusedSimpArgs false
set_option linter.unusedVariables false
namespace Go.Proofs.YtnckimioabkheaaGreat.AM
open Go.RowKit
section
variable {P:Program} {W:World} {ι:Env} {h:H} {w:World}
def ι0:Env:=fun _=>none
def h0:H:=fun _=>none
theorem HRel.start (W:World):HRel P W ι0 h0 W :=
 ⟨⟨0,fun _ _=>rfl⟩,rfl,rfl,Below.refl _ _,fun _ _ h=>(by cases h),fun _ _ h=>(by cases h),fun _ _ _ _ _ _ _ h=>(by cases h)⟩
def ebind (ι:Env) (b:Nat) (l:Loc):Env:=fun c=>if c=b then some l else ι c
theorem y8cr {b:Nat} {l:Loc} (hb:ι b=none):Env.le ι (ebind ι b l):=by
 intro c q hc
 have:c≠b:=fun he=>by rw [he,hb] at hc;cases hc
 simp [ebind,this,hc]
theorem HRel.addRo (hr:HRel P W ι h w) {b:Nat} {l:Loc} {cs:List Value} {E:TypeId} {ccs:Array Value} {CE:TypeId} {fz:Nat×Nat} (h2:2≤b) (hb:ι b=none) (hk:l.k=0) (hh:w.heap[l.b]?=some (.cells ccs CE fz)) (hlt:l.b<W.heap.size)
 (hc:∀i v,cs[i]?=some v→∃v',ccs[l.o+i]?=some v'∧CRel ι v v'):HRel P W (ebind ι b l) (upd h b (.cells cs E .ro)) w:=by
 have hle:Env.le ι (ebind ι b l):=y8cr hb
 obtain ⟨n,hn⟩:=hr.nxt
 have hin:l.b<w.heap.size:=by
  have:=Array.getElem?_eq_some_iff.1 hh
  exact this.1
 refine ⟨⟨max n (b+1),fun c hc=>?_⟩,?_,?_,hr.below,fun c q hc=>?_,fun c o hc=>?_,fun c c' o o' q q' hcc hc hc' hq hq' h1 h2'=>?_⟩
 ·have:c≠b:=by omega
  simp only [ebind,this,if_false]
  exact hn c (by omega)
 ·have:(0:Nat)≠b:=by omega
  simp only [ebind,this,if_false];exact hr.z0
 ·have:(1:Nat)≠b:=by omega
  simp only [ebind,this,if_false];exact hr.z1
 ·by_cases he:c=b
  ·subst he;simp only [ebind,if_true] at hc;cases hc;exact hin
  ·simp only [ebind,he,if_false] at hc;exact hr.inb c q hc
 ·by_cases he:c=b
  ·subst he
   rw [yy0e] at hc;cases hc
   refine ⟨l,by simp [ebind],ccs,CE,fz.1,fz.2,hh,fun i v hi=>?_,fun _=>hlt,fun h=>absurd rfl h,fun _=>hk,fun h=>by cases h⟩
   obtain ⟨v',h1,h2⟩:=hc i v hi
   exact ⟨v',h1,h2.mono hle⟩
  ·rw [yrkk _ _ he] at hc
   obtain ⟨q,h1,h2⟩:=hr.obj c o hc
   exact ⟨q,hle _ _ h1,ORel.keep hle rfl (fun _ _ _=>.inl rfl) h2⟩
 ·have n1:c≠b:=fun he=>by rw [he,yy0e] at hc;cases hc;cases h1
  have n2:c'≠b:=fun he=>by rw [he,yy0e] at hc';cases hc';cases h2'
  rw [yrkk _ _ n1] at hc
  rw [yrkk _ _ n2] at hc'
  simp only [ebind,n1,if_false] at hq
  simp only [ebind,n2,if_false] at hq'
  exact hr.sep c c' o o' q q' hcc hc hc' hq hq' h1 h2'
theorem calls_of {f:FuncId} {args:List Value} {cargs:Array Value} {r:Value} (hs:Spec P f args h fun v _=>v=r) (hr:HRel P W ι h W) (ha:All2 (ARel ι) args cargs.toList) (hself:∀ι v,VRel ι r v→v=r) :
 Calls P f cargs W fun e w'=>e=.returned r∧Below W.heap.size W w' :=
 (hs W ι W cargs hr ha).mono fun _ _ ⟨_,cv,ι',_,h1,_,h3,h4,h5⟩=>by
   subst h5
   exact ⟨by rw [h1,hself ι' cv h4],h3.below⟩
theorem bool_self {b:Bool} (ι:Env) (v:Value) (h:VRel ι (.bool b) v):v=.bool b:=by
 cases h with
 | a h=>cases h with
   | c h=>cases h with
     | s h=>cases h;rfl
end
end Go.Proofs.YtnckimioabkheaaGreat.AM
set_option linter.unusedSimpArgs false
set_option linter.unusedVariables false
namespace Go.Proofs.YtnckimioabkheaaGreat.AM
open Go.ChangeShapes Go.WideShapes Go.ChangeAt Go.RowKit
section
variable {P:Program} {α:Type} {enc:α→List Value} {ok:α→Prop} {sz:Nat} {W:World} {v:Value} {l:List α}
theorem y7xs {l:List α} (hl:∀x∈l,(enc x).length=sz) {q r:Nat} (hq:q<l.length) (hr:r<sz):(l.flatMap enc)[q*sz+r]?=(enc l[q])[r]?:=by
 rw [← youw q hq hl,List.getElem?_take_of_lt hr,List.getElem?_drop]
def LocL (W:World) (v:Value) (enc:α→List Value) (l:List α):Prop :=
 (v=.slice none 0 0∧l=[])∨(∃ a c,v=.slice (some a) 0 c∧l=[]) ∨
   ∃b o c ccs CE fz,v=.slice (some ⟨b,o,none⟩) l.length c∧W.heap[b]?=some (.cells ccs CE fz)∧∀i x,(l.flatMap enc)[i]?=some x→ccs[o+i]?=some x
theorem yty2 [Inhabited α] {H:Type} {e:TypeId×Value→H} {base:Nat} {sp:Nat→Bool} {held:Bool} {fuel:Nat} {t el:TypeId} {x:DataW H×List MemPlace} (ht:P.underlying t=some (.slice el)) (hc:P.cellsOf el=sz) (h0:0<sz) (hz:∀a,(enc a).length=sz)
 (each:∀{fuel cs x},DataW.trod e P W base sp held fuel el cs=some x→∃a,cs=enc a∧ok a) (hf:DataW.trod e P W base sp held fuel t [v]=some x) :
 ∃l:List α,l.length<9223372036854775808∧(∀ a∈l,ok a)∧LocL W v enc l:=by
 rcases Go.Deep.open_slice ht hf with ⟨hcs,_⟩ | ⟨a,len,cap,m,n,D,Pl,hcs,_,hlc,hcm,hm,_,hx⟩
 ·exact ⟨[],by simp,by simp,.inl ⟨by simpa using hcs,rfl⟩⟩
 ·have e:v=Value.slice (some a) len cap:=by simpa using hcs
  subst e
  have hmax:len<9223372036854775808:=by unfold maxLen at hcm;omega
  have hlm:len≤m:=by rw [hm];split <;> omega
  by_cases hl0:len=0
  ·subst hl0
   exact ⟨[],by simp,by simp,.inr (.inl ⟨a,cap,rfl,rfl⟩)⟩
  have ex:∀i,∃q:α,i<len→ok q∧∀j,j<sz→W.cell? ((a.add (i*sz)).add j)=(enc q)[j]?:=by
   intro i
   by_cases hi:i<len
   ·obtain ⟨cs',h1,h2⟩:=hx i (by omega)
    rw [hc] at h1
    obtain ⟨_,_,hcell⟩:=World.cells?_some h1
    obtain ⟨q,rfl,hok⟩:=each h2
    exact ⟨q,fun _=>⟨hok,hcell⟩⟩
   ·exact ⟨default,fun h=>absurd h hi⟩
  obtain ⟨f,hfn⟩:=Classical.axiomOfChoice ex
  have hcell0:=(hfn 0 (by omega)).2 0 h0
  have ha0:(a.add (0*sz)).add 0=a:=by simp [Addr.add]
  rw [ha0] at hcell0
  have hsome:∃y,(enc (f 0))[0]?=some y:=⟨(enc (f 0))[0]'(by rw [hz];exact h0),by simp [hz,h0]⟩
  obtain ⟨y,hy⟩:=hsome
  rw [hy] at hcell0
  have hcells:∃ccs CE fz,W.heap[a.block]?=some (.cells ccs CE fz)∧a.spot=none:=by
   unfold World.cell? at hcell0
   split at hcell0
   ·rename_i c t fz hh
    refine ⟨c,t,fz,hh,?_⟩
    cases hs:a.spot with
    | none=>rfl
    | some x=>rw [hs] at hcell0;simp at hcell0
   ·simp at hcell0
  obtain ⟨ccs,CE,fz,hh,hspot⟩:=hcells
  obtain ⟨ab,ao,asp⟩:=a
  simp only at hspot hh
  subst hspot
  have hadd:∀ao k,Addr.add ⟨ab,ao,none⟩ k=⟨ab,ao+k,none⟩:=by
   intro ao k
   unfold Addr.add
   split
   ·rename_i hk;subst hk;rfl
   ·rfl
  have hcc:∀i,i<len→∀j,j<sz→ccs[ao+(i*sz+j)]?=(enc (f i))[j]?:=by
   intro i hi j hj
   have:=(hfn i hi).2 j hj
   rw [hadd,hadd] at this
   unfold World.cell? at this
   simp only [hh,Option.isSome_none,Bool.false_eq_true,if_false] at this
   rw [← this,Nat.add_assoc]
  refine ⟨(List.range len).map f,by simpa using hmax,?_,.inr (.inr ⟨ab,ao,cap,ccs,CE,fz,by simp,hh,?_⟩)⟩
  ·intro q hq
   obtain ⟨i,hi,rfl⟩:=List.mem_map.1 hq
   exact (hfn i (List.mem_range.1 hi)).1
  ·intro i x hi
   have hil:=(List.getElem?_eq_some_iff.1 hi).1
   rw [yr37 (sz:=sz) (fun _ _=>hz _)] at hil
   simp only [List.length_map,List.length_range] at hil
   have hq:i / sz<len:=Nat.div_lt_of_lt_mul (by rw [Nat.mul_comm];exact hil)
   have hr:i%sz<sz:=Nat.mod_lt _ h0
   have e:i=i / sz*sz+i%sz:=by rw [Nat.mul_comm];exact (Nat.div_add_mod i sz).symm
   rw [e] at hi ⊢
   rw [y7xs (fun _ _=>hz _) (by simpa using hq) hr] at hi
   rw [hcc _ hq _ hr,←hi]
   simp
theorem yoku {H:Type} {e:TypeId×Value→H} {base:Nat} {sp:Nat→Bool} {held:Bool} {fuel:Nat} {t:TypeId} {cs:List Value} {x:DataW H×List MemPlace} {fs:Array Field} (ht:P.underlying t=some (.struct fs)) (ks:List IntKind) (hc:P.cellsOf t=ks.length)
 (hfs:∀(i:Nat) (k:IntKind),ks[i]?=some k→∃f:Field,fs[i]?=some f∧f.offset=i∧P.cellsOf f.type=1∧P.underlying f.type=some (.int k)) (h:DataW.trod e P W base sp held fuel t cs=some x) :
 cs.length=ks.length∧∀(i:Nat) (k:IntKind),ks[i]?=some k→∃a:Int,cs[i]?=some (Value.int k a)∧(Lit.int k a).wf=true:=by
 obtain ⟨xs,n,_,_,hlen,hxl,hf⟩:=DataW.trod_struct ht h
 rw [hc] at hlen
 refine ⟨hlen,fun i k hk=>?_⟩
 obtain ⟨f,h1,h2,h3,h4⟩:=hfs i k hk
 have hil:i<ks.length:=(List.getElem?_eq_some_iff.1 hk).1
 have g:=hf i f h1
 have hi:i<xs.length:=by rw [hxl];exact (Array.getElem?_eq_some_iff.1 h1).1
 rw [h2,h3,List.getElem?_eq_getElem hi] at g
 obtain ⟨a,ha,_,hw⟩:=DataW.trod_int h4 g
 refine ⟨a,?_,hw⟩
 have:=congrArg (fun l=>l[0]?) ha
 simpa using this
structure Opn (P:Program) (W:World) (ι:Env) (h:H) (k:Nat):Prop where
 rel:HRel P W ι h W
 two:2≤k
 free:∀c,k≤c→ι c=none∧h c=none
theorem Opn.start:Opn P W ι0 h0 2:=⟨HRel.start W,Nat.le_refl _,fun _ _=>⟨rfl,rfl⟩⟩
theorem LocL.add {ι:Env} {h:H} {k:Nat} (hl:LocL W v enc l) (E:TypeId) (hz:∀a,(enc a).length=sz) (hs:∀a,∀x∈enc a,selfC x=true) (o:Opn P W ι h k) :
 ∃ι' h' av,Opn P W ι' h' (k+1)∧Env.le ι ι'∧Sub h h'∧CRel ι' av v∧Sl enc sz h' av l:=by
 have keep:Opn P W ι h (k+1):=⟨o.rel,by have:=o.two;omega,fun c hc=>o.free c (by omega)⟩
 rcases hl with ⟨rfl,rfl⟩ | ⟨a,c,rfl,rfl⟩ | ⟨b,oo,c,ccs,CE,fz,rfl,hh,hc⟩
 ·exact ⟨ι,h,.slice none 0 0,keep,Env.le_refl _,Sub.refl _,.s .sliceNil,Sl.nil⟩
 ·exact ⟨ι,h,.slice (some ⟨1,0,none⟩) 0 0,keep,Env.le_refl _,Sub.refl _,.s (.empty1 a c),Sl.nil'⟩
 ·have hlt:b<W.heap.size:=(Array.getElem?_eq_some_iff.1 hh).1
  have hf:=o.free k (Nat.le_refl _)
  have hr:=o.rel.addRo (b:=k) (l:=⟨b,oo,0⟩) (cs:=l.flatMap enc) (E:=E) o.two hf.1 rfl hh hlt (fun i x hi=>⟨x,hc i x hi,by
   obtain ⟨a,_,ha⟩:=List.mem_flatMap.1 (List.mem_of_getElem? hi)
   exact yuzj (hs a x ha)⟩)
  refine ⟨ebind ι k ⟨b,oo,0⟩,upd h k (.cells (l.flatMap enc) E .ro),.slice (some ⟨k,0,none⟩) l.length c,⟨hr,by have:=o.two;omega,fun d hd=>?_⟩,y8cr hf.1,Sub.new hf.2,?_,?_⟩
  ·have ne:d≠k:=by omega
   have:=o.free d (by omega)
   exact ⟨by simp [ebind,ne,this.1],(yrkk _ _ ne).trans this.2⟩
  ·exact .s (SRel.slice (ι:=ebind ι k ⟨b,oo,0⟩) (b:=k) (o:=0) (n:=l.length) (c:=c) (l:=⟨b,oo,0⟩) (by simp [ebind]))
  ·refine Sl.of_block (fun _ _=>hz _) (yy0e _ _ _) ?_ ?_
   ·rw [List.drop_zero,←yr37 (enc:=enc) (sz:=sz) (fun _ _=>hz _),List.take_length]
   ·rw [yr37 (sz:=sz) (fun _ _=>hz _)];omega
end
end Go.Proofs.YtnckimioabkheaaGreat.AM
set_option linter.unusedSimpArgs false
set_option linter.unusedVariables false
set_option maxRecDepth 100000
namespace Go.Proofs.YtnckimioabkheaaGreat
open AM
open Go.ChangeShapes Go.WideShapes Go.ChangeAt Go.RowKit
def y9zf (a:Int):Prop:=0≤a∧a<4294967296
section
variable {H:Type} {enc:TypeId×Value→H} {W:World} {base:Nat} {sp:Nat→Bool} {held:Bool} {fuel:Nat} {cs:List Value} {x:DataW H×List MemPlace}
theorem yj7m (h:DataW.trod enc Tryz.prog W base sp held fuel ycpa cs=some x):∃a:Int,cs=u32V a∧y9zf a:=by
 obtain ⟨a,rfl,_,w⟩:=DataW.trod_int (k:=.u32) (by kernel_rfl) h
 simp [Lit.wf,IntKind.min,IntKind.max,IntKind.signed,IntKind.bits] at w
 exact ⟨a,rfl,by unfold y9zf;omega⟩
theorem ynn8 (h:DataW.trod enc Tryz.prog W base sp held fuel yqxz cs=some x):∃a:Sr,cs=srC a∧(y9zf a.2.1∧y9zf a.2.2.1∧0≤a.2.2.2∧a.2.2.2<256):=by
 obtain ⟨hl,hc⟩:=yoku Tryz.underlying144 [.i64,.u32,.u32,.u8] (by kernel_rfl) (fun i k hk=>by
  match i,hk with
  | 0,hk=>cases hk;exact ⟨_,rfl,rfl,by kernel_rfl,by kernel_rfl⟩
  | 1,hk=>cases hk;exact ⟨_,rfl,rfl,by kernel_rfl,by kernel_rfl⟩
  | 2,hk=>cases hk;exact ⟨_,rfl,rfl,by kernel_rfl,by kernel_rfl⟩
  | 3,hk=>cases hk;exact ⟨_,rfl,rfl,by kernel_rfl,by kernel_rfl⟩) h
 obtain ⟨a0,e0,_⟩:=hc 0 .i64 rfl
 obtain ⟨a1,e1,w1⟩:=hc 1 .u32 rfl
 obtain ⟨a2,e2,w2⟩:=hc 2 .u32 rfl
 obtain ⟨a3,e3,w3⟩:=hc 3 .u8 rfl
 simp [Lit.wf,IntKind.min,IntKind.max,IntKind.signed,IntKind.bits] at w1 w2 w3
 refine ⟨(a0,a1,a2,a3),?_,by simp only [y9zf];omega⟩
 match cs,hl with
 | [v0,v1,v2,v3],_ =>
   simp at e0 e1 e2 e3
   subst e0 e1 e2 e3;rfl
theorem yofu (h:DataW.trod enc Tryz.prog W base sp held fuel yti5 cs=some x):∃a:Sk,cs=skC a∧(0≤a.2.2∧a.2.2<256):=by
 obtain ⟨hl,hc⟩:=yoku Tryz.underlying140 [.i64,.i64,.u8] (by kernel_rfl) (fun i k hk=>by
  match i,hk with
  | 0,hk=>cases hk;exact ⟨_,rfl,rfl,by kernel_rfl,by kernel_rfl⟩
  | 1,hk=>cases hk;exact ⟨_,rfl,rfl,by kernel_rfl,by kernel_rfl⟩
  | 2,hk=>cases hk;exact ⟨_,rfl,rfl,by kernel_rfl,by kernel_rfl⟩) h
 obtain ⟨a0,e0,_⟩:=hc 0 .i64 rfl
 obtain ⟨a1,e1,_⟩:=hc 1 .i64 rfl
 obtain ⟨a2,e2,w2⟩:=hc 2 .u8 rfl
 simp [Lit.wf,IntKind.min,IntKind.max,IntKind.signed,IntKind.bits] at w2
 refine ⟨(a0,a1,a2),?_,by show 0≤a2∧a2<256;omega⟩
 match cs,hl with
 | [v0,v1,v2],_ =>
   simp at e0 e1 e2
   subst e0 e1 e2;rfl
theorem yx25 {W:World} {v:Value} {d:DataW H} {p:List MemPlace} {r0:Reach} {b0:Nat} (hval:Value.okWide Tryz.prog W r0 b0 y4pp v) (hj:DataW.Trod enc Tryz.prog W 0 (fun _=>true) true y4pp v d p) :
 ∃(q:Bool) (s k:Value) (ss:List Sr) (ks:List Sk),v=.agg #[.bool q,s,k]∧LocL W s srC ss∧LocL W k skC ks∧(∀ a∈ss,y9zf a.2.1∧y9zf a.2.2.1∧0≤a.2.2.2∧a.2.2.2<256)∧∀a∈ks,0≤a.2.2∧a.2.2<256:=by
 obtain ⟨xs,rfl,hsz⟩:=okWide_struct Tryz.underlying35 hval
 obtain ⟨cs⟩:=xs
 obtain ⟨fuel,hf⟩:=hj
 obtain ⟨ys,n,_,_,hlen,hxl,hfs⟩:=DataW.trod_struct Tryz.underlying35 hf
 have hc3:Tryz.prog.cellsOf y4pp=3:=by kernel_rfl
 have hl:cs.length=3:=by
  have:cs.length=Tryz.prog.cellsOf y4pp:=hsz
  rw [this,hc3]
 match cs,hl with
 | [v0,v1,v2],_ =>
   have hx:∀i,i<3→∃y,ys[i]?=some y:=fun i hi=>⟨ys[i]'(by rw [hxl];exact hi),by simp [hxl]⟩
   obtain ⟨y0,e0⟩:=hx 0 (by omega)
   obtain ⟨y1,e1⟩:=hx 1 (by omega)
   obtain ⟨y2,e2⟩:=hx 2 (by omega)
   have g0:=hfs 0 _ rfl
   have g1:=hfs 1 _ rfl
   have g2:=hfs 2 _ rfl
   have c0:Tryz.prog.cellsOf ym30=1:=by kernel_rfl
   have c1:Tryz.prog.cellsOf yvtk=1:=by kernel_rfl
   have c2:Tryz.prog.cellsOf yhm9=1:=by kernel_rfl
   rw [e0] at g0
   rw [e1] at g1
   rw [e2] at g2
   have g0:DataW.trod enc Tryz.prog W 0 (fun _=>true) true n ym30 [v0]=some y0:=g0
   have g1:DataW.trod enc Tryz.prog W 0 (fun _=>true) true n yvtk [v1]=some y1:=g1
   have g2:DataW.trod enc Tryz.prog W 0 (fun _=>true) true n yhm9 [v2]=some y2:=g2
   obtain ⟨q,hq,_⟩:=DataW.trod_bool Tryz.underlying4 g0
   obtain ⟨ss,_,hs1,hs2⟩:=yty2 (α:=Sr) (enc:=srC) (sz:=4) Tryz.underlying32 (by kernel_rfl) (by decide) (fun _=>rfl) (fun h=>ynn8 h) g1
   obtain ⟨ks,_,hk1,hk2⟩:=yty2 (α:=Sk) (enc:=skC) (sz:=3) Tryz.underlying33 (by kernel_rfl) (by decide) (fun _=>rfl) (fun h=>yofu h) g2
   simp at hq
   subst hq
   exact ⟨q,v1,v2,ss,ks,rfl,hs2,hk2,hs1,hk1⟩
theorem ye1a {W:World} {v w:Value} {d d3:DataW H} {p p3:List MemPlace} {r0 r3:Reach} {b0 b3:Nat} (hval:Value.okWide Tryz.prog W r0 b0 yoi5 v) (hj:DataW.Trod enc Tryz.prog W 0 (fun _=>true) true yoi5 v d p)
 (hval3:Value.okWide Tryz.prog W r3 b3 y4pp w) (hj3:DataW.Trod enc Tryz.prog W 0 (fun _=>true) true y4pp w d3 p3) {n most:Int} (hn0:0≤n) (hn1:n<4294967296) :
 ∃ι h av aw,HRel Tryz.prog W ι h W∧ARel ι av v∧ARel ι aw w∧AM.Spec Tryz.prog ylwf [av,.int .u32 n,.int .i64 most,aw] h fun v _=>v=.bool true:=by
 obtain ⟨fuel,hf⟩:=hj
 obtain ⟨a0,len,cap,rfl⟩:=okWide_slice Tryz.underlying22 hval
 obtain ⟨ws,_,hw,hL⟩:=yty2 (α:=Int) (enc:=u32V) (sz:=1) Tryz.underlying22 (by kernel_rfl) (by decide) (fun _=>rfl) (fun h=>yj7m h) hf
 obtain ⟨q,s,k,ss,ks,rfl,hs,hk,_,_⟩:=yx25 hval3 hj3
 obtain ⟨ι1,h1,av,o1,l1,s1,r1,z1⟩:=hL.add (sz:=1) ycpa (fun _=>rfl) (by simp [u32V,selfC]) Opn.start
 obtain ⟨ι2,h2,asv,o2,l2,s2,r2,z2⟩:=hs.add (sz:=4) yqxz (fun _=>rfl) (by simp [srC,selfC]) o1
 obtain ⟨ι3,h3,ak,o3,l3,s3,r3,z3⟩:=hk.add (sz:=3) yti5 (fun _=>rfl) (by simp [skC,selfC]) o2
 refine ⟨ι3,h3,av,.agg #[.bool q,asv,ak],o3.rel,.c ((r1.mono l2).mono l3),.agg (.cons (yuzj rfl) (.cons (r2.mono l3) (.cons r3 .nil))),?_⟩
 exact ydad ((z1.mono s2).mono s3) (fun x hx=>hw x hx) ⟨hn0,hn1⟩ (z2.mono s3) z3 (fun hk=>yygy hk) fun _ _=>rfl
end
end Go.Proofs.YtnckimioabkheaaGreat
namespace Go.Proofs.YtnckimioabkheaaGreat
theorem Tryz.own:ownKnob Tryz.prog.godebug=none:=by kernel_rfl
theorem Tryz.laidOut:laidOutB Tryz.prog=true:=by kernel_rfl
theorem yyhm:mapsRowed Tryz.prog=true:=by kernel_rfl
theorem yjmc:Tryz.prog.stopsHeard=true:=by kernel_rfl
theorem yl67:Tryz.prog.mayEnter=true:=by kernel_rfl
theorem yaih:Tryz.prog.liftsFinal=Rows.weaveGoodRow.lifted:=by kernel_rfl
end Go.Proofs.YtnckimioabkheaaGreat
namespace Go.Proofs.YtnckimioabkheaaGreat
theorem yz8j:Tryz.prog.inPlace 4=Rows.weaveGoodRow.inPlace:=by kernel_rfl
theorem y1bh:Tryz.prog.unfollowed 4=Rows.weaveGoodRow.unfollowed:=by kernel_rfl
theorem yxpl:Tryz.prog.recurses 4=Rows.weaveGoodRow.recurses:=by kernel_rfl
theorem y0ge:Tryz.prog.varsNamed 4=Rows.weaveGoodRow.named:=by kernel_rfl
end Go.Proofs.YtnckimioabkheaaGreat
set_option linter.unusedSimpArgs false
set_option linter.unusedVariables false
namespace Go.Proofs.YtnckimioabkheaaGreat
open Go.ChangeShapes Go.WideShapes Go.ChangeAt Go.RowKit
set_option maxRecDepth 100000 in
theorem yn6i (os:Os) (started:os.Started) (H:Type) (enc:TypeId×Value→H) :
 ReturnsInHanded {} Tryz.checked os 4 .any (Rows.weaveGoodSpec.pre6 enc Tryz.prog Tryz.f4 Rows.weaveGoodRow.domain false) (Rows.weaveGoodSpec.post enc Tryz.prog Tryz.f4 false true false false):=by
 refine returnsInHanded_of_change (C:=Tryz.checked) Tryz.own started (by kernel_rfl) Tryz.func4
  (ChangeSpec.witness6 (enc:=enc) (C:=Tryz.checked) false ⟨#[],#[.slice none 0 0,.int .u32 0,.int .i64 0,.agg #[.bool false,.slice none 0 0,.slice none 0 0]],[]⟩ 8 (by kernel_rfl) (by kernel_rfl) (by kernel_rfl) (by kernel_rfl)) ?_
 intro W base args ds gs before hval0 hW hcnd _
 have hval:∀(j:Nat) t v,Tryz.f4.params[j]?=some t→args[j]?=some v→Value.okWide Tryz.prog W .any base t v:=hval0
 have hW':=hW
 obtain ⟨p,q,hA0,hV,rfl,hfz,hnd⟩:=hW
 have hA:DataW.TrodAll enc Tryz.prog W 0 (fun _=>true) true Tryz.f4.params.toList args.toList ds p:=hA0
 rw [Tryz.params4] at hA hval
 obtain ⟨v0,v1,v2,v3,d0,d1,d2,d3,p0,p1,p2,p3,rfl,rfl,rfl,t0,t1,t2,t3⟩:=trodAll_four hA
 obtain ⟨rfl,rfl⟩:=trodVars_none hV
 have w0:=hval 0 22 v0 rfl rfl
 have w1:=hval 1 23 v1 rfl rfl
 have w2:=hval 2 3 v2 rfl rfl
 have w3:=hval 3 35 v3 rfl rfl
 obtain ⟨l,rfl,rfl,rfl,k1⟩:=open_int Tryz.underlying23 w1 t1
 obtain ⟨r,rfl,rfl,rfl,k2⟩:=open_int Tryz.underlying3 w2 t2
 clear hA0 hval0
 simp only [List.append_nil] at hW'
 have hlt:∀x∈p0++p3,x.block<W.heap.size:=fun x hx=>hW'.lt x (by simpa using hx)
 have kw:=k1
 simp [Lit.wf,IntKind.min,IntKind.max,IntKind.signed,IntKind.bits] at k1
 obtain ⟨ι,h,av,aw,hr,ha,hb,hspec⟩:=ye1a w0 t0 w3 t3 (n:=l) (most:=r) (by omega) (by omega)
 refine (AM.calls_of (args:=[av,.int .u32 l,.int .i64 r,aw]) (cargs := #[v0,.int .u32 l,.int .i64 r,v3]) hspec hr
  (.cons ha (.cons (AM.arel_self rfl) (.cons (AM.arel_self rfl) (.cons hb .nil)))) AM.bool_self).mono fun e W' ⟨he,hw⟩=>?_
 subst he
 exact ⟨_,rfl,_,_,_,[],p0++p3,[],hW',trodAll_mk1 (shut_bool Tryz.underlying4 true),
  (by
    have:=trodAll_mk4 (Below.trod Tryz.laidOut (by kernel_rfl) (of_decide_eq_true (by kernel_rfl)) t0 hw fun x hx=>hlt x (List.mem_append_left _ hx)) (shut_int Tryz.underlying23 kw) (shut_int Tryz.underlying3 k2)
     (Below.trod Tryz.laidOut (by kernel_rfl) (of_decide_eq_true (by kernel_rfl)) t3 hw fun x hx=>hlt x (List.mem_append_right _ hx))
    simp only [List.nil_append] at this
    exact this),
  rfl,hw.frame _,fun h=>by cases h⟩
theorem yuiu:joinedFacts Tryz.prog 4 Tryz.f4 Rows.weaveGoodSpec Rows.weaveGoodRow=true:=by
 unfold joinedFacts
 rw [yz8j,y1bh,yxpl,y0ge,yyhm,yjmc,yl67,yaih,Tryz.laidOut]
 kernel_rfl
theorem weaveGood_holds:Rows.WeaveGoodSaid :=
 OpenClaim.holds_of_wide 4 Tryz.f4 rfl rfl rfl rfl rfl rfl rfl ⟨rfl,rfl,rfl,rfl,rfl⟩ rfl rfl rfl rfl rfl (by kernel_rfl) Tryz.func4 yuiu
  (of_decide_eq_true (by kernel_rfl)) (by unfold Func.isWrapper;first | (rw [if_pos (by decide +kernel)];kernel_rfl) | (rw [if_neg (by decide +kernel)];exact ⟨rfl,rfl⟩))
  (fun os started H enc _=>yn6i os started H enc)
end Go.Proofs.YtnckimioabkheaaGreat
