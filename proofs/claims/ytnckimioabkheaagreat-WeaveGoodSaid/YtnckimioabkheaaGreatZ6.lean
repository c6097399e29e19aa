/-
  Part of a proof: several texts put together, long names shortened.
-/
import Derived.Test.YtnckimioabkheaaGreatZ5
import Derived.Test.YtnckimioabkheaaGreatZ4
import Derived.Test.YtnckimioabkheaaGreatZ3
import Derived.KernelRfl
import Derived.Test.YtnckimioabkheaaGreatZ2
set_option linter.unusedSimpArgs false
set_option linter.unusedVariables false
set_option maxRecDepth 100000
set_option maxHeartbeats 4000000
namespace Go.Proofs.YtnckimioabkheaaGreat
open AM
structure ROk (ρ:MS):Prop where
 kb:KB ρ
 z:MSz ρ
 srt:Srt ρ.pages
theorem y8hf {a:Int} {i:Nat}:0≤pgA a i∧pgA a i<4294967296:=⟨yd12,yina⟩
theorem yhye {ρ:MS} {a perm:Int} {x:Int×Int×List Int}:∀{i:Nat},x∈(raddP ρ a perm i).pages→x∈ρ.pages∨∃j,j<i∧x=(pgA a j,perm,yr1e)
 | 0,h=>.inl h
 | i+1,h=>by
   simp only [raddP] at h
   rcases yqs0.1 h with rfl | h
   ·exact .inr ⟨i,by omega,rfl⟩
   ·rcases yhye h with h | ⟨j,hj,rfl⟩
    ·exact .inl h
    ·exact .inr ⟨j,by omega,rfl⟩
theorem ypb8 {ρ:MS} {a perm:Int} {m:Int} (hs:Srt ρ.pages) (ha:0≤a) (hal:a%256=0) (hm:a+m*256≤4294967296) (hn:∀p∈ρ.pages,¬(a≤p.1∧p.1<a+m*256)):∀i:Nat,(i:Int)≤m→Srt (raddP ρ a perm i).pages
 | 0,_=>hs
 | i+1,hi=>by
   have hi':(i:Int)<m:=by omega
   simp only [raddP]
   refine y22m (ypb8 hs ha hal hm hn i (by omega)) fun e he=>?_
   have e1:=(y5ho (i:=i) ha hal hm hi').1
   rcases yhye he with he | ⟨j,hj,rfl⟩
   ·intro hq
    exact hn e he (by rw [hq,e1];omega)
   ·have e2:=(y5ho (i:=j) ha hal hm (by omega)).1
    show pgA a j≠pgA a i
    omega
theorem ykmf {ρ:MS} {a perm:Int}:∀i,(raddP ρ a perm i).budget=ρ.budget
 | 0=>rfl
 | i+1=>by simp only [raddP,ykmf i]
theorem ROk.map {ρ:MS} (h:ROk ρ) {a n perm:Int} (ha:0≤a) (ha2:a<4294967296) (hn:0≤n) (hn2:n<4294967296):ROk (rmapM ρ a n perm):=by
 unfold rmapM
 split
 ·rename_i he
  have hmany:=y56w (a:=a) hn hn2
  have hgood:=yb4q ha ha2 hn hn2
  unfold mapE at he
  split at he
  ·cases he
  rename_i c1
  split at he
  ·cases he
  rename_i c2
  split at he
  ·cases he
  rename_i c3
  have hg:ywc5 a n=true:=Classical.byContradiction fun hc=>c1 (.inl hc)
  obtain ⟨g1,g2,g3⟩:=hgood.1 hg
  obtain ⟨z1,z2⟩:=h.z
  have wb:IntKind.i64.wrap (ρ.budget-ρ.pages.length)=ρ.budget-ρ.pages.length:=w_i64 (by omega) (by omega)
  have wu:IntKind.u64.wrap (ρ.budget-ρ.pages.length)=ρ.budget-ρ.pages.length:=w_u64 (by omega) (by omega)
  rw [wb,wu] at c3
  rw [hmany] at c2 c3 ⊢
  obtain ⟨m,hm⟩:∃m:Nat,(n+255) / 256=m:=⟨((n+255) / 256).toNat,by omega⟩
  rw [hm] at c2 c3 g3 ⊢
  rw [Int.toNat_natCast]
  refine ⟨fun p hp=>?_,⟨?_,by rw [ykmf];exact z2⟩,ypb8 (m:=m) h.srt ha g2 g3 (fun p hp hc=>c2 ⟨p,hp,?_⟩) m (Int.le_refl _)⟩
  ·rcases yhye hp with hp | ⟨j,_,rfl⟩
   ·exact h.kb p hp
   ·exact y8hf
  ·rw [ykmf,y58f];omega
  ·exact (rin ha ha2 (by omega) (by omega) (h.kb p hp)).1 (by
    unfold yp6c
    have hk:=h.kb p hp
    rw [w_i64 (x:=p.1) (by omega) (by omega),w_i64 (x:=a) (by omega) (by omega),w_i64 (x:=(m:Int)*256) (by omega) (by omega),w_i64 (by omega) (by omega)]
    simp;omega)
 ·exact h
theorem ymli {ρ ρ':MS} (h:keysM ρ'=keysM ρ) (hk:KB ρ):KB ρ':=fun p hp=>by
 have:p.1∈keysM ρ':=List.mem_map.2 ⟨p,hp,rfl⟩
 rw [h] at this
 obtain ⟨q,hq,e⟩:=List.mem_map.1 this
 rw [← e];exact hk q hq
theorem ROk.wr {ρ:MS} (h:ROk ρ) {a most need:Int} {bs:List Int}:ROk (wrR ρ a most need bs) :=
 ⟨ymli yk6i h.kb,h.z.wr,h.srt.keys yk6i⟩
theorem ymje {ρ:MS} {a n perm:Int} (hn:0≤n) (hn2:n<4294967296):(rmapM ρ a n perm).gens.length≤ρ.gens.length+((n+255) / 256).toNat:=by
 unfold rmapM
 split
 ·rw [y56w hn hn2];exact you2 _
 ·omega
theorem yiqb {ρ:MS} {a most need:Int} {bs:List Int}:(wrR ρ a most need bs).gens.length≤ρ.gens.length+bs.length:=by
 unfold wrR
 split
 ·exact y214 _
 ·omega
section
variable {h0 h h':H} {D:RD} {ρ:MS} {K:K1}
theorem RAt.other (hr:RAt D h ρ) {b:Nat} {cs:List Value} {E:TypeId} {m:AM.Own} (hb:h b=some (.cells cs E m)) (h1:E≠yxex) (h2:E≠yezi) (h3:E≠yrli):¬ROwn D b:=by
 rintro (rfl | hc | hc)
 ·have:=hr.q
  rw [hb] at this
  simp only [Option.some.injEq,AObj.cells.injEq] at this
  exact h1 this.2.1
 ·obtain ⟨_,⟨_,hx,_⟩ | ⟨c',m',hx,_,_,h4,_⟩⟩:=hr.l
  ·rw [hx] at hc;cases hc
  ·rw [hx] at hc;cases hc
   rw [hb] at h4
   simp only [Option.some.injEq,AObj.cells.injEq] at h4
   exact h2 h4.2.1
 ·obtain ⟨_,⟨_,hx,_⟩ | ⟨c',m',hx,_,_,h4,_⟩⟩:=hr.g
  ·rw [hx] at hc;cases hc
  ·rw [hx] at hc;cases hc
   rw [hb] at h4
   simp only [Option.some.injEq,AObj.cells.injEq] at h4
   exact h3 h4.2.1
theorem RIn.over (hm:RIn h0 D h ρ) {b:Nat} {q:AObj} (hb:¬ROwn D b):RIn h0 D (upd h b q) ρ:=⟨hm.at_.keep fun c hc=>yrkk _ _ fun he=>hb (he▸hc),hm.new⟩
theorem y2g0.fr {v:Value} (hf:y2g0 h v) (hr:RAt D h ρ) (hfr:Fr (ROwn D) h h'):y2g0 h' v:=by
 obtain ⟨f,q,o,e,h1,h2,h3⟩:=hf
 exact ⟨f,q,o,e,hfr _ _ (hr.other h1 (by decide) (by decide) (by decide)) h1,hfr _ _ (hr.other h2 (by decide) (by decide) (by decide)) h2,hfr _ _ (hr.other h3 (by decide) (by decide) (by decide)) h3⟩
theorem y2g0.over {v:Value} (hf:y2g0 h v) {b:Nat} {cs:List Value} {q:AObj} {m:AM.Own} (hb:h b=some (.cells cs yb54 m)):y2g0 (upd h b q) v:=by
 obtain ⟨f,q',o,e,h1,h2,h3⟩:=hf
 have ne:∀{c:Nat} {cs':List Value} {E:TypeId} {m':AM.Own},h c=some (.cells cs' E m')→E≠yb54→c≠b:=fun hc hE he=>by
  rw [he,hb] at hc
  simp only [Option.some.injEq,AObj.cells.injEq] at hc
  exact hE hc.2.1.symm
 exact ⟨f,q',o,e,(yrkk _ _ (ne h1 (by decide))).trans h1,(yrkk _ _ (ne h2 (by decide))).trans h2,(yrkk _ _ (ne h3 (by decide))).trans h3⟩
end
structure RS1 (h0 h:H) (D:RD) (ρ:MS) (b5 b6 b7 bm:Nat) (vs:Value) (C:MC):Prop where
 mem:RIn h0 D h ρ
 ok:ROk ρ
 sub:Sub h0 h
 c5:h b5=some (.cells [.int .u32 4096,vs] yr7r .exact)
 c6:h b6=some (.cells [.bool false,nilV,nilV] ysrv .exact)
 c7:h b7=some (.cells [nilV,nilV,nilV,nilV,nilV,nilV] y5c0 .exact)
 cm:h bm=some (.cells C.cells yb54 .exact)
 n0:h0 bm=none
 co:C.Ok
 q:C.q=ptr D.q 0
 f:y2g0 h C.f
theorem RIn.sub {h0 h h':H} {D:RD} {ρ:MS} (hm:RIn h0 D h ρ) (hs:Sub h h'):RIn h0 D h' ρ:=⟨hm.at_.sub hs,hm.new⟩
section
variable {h0 h h':H} {D D':RD} {ρ ρ':MS} {b5 b6 b7 bm:Nat} {vs:Value} {C C':MC}
theorem RS1.went (r:RS1 h0 h D ρ b5 b6 b7 bm vs C) (w:RWent h0 D h D' ρ' h') (ho:ROk ρ'):RS1 h0 h' D' ρ' b5 b6 b7 bm vs C :=
 ⟨w.mem,ho,w.sub0 r.mem r.sub,w.fr _ _ (r.mem.at_.other r.c5 (by decide) (by decide) (by decide)) r.c5,w.fr _ _ (r.mem.at_.other r.c6 (by decide) (by decide) (by decide)) r.c6,
  w.fr _ _ (r.mem.at_.other r.c7 (by decide) (by decide) (by decide)) r.c7,w.fr _ _ (r.mem.at_.other r.cm (by decide) (by decide) (by decide)) r.cm,r.n0,r.co,by rw [r.q,w.q],r.f.fr r.mem.at_ w.fr⟩
theorem RS1.grow (r:RS1 h0 h D ρ b5 b6 b7 bm vs C) (hs:Sub h h'):RS1 h0 h' D ρ b5 b6 b7 bm vs C :=
 ⟨r.mem.sub hs,r.ok,r.sub.trans hs,hs _ _ r.c5,hs _ _ r.c6,hs _ _ r.c7,hs _ _ r.cm,r.n0,r.co,r.q,r.f.sub hs⟩
theorem RS1.set (r:RS1 h0 h D ρ b5 b6 b7 bm vs C) (ho:C'.Ok) (hq:C'.q=C.q) (hf:C'.f=C.f):RS1 h0 (upd h bm (.cells C'.cells yb54 .exact)) D ρ b5 b6 b7 bm vs C':=by
 have hn:=r.mem.at_.other r.cm (by decide) (by decide) (by decide)
 have ne:∀{c:Nat} {cs':List Value} {E:TypeId} {m':AM.Own},h c=some (.cells cs' E m')→E≠yb54→c≠bm:=fun hc hE he=>by
  rw [he,r.cm] at hc
  simp only [Option.some.injEq,AObj.cells.injEq] at hc
  exact hE hc.2.1.symm
 exact ⟨r.mem.over hn,r.ok,Sub.upd r.sub r.n0,(yrkk _ _ (ne r.c5 (by decide))).trans r.c5,(yrkk _ _ (ne r.c6 (by decide))).trans r.c6,(yrkk _ _ (ne r.c7 (by decide))).trans r.c7,
  yy0e _ _ _,r.n0,ho,by rw [hq,r.q],by rw [hf];exact r.f.over r.cm⟩
theorem RS1.base (r:RS1 h0 h D ρ b5 b6 b7 bm vs C) {q:Nat} {cs:List Value} {m:AM.Own} (hq:h q=some (.cells cs yoj6 m)):RS1 (upd h0 q (.cells cs yoj6 m)) h D ρ b5 b6 b7 bm vs C:=by
 have hn:=r.mem.at_.other hq (by decide) (by decide) (by decide)
 refine ⟨⟨r.mem.at_,fun b hb=>?_⟩,r.ok,fun b x hb=>?_,r.c5,r.c6,r.c7,r.cm,?_,r.co,r.q,r.f⟩
 ·have hbq:b≠q:=fun he=>hn (by rw [← he];exact hb)
  rw [yrkk _ _ hbq];exact r.mem.new b hb
 ·by_cases hbq:b=q
  ·subst hbq;rw [yy0e] at hb;rw [hq];exact hb
  ·rw [yrkk _ _ hbq] at hb;exact r.sub _ _ hb
 ·have hbq:bm≠q:=fun he=>by
   have hc:=r.cm
   rw [he,hq] at hc
   simp only [Option.some.injEq,AObj.cells.injEq] at hc
   exact absurd hc.2.1 (by decide)
  rw [yrkk _ _ hbq];exact r.n0
theorem RS1.less {q:Nat} {o:AObj} (r:RS1 (upd h0 q o) h D ρ b5 b6 b7 bm vs C) (h0q:h0 q=none):RS1 h0 h D ρ b5 b6 b7 bm vs C :=
 ⟨⟨r.mem.at_,fun b hb=>by
   have:=r.mem.new b hb
   rw [ynej] at this
   exact this.2.2⟩,r.ok,(Sub.new h0q).trans r.sub,r.c5,r.c6,r.c7,r.cm,by
   have:=r.n0
   rw [ynej] at this
   exact this.2.2,r.co,r.q,r.f⟩
theorem MC.set_flo {c:MC} (h:c.Ok) {v:Int}:c.cells.set 169 (.int .u32 v)={ c with flo:=v }.cells:=MC.set_r (i:=5) (c':={ c with flo:=v }) h ⟨rfl,rfl,rfl,rfl,rfl,rfl⟩ rfl
theorem yz7j {k:Nat} {least a n p:Int} {vb:Value} {bs:List Int} {segs:List Sg} {Kn:K6} {Kr:K2} {Ke0:K4}
 (r:RS1 h0 h D ρ b5 b6 b7 bm vs C) (hv:Sl sgC 4 h0 vs segs) (hk:k<segs.length) (hl:segs.length≤1000) (hs:segs[k]=(a,n,p,vb)) (hb:Sl u8V 1 h0 vb bs) (hbl:bs.length≤5000)
 (hgl:ρ.gens.length≤10000) (ha:0≤a) (ha2:a<2147475456) (hn:0≤n) (hn2:n<65536) (hle:least<a) (hlr : -9223372036854775808≤least)
 (hk1:∀h',Sub h0 h'→mapE ρ a n p≠0→Kr (.pointer none) (.int .i64 (mapE ρ a n p)) h')
 (hk2:∀D' h' C',C'={ C with flo:=(a+n+255) / 256*256 }→RS1 h0 h' D' (wrR (rmapM ρ a n p) a 65536 0 bs) b5 b6 b7 bm vs C'→Kn (ptr b5 0) (ptr b6 0) (ptr b7 0) (ptr bm 0) (.int .i64 a) (.int .i64 ((k:Int)+1)) h') :
 ybxa (ptr b5 0) (ptr b6 0) (ptr b7 0) (ptr bm 0) (.int .i64 least) (.int .i64 k) h Kn Kr Ke0:=by
 have hix:=fun (K:Value→Prop) (u:Dm K)=>(hv.mono r.sub).ixA (k:=.i64) hk (K:=K) (u:=u)
 rw [hs] at hix
 obtain ⟨ab,nb,cb,rfl⟩:=Sl.form hb
 simp only [sgC] at hix
 have l0:C.cells[0]?=some (ptr D.q 0):=by rw [MC.at_0,r.q]
 simp (config:={dsimp:=false}) [↓ybxa,↓y7ew,↓y4w5,↓yiac,yb3e r.c5,(hv.mono r.sub).ulen,hk,hix]
 intro b _ hbb
 have r1:=r.grow (Sub.new (o:=.cells [.int .u32 a,.int .u32 n,.int .i64 p,.slice ab nb cb] yhas .exact) hbb)
 have hc:=yy0e h b (.cells [.int .u32 a,.int .u32 n,.int .i64 p,.slice ab nb cb] yhas .exact)
 generalize upd h b _=h1 at *
 simp (config:={dsimp:=false}) [↓y4fd,↓yuof,yb3e r1.cm,yb3e hc,l0]
 refine ⟨rfl,yqej r1.mem r1.sub r.ok.kb r.ok.z (by omega) ha (by omega) hn (by omega) fun E2 h2 w2=>?_⟩
 have r2:=r1.went w2 (r.ok.map ha (by omega) hn (by omega))
 have hc2:=w2.fr _ _ (r1.mem.at_.other hc (by decide) (by decide) (by decide)) hc
 by_cases he:mapE ρ a n p=0
 case neg =>
  simp (config:={dsimp:=false}) [↓y03n,he]
  exact hk1 _ r2.sub he
 have l2:C.cells[0]?=some (ptr E2.q 0):=by rw [MC.at_0,r2.q]
 simp (config:={dsimp:=false}) [↓y03n,↓yclc,↓ytq5,he,yb3e r2.cm,yb3e hc2,l2]
 have hg2:=ymje (ρ:=ρ) (a:=a) (perm:=p) hn (show n<4294967296 by omega)
 have hz2:=r2.ok.z
 refine ⟨rfl,ylyc r2.mem r2.sub r2.ok.srt (by obtain ⟨z1,z2⟩:=hz2;omega) (by omega) (by omega) ha (by omega) hb fun E3 h3 w3=>?_⟩
 have r3:=r2.went w3 r2.ok.wr
 have hc3:=w3.fr _ _ (r2.mem.at_.other hc2 (by decide) (by decide) (by decide)) hc2
 have q1:IntKind.i64.wrap a=a:=w_i64 (by omega) (by omega)
 have q2:IntKind.i64.wrap n=n:=w_i64 (by omega) (by omega)
 have q3:IntKind.i64.wrap (a+n)=a+n:=w_i64 (by omega) (by omega)
 have q4:IntKind.i64.wrap (a+n+255)=a+n+255:=w_i64 (by omega) (by omega)
 have q5:IntKind.i64.wrap ((a+n+255) / 256)=(a+n+255) / 256:=w_i64 (by omega) (by omega)
 have q6:IntKind.i64.wrap ((a+n+255) / 256*256)=(a+n+255) / 256*256:=w_i64 (by omega) (by omega)
 have q7:IntKind.u32.wrap ((a+n+255) / 256*256)=(a+n+255) / 256*256:=w_u32 (by omega) (by omega)
 have q8:IntKind.i64.wrap ((k:Int)+1)=(k:Int)+1:=w_i64 (by omega) (by omega)
 have q9:Int.tdiv (a+n+255) 256=(a+n+255) / 256:=Int.tdiv_eq_ediv_of_nonneg (by omega)
 have hlen:=MC.len r3.co
 simp (config:={dsimp:=false}) [↓y343,yb3e hc3,ha2,q1,q2,q3,q4,q5,q6,q7,q9,hle]
 rw [r3.cm]
 refine ⟨by decide,by omega,?_⟩
 rw [MC.set_flo r3.co]
 simp (config:={dsimp:=false}) [↓yvtw,q8]
 exact hk2 E3 _ _ rfl (r3.set ⟨r3.co.x,r3.co.t⟩ rfl rfl)
end
theorem yeag {ρ:MS} {a n p most need:Int} {bs:List Int} (hn:0≤n) (hn2:n<4294967296):(wrR (rmapM ρ a n p) a most need bs).gens.length≤ρ.gens.length+((n+255) / 256).toNat+bs.length:=by
 have h1:=yiqb (ρ:=rmapM ρ a n p) (a:=a) (most:=most) (need:=need) (bs:=bs)
 have h2:=ymje (ρ:=ρ) (a:=a) (perm:=p) hn hn2
 omega
section
variable {h0 h:H} {D:RD} {b5 b6 b7 bm:Nat} {vs vb vd:Value} {C:MC}
theorem yh2a {p:Int} {bs data:List Int} {ρ0 ρ1 ρ2:MS} {Kn:K4} {Kr:K2} (r:RS1 h0 h D ρ0 b5 b6 b7 bm vs { C with flo:=2147475456 })
 (hv:Sl sgC 4 h0 vs [(4096,1024,p,vb),(65536,512,3,vd)]) (hb:Sl u8V 1 h0 vb bs) (hd:Sl u8V 1 h0 vd data) (hbl:bs.length≤1024) (hdl:data.length≤512) (hgl:ρ0.gens.length=0)
 (e1:wrR (rmapM ρ0 4096 1024 p) 4096 65536 0 bs=ρ1) (e2:wrR (rmapM ρ1 65536 512 3) 65536 65536 0 data=ρ2)
 (hk1:∀e h',e≠0→(mapE ρ0 4096 1024 p=0→mapE ρ1 65536 512 3=0→False)→Sub h0 h'→Kr (.pointer none) (.int .i64 e) h')
 (hk2:∀D' h',RS1 h0 h' D' ρ2 b5 b6 b7 bm vs { C with flo:=66048 }→Kn (ptr b5 0) (ptr b6 0) (ptr b7 0) (ptr bm 0) h') :
 yj9m (ptr b5 0) (ptr b6 0) (ptr b7 0) (ptr bm 0) (.int .i64 (-1)) h Kn Kr:=by
 unfold yj9m yag9 yfqr
 obtain ⟨J,hJ0,hJ1,hJ2⟩:∃J:Nat→Int×MS×Int,J 0=(-1,ρ0,2147475456)∧J 1=(4096,ρ1,5120)∧J 2=(65536,ρ2,66048):=⟨fun | 0=>(-1,ρ0,2147475456) | 1=>(4096,ρ1,5120) | _=>(65536,ρ2,66048),rfl,rfl,rfl⟩
 have hg1:ρ1.gens.length≤2000:=by
  have:=yeag (ρ:=ρ0) (a:=4096) (n:=1024) (p:=p) (most:=65536) (need:=0) (bs:=bs) (by decide) (by decide)
  rw [e1] at this
  omega
 refine yo1k 2 (fun i s h'=>s=(ptr b5 0,ptr b6 0,ptr b7 0,ptr bm 0,.int .i64 (J i).1,.int .i64 i)∧∃D',RS1 h0 h' D' (J i).2.1 b5 b6 b7 bm vs { C with flo:=(J i).2.2 }) ⟨by rw [hJ0];rfl,D,by rw [hJ0];exact r⟩ ?_
 rintro i s h' K' hi ⟨rfl,D',r'⟩ hk'
 match i,hi with
 | 0,_ =>
   rw [hJ0] at r' ⊢
   refine yz7j r' hv (k:=0) (by simp) (by simp) rfl hb (by omega) (by show ρ0.gens.length≤_;omega) (by decide) (by decide) (by decide) (by decide) (show (-1:Int)<4096 by decide) (show (-9223372036854775808:Int) ≤ -1 by decide) (fun h2 s2 he=>hk1 _ _ he (fun a _=>he a) s2) fun E2 h2 C2 hC2 r2=>?_
   refine hk' (ptr b5 0,ptr b6 0,ptr b7 0,ptr bm 0,.int .i64 4096,.int .i64 1) h2 (by decide) ⟨by rw [hJ1];rfl,E2,?_⟩
   rw [hJ1,←e1]
   subst hC2
   exact r2
 | 1,_ =>
   rw [hJ1] at r' ⊢
   refine yz7j r' hv (k:=1) (by simp) (by simp) rfl hd (by omega) (by show ρ1.gens.length≤_;omega) (by decide) (by decide) (by decide) (by decide) (show (4096:Int)<65536 by decide) (show (-9223372036854775808:Int)≤4096 by decide) (fun h2 s2 he=>hk1 _ _ he (fun _ a=>he a) s2) fun E2 h2 C2 hC2 r2=>?_
   refine hk' (ptr b5 0,ptr b6 0,ptr b7 0,ptr bm 0,.int .i64 65536,.int .i64 2) h2 (by decide) ⟨by rw [hJ2];rfl,E2,?_⟩
   rw [hJ2,←e2]
   subst hC2
   exact r2
 | 2,_ =>
   rw [hJ2] at r' ⊢
   simp (config:={dsimp:=false}) [↓ybxa,yb3e r'.c5,(hv.mono r'.sub).ulen]
   exact hk2 D' h' r'
end
section
variable {h:H} {K:K1}
def RFits (pages p:Int) (bs data:List Int):Prop:=mapE ⟨pages,[],[]⟩ 4096 1024 p=0∧mapE (wrR (rmapM ⟨pages,[],[]⟩ 4096 1024 p) 4096 65536 0 bs) 65536 512 3=0 ∧
 mapE (wrR (rmapM (wrR (rmapM ⟨pages,[],[]⟩ 4096 1024 p) 4096 65536 0 bs) 65536 512 3) 65536 65536 0 data) 2147475456 4096 3=0
def rmemN (pages p:Int) (bs data:List Int):MS:=wrR (rmapM (wrR (rmapM (wrR (rmapM ⟨pages,[],[]⟩ 4096 1024 p) 4096 65536 0 bs) 65536 512 3) 65536 65536 0 data) 2147475456 4096 3) 2147475456 65536 0 stkB
theorem ya4k {vs vb vd:Value} {p pages dirty:Int} {bs data:List Int} (hv:Sl sgC 4 h vs [(4096,1024,p,vb),(65536,512,3,vd)]) (hp:p=5∨p=7) (hb:Sl u8V 1 h vb bs) (hd:Sl u8V 1 h vd data) (hbl:bs.length≤1024) (hdl:data.length≤512)
 (hpg:1≤pages∧pages≤4096) (hdi:0≤dirty∧dirty≤4096)
 {R:MS} (hR:rmemN pages p bs data=R) (hk1:∀e h',e≠0→¬RFits pages p bs data→Sub h h'→K (.tuple #[.pointer none,.int .i64 e]) h')
 (hk2:∀bm D sq f h',RIn h D h' R→ROk R→Sub h h'→h bm=none→h' bm=some (.cells (mc0 (ptr D.q 0) (ptr sq 0) f).cells yb54 .exact)→y2g0 h' f→K (.tuple #[ptr bm 0,.int .i64 0]) h') :
 AM.Spec PG yvpi [.agg #[.int .u32 4096,vs],noPol,yh6o,.int .i64 pages,.int .i64 dirty] h K:=by
 refine yulk _ _ _ _ _ _ _ ?_
 have hvb:=hv.box
 simp (config:={dsimp:=false}) [↓yse5,↓yals,hvb]
 intro b5 _ hb5 b6 _ n1 n2 hb6 b7 _ n3 n4 n5 n6 hb7
 have s3:Sub h (upd (upd (upd h b5 (.cells [.int .u32 4096,vs] yr7r .exact)) b6 (.cells [.bool false,nilV,nilV] ysrv .exact)) b7 (.cells [nilV,nilV,nilV,nilV,nilV,nilV] y5c0 .exact)):=Sub.upd (Sub.upd (Sub.new hb5) hb6) hb7
 have c6:upd (upd (upd h b5 (.cells [.int .u32 4096,vs] yr7r .exact)) b6 (.cells [.bool false,nilV,nilV] ysrv .exact)) b7 (.cells [nilV,nilV,nilV,nilV,nilV,nilV] y5c0 .exact) b6=some (.cells [.bool false,nilV,nilV] ysrv .exact):=by rw [yrkk _ _ n4,yy0e]
 have c5:upd (upd (upd h b5 (.cells [.int .u32 4096,vs] yr7r .exact)) b6 (.cells [.bool false,nilV,nilV] ysrv .exact)) b7 (.cells [nilV,nilV,nilV,nilV,nilV,nilV] y5c0 .exact) b5=some (.cells [.int .u32 4096,vs] yr7r .exact):=by rw [yrkk _ _ n6,yrkk _ _ n2,yy0e]
 have c7:=yy0e (upd (upd h b5 (.cells [.int .u32 4096,vs] yr7r .exact)) b6 (.cells [.bool false,nilV,nilV] ysrv .exact)) b7 (.cells [nilV,nilV,nilV,nilV,nilV,nilV] y5c0 .exact)
 generalize upd (upd (upd h b5 _) b6 _) b7 _=h1 at s3 c5 c6 c7 ⊢
 simp (config:={dsimp:=false}) [yzql c5,yzql c6,yzql c7,n2,n4,n6]
 refine ⟨rfl,y8oc (hv.mono s3) hp (hb.mono s3) (hd.mono s3) hbl hdl ?_⟩
 simp (config:={dsimp:=false}) [yzql c6]
 refine ⟨rfl,yjhg ?_⟩
 simp (config:={dsimp:=false}) [yzql c7]
 refine ⟨rfl,y8mf ?_⟩
 have g1:¬pages<1:=by omega
 have g2:¬pages>4096:=by omega
 have g3:¬dirty<0:=by omega
 have g4:¬dirty>4096:=by omega
 simp (config:={dsimp:=false}) [g1,g2,g3,g4,↓yeh7,↓y4to,yzql c6,yzql c7]
 intro bq _ hbq b57 _ n7 n8 hbs v h2 s4 hf
 obtain ⟨f,fq,fo,rfl,f1,f2,f3⟩:=hf
 have hf:y2g0 h2 (ptr f 0):=⟨f,fq,fo,rfl,f1,f2,f3⟩
 have cq:h2 bq=some (.cells [.int .i64 pages,nilV,nilV] yxex .exact):=s4 _ _ (by rw [yrkk _ _ n8,yy0e])
 have s5:Sub h1 h2:=(Sub.upd (Sub.new hbq) hbs).trans s4
 clear s4
 simp (config:={dsimp:=false})
 intro bm _ hbm
 have hbm0:=Sub.none (s3.trans s5) hbm
 obtain ⟨C,hC⟩:∃C:MC,C=⟨ptr bq 0,ptr b57 0,zeros 32,0,0,zeros 128,ptr f 0,false,nilV,nilV,0,0,nilV⟩:=⟨_,rfl⟩
 have hCc:C.cells=MC.cells ⟨ptr bq 0,ptr b57 0,zeros 32,0,0,zeros 128,ptr f 0,false,nilV,nilV,0,0,nilV⟩:=by rw [hC]
 have hCo:C.Ok:=by rw [hC];exact mc_ok List.length_replicate
 refine (show ∀cs,cs=C.cells→ylpr (ptr b5 0) (ptr b6 0) (ptr b7 0) (ptr bm 0) (upd h2 bm (.cells cs yb54 .exact)) (fun y10 y11 h=>(boxV y10=true∧boxV y11=true)∧K (.tuple #[y10,y11]) h) (fun y10 y11 h=>(boxV y10=true∧boxV y11=true)∧K (.tuple #[y10,y11]) h) from ?_) _ (by rw [hCc];rfl)
 rintro _ rfl
 have hfC:C.f=ptr f 0:=by rw [hC]
 have s6:=Sub.new (o:=.cells C.cells yb54 .exact) hbm
 have hz0:MSz ⟨pages,[],[]⟩:=⟨by simp;omega,hpg.2⟩
 obtain ⟨D,hD⟩:∃D:RD,D=⟨bq,nilV,none,nilV,none⟩:=⟨_,rfl⟩
 have hm0:RIn h D h2 ⟨pages,[],[]⟩:=⟨⟨by rw [hD];exact cq,by rw [hD];exact OL.none,by rw [hD];exact OL.none⟩,fun b hb=>by
  rcases hb with rfl | hb | hb
  ·rw [hD];exact Sub.none s3 hbq
  ·rw [hD] at hb;cases hb
  ·rw [hD] at hb;cases hb⟩
 have r0:RS1 h (upd h2 bm (.cells C.cells yb54 .exact)) D ⟨pages,[],[]⟩ b5 b6 b7 bm vs C :=
  ⟨hm0.sub s6,⟨fun p hp=>by simp at hp,hz0,by simp [Srt]⟩,(s3.trans s5).trans s6,s6 _ _ (s5 _ _ c5),s6 _ _ (s5 _ _ c6),s6 _ _ (s5 _ _ c7),yy0e _ _ _,hbm0,hCo,by rw [hC,hD],by rw [hfC];exact hf.sub s6⟩
 generalize upd h2 bm _=h3 at r0 ⊢
 clear s6 hm0 hbm cq f1 f2 f3 hf c5 c6 c7 n1 n2 n3 n4 n5 n6 n7 n8
 have hlen:=MC.len hCo
 obtain ⟨ρ0,hρ0⟩:∃ρ0:MS,ρ0=⟨pages,[],[]⟩:=⟨_,rfl⟩
 have e0:ρ0.gens.length=0:=by rw [hρ0];rfl
 unfold rmemN at hR
 rw [← hρ0] at r0 hR
 unfold ylpr
 simp (config:={dsimp:=false}) only [s_nil]
 rw [st1 r0.cm (by decide) rfl rfl (by omega) (MC.set_flo hCo)]
 have r1:=r0.set (C':={ C with flo:=2147475456 }) ⟨hCo.x,hCo.t⟩ rfl rfl
 generalize upd h3 bm _=h4 at r1 ⊢
 unfold y2yo
 refine yh2a r1 hv hb hd hbl hdl e0 rfl rfl ?_ fun E2 h5 r2=>?_
 ·intro e h' he hno hs
  rw [hρ0] at hno
  exact ⟨⟨rfl,rfl⟩,hk1 e h' he (fun hf=>hno hf.1 hf.2.1) hs⟩
 obtain ⟨ρ2,hρ2⟩:∃ρ2,wrR (rmapM (wrR (rmapM ρ0 4096 1024 p) 4096 65536 0 bs) 65536 512 3) 65536 65536 0 data=ρ2:=⟨_,rfl⟩
 have hg2:ρ2.gens.length≤4000:=by
  have h1:=yeag (ρ:=ρ0) (a:=4096) (n:=1024) (p:=p) (most:=65536) (need:=0) (bs:=bs) (by decide) (by decide)
  have h2:=yeag (ρ:=wrR (rmapM ρ0 4096 1024 p) 4096 65536 0 bs) (a:=65536) (n:=512) (p:=3) (most:=65536) (need:=0) (bs:=data) (by decide) (by decide)
  rw [hρ2] at h2
  omega
 rw [hρ2] at hR r2
 clear r0 r1
 obtain ⟨C2,hC2⟩:∃C2:MC,C2={ C with flo:=66048 }:=⟨_,rfl⟩
 rw [← hC2] at r2
 unfold y241
 simp (config:={dsimp:=false}) [yb3e r2.c7]
 refine ⟨rfl,yvad fun q h6 s6 hq0 hq2 hq=>?_⟩
 have h0q:=Sub.none r2.sub hq0
 have r3:=(r2.grow s6).base hq
 have hvS:Sl u8V 1 (upd h q (.cells (stkB.map (.int .u8)) yoj6 .exact)) (.slice (some ⟨q,0,none⟩) 4096 4096) stkB:=by
  have:=ys9b (h:=upd h q (.cells (stkB.map (.int .u8)) yoj6 .exact)) (c:=4096) (yy0e _ _ _)
  rw [y5r7] at this
  exact this
 generalize hsp:(2147479536:Int)=sp
 have l3:C2.cells[0]?=some (ptr E2.q 0):=by rw [MC.at_0,r3.q]
 simp (config:={dsimp:=false}) only [yec8,ykd4,y2zs,ym3t]
 simp (config:={dsimp:=false}) only [s_neq,s_if]
 simp (config:={dsimp:=false}) [yb3e r3.cm,l3]
 refine ⟨rfl,yqej r3.mem r3.sub r3.ok.kb r3.ok.z (by omega) (by decide) (by decide) (by decide) (by decide) fun E4 h7 w4=>?_⟩
 have r4:=r3.went w4 (r3.ok.map (by decide) (by decide) (by decide) (by decide))
 by_cases he:mapE ρ2 2147475456 4096 3=0
 case neg =>
  simp (config:={dsimp:=false}) only [s_neq,s_if,he]
  simp (config:={dsimp:=false}) [he]
  refine hk1 _ h7 he (fun hf=>he ?_) (r4.less h0q).sub
  have:=hf.2.2
  rw [← hρ0,hρ2] at this
  exact this
 have l4:C2.cells[0]?=some (ptr E4.q 0):=by rw [MC.at_0,r4.q]
 simp (config:={dsimp:=false}) only [s_neq,s_if,he]
 simp (config:={dsimp:=false}) [yb3e r4.cm,l4]
 have hz4:=r4.ok.z
 have hg4:=ymje (ρ:=ρ2) (a:=2147475456) (n:=4096) (perm:=3) (by decide) (by decide)
 refine ⟨rfl,ylyc r4.mem r4.sub r4.ok.srt (by obtain ⟨z1,z2⟩:=hz4;omega) (by omega) (by rw [y5r7];decide) (by decide) (by decide) hvS fun E5 h8 w5=>?_⟩
 have r5:=(r4.went w5 r4.ok.wr).less h0q
 rw [hR] at r5
 clear r3 r4 w4 w5 hz4
 have l5:C2.cells[169]?=some (.int .u32 66048):=by rw [MC.at_flo r5.co,hC2]
 have hlen2:=MC.len r5.co
 have stp:∀(K:H→Prop) (u:Dm K),u_st 1 168 (.pointer (some ⟨bm,0,none⟩)) (.int .u32 66048) h8 K u=K (upd h8 bm (.cells ({ C2 with brk:=66048 }:MC).cells yb54 .exact)):=fun K u =>
  st1 r5.cm (by decide) rfl rfl (by omega) (MC.set_brk r5.co)
 simp (config:={dsimp:=false}) [yb3e r5.cm,l5,stp]
 have r6:=r5.set (C':={ C2 with brk:=66048 }) ⟨r5.co.x,r5.co.t⟩ rfl rfl
 generalize upd h8 bm _=h9 at r6 ⊢
 unfold yaz5 ygxc yf5q ywpg
 refine yq9z fun K'=>?_
 simp (config:={dsimp:=false}) [↓ytqz,yb3e r6.c6]
 have stq:∀(K:H→Prop) (u:Dm K),u_st 1 32 (.pointer (some ⟨bm,2,none⟩)) (.int .u32 4096) h9 K u=K (upd h9 bm (.cells ({ C2 with brk:=66048,pc:=4096 }:MC).cells yb54 .exact)):=fun K u=>by
  rw [s_st];exact ypi4 r6.cm (by decide) rfl rfl (by have:=MC.len r6.co;omega) (MC.set_pc r6.co)
 have r7:=r6.set (C':={ C2 with brk:=66048,pc:=4096 }) ⟨r5.co.x,r5.co.t⟩ rfl rfl
 simp (config:={dsimp:=false}) [↓yy4w,yb3e r6.c5,stq]
 refine ⟨by have:=MC.len r7.co;omega,?_⟩
 rw [show ({ C2 with brk:=66048,pc:=4096 }:MC).cells.set 4 (.int .u32 sp)=_ from MC.set_x r7.co (i:=2) (by omega)]
 have r8:=r6.set (C':={ C2 with brk:=66048,pc:=4096,x:=C2.x.set 2 sp }) ⟨by simp [r5.co.x],r5.co.t⟩ rfl rfl
 have hq8:=r8.q
 have eC:({ C2 with brk:=66048,pc:=4096,x:=C2.x.set 2 sp }:MC)=mc0 (ptr E5.q 0) (ptr b57 0) (ptr f 0):=by
  rw [← show ({ C2 with brk:=66048,pc:=4096,x:=C2.x.set 2 sp }:MC).q=ptr E5.q 0 from hq8,hC2,hC,←hsp]
  rfl
 have hf8:=r8.f
 have hf9:({ C2 with brk:=66048,pc:=4096,x:=C2.x.set 2 sp }:MC).f=ptr f 0:=by rw [eC];rfl
 refine hk2 bm E5 b57 (ptr f 0) _ r8.mem r8.ok r8.sub hbm0 ?_ (hf9▸hf8)
 rw [yy0e,←eC]
end
end Go.Proofs.YtnckimioabkheaaGreat
set_option linter.unusedSimpArgs false
set_option linter.unusedVariables false
set_option maxRecDepth 100000
set_option maxHeartbeats 4000000
namespace Go.Proofs.YtnckimioabkheaaGreat
open AM
section
variable {h:H} {K:K1}
theorem y030:∀{ws:List Int},(ytw8 ws).length=4*ws.length
 | []=>rfl
 | w::r=>by
   have:=y030 (ws:=r)
   unfold ytw8 at this ⊢
   rw [List.flatMap_cons,List.length_append,this]
   simp [word4];omega
theorem y0fb {ws:List Int}:∀x∈ytw8 ws,0≤x∧x<256:=by
 intro x hx
 unfold ytw8 at hx
 obtain ⟨w,_,hx⟩:=List.mem_flatMap.1 hx
 simp only [word4,List.mem_cons,List.not_mem_nil,or_false] at hx
 rcases hx with rfl | rfl | rfl | rfl <;> exact ⟨wn_u8,wl_u8⟩
def segP (all:Bool):Int:=if all=true then 7 else 5
theorem y2rl {all:Bool}:segP all=5∨segP all=7:=by cases all <;> simp [segP]
def lay1 (pages p:Int) (bs data:List Int):Int×MS:=layF ⟨pages,[],[]⟩ (ys41 p nilV nilV bs data)
def lay2 (pages p:Int) (bs data:List Int):Int×MS:=layF (lay1 pages p bs data).2 [stkSg]
theorem ysco {pages p:Int} {vb vd:Value} {bs data:List Int}:layF ⟨pages,[],[]⟩ (ys41 p vb vd bs data)=lay1 pages p bs data:=rfl
structure Fits (pages p:Int) (bs data:List Int):Prop where
 a:(lay1 pages p bs data).1=0
 b:(lay2 pages p bs data).1=0
 r:RFits pages p bs data
theorem yka6 {vs vb vd v32:Value} {e p pages dirty:Int} {bs data:List Int} {b10 b11 b16:Nat} (hbx:boxV v32=true)
 (c10:h b10=some (.cells [nilV,nilV,nilV,nilV,nilV,nilV] ylzr .exact)) (c11:h b11=some (.cells [.bool false,nilV,nilV] y4pp .exact)) (c16:h b16=some (.cells [.int .u32 4096,vs] y33u .exact))
 (hsg:Sl sgC 4 h vs [(4096,1024,p,vb),(65536,512,3,vd)]) (hp:p=5∨p=7) (hb:Sl u8V 1 h vb bs) (hd:Sl u8V 1 h vd data) (hbl:bs.length≤1024) (hdl:data.length≤512)
 (hpg:1≤pages∧pages≤4096) (hdi:0≤dirty∧dirty≤4096)
 (hk1:∀h',Sub h h'→(e≠0∨¬RFits pages p bs data)→K (.tuple #[.pointer none,.pointer none]) h')
 (hk2:∀bm' h',Sub h h'→e=0→K (.tuple #[v32,ptr bm' 0]) h') :
 yg9e (.int .i64 pages) (.int .i64 dirty) (ptr b10 0) (ptr b11 0) (ptr b16 0) v32 (.int .i64 e) h
  (fun y14 y15 h=>bif [y14,y15].all boxV then K (.tuple #[y14,y15]) h else False) (fun y14 y15 h=>bif [y14,y15].all boxV then K (.tuple #[y14,y15]) h else False):=by
 have hvsb:=hsg.box
 unfold yg9e y3bz
 simp (config:={dsimp:=false}) [yzql c16,yzql c11,yzql c10,hvsb]
 refine ⟨rfl,yen8 hsg ?_ (by simp) fun v1 h1 s1 hsg1=>?_⟩
 ·intro s hs
  simp only [List.mem_cons,List.not_mem_nil,or_false] at hs
  rcases hs with rfl | rfl
  ·exact (Sl.form hb).imp fun z hz=>hz.imp fun l hl=>hl.imp fun c hc=>hc
  ·exact (Sl.form hd).imp fun z hz=>hz.imp fun l hl=>hl.imp fun c hc=>hc
 have d10:=s1 _ _ c10
 have d11:=s1 _ _ c11
 have hvsb1:=hsg1.box
 simp (config:={dsimp:=false}) [yzql d11,yzql d10,hvsb1]
 refine ⟨rfl,yrmy fun h2 s2=>?_⟩
 have d10':=s2 _ _ d10
 simp (config:={dsimp:=false}) [yzql d10',hvsb1]
 refine ⟨rfl,ybr2 fun h3 s3=>?_⟩
 have s13:=(s1.trans s2).trans s3
 have s23:=s2.trans s3
 refine ⟨by simp [hvsb1],ya4k (hsg1.mono s23) hp (hb.mono s13) (hd.mono s13) hbl hdl hpg hdi rfl ?_ ?_⟩
 ·intro e2 h4 he2 hno s4
  simp (config:={dsimp:=false}) only [s_ex0,s_ex1,↓y7xz,s_neq]
  by_cases he:e=0
  ·simp (config:={dsimp:=false}) [he,he2]
   exact hk1 h4 (s13.trans s4) (.inr hno)
  ·simp (config:={dsimp:=false}) [he]
   exact hk1 h4 (s13.trans s4) (.inl he)
 ·intro bm' D sq f h4 _ _ s4 _ _ _
  simp (config:={dsimp:=false}) only [s_ex0,s_ex1,↓y7xz,s_neq]
  by_cases he:e=0
  ·simp (config:={dsimp:=false}) [he,hbx]
   exact hk2 bm' h4 (s13.trans s4) he
  ·simp (config:={dsimp:=false}) [he]
   exact hk1 h4 (s13.trans s4) (.inl he)
theorem yjd9 {v vd:Value} {ws data:List Int} {all:Bool} {pages dirty:Int} (hv:Sl u32V 1 h v ws) (hw:∀x∈ws,0≤x∧x<4294967296) (hlen:ws.length≤256) (hd:Sl u8V 1 h vd data) (hdd:∀x∈data,0≤x∧x<256) (hdl:data.length≤512)
 (hpg:1≤pages∧pages≤4096) (hdi:0≤dirty∧dirty≤4096)
 (hk1:∀h',Sub h h'→¬Fits pages (segP all) (ytw8 ws) data→K (.tuple #[.pointer none,.pointer none]) h')
 (hk2:∀bm bm' D sq sm f h' μ,μ=(lay2 pages (segP all) (ytw8 ws) data).2→MemIn h D h' μ→MSok μ→MSz μ→Sub h h'→h bm=none→h' bm=some (.cells (mc0 (ptr D.q 0) (ptr sq 0) f).cells ynne .exact) →
   h' sq=some (.cells [.int .i64 dirty,.map (some sm)] y2um .exact)→h' sm=some (.map (.int .u32) [] 0)→(¬ MOwn D μ sm∧h sq=none∧h sm=none)→K (.tuple #[ptr bm 0,ptr bm' 0]) h') :
 AM.Spec PG y7ww [v,vd,.bool all,yh6o,noPol,.int .i64 pages,.int .i64 dirty] h K:=by
 refine ycq2 _ _ _ _ _ _ _ _ _ ?_
 have hvb:=hv.box
 have hdb:=hd.box
 simp (config:={dsimp:=false}) [↓yxed,↓y7wb]
 intro b10 _ hb10 b11 _ n1 n2 hb11
 have s1:Sub h (upd (upd h b10 (.cells [nilV,nilV,nilV,nilV,nilV,nilV] ylzr .exact)) b11 (.cells [.bool false,nilV,nilV] y4pp .exact)):=Sub.upd (Sub.new hb10) hb11
 have c10:upd (upd h b10 (.cells [nilV,nilV,nilV,nilV,nilV,nilV] ylzr .exact)) b11 (.cells [.bool false,nilV,nilV] y4pp .exact) b10=some (.cells [nilV,nilV,nilV,nilV,nilV,nilV] ylzr .exact):=by rw [yrkk _ _ n2,yy0e]
 have c11:=yy0e (upd h b10 (.cells [nilV,nilV,nilV,nilV,nilV,nilV] ylzr .exact)) b11 (.cells [.bool false,nilV,nilV] y4pp .exact)
 generalize upd (upd h b10 _) b11 _=h1 at s1 c10 c11 ⊢
 refine ⟨by simp [hvb,hdb],yj7q (hv.mono s1) hw (by omega) (hd.mono s1) fun vs vb h2 s2 hq hsb hsg=>?_⟩
 replace c10:=s2 _ _ c10
 replace c11:=s2 _ _ c11
 replace s1:=s1.trans s2
 clear s2
 have hvsb:=hsg.box
 intro b16 _ hb16
 have st:∀(K:H→Prop) (u:Dm K),ylel 2 (.pointer (some ⟨b16,0,none⟩)) (.agg #[.int .u32 4096,vs]) (upd h2 b16 (.cells [.int .u32 0,.slice none 0 0] y33u .exact)) K u=K (upd h2 b16 (.cells [.int .u32 4096,vs] y33u .exact)):=fun K u=>by
  simp (config:={dsimp:=false}) [hvsb]
 rw [st]
 have s3:=Sub.new (o:=.cells [.int .u32 4096,vs] y33u .exact) hb16
 have c16:=yy0e h2 b16 (.cells [.int .u32 4096,vs] y33u .exact)
 replace hsg:=hsg.mono s3
 replace hsb:=hsb.mono s3
 replace c10:=s3 _ _ c10
 replace c11:=s3 _ _ c11
 replace s1:=s1.trans s3
 clear st
 generalize upd h2 b16 _=h3 at *
 clear s3
 have e1:(if all=true then (7:Int) else 5)=segP all:=rfl
 rw [e1] at hsg
 have hbl:(ytw8 ws).length≤1024:=by rw [y030];omega
 simp (config:={dsimp:=false}) [yzql c16,yzql c11,yzql c10,hvsb]
 refine ⟨rfl,y37b hsg y2rl hsb (hd.mono s1) hq hbl hdl y0fb hdd hpg hdi ?_ ?_⟩
 ·intro e h4 he hno s4
  rw [ysco] at hno
  refine yka6 rfl (s4 _ _ c10) (s4 _ _ c11) (s4 _ _ c16) (hsg.mono s4) y2rl (hsb.mono s4) (hd.mono (s1.trans s4)) hbl hdl hpg hdi (fun h5 s5 hor=>hk1 h5 ((s1.trans s4).trans s5) fun hf=>hno hf.a hf.b) (fun _ _ _ h0=>absurd h0 he)
 ·intro bm D sq sm f h4 μ hμ z1 z2 hm hw1 hz1 s4 hbm0 hbm hsq hsm hown
  rw [ysco] at hμ z1 z2
  refine yka6 rfl (s4 _ _ c10) (s4 _ _ c11) (s4 _ _ c16) (hsg.mono s4) y2rl (hsb.mono s4) (hd.mono (s1.trans s4)) hbl hdl hpg hdi (fun h5 s5 hor=>hk1 h5 ((s1.trans s4).trans s5) fun hf=>hor.elim (fun h=>h rfl) fun hn=>hn hf.r) fun bm' h5 s5 _=>?_
  exact hk2 bm bm' D sq sm f h5 μ hμ ⟨(hm.sub s5).at_,fun b hb=>Sub.none s1 (hm.new b hb),hm.ne,hm.inj,hm.nd⟩ hw1 hz1 ((s1.trans s4).trans s5) (Sub.none s1 hbm0) (s5 _ _ hbm) (s5 _ _ hsq) (s5 _ _ hsm) ⟨hown.1,Sub.none s1 hown.2.1,Sub.none s1 hown.2.2⟩
end
end Go.Proofs.YtnckimioabkheaaGreat
set_option linter.unusedVariables false
set_option maxRecDepth 100000
namespace Go.Proofs.YtnckimioabkheaaGreat
open Go.Proofs.YtnckimioabkheaaGreat.AM
@[simp] theorem y62w {a1:Int} {K:Value→Prop} {u:Dm K}:ysnr PG yhds [(1,.int .u32 a1)] K u=K (.agg #[.slice none 0 0,.int .u32 a1]):=by kernel_rfl
@[simp] theorem yuis {a0:Int} {a1:Int} {a2:Int} {a3:Int} {a4:Int} {a5:Int} {K:Value→Prop} {u:Dm K}:ysnr PG ycrj [(0,.int .u32 a0),(1,.int .u32 a1),(2,.int .u32 a2),(3,.int .u32 a3),(4,.int .u32 a4),(5,.int .u32 a5)] K u=K (.agg #[.int .u32 a0,.int .u32 a1,.int .u32 a2,.int .u32 a3,.int .u32 a4,.int .u32 a5]):=by kernel_rfl
@[simp] theorem y2wq {a0:Int} {a1:Int} {a2:Int} {a3:Int} {a4:Int} {K:Value→Prop} {u:Dm K}:ysnr PG yq0s [(0,.int .i64 a0),(1,.int .i64 a1),(2,.int .i64 a2),(3,.int .i64 a3),(4,.int .u32 a4)] K u=K (.agg #[.int .i64 a0,.int .i64 a1,.int .i64 a2,.int .i64 a3,.int .u32 a4]):=by kernel_rfl
@[simp] theorem y7k6 {a0_0:Int} {a0_1:Int} {a0_2:Int} {a0_3:Int} {a0_4:Int} {h:H} {K:K1} {u:Dm K}:ynqb PG yf02 1 [(0,.agg #[.int .i64 a0_0,.int .i64 a0_1,.int .i64 a0_2,.int .i64 a0_3,.int .u32 a0_4])] h K u=u_new [.int .i64 a0_0,.int .i64 a0_1,.int .i64 a0_2,.int .i64 a0_3,.int .u32 a0_4] yq0s .exact h fun b h=>K (.slice (some ⟨b,0,none⟩) 1 1) h:=by kernel_rfl
def ync2 (x0 x1 x2 x3 x4 x5:Value) (h:H) (Kn Kr:K0):Prop :=
 u_pf false 1 0 x0 h fun v16=>ysnr PG yq0s [(0,x1),(1,x2),(2,x3),(3,x4),(4,x5)] fun v22=>ynqb PG yf02 1 [(0,v22)] h fun v23 h=>yx4h yq0s 5 40 v16 v23 h fun v24 h=>y394 x0 fun v25=>u_st 1 0 v25 v24 h fun h=>Kn h
def ynva (x0 x1 x2 x3 x4 x5:Value) (h:H) (Q:K1):Prop:=ync2 x0 x1 x2 x3 x4 x5 h (fun h=>bif [].all boxV then Q (.tuple #[]) h else False) (fun h=>bif [].all boxV then Q (.tuple #[]) h else False)
theorem y1p4 (x0 x1 x2 x3 x4 x5:Value) (h:H) (Q:K1) (H0:ynva x0 x1 x2 x3 x4 x5 h Q):AM.Spec PG y1cr [x0,x1,x2,x3,x4,x5] h Q :=
 spE mixed E5_ok Tryz.func52 [] H0
def y7nh (x0 x1 x2:Value) (h:H) (Kn Kr:K0):Prop :=
 y2x6 .u32 x2 fun v9=>yjdf PG y1cr [x0,(.int .i64 2),x1,(.int .i64 0),(.int .i64 0),v9] h fun v10 h=>Kn h
def yz1t (x0 x1 x2:Value) (h:H) (Q:K1):Prop:=y7nh x0 x1 x2 h (fun h=>bif [].all boxV then Q (.tuple #[]) h else False) (fun h=>bif [].all boxV then Q (.tuple #[]) h else False)
theorem y9gn (x0 x1 x2:Value) (h:H) (Q:K1) (H0:yz1t x0 x1 x2 h Q):AM.Spec PG yrw2 [x0,x1,x2] h Q :=
 spE mixed E5_ok Tryz.func233 [] H0
def yoe6 (x0 x1 x2:Value) (h:H) (Kn Kr:K0):Prop :=
 yjdf PG y1cr [x0,(.int .i64 1),x1,(.int .i64 0),(.int .i64 0),x2] h fun v9 h=>Kn h
def yowe (x0 x1 x2:Value) (h:H) (Q:K1):Prop:=yoe6 x0 x1 x2 h (fun h=>bif [].all boxV then Q (.tuple #[]) h else False) (fun h=>bif [].all boxV then Q (.tuple #[]) h else False)
theorem yg94 (x0 x1 x2:Value) (h:H) (Q:K1) (H0:yowe x0 x1 x2 h Q):AM.Spec PG yaf9 [x0,x1,x2] h Q :=
 spE mixed E5_ok Tryz.func156 [] H0
def ymqw (x0 x1 x2:Value) (h:H) (Kn Kr:K0):Prop :=
 u_bin PG .gtr T_int x1 (.int .i64 0) fun v7=>u_if v7 (y2x6 .u32 x1 fun v11=>yjdf PG y1cr [x0,(.int .i64 3),(.int .i64 0),x2,(.int .i64 0),v11] h fun v12 h=>yjdf PG y1cr [x0,(.int .i64 9),(.int .i64 0),(.int .i64 0),(.int .i64 0),(.int .u32 0)] h fun v14 h=>Kn h) (yjdf PG y1cr [x0,(.int .i64 9),(.int .i64 0),(.int .i64 0),(.int .i64 0),(.int .u32 0)] h fun v14 h=>Kn h)
def yare (x0 x1 x2:Value) (h:H) (Q:K1):Prop:=ymqw x0 x1 x2 h (fun h=>bif [].all boxV then Q (.tuple #[]) h else False) (fun h=>bif [].all boxV then Q (.tuple #[]) h else False)
theorem yn5o (x0 x1 x2:Value) (h:H) (Q:K1) (H0:yare x0 x1 x2 h Q):AM.Spec PG yzfg [x0,x1,x2] h Q :=
 spE mixed E5_ok Tryz.func157 [] H0
def yyxt (x0 x1:Value) (h:H) (Kn Kr:K0):Prop :=
 boxV x1=true∧u_new (Value.cells x1).toList yc0x .exact h fun b3 h=>u_bf false 1 2 (.pointer (some ⟨b3,0,none⟩)) h fun v6=>yjdf PG yrw2 [x0,(.int .i64 0),v6] h fun v7 h=>u_bf false 1 4 (.pointer (some ⟨b3,0,none⟩)) h fun v10=>y2x6 .u32 v10 fun v11=>yjdf PG yaf9 [x0,(.int .i64 1),v11] h fun v12 h=>yjdf PG y1cr [x0,(.int .i64 4),(.int .i64 2),(.int .i64 0),(.int .i64 1),(.int .u32 0)] h fun v14 h=>Kn h
def y3bv (x0 x1:Value) (h:H) (Q:K1):Prop:=yyxt x0 x1 h (fun h=>bif [].all boxV then Q (.tuple #[]) h else False) (fun h=>bif [].all boxV then Q (.tuple #[]) h else False)
theorem ylnm (x0 x1:Value) (h:H) (Q:K1) (H0:y3bv x0 x1 h Q):AM.Spec PG ygwt [x0,x1] h Q :=
 spE mixed E5_ok Tryz.func232 [] H0
def ytiw (x0 x3:Value) (h:H) (Kn:K2) (Kr:K0):Prop :=
 u_pf false 1 1 x0 h fun v8=>u_bf false 1 4 x3 h fun v10=>y2x6 .u32 v10 fun v11=>u_bin PG .add ycpa v8 v11 fun v12=>yjdf PG yaf9 [x0,(.int .i64 2),v12] h fun v13 h=>Kn x0 x3 h
def y7oi (x0 x3:Value) (h:H) (Kn Kr:K0):Prop :=
 yjdf PG y1cr [x0,(.int .i64 21),(.int .i64 0),(.int .i64 2),(.int .i64 0),(.int .u32 0)] h fun v15 h=>u_pf false 1 1 x0 h fun v20=>u_bin PG .add ycpa v20 (.int .u32 4) fun v21=>yjdf PG yaf9 [x0,(.int .i64 3),v21] h fun v22 h=>u_bf false 1 1 x3 h fun v25=>yjdf PG yzfg [x0,v25,(.int .i64 3)] h fun v26 h=>yjdf PG y1cr [x0,(.int .i64 11),(.int .i64 0),(.int .i64 2),(.int .i64 0),(.int .u32 0)] h fun v28 h=>Kn h
def yp36 (x0 x3:Value) (h:H) (Kn Kr:K0):Prop :=
 ytiw x0 x3 h (fun y0 y3 h=>y7oi y0 y3 h Kn Kr) Kr
def yio4 (x0 x1:Value) (h:H) (Kn Kr:K0):Prop :=
 boxV x1=true∧u_new (Value.cells x1).toList yc0x .exact h fun b3 h=>yp36 x0 (.pointer (some ⟨b3,0,none⟩)) h Kn Kr
theorem ycut {Kn Kr:K0} {t:T} {h:H} (H0:yio4 (t 0) (t 1) h Kn Kr):Wp PG 29 (ygjk Tryz.f158.body) (mkQ (q0 Kn) (q0 Kr) ke0) t h :=
 (toE E5_ok 1 H0 fun t h (H:yp36 (t 0) (t 3) h Kn Kr)=>(sqE (q2 (fun y0 y3 h=>y7oi y0 y3 h Kn Kr) 0 3) (drE E5_ok [0,1,2,3,4,5,6,7,8,9] H) fun t h H=>(wpE E5_ok H)))
def yteq (x0 x1:Value) (h:H) (Q:K1):Prop:=yio4 x0 x1 h (fun h=>bif [].all boxV then Q (.tuple #[]) h else False) (fun h=>bif [].all boxV then Q (.tuple #[]) h else False)
theorem y7dx (x0 x1:Value) (h:H) (Q:K1) (H0:yteq x0 x1 h Q):AM.Spec PG y9rb [x0,x1] h Q :=
 spH mixed Tryz.func158 [] (ycut H0)
def y7fy (x0 x1:Value) (h:H) (Kn Kr:K0):Prop :=
 boxV x1=true∧u_new (Value.cells x1).toList yc0x .exact h fun b3 h=>ybqh true 5 (.pointer (some ⟨b3,0,none⟩)) h fun v5=>yjdf PG ygwt [x0,v5] h fun v6 h=>yjdf PG yaf9 [x0,(.int .i64 3),(.int .u32 4294967294)] h fun v8 h=>yjdf PG y1cr [x0,(.int .i64 4),(.int .i64 4),(.int .i64 2),(.int .i64 3),(.int .u32 9)] h fun v10 h=>yjdf PG y1cr [x0,(.int .i64 21),(.int .i64 0),(.int .i64 4),(.int .i64 0),(.int .u32 0)] h fun v12 h=>u_pf false 1 1 x0 h fun v17=>u_bin PG .add ycpa v17 (.int .u32 4) fun v18=>yjdf PG yaf9 [x0,(.int .i64 0),v18] h fun v19 h=>u_bf false 1 1 (.pointer (some ⟨b3,0,none⟩)) h fun v22=>yjdf PG yzfg [x0,v22,(.int .i64 0)] h fun v23 h=>yjdf PG y1cr [x0,(.int .i64 11),(.int .i64 0),(.int .i64 4),(.int .i64 0),(.int .u32 0)] h fun v25 h=>Kn h
def y4lu (x0 x1:Value) (h:H) (Q:K1):Prop:=y7fy x0 x1 h (fun h=>bif [].all boxV then Q (.tuple #[]) h else False) (fun h=>bif [].all boxV then Q (.tuple #[]) h else False)
theorem y8xm (x0 x1:Value) (h:H) (Q:K1) (H0:y4lu x0 x1 h Q):AM.Spec PG y7o9 [x0,x1] h Q :=
 spE mixed E5_ok Tryz.func159 [] H0
def yoaj (x0 x3:Value) (h:H) (Kn:K1) (Kr:K0):Prop :=
 u_pf false 1 1 x0 h fun v23=>u_bf false 1 4 x3 h fun v25=>y2x6 .u32 v25 fun v26=>u_bin PG .add ycpa v23 v26 fun v27=>yjdf PG y1cr [x0,(.int .i64 10),(.int .i64 0),(.int .i64 2),(.int .i64 0),v27] h fun v28 h=>Kn x0 h
def y96a (x0:Value) (h:H) (Kn Kr:K0):Prop :=
 yjdf PG y1cr [x0,(.int .i64 9),(.int .i64 0),(.int .i64 0),(.int .i64 0),(.int .u32 0)] h fun v30 h=>Kn h
def y0k9 (x0 x3:Value) (h:H) (Kn Kr:K0):Prop :=
 yoaj x0 x3 h (fun y0 h=>y96a y0 h Kn Kr) Kr
def y66g (x0 x1:Value) (h:H) (Kn Kr:K0):Prop :=
 boxV x1=true∧u_new (Value.cells x1).toList yc0x .exact h fun b3 h=>u_bf false 1 2 (.pointer (some ⟨b3,0,none⟩)) h fun v6=>yjdf PG yrw2 [x0,(.int .i64 0),v6] h fun v7 h=>u_bf false 1 3 (.pointer (some ⟨b3,0,none⟩)) h fun v10=>yjdf PG yrw2 [x0,(.int .i64 1),v10] h fun v11 h=>ysnr PG ycrj [(0,(.int .u32 0)),(1,(.int .u32 1)),(2,(.int .u32 4)),(3,(.int .u32 5)),(4,(.int .u32 6)),(5,(.int .u32 7))] fun v13=>u_bf false 1 0 (.pointer (some ⟨b3,0,none⟩)) h fun v15=>u_bin PG .sub T_int v15 (.int .i64 5) fun v16=>ywq9 false 6 false 1 v13 v16 fun v17=>yjdf PG y1cr [x0,(.int .i64 5),(.int .i64 2),(.int .i64 0),(.int .i64 1),v17] h fun v18 h=>y0k9 x0 (.pointer (some ⟨b3,0,none⟩)) h Kn Kr
theorem ymh2 {Kn Kr:K0} {t:T} {h:H} (H0:y66g (t 0) (t 1) h Kn Kr):Wp PG 31 (ygjk Tryz.f160.body) (mkQ (q0 Kn) (q0 Kr) ke0) t h :=
 (toE E5_ok 4 H0 fun t h (H:y0k9 (t 0) (t 3) h Kn Kr)=>(sqE (q1 (fun y0 h=>y96a y0 h Kn Kr) 0) (drE E5_ok [0,1,2,3,4,5,6,7,8,9] H) fun t h H=>(wpE E5_ok H)))
def yak3 (x0 x1:Value) (h:H) (Q:K1):Prop:=y66g x0 x1 h (fun h=>bif [].all boxV then Q (.tuple #[]) h else False) (fun h=>bif [].all boxV then Q (.tuple #[]) h else False)
theorem y1k3 (x0 x1:Value) (h:H) (Q:K1) (H0:yak3 x0 x1 h Q):AM.Spec PG ymae [x0,x1] h Q :=
 spH mixed Tryz.func160 [] (ymh2 H0)
def yf79 (x0 x1:Value) (h:H) (Kn Kr:K0):Prop :=
 boxV x1=true∧u_new (Value.cells x1).toList yc0x .exact h fun b3 h=>ybqh true 5 (.pointer (some ⟨b3,0,none⟩)) h fun v8=>yjdf PG ygwt [x0,v8] h fun v9 h=>u_bf false 1 0 (.pointer (some ⟨b3,0,none⟩)) h fun v12=>u_ct y3yw [v12] h fun v13 h=>yvu8 v13 0 fun v14=>yvu8 v13 1 fun v15=>y2x6 .u32 v14 fun v17=>u_bf false 1 0 (.pointer (some ⟨b3,0,none⟩)) h fun v19=>u_ct yda5 [v19] h fun v20 h=>u_if v20 (u_bf false 1 3 (.pointer (some ⟨b3,0,none⟩)) h fun v23=>yjdf PG yrw2 [x0,(.int .i64 3),v23] h fun v24 h=>yjdf PG y1cr [x0,(.int .i64 7),(.int .i64 0),(.int .i64 2),(.int .i64 3),v17] h fun v27 h=>yjdf PG y1cr [x0,(.int .i64 9),(.int .i64 0),(.int .i64 0),(.int .i64 0),(.int .u32 0)] h fun v29 h=>Kr h) (u_if v15 (u_bin PG .or ycpa v17 (.int .u32 8) fun v32=>yjdf PG y1cr [x0,(.int .i64 6),(.int .i64 3),(.int .i64 2),(.int .i64 0),v32] h fun v35 h=>u_bf false 1 1 (.pointer (some ⟨b3,0,none⟩)) h fun v38=>yjdf PG yzfg [x0,v38,(.int .i64 3)] h fun v39 h=>Kn h) (yjdf PG y1cr [x0,(.int .i64 6),(.int .i64 3),(.int .i64 2),(.int .i64 0),v17] h fun v35 h=>u_bf false 1 1 (.pointer (some ⟨b3,0,none⟩)) h fun v38=>yjdf PG yzfg [x0,v38,(.int .i64 3)] h fun v39 h=>Kn h))
def y2cs (x0 x1:Value) (h:H) (Q:K1):Prop:=yf79 x0 x1 h (fun h=>bif [].all boxV then Q (.tuple #[]) h else False) (fun h=>bif [].all boxV then Q (.tuple #[]) h else False)
theorem ynp3 (x0 x1:Value) (h:H) (Q:K1) (H0:y2cs x0 x1 h Q):AM.Spec PG yls4 [x0,x1] h Q :=
 spE mixed E5_ok Tryz.func161 [] H0
def yh2w (x0 x1:Value) (h:H) (Kn Kr:K0):Prop :=
 boxV x1=true∧u_new (Value.cells x1).toList yc0x .exact h fun b3 h=>u_bf false 1 0 (.pointer (some ⟨b3,0,none⟩)) h fun v8=>u_ct ywpv [v8] h fun v9 h=>yvu8 v9 0 fun v10=>yvu8 v9 1 fun v11=>u_bf false 1 2 (.pointer (some ⟨b3,0,none⟩)) h fun v14=>yjdf PG yrw2 [x0,(.int .i64 0),v14] h fun v15 h=>u_bf false 1 0 (.pointer (some ⟨b3,0,none⟩)) h fun v17=>u_bin PG .leq T_int v17 (.int .i64 27) fun v18=>u_if v18 (u_bf false 1 4 (.pointer (some ⟨b3,0,none⟩)) h fun v21=>y2x6 .u32 v21 fun v22=>yjdf PG yaf9 [x0,(.int .i64 1),v22] h fun v23 h=>y2x6 .u32 v10 fun v30=>yjdf PG y1cr [x0,(.int .i64 4),(.int .i64 2),(.int .i64 0),(.int .i64 1),v30] h fun v31 h=>u_bf false 1 1 (.pointer (some ⟨b3,0,none⟩)) h fun v34=>yjdf PG yzfg [x0,v34,(.int .i64 2)] h fun v35 h=>Kn h) (u_bf false 1 3 (.pointer (some ⟨b3,0,none⟩)) h fun v26=>yjdf PG yrw2 [x0,(.int .i64 1),v26] h fun v27 h=>y2x6 .u32 v10 fun v30=>yjdf PG y1cr [x0,(.int .i64 4),(.int .i64 2),(.int .i64 0),(.int .i64 1),v30] h fun v31 h=>u_bf false 1 1 (.pointer (some ⟨b3,0,none⟩)) h fun v34=>yjdf PG yzfg [x0,v34,(.int .i64 2)] h fun v35 h=>Kn h)
def yqy2 (x0 x1:Value) (h:H) (Q:K1):Prop:=yh2w x0 x1 h (fun h=>bif [].all boxV then Q (.tuple #[]) h else False) (fun h=>bif [].all boxV then Q (.tuple #[]) h else False)
theorem ynti (x0 x1:Value) (h:H) (Q:K1) (H0:yqy2 x0 x1 h Q):AM.Spec PG yrtp [x0,x1] h Q :=
 spE mixed E5_ok Tryz.func162 [] H0
def ya1p (x0 x3:Value) (h:H) (Kn Kr Ke0:K0):Prop :=
 u_bf false 1 4 x3 h fun v20=>y2x6 .u32 v20 fun v21=>yjdf PG yaf9 [x0,(.int .i64 0),v21] h fun v22 h=>u_bf false 1 1 x3 h fun v25=>yjdf PG yzfg [x0,v25,(.int .i64 0)] h fun v26 h=>Kn h
def ywfg (x0 x3:Value) (h:H) (Kn:K2) (Kr Ke0:K0):Prop :=
 u_pf false 1 1 x0 h fun v34=>u_bf false 1 4 x3 h fun v36=>y2x6 .u32 v36 fun v37=>u_bin PG .add ycpa v34 v37 fun v38=>yjdf PG yaf9 [x0,(.int .i64 0),v38] h fun v39 h=>Kn x0 x3 h
def y2zk (x0 x3:Value) (h:H) (Kn Kr Ke0:K0):Prop :=
 u_bf false 1 1 x3 h fun v42=>yjdf PG yzfg [x0,v42,(.int .i64 0)] h fun v43 h=>Kn h
def y1aw (x0 x3:Value) (h:H) (Kn Kr Ke0:K0):Prop :=
 ywfg x0 x3 h (fun y0 y3 h=>y2zk y0 y3 h Kn Kr Ke0) Kr Ke0
def ypgy (x0 x3 x4:Value) (h:H) (Kn Kr Ke0:K0):Prop :=
 u_bin PG .eql T_int x4 (.int .i64 3) fun v46=>u_if v46 (ybqh true 5 x3 h fun v48=>yjdf PG y9rb [x0,v48] h fun v49 h=>Kn h) (u_bin PG .eql T_int x4 (.int .i64 4) fun v52=>u_if v52 (ybqh true 5 x3 h fun v54=>yjdf PG y7o9 [x0,v54] h fun v55 h=>Kn h) (u_bin PG .geq T_int x4 (.int .i64 5) fun v58=>ydv6 v58 true (fun k4=>u_bin PG .leq T_int x4 (.int .i64 10) fun v61=>k4 v61 h) (fun v61 h=>y9rg v58 v61 (.bool false) fun v62=>u_if v62 (ybqh true 5 x3 h fun v64=>yjdf PG ymae [x0,v64] h fun v65 h=>Kn h) (u_bin PG .geq T_int x4 (.int .i64 11) fun v68=>ydv6 v68 true (fun k4=>u_bin PG .leq T_int x4 (.int .i64 18) fun v71=>k4 v71 h) (fun v71 h=>y9rg v68 v71 (.bool false) fun v72=>u_if v72 (ybqh true 5 x3 h fun v74=>yjdf PG yls4 [x0,v74] h fun v75 h=>Kn h) (u_bin PG .geq T_int x4 (.int .i64 19) fun v78=>ydv6 v78 true (fun k4=>u_bin PG .leq T_int x4 (.int .i64 45) fun v81=>k4 v81 h) (fun v81 h=>y9rg v78 v81 (.bool false) fun v82=>u_if v82 (ybqh true 5 x3 h fun v84=>yjdf PG yrtp [x0,v84] h fun v85 h=>Kn h) (u_bin PG .eql T_int x4 (.int .i64 48) fun v88=>u_if v88 (yjdf PG y1cr [x0,(.int .i64 13),(.int .i64 0),(.int .i64 0),(.int .i64 0),(.int .u32 5)] h fun v90 h=>Kn h) (u_bin PG .eql T_int x4 (.int .i64 49) fun v93=>u_if v93 (yjdf PG y1cr [x0,(.int .i64 13),(.int .i64 0),(.int .i64 0),(.int .i64 0),(.int .u32 6)] h fun v95 h=>Kn h) (yjdf PG y1cr [x0,(.int .i64 9),(.int .i64 0),(.int .i64 0),(.int .i64 0),(.int .u32 0)] h fun v14 h=>Kn h)))) h)) h)) h))
def yaw9 (x0 x3 x4 x27:Value) (h:H) (Kn Kr Ke0:K0):Prop :=
 u_if x27 (y1aw x0 x3 h Kn Kr Ke0) (ypgy x0 x3 x4 h Kn Kr Ke0)
def y12u (x0 x3 x4:Value) (h:H) (Kn Kr Ke0:K0):Prop :=
 u_bin PG .eql T_int x4 (.int .i64 2) fun v29=>yaw9 x0 x3 x4 v29 h Kn Kr Ke0
def ywv5 (x0 x3 x4 x15:Value) (h:H) (Kn Kr Ke0:K0):Prop :=
 u_if x15 (ya1p x0 x3 h Kn Kr Ke0) (y12u x0 x3 x4 h Kn Kr Ke0)
def ykeo (x0 x3 x4:Value) (h:H) (Kn Kr Ke0:K0):Prop :=
 u_bin PG .eql T_int x4 (.int .i64 1) fun v17=>ywv5 x0 x3 x4 v17 h Kn Kr Ke0
def y4sp (x0 x3 x4:Value) (h:H) (Kn Kr:K0):Prop :=
 ykeo x0 x3 x4 h Kn Kr Kn
def yka2 (x0 x1:Value) (h:H) (Kn Kr:K0):Prop :=
 boxV x1=true∧u_new (Value.cells x1).toList yc0x .exact h fun b3 h=>u_pf false 1 1 x0 h fun v9=>yjdf PG y1cr [x0,(.int .i64 8),(.int .i64 0),(.int .i64 0),(.int .i64 0),v9] h fun v10 h=>u_bf false 1 0 (.pointer (some ⟨b3,0,none⟩)) h fun v12=>y4sp x0 (.pointer (some ⟨b3,0,none⟩)) v12 h Kn Kr
theorem yord {Kn Kr:K0} {t:T} {h:H} (H0:yka2 (t 0) (t 1) h Kn Kr):Wp PG 96 (ygjk Tryz.f51.body) (mkQ (q0 Kn) (q0 Kr) ke0) t h :=
 (toE E5_ok 3 H0 fun t h (H:y4sp (t 0) (t 3) (t 4) h Kn Kr)=>(bkE 0 (toE E5_ok 1 H fun t h (H:ywv5 (t 0) (t 3) (t 4) (t 15) h Kn Kr Kn)=>(cdE H (fun H=>(wpE E5_ok H)) fun H=>(toE E5_ok 1 H fun t h (H:yaw9 (t 0) (t 3) (t 4) (t 27) h Kn Kr Kn)=>(cdE H (fun H=>(sqE (q2 (fun y0 y3 h=>y2zk y0 y3 h Kn Kr Kn) 0 3) (drE E5_ok [0,1,2,3,4,5,6,7,8,9] H) fun t h H=>(wpE E5_ok H))) fun H=>(wpE E5_ok H)))))))
def yali (x0 x1:Value) (h:H) (Q:K1):Prop:=yka2 x0 x1 h (fun h=>bif [].all boxV then Q (.tuple #[]) h else False) (fun h=>bif [].all boxV then Q (.tuple #[]) h else False)
theorem yinc (x0 x1:Value) (h:H) (Q:K1) (H0:yali x0 x1 h Q):AM.Spec PG y76q [x0,x1] h Q :=
 spH mixed Tryz.func51 [] (yord H0)
def ytn3 (x3 x16 x17 x18:Value) (h:H) (Kn:K4) (Kr Ke0:K1):Prop :=
 u_bin PG .lss T_int x18 x17 fun v19=>u_if v19 (u_ix true 5 none x16 x18 h fun v21=>u_new [.int .i64 0,.int .i64 0,.int .i64 0,.int .i64 0,.int .i32 0] yc0x .exact h fun b5 h=>ylel 5 (.pointer (some ⟨b5,0,none⟩)) v21 h fun h=>ybqh true 5 (.pointer (some ⟨b5,0,none⟩)) h fun v23=>yjdf PG y76q [x3,v23] h fun v24 h=>u_pf false 1 1 x3 h fun v28=>u_bin PG .add ycpa v28 (.int .u32 4) fun v29=>y394 x3 fun v30=>u_st 1 1 v30 v29 h fun h=>u_bin PG .add T_int x18 (.int .i64 1) fun v32=>Kn x3 x16 x17 v32 h) (Ke0 x3 h)
def ynsh (x3 x16 x17 x18:Value) (h:H) (Kn Kr Ke0:K1):Prop :=
 sloop (S:=Value×Value×Value×Value) (fun s h K=>ytn3 s.1 s.2.1 s.2.2.1 s.2.2.2 h (fun y3 y16 y17 y18 h=>K (y3,y16,y17,y18) h) Kr Ke0) (x3,x16,x17,x18) h
def ya2i (x3 x16 x17 x18:Value) (h:H) (Kn Kr:K1):Prop :=
 ynsh x3 x16 x17 x18 h Kn Kr Kn
def y896 (x1 x3:Value) (h:H) (Kn Kr:K1):Prop :=
 u_bf false 1 1 x1 h fun v16=>ywmm v16 fun v17=>ya2i x3 v16 v17 (.int .i64 0) h Kn Kr
def ybk7 (x3:Value) (h:H) (Kn:K2) (Kr:K1):Prop :=
 u_pf false 1 0 x3 h fun v36=>u_pf false 1 0 x3 h fun v40=>ywmm v40 fun v41=>u_bin PG .sub T_int v41 (.int .i64 1) fun v42=>u_ixf false 1 0 none 5 v36 v42 h fun v45=>Kn x3 v45 h
def yym3 (x3 x6:Value) (h:H) (Kn Kr:K1):Prop :=
 u_bin PG .lss T_int x6 (.int .i64 11) fun v47=>ydv6 v47 false (fun k4=>u_bin PG .gtr T_int x6 (.int .i64 13) fun v50=>k4 v50 h) (fun v50 h=>y9rg v47 (.bool true) v50 fun v51=>u_if v51 (u_pf false 1 1 x3 h fun v56=>yjdf PG y1cr [x3,(.int .i64 12),(.int .i64 0),(.int .i64 0),(.int .i64 0),v56] h fun v57 h=>Kn x3 h) (Kn x3 h)) h
def y6mk (x3:Value) (h:H) (Kn Kr:K1):Prop :=
 ybk7 x3 h (fun y3 y6 h=>yym3 y3 y6 h Kn Kr) Kr
def yh6b (x3:Value) (h:H) (Kn Kr:K1):Prop :=
 u_pf false 1 0 x3 h fun v61=>Kr v61 h
def y2mk (x3:Value) (h:H) (Kn Kr:K1):Prop :=
 y6mk x3 h (fun y3 h=>yh6b y3 h Kn Kr) Kr
def y9xi (x1 x3:Value) (h:H) (Kn Kr:K1):Prop :=
 y896 x1 x3 h (fun y3 h=>y2mk y3 h Kn Kr) Kr
def yk2y (x0:Value) (h:H) (Kn Kr:K1):Prop :=
 boxV x0=true∧u_new (Value.cells x0).toList yrjx .exact h fun b1 h=>u_bf false 1 1 (.pointer (some ⟨b1,0,none⟩)) h fun v8=>ywmm v8 fun v9=>u_bin PG .eql T_int v9 (.int .i64 0) fun v10=>u_if v10 (Kr (.slice none 0 0) h) (u_bf false 1 0 (.pointer (some ⟨b1,0,none⟩)) h fun v12=>ysnr PG yhds [(1,v12)] fun v13=>boxV v13=true∧u_new (Value.cells v13).toList yhds .exact h fun b14 h=>y9xi (.pointer (some ⟨b1,0,none⟩)) (.pointer (some ⟨b14,0,none⟩)) h Kn Kr)
theorem ykd0 {Kn Kr:K1} {t:T} {h:H} (H0:y9xi (t 1) (t 3) h Kn Kr):Wp PG 62 (rest 3 (ygjk Tryz.f13.body)) (mkQ (q1 Kn 2) (q1 Kr 2) ke0) t h :=
 (sqE (q1 (fun y3 h=>y2mk y3 h Kn Kr) 3) (toE E5_ok 1 H0 fun t h (H:ya2i (t 3) (t 16) (t 17) (t 18) h (fun y3 h=>y2mk y3 h Kn Kr) Kr)=>(bkE 0 (lpE (fun t=>(t 3,t 16,t 17,t 18)) H fun t h K H=>(wpE E5_ok H)))) fun t h H=>(sqE (q1 (fun y3 h=>yh6b y3 h Kn Kr) 3) (sqE (q2 (fun y3 y6 h=>yym3 y3 y6 h (fun y3 h=>yh6b y3 h Kn Kr) Kr) 3 6) (drE E5_ok [0,1,2,3,4,5,6,7,8,9,10,11,12,13] H) fun t h H=>(wpE E5_ok H)) fun t h H=>(wpE E5_ok H)))
theorem ypnl {Kn Kr:K1} {t:T} {h:H} (H0:yk2y (t 0) h Kn Kr):Wp PG 62 (ygjk Tryz.f13.body) (mkQ (q1 Kn 2) (q1 Kr 2) ke0) t h :=
 (toE E5_ok 3 H0 fun t h (H:y9xi (t 1) (t 3) h Kn Kr)=>(ykd0 H))
def ylc2 (x0:Value) (h:H) (Q:K1):Prop:=yk2y x0 h Q Q
theorem yaxt (x0:Value) (h:H) (Q:K1) (H0:ylc2 x0 h Q):AM.Spec PG y849 [x0] h Q :=
 spH mixed Tryz.func13 [2] (ypnl H0)
end Go.Proofs.YtnckimioabkheaaGreat
set_option linter.unusedSimpArgs false
set_option linter.unusedVariables false
set_option maxRecDepth 100000
namespace Go.Proofs.YtnckimioabkheaaGreat
open AM
abbrev Ins:=Int×Int×Int×Int×Int
def insC (i:Ins):List Value:=[.int .i64 i.1,.int .i64 i.2.1,.int .i64 i.2.2.1,.int .i64 i.2.2.2.1,.int .i32 i.2.2.2.2]
def endsB (i:Ins):Bool:=yesp i.1 i.2.1 i.2.2.1 i.2.2.2.1 i.2.2.2.2
def findL (μ:MS) (pc most:Int):Nat→Int→List Ins→List Ins×(Int×Int×Int)
 | 0,_,l=>(l,(0,0,0))
 | f+1,at_,l =>
   if (l.length:Int)<most∧at_.tdiv 256=pc.tdiv 256 then
    if (ysel μ at_).2.1≠0 then (if l=[] then ([],(ysel μ at_).2) else (l,(0,0,0)))
    else if endsB (ysel μ at_).1 then (l++[(ysel μ at_).1],(0,0,0))
    else findL μ pc most f (IntKind.u32.wrap (at_+4)) (l++[(ysel μ at_).1])
   else (l,(0,0,0))
def findF (μ:MS) (pc most:Int):List Ins×(Int×Int×Int):=findL μ pc (min (max most 1) 64) 65 pc []
theorem ynow {x:Int} (h0:0≤x) (h1:x<4294967296):IntKind.u32.wrap (x.tdiv 256)=x.tdiv 256:=by
 rw [Int.tdiv_eq_ediv_of_nonneg h0]
 exact w_u32 (by omega) (by omega)
section
variable {D:MD} {h:H} {μ:MS} {K:K1}
theorem y2ht {h':H} {v:Value} {l:List Ins} {pc gen:Int} {b6 b7 b8:Nat} {Kn Kr:K3} (hs:Sub h h') (n1:b7≠b6) (hb6:h b6=none) (hb7:h b7=none) (e6:h' b6=some (.cells [.int .u32 0,.slice none 0 0,.int .u32 0] yrjx .exact))
 (e7:h' b7=some (.cells [.int .i64 0,.int .u32 0,.int .i64 0] ys2z .exact)) (e8:h' b8=some (.cells [.int .u32 pc,v,.int .u32 gen] yrjx .exact)) (hg:Gr insC 5 yc0x h h' v l)
 (hKr:Kr=fun y6 y7 y60 h=>o_ret y60 h fun h=>ybqh true 3 y6 h fun v0=>ybqh true 3 y7 h fun v1=>[v0,v1].all boxV=true∧K (.tuple #[v0,v1]) h)
 (hk:∀h',Sub h h'→Sl insC 5 h' v l→K (.tuple #[.agg #[.int .u32 pc,v,.int .u32 gen],evV (0,0,0)]) h') :
 y3t4 (ptr b6 0) (ptr b7 0) (ptr b8 0) undef h' Kn Kr:=by
 subst hKr
 have hv:=hg.sl.box
 have g2:=(hg.over e6 (q':=.cells [.int .u32 pc,v,.int .u32 gen] yrjx .exact) (by simp))
 have e7':upd h' b6 (.cells [.int .u32 pc,v,.int .u32 gen] yrjx .exact) b7=some (.cells [.int .i64 0,.int .u32 0,.int .i64 0] ys2z .exact):=by rw [yrkk _ _ n1];exact e7
 have g3:=(g2.over e7' (q':=.cells [.int .i64 0,.int .u32 0,.int .i64 0] ys2z .exact) (by simp))
 simp (config:={dsimp:=false}) [↓y3t4,yzql e8,e6,e7,n1,Ne.symm n1,hv]
 refine hk _ (Sub.upd (Sub.upd hs hb6) hb7) g3.sl
theorem _root_.Go.Proofs.YtnckimioabkheaaGreat.AM.Gr.cells1 {e:TypeId} {h0 h:H} {v:Value} {sz:Nat} {α:Type} {enc:α→List Value} {l:List α} (hg:Gr enc sz e h0 h v l):v.cells = #[v]:=by
 obtain ⟨_,⟨_,rfl⟩ | ⟨b,_,_,rfl,_⟩⟩:=hg <;> rfl
theorem ybr9 {h2:H} {x0 x1 x2 x9 x60 v:Value} {l:List Ins} {pc gen:Int} {i:Ins} {ev:Int×Int×Int} {b6 b7 b8 b10 b11:Nat} {Kn Ke1:K8} {Kr:K3} {Ke0:K4}
 (c10:h2 b10=some (.cells (insC i) yc0x .exact)) (c11:h2 b11=some (.cells [.int .i64 ev.1,.int .u32 ev.2.1,.int .i64 ev.2.2] ys2z .exact))
 (n1:b7≠b6) (n2:b8≠b6) (n3:b8≠b7) (m6:b11≠b6) (m8:b10≠b8) (hb6:h b6=none) (hb7:h b7=none) (hb8:h b8=none)
 (e6:h2 b6=some (.cells [.int .u32 0,.slice none 0 0,.int .u32 0] yrjx .exact))
 (e7:h2 b7=some (.cells [.int .i64 0,.int .u32 0,.int .i64 0] ys2z .exact)) (e8:h2 b8=some (.cells [.int .u32 pc,v,.int .u32 gen] yrjx .exact))
 (hg:Gr insC 5 yc0x h h2 v l) (hs:Sub h h2) (hl:l.length<64)
 (k1:ev.1≠0→l=[]→∀h',Sub h h'→h' b6=some (.cells [.int .u32 0,.slice none 0 0,.int .u32 0] yrjx .exact)→h' b7=some (.cells [.int .i64 ev.1,.int .u32 ev.2.1,.int .i64 ev.2.2] ys2z .exact)→Kr (ptr b6 0) (ptr b7 0) x60 h')
 (k2:ev.1≠0→l≠[]→Ke0 (ptr b6 0) (ptr b7 0) (ptr b8 0) x60 h2)
 (k3:ev.1=0→∀v' h',Gr insC 5 yc0x h h' v' (l++[i])→Sub h h'→h' b6=some (.cells [.int .u32 0,.slice none 0 0,.int .u32 0] yrjx .exact) →
   h' b7=some (.cells [.int .i64 0,.int .u32 0,.int .i64 0] ys2z .exact)→h' b8=some (.cells [.int .u32 pc,v',.int .u32 gen] yrjx .exact) →
   if endsB i=true then Ke0 (ptr b6 0) (ptr b7 0) (ptr b8 0) x60 h' else Kn x0 x1 x2 (ptr b6 0) (ptr b7 0) (ptr b8 0) x9 x60 h') :
 ytml x0 x1 x2 (ptr b6 0) (ptr b7 0) (ptr b8 0) x9 (ptr b10 0) (ptr b11 0) x60 h2 Kn Kr Ke1 Ke0:=by
 obtain ⟨i0,i1,i2,i3,i4⟩:=i
 obtain ⟨v0,v1,v2⟩:=ev
 unfold ytml
 simp (config:={dsimp:=false}) only [insC] at c10 c11 k1 k2 k3
 by_cases hev:v0=0
 ·have k3:=k3 hev
  simp (config:={dsimp:=false}) [↓yqdk,↓ysyq,↓yq4b,↓yrxt,yb3e c11,yb3e e8,yzql c10,hev]
  refine yw9z (x:=(i0,i1,i2,i3,i4)) hg hs rfl (by omega) (by omega) (by omega) (fun v' h' g' s' hke hfr=>?_) rfl
  have e6':=hke _ _ e6 (hg.exact_ne e6)
  have e7':=hke _ _ e7 (hg.exact_ne e7)
  have e8':=hke _ _ e8 (hg.exact_ne e8)
  have d10:=hke _ _ c10 (hg.exact_ne c10)
  have d10':∀q,upd h' b8 q b10=some _:=fun q=>(yrkk _ _ m8).trans d10
  have hv:=g'.sl.box
  have hc:=g'.cells1
  simp (config:={dsimp:=false}) [e8',hv,yzql (d10' _),hc]
  have k:=k3 v' _ (g'.over e8' (q':=.cells [.int .u32 pc,v',.int .u32 gen] yrjx .exact) (by simp)) (Sub.upd s' hb8) ((yrkk _ _ (Ne.symm n2)).trans e6') ((yrkk _ _ (Ne.symm n3)).trans e7') (by simp [upd])
  exact k
 ·simp (config:={dsimp:=false}) [↓yqdk,↓ysyq,↓yt27,↓yfne,↓y5bu,yb3e c11,yb3e e8,hg.sl.ulen,hev]
  split
  ·rename_i hl0
   simp (config:={dsimp:=false}) [↓y6lp,↓y7yi,↓yxgf,yb3e c11,yb3e e8,yzql c11,hev,e6,e7,n1,n2,n3,m6,Ne.symm n1]
   exact k1 hev hl0 _ (Sub.upd (Sub.upd hs hb6) hb7) (by rw [yrkk _ _ (Ne.symm n1)];simp [upd]) (by simp [upd])
  ·rename_i hl0
   simp (config:={dsimp:=false}) [↓yhwb,↓y9i3]
   exact k2 hev hl0
theorem y9xs {pc most:Int} (hm:MemAt D h μ) (hw:MSok μ) (ha:0≤pc) (ha2:pc<4294967296)
 (hk:∀v gen h',Sub h h'→Sl insC 5 h' v (findF μ pc most).1→K (.tuple #[.agg #[.int .u32 (if (findF μ pc most).2.1=0 then pc else 0),v,.int .u32 gen],evV (findF μ pc most).2]) h') :
 AM.Spec PG yvbn [ptr D.q 0,.int .u32 pc,.int .i64 most] h K:=by
 refine ysek _ _ _ _ _ ?_
 unfold y3fr yxge
 intro b6 h62 hb6 b7 h72 hb7
 have s1:Sub h (upd h b6 (.cells [.int .u32 0,.slice none 0 0,.int .u32 0] yrjx .exact)):=Sub.new hb6
 have s2:=s1.newer (q:=.cells [.int .i64 0,.int .u32 0,.int .i64 0] ys2z .exact) hb7
 simp only [s_max,s_min]
 refine ⟨rfl,ycvw (hm.sub s2) ?_⟩
 generalize ((fnd (yovn pc) μ.gens).getD 0)=gen
 have hR:findF μ pc most=findL μ pc (min (max most 1) 64) 65 pc []:=rfl
 have hm64:min (max most 1) 64≤64:=by omega
 generalize min (max most 1) 64=mst at *
 generalize findF μ pc most=R at *
 rw [ynej] at hb7
 obtain ⟨n1,n2,hb7⟩:=hb7
 simp (config:={dsimp:=false,contextual:=true}) [↓ynoy,↓y0i9,↓y4u0,↓yogf,n1,n2,hb6,hb7]
 intro b8 h82 n3 n4 n5 n6 hb8
 refine yo1k 64 (fun i s h'=>∃(v:Value) (l:List Ins) (at_:Int),s=(ptr D.q 0,.int .u32 pc,.int .i64 mst,ptr b6 0,ptr b7 0,ptr b8 0,.int .u32 at_,undef)∧l.length=i∧Sub h h'∧h' b6=some (.cells [.int .u32 0,.slice none 0 0,.int .u32 0] yrjx .exact) ∧
  h' b7=some (.cells [.int .i64 0,.int .u32 0,.int .i64 0] ys2z .exact)∧h' b8=some (.cells [.int .u32 pc,v,.int .u32 gen] yrjx .exact)∧Gr insC 5 yc0x h h' v l∧0≤at_∧at_<4294967296∧R=findL μ pc mst (65-i) at_ l) ?_ ?_
 ·refine ⟨.slice none 0 0,[],pc,rfl,rfl,?_,?_,?_,?_,Gr.empty,ha,ha2,hR⟩
  ·repeat (first | exact Sub.refl _ | refine Sub.upd ?_ (by assumption))
  ·simp [upd,n1,n2,n3,n4,n5,n6,Ne.symm n3,Ne.symm n5]
  ·simp [upd,n1,n2,n3,n4,n5,n6]
  ·simp [upd]
 ·rintro i s h' K' hi ⟨v,l,at_,rfl,hl,hs,e6,e7,e8,hg,g1,g2,hr⟩ hk'
  obtain ⟨f,hf⟩:∃f,65-i=f+1:=⟨64-i,by omega⟩
  rw [hf,findL] at hr
  simp (config:={dsimp:=false}) [↓y26c,yb3e e8,hg.sl.ulen,hl,ynow g1 g2,ynow ha ha2]
  rw [hl] at hr
  split
  ·rename_i hc
   rw [if_pos hc] at hr
   unfold ybfi y6bj y6cd
   refine ⟨rfl,ybes (hm.sub hs) hw g1 g2 ?_⟩
   generalize ysel μ at_=F at *
   obtain ⟨⟨i0,i1,i2,i3,i4⟩,ev0,ev1,ev2⟩:=F
   simp (config:={dsimp:=false}) only [s_ex0,s_ex1,s_new]
   intro b10 _ hb10 b11 _ hb11
   rw [ynej] at hb11
   obtain ⟨m1,m2,hb11⟩:=hb11
   simp (config:={dsimp:=false}) [insV,evV,m1,m2]
   have ne6:b6≠b10∧b6≠b11:=⟨fun e=>(by rw [e,hb10] at e6;cases e6),fun e=>(by rw [e,hb11] at e6;cases e6)⟩
   have ne7:b7≠b10∧b7≠b11:=⟨fun e=>(by rw [e,hb10] at e7;cases e7),fun e=>(by rw [e,hb11] at e7;cases e7)⟩
   have ne8:b8≠b10∧b8≠b11:=⟨fun e=>(by rw [e,hb10] at e8;cases e8),fun e=>(by rw [e,hb11] at e8;cases e8)⟩
   have hgk:∀q1 q2 q3 q4,Gr insC 5 yc0x h (upd (upd (upd (upd h' b10 q1) b11 q2) b10 q3) b11 q4) v l:=fun q1 q2 q3 q4=>hg.keep fun c hc=>by
    have hcn:=hg.there hc
    have c1:c≠b10:=fun e=>hcn (e▸hb10)
    have c2:c≠b11:=fun e=>hcn (e▸hb11)
    rw [yrkk _ _ c2,yrkk _ _ c1,yrkk _ _ c2,yrkk _ _ c1]
   have hkp:∀{c o} q1 q2 q3 q4,h' c=some o→c≠b10∧c≠b11→upd (upd (upd (upd h' b10 q1) b11 q2) b10 q3) b11 q4 c=some o:=fun q1 q2 q3 q4 e c=>by
    rw [yrkk _ _ c.2,yrkk _ _ c.1,yrkk _ _ c.2,yrkk _ _ c.1];exact e
   have h10:=Sub.none hs hb10
   have h11:=Sub.none hs hb11
   refine ybr9 (h:=h) (i:=(i0,i1,i2,i3,i4)) (ev:=(ev0,ev1,ev2)) (v:=v) (l:=l) (pc:=pc) (gen:=gen) (by rw [yrkk _ _ (by assumption)];simp [upd,insC]) (by simp [upd]) n1 n5 n3 (Ne.symm ne6.2) (Ne.symm ne8.1) hb6 hb7 hb8 (hkp _ _ _ _ e6 ne6) (hkp _ _ _ _ e7 ne7) (hkp _ _ _ _ e8 ne8) (hgk _ _ _ _)
    (Sub.upd (Sub.upd (Sub.upd (Sub.upd hs h10) h11) h10) h11) (by omega) ?_ ?_ ?_
   ·rintro q1 rfl h3 s3 t6 t7
    simp only [ne_eq] at q1
    rw [if_pos q1,if_pos rfl] at hr
    subst hr
    simp (config:={dsimp:=false}) [yzql t6,yzql t7]
    have k:=hk (.slice none 0 0) 0 h3 s3 Sl.nil
    simp only [if_neg q1] at k
    exact k
   ·intro q1 q2
    simp only [ne_eq] at q1
    rw [if_pos q1,if_neg q2] at hr
    subst hr
    refine y2ht (Sub.upd (Sub.upd (Sub.upd (Sub.upd hs h10) h11) h10) h11) n1 hb6 hb7 (hkp _ _ _ _ e6 ne6) (hkp _ _ _ _ e7 ne7) (hkp _ _ _ _ e8 ne8) (hgk _ _ _ _) rfl fun h2 q1 q2=>hk v gen h2 q1 q2
   ·intro q1 v' h3 g3 s3 t6 t7 t8
    simp only at q1
    rw [if_neg (by simp [q1])] at hr
    split
    ·rename_i q2
     rw [if_pos q2] at hr
     subst hr
     exact y2ht s3 n1 hb6 hb7 t6 t7 t8 g3 rfl fun h2 q1 q2=>hk v' gen h2 q1 q2
    ·rename_i q2
     rw [if_neg q2] at hr
     obtain ⟨hc1,hc2⟩:=hc
     have hi':i<64:=by omega
     simp (config:={dsimp:=false}) [↓yoap]
     refine hk' _ _ hi' ⟨v',_,_,rfl,by simp [hl],s3,t6,t7,t8,g3,?_,?_,?_⟩
     ·exact yd12
     ·exact yina
     ·have:f=65-(i+1):=by omega
      rw [← this];exact hr
  ·rename_i hc
   rw [if_neg hc] at hr
   subst hr
   exact y2ht hs n1 hb6 hb7 e6 e7 e8 hg rfl fun h2 q1 q2=>hk v gen h2 q1 q2
end
end Go.Proofs.YtnckimioabkheaaGreat
set_option linter.unusedVariables false
set_option linter.unusedSimpArgs false
set_option maxRecDepth 100000
namespace Go.Proofs.YtnckimioabkheaaGreat
open Go.Proofs.YtnckimioabkheaaGreat.AM
def F14_7 (x0 x3 x24 x25 x26:Value) (h:H) (Kn:Value→Value→Value→Value→Value→H→Prop) (Kr:Value→H→Prop) (Ke0:Value→H→Prop):Prop :=
 ys75 none 5 x24 x26 fun v28=>ysm8 true 5 v28 h fun v29=>o_new [.int .i64 0,.int .i64 0,.int .i64 0,.int .i64 0,.int .u32 0] 64 .exact h fun b5 h=>yxd5 5 (.pointer (some ⟨b5,0,none⟩)) v29 h fun h=>ysm8 true 5 (.pointer (some ⟨b5,0,none⟩)) h fun v30=>ywv3 Tryz.prog 53 [v30] h fun v31 h=>o_un Tryz.prog .not v31 fun v32=>yy7w v32 false (fun k13=>yokc 0 (.pointer (some ⟨b5,0,none⟩)) fun v34=>ysm8 false 1 v34 h fun v35=>ywv3 Tryz.prog 54 [v35] h fun v36 h=>yy7w v36 true (fun k12=>yokc 1 (.pointer (some ⟨b5,0,none⟩)) fun v38=>ysm8 false 1 v38 h fun v39=>ys75 (some 256) 1 x3 v39 fun v40=>ysm8 false 1 v40 h fun v41=>o_un Tryz.prog .not v41 fun v42=>k12 v42 h) (fun v42 h=>yw1w v36 v42 (.bool false) fun v43=>k13 v43 h) h) (fun v43 h=>yw1w v32 (.bool true) v43 fun v44=>o_if v44 (Kr (.bool false) h) (ysm8 true 5 (.pointer (some ⟨b5,0,none⟩)) h fun v45=>ywv3 Tryz.prog 56 [v45] h fun v46 h=>List.all [] ysqa=true∧List.all [x3] ysqa=true∧ywv3 Tryz.prog 55 [v46,(.func (.func 57) #[] #[x3])] h fun v48 h=>o_if v48 (Kr (.bool false) h) (ysm8 true 5 (.pointer (some ⟨b5,0,none⟩)) h fun v50=>ywv3 Tryz.prog 58 [v50] h fun v51 h=>ychn v51 0 fun v52=>ychn v51 1 fun v53=>o_if v53 (ys75 (some 256) 1 x3 v52 fun v56=>yxd5 1 v56 (.bool true) h fun h=>Kn x0 x3 x24 x25 x26 h) (Kn x0 x3 x24 x25 x26 h)))) h
theorem yovq (Kn Kr Ke0) (t:T) (h:H) (H0:F14_7 (t 0) (t 3) (t 24) (t 25) (t 26) h Kn Kr Ke0):Wp Tryz.prog 71 (seqL (rest 2 (lopC (blkC (rest 1 (seqL (rest 3 (ygjk Tryz.f14.body)))))))) (mkQ (fun t h=>Kn (t 0) (t 3) (t 24) (t 25) (t 26) h) (fun t h=>Kr (t 2) h) (keAdd 0 (fun t h=>Ke0 (t 0) h) ke0)) t h :=
 wpEqF H0 (by kernel_rfl)
def F14_8 (x0 x3 x24 x25 x26:Value) (h:H) (Kn:Value→Value→Value→Value→Value→H→Prop) (Kr:Value→H→Prop) (Ke0:Value→H→Prop):Prop :=
 o_bin Tryz.prog .add 3 x26 (.int .i64 1) fun v57=>Kn x0 x3 x24 x25 v57 h
theorem yi02 (Kn Kr Ke0) (t:T) (h:H) (H0:F14_8 (t 0) (t 3) (t 24) (t 25) (t 26) h Kn Kr Ke0):Wp Tryz.prog 71 (seqR (rest 2 (lopC (blkC (rest 1 (seqL (rest 3 (ygjk Tryz.f14.body)))))))) (mkQ (fun t h=>Kn (t 0) (t 3) (t 24) (t 25) (t 26) h) (fun t h=>Kr (t 2) h) (keAdd 0 (fun t h=>Ke0 (t 0) h) ke0)) t h :=
 wpEqF H0 (by kernel_rfl)
def F14_6 (x0 x3 x24 x25 x26:Value) (h:H) (Kn:Value→Value→Value→Value→Value→H→Prop) (Kr:Value→H→Prop) (Ke0:Value→H→Prop):Prop :=
 F14_7 x0 x3 x24 x25 x26 h (fun y0 y3 y24 y25 y26 h=>F14_8 y0 y3 y24 y25 y26 h Kn Kr Ke0) Kr Ke0
theorem yzap (Kn Kr Ke0) (t:T) (h:H) (H0:F14_6 (t 0) (t 3) (t 24) (t 25) (t 26) h Kn Kr Ke0):Wp Tryz.prog 71 (rest 2 (lopC (blkC (rest 1 (seqL (rest 3 (ygjk Tryz.f14.body))))))) (mkQ (fun t h=>Kn (t 0) (t 3) (t 24) (t 25) (t 26) h) (fun t h=>Kr (t 2) h) (keAdd 0 (fun t h=>Ke0 (t 0) h) ke0)) t h :=
 ykv2 (by kernel_rfl) (fun t h H1=>yi02 Kn Kr Ke0 t h H1) (yovq (fun y0 y3 y24 y25 y26 h=>F14_8 y0 y3 y24 y25 y26 h Kn Kr Ke0) Kr Ke0 t h H0)
def F14_5 (x0 x3 x24 x25 x26:Value) (h:H) (Kn:Value→Value→Value→Value→Value→H→Prop) (Kr:Value→H→Prop) (Ke0:Value→H→Prop):Prop :=
 o_bin Tryz.prog .lss 3 x26 x25 fun v27=>o_if v27 (F14_6 x0 x3 x24 x25 x26 h Kn Kr Ke0) (Ke0 x0 h)
theorem y59e (Kn Kr Ke0) (t:T) (h:H) (H0:F14_5 (t 0) (t 3) (t 24) (t 25) (t 26) h Kn Kr Ke0):Wp Tryz.prog 71 (lopC (blkC (rest 1 (seqL (rest 3 (ygjk Tryz.f14.body)))))) (mkQ (fun t h=>Kn (t 0) (t 3) (t 24) (t 25) (t 26) h) (fun t h=>Kr (t 2) h) (keAdd 0 (fun t h=>Ke0 (t 0) h) ke0)) t h :=
 y3i4 2 H0 (by kernel_rfl) (fun t h (H1:F14_6 (t 0) (t 3) (t 24) (t 25) (t 26) h Kn Kr Ke0)=>yzap Kn Kr Ke0 t h H1) (by kernel_rfl)
def F14_4 (x0 x3 x24 x25 x26:Value) (h:H) (Kn:Value→H→Prop) (Kr:Value→H→Prop) (Ke0:Value→H→Prop):Prop :=
 sloop (S:=Value×Value×Value×Value×Value) (fun s h K=>F14_5 s.1 s.2.1 s.2.2.1 s.2.2.2.1 s.2.2.2.2 h (fun y0 y3 y24 y25 y26 h=>K (y0,y3,y24,y25,y26) h) Kr Ke0) (x0,x3,x24,x25,x26) h
theorem ywy2 (Kn Kr Ke0) (t:T) (h:H) (H0:F14_4 (t 0) (t 3) (t 24) (t 25) (t 26) h Kn Kr Ke0):Wp Tryz.prog 71 (blkC (rest 1 (seqL (rest 3 (ygjk Tryz.f14.body))))) (mkQ (fun t h=>Kn (t 0) h) (fun t h=>Kr (t 2) h) (keAdd 0 (fun t h=>Ke0 (t 0) h) ke0)) t h :=
 yv0a (fun t=>(t 0,t 3,t 24,t 25,t 26)) (by kernel_rfl) (fun t h K H1=>y59e (fun y0 y3 y24 y25 y26 h=>K (y0,y3,y24,y25,y26) h) Kr Ke0 t h H1) H0
def F14_3 (x0 x3 x24 x25 x26:Value) (h:H) (Kn:Value→H→Prop) (Kr:Value→H→Prop):Prop :=
 F14_4 x0 x3 x24 x25 x26 h Kn Kr Kn
theorem yl16 (Kn Kr) (t:T) (h:H) (H0:F14_3 (t 0) (t 3) (t 24) (t 25) (t 26) h Kn Kr):Wp Tryz.prog 71 (rest 1 (seqL (rest 3 (ygjk Tryz.f14.body)))) (mkQ (fun t h=>Kn (t 0) h) (fun t h=>Kr (t 2) h) ke0) t h :=
 y6tu 0 (by kernel_rfl) (by kernel_rfl) (ywy2 Kn Kr Kn t h H0)
def F14_2 (x0 x3:Value) (h:H) (Kn:Value→H→Prop) (Kr:Value→H→Prop):Prop :=
 yn0t x0 fun v25=>F14_3 x0 x3 x0 v25 (.int .i64 0) h Kn Kr
theorem ya9t (Kn Kr) (t:T) (h:H) (H0:F14_2 (t 0) (t 3) h Kn Kr):Wp Tryz.prog 71 (seqL (rest 3 (ygjk Tryz.f14.body))) (mkQ (fun t h=>Kn (t 0) h) (fun t h=>Kr (t 2) h) ke0) t h :=
 y3i4 1 H0 (by kernel_rfl) (fun t h (H1:F14_3 (t 0) (t 3) (t 24) (t 25) (t 26) h Kn Kr)=>yl16 Kn Kr t h H1) (by kernel_rfl)
def F14_9 (x0:Value) (h:H) (Kn:Value→H→Prop) (Kr:Value→H→Prop):Prop :=
 yn0t x0 fun v60=>o_bin Tryz.prog .sub 3 v60 (.int .i64 1) fun v61=>ys75 none 5 x0 v61 fun v62=>yokc 0 v62 fun v63=>ysm8 false 1 v63 h fun v64=>o_bin Tryz.prog .geq 3 v64 (.int .i64 11) fun v66=>yy7w v66 true (fun k4=>o_bin Tryz.prog .leq 3 v64 (.int .i64 13) fun v69=>k4 v69 h) (fun v69 h=>yw1w v66 v69 (.bool false) fun v70=>Kr v70 h) h
theorem yx46 (Kn Kr) (t:T) (h:H) (H0:F14_9 (t 0) h Kn Kr):Wp Tryz.prog 71 (seqR (rest 3 (ygjk Tryz.f14.body))) (mkQ (fun t h=>Kn (t 2) h) (fun t h=>Kr (t 2) h) ke0) t h :=
 wpEqF H0 (by kernel_rfl)
def F14_1 (x0 x3:Value) (h:H) (Kn:Value→H→Prop) (Kr:Value→H→Prop):Prop :=
 F14_2 x0 x3 h (fun y0 h=>F14_9 y0 h Kn Kr) Kr
theorem y40h (Kn Kr) (t:T) (h:H) (H0:F14_1 (t 0) (t 3) h Kn Kr):Wp Tryz.prog 71 (rest 3 (ygjk Tryz.f14.body)) (mkQ (fun t h=>Kn (t 2) h) (fun t h=>Kr (t 2) h) ke0) t h :=
 ykv2 (by kernel_rfl) (fun t h H1=>yx46 Kn Kr t h H1) (ya9t (fun y0 h=>F14_9 y0 h Kn Kr) Kr t h H0)
def F14_0 (x0:Value) (h:H) (Kn:Value→H→Prop) (Kr:Value→H→Prop):Prop :=
 yn0t x0 fun v10=>o_bin Tryz.prog .eql 3 v10 (.int .i64 0) fun v11=>yy7w v11 false (fun k6=>yn0t x0 fun v14=>o_bin Tryz.prog .gtr 3 v14 (.int .i64 2000) fun v15=>k6 v15 h) (fun v15 h=>yw1w v11 (.bool true) v15 fun v16=>yy7w v16 false (fun k13=>ys75 none 5 x0 (.int .i64 0) fun v19=>yokc 0 v19 fun v20=>ysm8 false 1 v20 h fun v21=>o_bin Tryz.prog .neq 3 v21 (.int .i64 8) fun v22=>k13 v22 h) (fun v22 h=>yw1w v16 (.bool true) v22 fun v23=>o_if v23 (Kr (.bool false) h) (o_new (List.replicate 256 ((.bool false):Value)) 128 .exact h fun b3 h=>F14_1 x0 (.pointer (some ⟨b3,0,none⟩)) h Kn Kr)) h) h
theorem y3y0 (Kn Kr) (t:T) (h:H) (H0:F14_0 (t 0) h Kn Kr):Wp Tryz.prog 71 (ygjk Tryz.f14.body) (mkQ (fun t h=>Kn (t 2) h) (fun t h=>Kr (t 2) h) ke0) t h :=
 y3i4 3 H0 (by kernel_rfl) (fun t h (H1:F14_1 (t 0) (t 3) h Kn Kr)=>y40h Kn Kr t h H1) (by kernel_rfl)
def F14 (x0:Value) (h:H) (Q:Value→H→Prop):Prop:=F14_0 x0 h (fun v h=>Q v h) (fun v h=>Q v h)
theorem yp1e (x0:Value) (h:H) (Q:Value→H→Prop) (H0:F14 x0 h Q):AM.Spec Tryz.prog 14 [x0] h Q :=
 yqxt mixed (fn:=Tryz.f14) Tryz.func14 (c:=ygjk Tryz.f14.body) (rs:=[2]) (N:=71) (by kernel_rfl) (by kernel_rfl) (by kernel_rfl) (by kernel_rfl) (by kernel_rfl) (Nat.le_of_ble_eq_true rfl) (y3y0 (fun v h=>Q v h) (fun v h=>Q v h) (tinit [x0]) h H0) (by kernel_rfl)
def F58_5 (x1 x5:Value) (h:H) (Kn:Value→Value→H→Prop) (Kr:Value→Value→H→Prop) (Ke0:H→Prop):Prop :=
 o_bin Tryz.prog .eql 3 x5 (.int .i64 1) fun v7=>o_if v7 (Kn x1 v7 h) (o_bin Tryz.prog .eql 3 x5 (.int .i64 2) fun v8=>o_if v8 (Kn x1 v8 h) (o_bin Tryz.prog .eql 3 x5 (.int .i64 4) fun v9=>o_if v9 (Kn x1 v9 h) (o_bin Tryz.prog .eql 3 x5 (.int .i64 5) fun v10=>o_if v10 (Kn x1 v10 h) (o_bin Tryz.prog .eql 3 x5 (.int .i64 6) fun v11=>Kn x1 v11 h))))
theorem yb4f (Kn Kr Ke0) (t:T) (h:H) (H0:F58_5 (t 1) (t 5) h Kn Kr Ke0):Wp Tryz.prog 14 (seqL (blkC (rest 1 (seqL (rest 1 (ygjk Tryz.f58.body)))))) (mkQ (fun t h=>Kn (t 1) (t 6) h) (fun t h=>Kr (t 2) (t 3) h) (keAdd 0 (fun t h=>Ke0 h) ke0)) t h :=
 wpEqF H0 (by kernel_rfl)
theorem ygld {a:Int} {x1:Value} {h:H} {Kn Kr Ke0}:F58_5 x1 (.int .i64 a) h Kn Kr Ke0=Kn x1 (.bool (decide (a=1)||(decide (a=2)||(decide (a=4)||(decide (a=5)||decide (a=6)))))) h:=by
 simp only [F58_5,yc02,if_or]
def F58_6 (x1 x6:Value) (h:H) (Kn:H→Prop) (Kr:Value→Value→H→Prop) (Ke0:H→Prop):Prop :=
 o_if x6 (yokc 1 x1 fun v12=>ysm8 false 1 v12 h fun v13=>Kr v13 (.bool true) h) (Kn h)
theorem y11u (Kn Kr Ke0) (t:T) (h:H) (H0:F58_6 (t 1) (t 6) h Kn Kr Ke0):Wp Tryz.prog 14 (seqR (blkC (rest 1 (seqL (rest 1 (ygjk Tryz.f58.body)))))) (mkQ (fun t h=>Kn h) (fun t h=>Kr (t 2) (t 3) h) (keAdd 0 (fun t h=>Ke0 h) ke0)) t h :=
 wpEqF H0 (by kernel_rfl)
def F58_4 (x1 x5:Value) (h:H) (Kn:H→Prop) (Kr:Value→Value→H→Prop) (Ke0:H→Prop):Prop :=
 F58_5 x1 x5 h (fun y1 y6 h=>F58_6 y1 y6 h Kn Kr Ke0) Kr Ke0
theorem ytld (Kn Kr Ke0) (t:T) (h:H) (H0:F58_4 (t 1) (t 5) h Kn Kr Ke0):Wp Tryz.prog 14 (blkC (rest 1 (seqL (rest 1 (ygjk Tryz.f58.body))))) (mkQ (fun t h=>Kn h) (fun t h=>Kr (t 2) (t 3) h) (keAdd 0 (fun t h=>Ke0 h) ke0)) t h :=
 ykv2 (by kernel_rfl) (fun t h H1=>y11u Kn Kr Ke0 t h H1) (yb4f (fun y1 y6 h=>F58_6 y1 y6 h Kn Kr Ke0) Kr Ke0 t h H0)
def F58_3 (x1 x5:Value) (h:H) (Kn:H→Prop) (Kr:Value→Value→H→Prop):Prop :=
 F58_4 x1 x5 h Kn Kr Kn
theorem ykng (Kn Kr) (t:T) (h:H) (H0:F58_3 (t 1) (t 5) h Kn Kr):Wp Tryz.prog 14 (rest 1 (seqL (rest 1 (ygjk Tryz.f58.body)))) (mkQ (fun t h=>Kn h) (fun t h=>Kr (t 2) (t 3) h) ke0) t h :=
 y6tu 0 (by kernel_rfl) (by kernel_rfl) (ytld Kn Kr Kn t h H0)
def F58_2 (x1:Value) (h:H) (Kn:H→Prop) (Kr:Value→Value→H→Prop):Prop :=
 yokc 0 x1 fun v4=>ysm8 false 1 v4 h fun v5=>F58_3 x1 v5 h Kn Kr
theorem ybtf (Kn Kr) (t:T) (h:H) (H0:F58_2 (t 1) h Kn Kr):Wp Tryz.prog 14 (seqL (rest 1 (ygjk Tryz.f58.body))) (mkQ (fun t h=>Kn h) (fun t h=>Kr (t 2) (t 3) h) ke0) t h :=
 y3i4 1 H0 (by kernel_rfl) (fun t h (H1:F58_3 (t 1) (t 5) h Kn Kr)=>ykng Kn Kr t h H1) (by kernel_rfl)
def F58_7 (h:H) (Kn:Value→Value→H→Prop) (Kr:Value→Value→H→Prop):Prop :=
 Kr (.int .i64 0) (.bool false) h
theorem y9wb (Kn Kr) (t:T) (h:H) (H0:F58_7 h Kn Kr):Wp Tryz.prog 14 (seqR (rest 1 (ygjk Tryz.f58.body))) (mkQ (fun t h=>Kn (t 2) (t 3) h) (fun t h=>Kr (t 2) (t 3) h) ke0) t h :=
 wpEqF H0 (by kernel_rfl)
def F58_1 (x1:Value) (h:H) (Kn:Value→Value→H→Prop) (Kr:Value→Value→H→Prop):Prop :=
 F58_2 x1 h (fun h=>F58_7 h Kn Kr) Kr
theorem yens (Kn Kr) (t:T) (h:H) (H0:F58_1 (t 1) h Kn Kr):Wp Tryz.prog 14 (rest 1 (ygjk Tryz.f58.body)) (mkQ (fun t h=>Kn (t 2) (t 3) h) (fun t h=>Kr (t 2) (t 3) h) ke0) t h :=
 ykv2 (by kernel_rfl) (fun t h H1=>y9wb Kn Kr t h H1) (ybtf (fun h=>F58_7 h Kn Kr) Kr t h H0)
def F58_0 (x0:Value) (h:H) (Kn:Value→Value→H→Prop) (Kr:Value→Value→H→Prop):Prop :=
 boxV x0=true∧o_new (Value.cells x0).toList 64 .exact h fun b1 h=>F58_1 (.pointer (some ⟨b1,0,none⟩)) h Kn Kr
theorem ynh6 (Kn Kr) (t:T) (h:H) (H0:F58_0 (t 0) h Kn Kr):Wp Tryz.prog 14 (ygjk Tryz.f58.body) (mkQ (fun t h=>Kn (t 2) (t 3) h) (fun t h=>Kr (t 2) (t 3) h) ke0) t h :=
 y3i4 1 H0 (by kernel_rfl) (fun t h (H1:F58_1 (t 1) h Kn Kr)=>yens Kn Kr t h H1) (by kernel_rfl)
def F58 (x0:Value) (h:H) (Q:Value→H→Prop):Prop:=F58_0 x0 h (fun y2 y3 h=>bif [y2,y3].all boxV then Q (.tuple #[y2,y3]) h else False) (fun y2 y3 h=>bif [y2,y3].all boxV then Q (.tuple #[y2,y3]) h else False)
theorem yzl8 (x0:Value) (h:H) (Q:Value→H→Prop) (H0:F58 x0 h Q):AM.Spec Tryz.prog 58 [x0] h Q :=
 yqxt mixed (fn:=Tryz.f58) Tryz.func58 (c:=ygjk Tryz.f58.body) (rs:=[2,3]) (N:=14) (by kernel_rfl) (by kernel_rfl) (by kernel_rfl) (by kernel_rfl) (by kernel_rfl) (Nat.le_of_ble_eq_true rfl) (ynh6 (fun y2 y3 h=>bif [y2,y3].all boxV then Q (.tuple #[y2,y3]) h else False) (fun y2 y3 h=>bif [y2,y3].all boxV then Q (.tuple #[y2,y3]) h else False) (tinit [x0]) h H0) (by kernel_rfl)
def F56_2 (x1 x4 x5 x6:Value) (h:H) (Kn:Value→Value→Value→H→Prop) (Kr:Value→H→Prop):Prop :=
 o_if x4 (yokc 2 x1 fun v16=>ysm8 false 1 v16 h fun v17=>yyll Tryz.prog 28 1 [(0,v17)] h fun v18 h=>yc1n 3 1 8 x6 v18 h fun v19 h=>Kn x1 x5 v19 h) (Kn x1 x5 x6 h)
theorem yef3 (Kn Kr) (t:T) (h:H) (H0:F56_2 (t 1) (t 4) (t 5) (t 6) h Kn Kr):Wp Tryz.prog 35 (seqL (rest 3 (ygjk Tryz.f56.body))) (mkQ (fun t h=>Kn (t 1) (t 5) (t 6) h) (fun t h=>Kr (t 2) h) ke0) t h :=
 wpEqF H0 (by kernel_rfl)
def F56_4 (x1 x5 x6:Value) (h:H) (Kn:Value→Value→H→Prop) (Kr:Value→H→Prop):Prop :=
 o_if x5 (yokc 3 x1 fun v22=>ysm8 false 1 v22 h fun v23=>yyll Tryz.prog 28 1 [(0,v23)] h fun v24 h=>yc1n 3 1 8 x6 v24 h fun v25 h=>Kn x1 v25 h) (Kn x1 x6 h)
theorem yhyf (Kn Kr) (t:T) (h:H) (H0:F56_4 (t 1) (t 5) (t 6) h Kn Kr):Wp Tryz.prog 35 (seqL (seqR (rest 3 (ygjk Tryz.f56.body)))) (mkQ (fun t h=>Kn (t 1) (t 6) h) (fun t h=>Kr (t 2) h) ke0) t h :=
 wpEqF H0 (by kernel_rfl)
def F56_6 (x1 x6:Value) (h:H) (Kn:Value→H→Prop) (Kr:Value→H→Prop):Prop :=
 yokc 0 x1 fun v26=>ysm8 false 1 v26 h fun v27=>o_bin Tryz.prog .eql 3 v27 (.int .i64 19) fun v28=>o_if v28 (yokc 1 x1 fun v30=>ysm8 false 1 v30 h fun v31=>yyll Tryz.prog 28 1 [(0,v31)] h fun v32 h=>yc1n 3 1 8 x6 v32 h fun v33 h=>Kn v33 h) (Kn x6 h)
theorem y5kk (Kn Kr) (t:T) (h:H) (H0:F56_6 (t 1) (t 6) h Kn Kr):Wp Tryz.prog 35 (seqL (seqR (seqR (rest 3 (ygjk Tryz.f56.body))))) (mkQ (fun t h=>Kn (t 6) h) (fun t h=>Kr (t 2) h) ke0) t h :=
 wpEqF H0 (by kernel_rfl)
def F56_7 (x6:Value) (h:H) (Kn:Value→H→Prop) (Kr:Value→H→Prop):Prop :=
 Kr x6 h
theorem yieg (Kn Kr) (t:T) (h:H) (H0:F56_7 (t 6) h Kn Kr):Wp Tryz.prog 35 (seqR (seqR (seqR (rest 3 (ygjk Tryz.f56.body))))) (mkQ (fun t h=>Kn (t 2) h) (fun t h=>Kr (t 2) h) ke0) t h :=
 wpEqF H0 (by kernel_rfl)
def F56_5 (x1 x6:Value) (h:H) (Kn:Value→H→Prop) (Kr:Value→H→Prop):Prop :=
 F56_6 x1 x6 h (fun y6 h=>F56_7 y6 h Kn Kr) Kr
theorem y1bi (Kn Kr) (t:T) (h:H) (H0:F56_5 (t 1) (t 6) h Kn Kr):Wp Tryz.prog 35 (seqR (seqR (rest 3 (ygjk Tryz.f56.body)))) (mkQ (fun t h=>Kn (t 2) h) (fun t h=>Kr (t 2) h) ke0) t h :=
 ykv2 (by kernel_rfl) (fun t h H1=>yieg Kn Kr t h H1) (y5kk (fun y6 h=>F56_7 y6 h Kn Kr) Kr t h H0)
def F56_3 (x1 x5 x6:Value) (h:H) (Kn:Value→H→Prop) (Kr:Value→H→Prop):Prop :=
 F56_4 x1 x5 x6 h (fun y1 y6 h=>F56_5 y1 y6 h Kn Kr) Kr
theorem yggn (Kn Kr) (t:T) (h:H) (H0:F56_3 (t 1) (t 5) (t 6) h Kn Kr):Wp Tryz.prog 35 (seqR (rest 3 (ygjk Tryz.f56.body))) (mkQ (fun t h=>Kn (t 2) h) (fun t h=>Kr (t 2) h) ke0) t h :=
 ykv2 (by kernel_rfl) (fun t h H1=>y1bi Kn Kr t h H1) (yhyf (fun y1 y6 h=>F56_5 y1 y6 h Kn Kr) Kr t h H0)
def F56_1 (x1 x4 x5 x6:Value) (h:H) (Kn:Value→H→Prop) (Kr:Value→H→Prop):Prop :=
 F56_2 x1 x4 x5 x6 h (fun y1 y5 y6 h=>F56_3 y1 y5 y6 h Kn Kr) Kr
theorem yplx (Kn Kr) (t:T) (h:H) (H0:F56_1 (t 1) (t 4) (t 5) (t 6) h Kn Kr):Wp Tryz.prog 35 (rest 3 (ygjk Tryz.f56.body)) (mkQ (fun t h=>Kn (t 2) h) (fun t h=>Kr (t 2) h) ke0) t h :=
 ykv2 (by kernel_rfl) (fun t h H1=>yggn Kn Kr t h H1) (yef3 (fun y1 y5 y6 h=>F56_3 y1 y5 y6 h Kn Kr) Kr t h H0)
def F56_0 (x0:Value) (h:H) (Kn:Value→H→Prop) (Kr:Value→H→Prop):Prop :=
 boxV x0=true∧o_new (Value.cells x0).toList 64 .exact h fun b1 h=>yokc 0 (.pointer (some ⟨b1,0,none⟩)) fun v8=>ysm8 false 1 v8 h fun v9=>ywv3 Tryz.prog 163 [v9] h fun v10 h=>ychn v10 0 fun v11=>ychn v10 1 fun v12=>ychn v10 2 fun v13=>F56_1 (.pointer (some ⟨b1,0,none⟩)) v12 v13 (.slice none 0 0) h Kn Kr
theorem yp7v (Kn Kr) (t:T) (h:H) (H0:F56_0 (t 0) h Kn Kr):Wp Tryz.prog 35 (ygjk Tryz.f56.body) (mkQ (fun t h=>Kn (t 2) h) (fun t h=>Kr (t 2) h) ke0) t h :=
 y3i4 3 H0 (by kernel_rfl) (fun t h (H1:F56_1 (t 1) (t 4) (t 5) (t 6) h Kn Kr)=>yplx Kn Kr t h H1) (by kernel_rfl)
def F56 (x0:Value) (h:H) (Q:Value→H→Prop):Prop:=F56_0 x0 h (fun v h=>Q v h) (fun v h=>Q v h)
theorem y7vm (x0:Value) (h:H) (Q:Value→H→Prop) (H0:F56 x0 h Q):AM.Spec Tryz.prog 56 [x0] h Q :=
 yqxt mixed (fn:=Tryz.f56) Tryz.func56 (c:=ygjk Tryz.f56.body) (rs:=[2]) (N:=35) (by kernel_rfl) (by kernel_rfl) (by kernel_rfl) (by kernel_rfl) (by kernel_rfl) (Nat.le_of_ble_eq_true rfl) (yp7v (fun v h=>Q v h) (fun v h=>Q v h) (tinit [x0]) h H0) (by kernel_rfl)
def F53_0 (x0:Value) (h:H) (Kn:Value→H→Prop) (Kr:Value→H→Prop):Prop :=
 boxV x0=true∧o_new (Value.cells x0).toList 64 .exact h fun b1 h=>yokc 0 (.pointer (some ⟨b1,0,none⟩)) fun v7=>ysm8 false 1 v7 h fun v8=>ywv3 Tryz.prog 163 [v8] h fun v9 h=>ychn v9 0 fun v10=>ychn v9 1 fun v11=>ychn v9 2 fun v12=>yokc 0 (.pointer (some ⟨b1,0,none⟩)) fun v13=>ysm8 false 1 v13 h fun v14=>o_bin Tryz.prog .geq 3 v14 (.int .i64 1) fun v15=>yy7w v15 true (fun k6=>yokc 0 (.pointer (some ⟨b1,0,none⟩)) fun v17=>ysm8 false 1 v17 h fun v18=>o_bin Tryz.prog .leq 3 v18 (.int .i64 21) fun v19=>k6 v19 h) (fun v19 h=>yw1w v15 v19 (.bool false) fun v20=>yy7w v20 true (fun k10=>ysm8 true 5 (.pointer (some ⟨b1,0,none⟩)) h fun v22=>ywv3 Tryz.prog 164 [v22] h fun v23 h=>k10 v23 h) (fun v23 h=>yw1w v20 v23 (.bool false) fun v24=>yy7w v24 true (fun k16=>yokc 1 (.pointer (some ⟨b1,0,none⟩)) fun v27=>ysm8 false 1 v27 h fun v28=>ywv3 Tryz.prog 165 [v10,v28] h fun v29 h=>k16 v29 h) (fun v29 h=>yw1w v24 v29 (.bool false) fun v30=>yy7w v30 true (fun k22=>yokc 2 (.pointer (some ⟨b1,0,none⟩)) fun v33=>ysm8 false 1 v33 h fun v34=>ywv3 Tryz.prog 165 [v11,v34] h fun v35 h=>k22 v35 h) (fun v35 h=>yw1w v30 v35 (.bool false) fun v36=>yy7w v36 true (fun k28=>yokc 3 (.pointer (some ⟨b1,0,none⟩)) fun v39=>ysm8 false 1 v39 h fun v40=>ywv3 Tryz.prog 165 [v12,v40] h fun v41 h=>k28 v41 h) (fun v41 h=>yw1w v36 v41 (.bool false) fun v42=>Kr v42 h) h) h) h) h) h
theorem y48b (Kn Kr) (t:T) (h:H) (H0:F53_0 (t 0) h Kn Kr):Wp Tryz.prog 43 (ygjk Tryz.f53.body) (mkQ (fun t h=>Kn (t 2) h) (fun t h=>Kr (t 2) h) ke0) t h :=
 wpEqF H0 (by kernel_rfl)
def F53 (x0:Value) (h:H) (Q:Value→H→Prop):Prop:=F53_0 x0 h (fun v h=>Q v h) (fun v h=>Q v h)
theorem yaq9 (x0:Value) (h:H) (Q:Value→H→Prop) (H0:F53 x0 h Q):AM.Spec Tryz.prog 53 [x0] h Q :=
 yqxt mixed (fn:=Tryz.f53) Tryz.func53 (c:=ygjk Tryz.f53.body) (rs:=[2]) (N:=43) (by kernel_rfl) (by kernel_rfl) (by kernel_rfl) (by kernel_rfl) (by kernel_rfl) (Nat.le_of_ble_eq_true rfl) (y48b (fun v h=>Q v h) (fun v h=>Q v h) (tinit [x0]) h H0) (by kernel_rfl)
def F54_0 (x0:Value) (h:H) (Kn:Value→H→Prop) (Kr:Value→H→Prop):Prop :=
 o_bin Tryz.prog .eql 3 x0 (.int .i64 14) fun v4=>yy7w v4 false (fun k4=>o_bin Tryz.prog .eql 3 x0 (.int .i64 16) fun v7=>k4 v7 h) (fun v7 h=>yw1w v4 (.bool true) v7 fun v8=>yy7w v8 false (fun k8=>o_bin Tryz.prog .eql 3 x0 (.int .i64 17) fun v11=>k8 v11 h) (fun v11 h=>yw1w v8 (.bool true) v11 fun v12=>yy7w v12 false (fun k12=>o_bin Tryz.prog .eql 3 x0 (.int .i64 19) fun v15=>k12 v15 h) (fun v15 h=>yw1w v12 (.bool true) v15 fun v16=>Kr v16 h) h) h) h
theorem ydvb (Kn Kr) (t:T) (h:H) (H0:F54_0 (t 0) h Kn Kr):Wp Tryz.prog 17 (ygjk Tryz.f54.body) (mkQ (fun t h=>Kn (t 2) h) (fun t h=>Kr (t 2) h) ke0) t h :=
 wpEqF H0 (by kernel_rfl)
def F54 (x0:Value) (h:H) (Q:Value→H→Prop):Prop:=F54_0 x0 h (fun v h=>Q v h) (fun v h=>Q v h)
theorem yv0z (x0:Value) (h:H) (Q:Value→H→Prop) (H0:F54 x0 h Q):AM.Spec Tryz.prog 54 [x0] h Q :=
 yqxt mixed (fn:=Tryz.f54) Tryz.func54 (c:=ygjk Tryz.f54.body) (rs:=[2]) (N:=17) (by kernel_rfl) (by kernel_rfl) (by kernel_rfl) (by kernel_rfl) (by kernel_rfl) (Nat.le_of_ble_eq_true rfl) (ydvb (fun v h=>Q v h) (fun v h=>Q v h) (tinit [x0]) h H0) (by kernel_rfl)
def F55_0 (x0 x1:Value) (h:H) (Kn:Value→H→Prop) (Kr:Value→H→Prop):Prop :=
 ywv3 Tryz.prog 166 [x0,x1] h fun v7 h=>o_bin Tryz.prog .geq 3 v7 (.int .i64 0) fun v8=>Kr v8 h
theorem yw9k (Kn Kr) (t:T) (h:H) (H0:F55_0 (t 0) (t 1) h Kn Kr):Wp Tryz.prog 9 (ygjk Tryz.f55.body) (mkQ (fun t h=>Kn (t 4) h) (fun t h=>Kr (t 4) h) ke0) t h :=
 wpEqF H0 (by kernel_rfl)
def F55 (x0 x1:Value) (h:H) (Q:Value→H→Prop):Prop:=F55_0 x0 x1 h (fun v h=>Q v h) (fun v h=>Q v h)
theorem y48m (x0 x1:Value) (h:H) (Q:Value→H→Prop) (H0:F55 x0 x1 h Q):AM.Spec Tryz.prog 55 [x0,x1] h Q :=
 yqxt mixed (fn:=Tryz.f55) Tryz.func55 (c:=ygjk Tryz.f55.body) (rs:=[4]) (N:=9) (by kernel_rfl) (by kernel_rfl) (by kernel_rfl) (by kernel_rfl) (by kernel_rfl) (Nat.le_of_ble_eq_true rfl) (yw9k (fun v h=>Q v h) (fun v h=>Q v h) (tinit [x0,x1]) h H0) (by kernel_rfl)
def F57_0 (x0 x1:Value) (h:H) (Kn:Value→H→Prop) (Kr:Value→H→Prop):Prop :=
 ys75 (some 256) 1 x1 x0 fun v5=>ysm8 false 1 v5 h fun v6=>o_un Tryz.prog .not v6 fun v7=>Kr v7 h
theorem ypif (Kn Kr) (t:T) (h:H) (H0:F57_0 (t 0) (t 1) h Kn Kr):Wp Tryz.prog 8 (ygjk Tryz.f57.body) (mkQ (fun t h=>Kn (t 3) h) (fun t h=>Kr (t 3) h) ke0) t h :=
 wpEqF H0 (by kernel_rfl)
def F57 (x0 x1:Value) (h:H) (Q:Value→H→Prop):Prop:=F57_0 x0 x1 h (fun v h=>Q v h) (fun v h=>Q v h)
theorem ynh1 (x0 x1:Value) (h:H) (Q:Value→H→Prop) (H0:F57 x0 x1 h Q):AM.Spec Tryz.prog 57 [x0,x1] h Q :=
 yqxt mixed (fn:=Tryz.f57) Tryz.func57 (c:=ygjk Tryz.f57.body) (rs:=[3]) (N:=8) (by kernel_rfl) (by kernel_rfl) (by kernel_rfl) (by kernel_rfl) (by kernel_rfl) (Nat.le_of_ble_eq_true rfl) (ypif (fun v h=>Q v h) (fun v h=>Q v h) (tinit [x0,x1]) h H0) (by kernel_rfl)
def yh3d (x5:Value) (h:H) (Kn:Value→Value→H→Prop) (Kr:Value→Value→Value→H→Prop) (Ke0:H→Prop):Prop :=
 o_bin Tryz.prog .eql 3 x5 (.int .i64 1) fun v7=>o_if v7 (Kn x5 v7 h) (o_bin Tryz.prog .eql 3 x5 (.int .i64 2) fun v8=>o_if v8 (Kn x5 v8 h) (o_bin Tryz.prog .eql 3 x5 (.int .i64 14) fun v9=>Kn x5 v9 h))
theorem y48e (Kn Kr Ke0) (t:T) (h:H) (H0:yh3d (t 5) h Kn Kr Ke0):Wp Tryz.prog 28 (seqL (blkC (rest 1 (seqL (rest 1 (ygjk Tryz.f163.body)))))) (mkQ (fun t h=>Kn (t 5) (t 6) h) (fun t h=>Kr (t 2) (t 3) (t 4) h) (keAdd 0 (fun t h=>Ke0 h) ke0)) t h :=
 wpEqF H0 (by kernel_rfl)
theorem ymy4 {a:Int} {h:H} {Kn Kr Ke0}:yh3d (.int .i64 a) h Kn Kr Ke0=Kn (.int .i64 a) (.bool (decide (a=1)||(decide (a=2)||decide (a=14)))) h:=by
 simp only [yh3d,yc02,if_or]
def y289 (h:H) (Kn:H→Prop) (Kr:Value→Value→Value→H→Prop) (Ke0:H→Prop):Prop :=
 Kr (.bool true) (.bool false) (.bool false) h
theorem yvjh (Kn Kr Ke0) (t:T) (h:H) (H0:y289 h Kn Kr Ke0):Wp Tryz.prog 28 (cndX (seqR (blkC (rest 1 (seqL (rest 1 (ygjk Tryz.f163.body))))))) (mkQ (fun t h=>Kn h) (fun t h=>Kr (t 2) (t 3) (t 4) h) (keAdd 0 (fun t h=>Ke0 h) ke0)) t h :=
 wpEqF H0 (by kernel_rfl)
def yfea (x5:Value) (h:H) (Kn:Value→Value→H→Prop) (Kr:Value→Value→Value→H→Prop) (Ke0:H→Prop):Prop :=
 o_bin Tryz.prog .eql 3 x5 (.int .i64 4) fun v11=>o_if v11 (Kn x5 v11 h) (o_bin Tryz.prog .eql 3 x5 (.int .i64 5) fun v12=>o_if v12 (Kn x5 v12 h) (o_bin Tryz.prog .eql 3 x5 (.int .i64 16) fun v13=>Kn x5 v13 h))
theorem ykim (Kn Kr Ke0) (t:T) (h:H) (H0:yfea (t 5) h Kn Kr Ke0):Wp Tryz.prog 28 (seqL (cndY (seqR (blkC (rest 1 (seqL (rest 1 (ygjk Tryz.f163.body)))))))) (mkQ (fun t h=>Kn (t 5) (t 10) h) (fun t h=>Kr (t 2) (t 3) (t 4) h) (keAdd 0 (fun t h=>Ke0 h) ke0)) t h :=
 wpEqF H0 (by kernel_rfl)
theorem ylc0 {a:Int} {h:H} {Kn Kr Ke0}:yfea (.int .i64 a) h Kn Kr Ke0=Kn (.int .i64 a) (.bool (decide (a=4)||(decide (a=5)||decide (a=16)))) h:=by
 simp only [yfea,yc02,if_or]
def yidu (h:H) (Kn:H→Prop) (Kr:Value→Value→Value→H→Prop) (Ke0:H→Prop):Prop :=
 Kr (.bool true) (.bool true) (.bool true) h
theorem y91j (Kn Kr Ke0) (t:T) (h:H) (H0:yidu h Kn Kr Ke0):Wp Tryz.prog 28 (cndX (seqR (cndY (seqR (blkC (rest 1 (seqL (rest 1 (ygjk Tryz.f163.body))))))))) (mkQ (fun t h=>Kn h) (fun t h=>Kr (t 2) (t 3) (t 4) h) (keAdd 0 (fun t h=>Ke0 h) ke0)) t h :=
 wpEqF H0 (by kernel_rfl)
def ywmw (x5:Value) (h:H) (Kn:Value→Value→H→Prop) (Kr:Value→Value→Value→H→Prop) (Ke0:H→Prop):Prop :=
 o_bin Tryz.prog .eql 3 x5 (.int .i64 6) fun v15=>o_if v15 (Kn x5 v15 h) (o_bin Tryz.prog .eql 3 x5 (.int .i64 17) fun v16=>o_if v16 (Kn x5 v16 h) (o_bin Tryz.prog .eql 3 x5 (.int .i64 19) fun v17=>Kn x5 v17 h))
theorem yvvo (Kn Kr Ke0) (t:T) (h:H) (H0:ywmw (t 5) h Kn Kr Ke0):Wp Tryz.prog 28 (seqL (cndY (seqR (cndY (seqR (blkC (rest 1 (seqL (rest 1 (ygjk Tryz.f163.body)))))))))) (mkQ (fun t h=>Kn (t 5) (t 14) h) (fun t h=>Kr (t 2) (t 3) (t 4) h) (keAdd 0 (fun t h=>Ke0 h) ke0)) t h :=
 wpEqF H0 (by kernel_rfl)
theorem y7bs {a:Int} {h:H} {Kn Kr Ke0}:ywmw (.int .i64 a) h Kn Kr Ke0=Kn (.int .i64 a) (.bool (decide (a=6)||(decide (a=17)||decide (a=19)))) h:=by
 simp only [ywmw,yc02,if_or]
def y63o (h:H) (Kn:H→Prop) (Kr:Value→Value→Value→H→Prop) (Ke0:H→Prop):Prop :=
 Kr (.bool true) (.bool true) (.bool false) h
theorem ypav (Kn Kr Ke0) (t:T) (h:H) (H0:y63o h Kn Kr Ke0):Wp Tryz.prog 28 (cndX (seqR (cndY (seqR (cndY (seqR (blkC (rest 1 (seqL (rest 1 (ygjk Tryz.f163.body))))))))))) (mkQ (fun t h=>Kn h) (fun t h=>Kr (t 2) (t 3) (t 4) h) (keAdd 0 (fun t h=>Ke0 h) ke0)) t h :=
 wpEqF H0 (by kernel_rfl)
def yaqf (x5:Value) (h:H) (Kn:Value→Value→H→Prop) (Kr:Value→Value→Value→H→Prop) (Ke0:H→Prop):Prop :=
 o_bin Tryz.prog .eql 3 x5 (.int .i64 7) fun v19=>o_if v19 (Kn x5 v19 h) (o_bin Tryz.prog .eql 3 x5 (.int .i64 18) fun v20=>Kn x5 v20 h)
theorem ymjt (Kn Kr Ke0) (t:T) (h:H) (H0:yaqf (t 5) h Kn Kr Ke0):Wp Tryz.prog 28 (seqL (cndY (seqR (cndY (seqR (cndY (seqR (blkC (rest 1 (seqL (rest 1 (ygjk Tryz.f163.body)))))))))))) (mkQ (fun t h=>Kn (t 5) (t 18) h) (fun t h=>Kr (t 2) (t 3) (t 4) h) (keAdd 0 (fun t h=>Ke0 h) ke0)) t h :=
 wpEqF H0 (by kernel_rfl)
theorem y2h1 {a:Int} {h:H} {Kn Kr Ke0}:yaqf (.int .i64 a) h Kn Kr Ke0=Kn (.int .i64 a) (.bool (decide (a=7)||decide (a=18))) h:=by
 simp only [yaqf,yc02,if_or]
def yqtk (h:H) (Kn:H→Prop) (Kr:Value→Value→Value→H→Prop) (Ke0:H→Prop):Prop :=
 Kr (.bool false) (.bool true) (.bool true) h
theorem yfa4 (Kn Kr Ke0) (t:T) (h:H) (H0:yqtk h Kn Kr Ke0):Wp Tryz.prog 28 (cndX (seqR (cndY (seqR (cndY (seqR (cndY (seqR (blkC (rest 1 (seqL (rest 1 (ygjk Tryz.f163.body))))))))))))) (mkQ (fun t h=>Kn h) (fun t h=>Kr (t 2) (t 3) (t 4) h) (keAdd 0 (fun t h=>Ke0 h) ke0)) t h :=
 wpEqF H0 (by kernel_rfl)
def y4jw (x5:Value) (h:H) (Kn:Value→H→Prop) (Kr:Value→Value→Value→H→Prop) (Ke0:H→Prop):Prop :=
 o_bin Tryz.prog .eql 3 x5 (.int .i64 3) fun v22=>o_if v22 (Kn v22 h) (o_bin Tryz.prog .eql 3 x5 (.int .i64 15) fun v23=>o_if v23 (Kn v23 h) (o_bin Tryz.prog .eql 3 x5 (.int .i64 10) fun v24=>o_if v24 (Kn v24 h) (o_bin Tryz.prog .eql 3 x5 (.int .i64 11) fun v25=>o_if v25 (Kn v25 h) (o_bin Tryz.prog .eql 3 x5 (.int .i64 20) fun v26=>o_if v26 (Kn v26 h) (o_bin Tryz.prog .eql 3 x5 (.int .i64 21) fun v27=>Kn v27 h)))))
theorem ynj2 (Kn Kr Ke0) (t:T) (h:H) (H0:y4jw (t 5) h Kn Kr Ke0):Wp Tryz.prog 28 (seqL (cndY (seqR (cndY (seqR (cndY (seqR (cndY (seqR (blkC (rest 1 (seqL (rest 1 (ygjk Tryz.f163.body)))))))))))))) (mkQ (fun t h=>Kn (t 21) h) (fun t h=>Kr (t 2) (t 3) (t 4) h) (keAdd 0 (fun t h=>Ke0 h) ke0)) t h :=
 wpEqF H0 (by kernel_rfl)
theorem ypz1 {a:Int} {h:H} {Kn Kr Ke0}:y4jw (.int .i64 a) h Kn Kr Ke0=Kn (.bool (decide (a=3)||(decide (a=15)||(decide (a=10)||(decide (a=11)||(decide (a=20)||decide (a=21))))))) h:=by
 simp only [y4jw,yc02,if_or]
def ye2o (x21:Value) (h:H) (Kn:H→Prop) (Kr:Value→Value→Value→H→Prop) (Ke0:H→Prop):Prop :=
 o_if x21 (Kr (.bool false) (.bool true) (.bool false) h) (Kn h)
theorem yhq4 (Kn Kr Ke0) (t:T) (h:H) (H0:ye2o (t 21) h Kn Kr Ke0):Wp Tryz.prog 28 (seqR (cndY (seqR (cndY (seqR (cndY (seqR (cndY (seqR (blkC (rest 1 (seqL (rest 1 (ygjk Tryz.f163.body)))))))))))))) (mkQ (fun t h=>Kn h) (fun t h=>Kr (t 2) (t 3) (t 4) h) (keAdd 0 (fun t h=>Ke0 h) ke0)) t h :=
 wpEqF H0 (by kernel_rfl)
def ytso (x5:Value) (h:H) (Kn:H→Prop) (Kr:Value→Value→Value→H→Prop) (Ke0:H→Prop):Prop :=
 y4jw x5 h (fun y21 h=>ye2o y21 h Kn Kr Ke0) Kr Ke0
theorem y71x (Kn Kr Ke0) (t:T) (h:H) (H0:ytso (t 5) h Kn Kr Ke0):Wp Tryz.prog 28 (cndY (seqR (cndY (seqR (cndY (seqR (cndY (seqR (blkC (rest 1 (seqL (rest 1 (ygjk Tryz.f163.body))))))))))))) (mkQ (fun t h=>Kn h) (fun t h=>Kr (t 2) (t 3) (t 4) h) (keAdd 0 (fun t h=>Ke0 h) ke0)) t h :=
 ykv2 (by kernel_rfl) (fun t h H1=>yhq4 Kn Kr Ke0 t h H1) (ynj2 (fun y21 h=>ye2o y21 h Kn Kr Ke0) Kr Ke0 t h H0)
def yhef (x5 x18:Value) (h:H) (Kn:H→Prop) (Kr:Value→Value→Value→H→Prop) (Ke0:H→Prop):Prop :=
 o_if x18 (yqtk h Kn Kr Ke0) (ytso x5 h Kn Kr Ke0)
theorem ymo5 (Kn Kr Ke0) (t:T) (h:H) (H0:yhef (t 5) (t 18) h Kn Kr Ke0):Wp Tryz.prog 28 (seqR (cndY (seqR (cndY (seqR (cndY (seqR (blkC (rest 1 (seqL (rest 1 (ygjk Tryz.f163.body)))))))))))) (mkQ (fun t h=>Kn h) (fun t h=>Kr (t 2) (t 3) (t 4) h) (keAdd 0 (fun t h=>Ke0 h) ke0)) t h :=
 yh47 H0 (by kernel_rfl) (yfa4 Kn Kr Ke0 t h) (y71x Kn Kr Ke0 t h) (by kernel_rfl)
def ya2w (x5:Value) (h:H) (Kn:H→Prop) (Kr:Value→Value→Value→H→Prop) (Ke0:H→Prop):Prop :=
 yaqf x5 h (fun y5 y18 h=>yhef y5 y18 h Kn Kr Ke0) Kr Ke0
theorem y8ss (Kn Kr Ke0) (t:T) (h:H) (H0:ya2w (t 5) h Kn Kr Ke0):Wp Tryz.prog 28 (cndY (seqR (cndY (seqR (cndY (seqR (blkC (rest 1 (seqL (rest 1 (ygjk Tryz.f163.body))))))))))) (mkQ (fun t h=>Kn h) (fun t h=>Kr (t 2) (t 3) (t 4) h) (keAdd 0 (fun t h=>Ke0 h) ke0)) t h :=
 ykv2 (by kernel_rfl) (fun t h H1=>ymo5 Kn Kr Ke0 t h H1) (ymjt (fun y5 y18 h=>yhef y5 y18 h Kn Kr Ke0) Kr Ke0 t h H0)
def y257 (x5 x14:Value) (h:H) (Kn:H→Prop) (Kr:Value→Value→Value→H→Prop) (Ke0:H→Prop):Prop :=
 o_if x14 (y63o h Kn Kr Ke0) (ya2w x5 h Kn Kr Ke0)
theorem ymbw (Kn Kr Ke0) (t:T) (h:H) (H0:y257 (t 5) (t 14) h Kn Kr Ke0):Wp Tryz.prog 28 (seqR (cndY (seqR (cndY (seqR (blkC (rest 1 (seqL (rest 1 (ygjk Tryz.f163.body)))))))))) (mkQ (fun t h=>Kn h) (fun t h=>Kr (t 2) (t 3) (t 4) h) (keAdd 0 (fun t h=>Ke0 h) ke0)) t h :=
 yh47 H0 (by kernel_rfl) (ypav Kn Kr Ke0 t h) (y8ss Kn Kr Ke0 t h) (by kernel_rfl)
def y95b (x5:Value) (h:H) (Kn:H→Prop) (Kr:Value→Value→Value→H→Prop) (Ke0:H→Prop):Prop :=
 ywmw x5 h (fun y5 y14 h=>y257 y5 y14 h Kn Kr Ke0) Kr Ke0
theorem yjac (Kn Kr Ke0) (t:T) (h:H) (H0:y95b (t 5) h Kn Kr Ke0):Wp Tryz.prog 28 (cndY (seqR (cndY (seqR (blkC (rest 1 (seqL (rest 1 (ygjk Tryz.f163.body))))))))) (mkQ (fun t h=>Kn h) (fun t h=>Kr (t 2) (t 3) (t 4) h) (keAdd 0 (fun t h=>Ke0 h) ke0)) t h :=
 ykv2 (by kernel_rfl) (fun t h H1=>ymbw Kn Kr Ke0 t h H1) (yvvo (fun y5 y14 h=>y257 y5 y14 h Kn Kr Ke0) Kr Ke0 t h H0)
def y7ll (x5 x10:Value) (h:H) (Kn:H→Prop) (Kr:Value→Value→Value→H→Prop) (Ke0:H→Prop):Prop :=
 o_if x10 (yidu h Kn Kr Ke0) (y95b x5 h Kn Kr Ke0)
theorem y2dr (Kn Kr Ke0) (t:T) (h:H) (H0:y7ll (t 5) (t 10) h Kn Kr Ke0):Wp Tryz.prog 28 (seqR (cndY (seqR (blkC (rest 1 (seqL (rest 1 (ygjk Tryz.f163.body)))))))) (mkQ (fun t h=>Kn h) (fun t h=>Kr (t 2) (t 3) (t 4) h) (keAdd 0 (fun t h=>Ke0 h) ke0)) t h :=
 yh47 H0 (by kernel_rfl) (y91j Kn Kr Ke0 t h) (yjac Kn Kr Ke0 t h) (by kernel_rfl)
def yjm9 (x5:Value) (h:H) (Kn:H→Prop) (Kr:Value→Value→Value→H→Prop) (Ke0:H→Prop):Prop :=
 yfea x5 h (fun y5 y10 h=>y7ll y5 y10 h Kn Kr Ke0) Kr Ke0
theorem y7oz (Kn Kr Ke0) (t:T) (h:H) (H0:yjm9 (t 5) h Kn Kr Ke0):Wp Tryz.prog 28 (cndY (seqR (blkC (rest 1 (seqL (rest 1 (ygjk Tryz.f163.body))))))) (mkQ (fun t h=>Kn h) (fun t h=>Kr (t 2) (t 3) (t 4) h) (keAdd 0 (fun t h=>Ke0 h) ke0)) t h :=
 ykv2 (by kernel_rfl) (fun t h H1=>y2dr Kn Kr Ke0 t h H1) (ykim (fun y5 y10 h=>y7ll y5 y10 h Kn Kr Ke0) Kr Ke0 t h H0)
def ym6a (x5 x6:Value) (h:H) (Kn:H→Prop) (Kr:Value→Value→Value→H→Prop) (Ke0:H→Prop):Prop :=
 o_if x6 (y289 h Kn Kr Ke0) (yjm9 x5 h Kn Kr Ke0)
theorem yaz1 (Kn Kr Ke0) (t:T) (h:H) (H0:ym6a (t 5) (t 6) h Kn Kr Ke0):Wp Tryz.prog 28 (seqR (blkC (rest 1 (seqL (rest 1 (ygjk Tryz.f163.body)))))) (mkQ (fun t h=>Kn h) (fun t h=>Kr (t 2) (t 3) (t 4) h) (keAdd 0 (fun t h=>Ke0 h) ke0)) t h :=
 yh47 H0 (by kernel_rfl) (yvjh Kn Kr Ke0 t h) (y7oz Kn Kr Ke0 t h) (by kernel_rfl)
def y4ch (x5:Value) (h:H) (Kn:H→Prop) (Kr:Value→Value→Value→H→Prop) (Ke0:H→Prop):Prop :=
 yh3d x5 h (fun y5 y6 h=>ym6a y5 y6 h Kn Kr Ke0) Kr Ke0
theorem y4i4 (Kn Kr Ke0) (t:T) (h:H) (H0:y4ch (t 5) h Kn Kr Ke0):Wp Tryz.prog 28 (blkC (rest 1 (seqL (rest 1 (ygjk Tryz.f163.body))))) (mkQ (fun t h=>Kn h) (fun t h=>Kr (t 2) (t 3) (t 4) h) (keAdd 0 (fun t h=>Ke0 h) ke0)) t h :=
 ykv2 (by kernel_rfl) (fun t h H1=>yaz1 Kn Kr Ke0 t h H1) (y48e (fun y5 y6 h=>ym6a y5 y6 h Kn Kr Ke0) Kr Ke0 t h H0)
def yotz (x5:Value) (h:H) (Kn:H→Prop) (Kr:Value→Value→Value→H→Prop):Prop :=
 y4ch x5 h Kn Kr Kn
theorem yg4f (Kn Kr) (t:T) (h:H) (H0:yotz (t 5) h Kn Kr):Wp Tryz.prog 28 (rest 1 (seqL (rest 1 (ygjk Tryz.f163.body)))) (mkQ (fun t h=>Kn h) (fun t h=>Kr (t 2) (t 3) (t 4) h) ke0) t h :=
 y6tu 0 (by kernel_rfl) (by kernel_rfl) (y4i4 Kn Kr Kn t h H0)
def y636 (x0:Value) (h:H) (Kn:H→Prop) (Kr:Value→Value→Value→H→Prop):Prop :=
 yotz x0 h Kn Kr
theorem yft3 (Kn Kr) (t:T) (h:H) (H0:y636 (t 0) h Kn Kr):Wp Tryz.prog 28 (seqL (rest 1 (ygjk Tryz.f163.body))) (mkQ (fun t h=>Kn h) (fun t h=>Kr (t 2) (t 3) (t 4) h) ke0) t h :=
 y3i4 1 H0 (by kernel_rfl) (fun t h (H1:yotz (t 5) h Kn Kr)=>yg4f Kn Kr t h H1) (by kernel_rfl)
def ytgi (h:H) (Kn:Value→Value→Value→H→Prop) (Kr:Value→Value→Value→H→Prop):Prop :=
 Kr (.bool false) (.bool false) (.bool false) h
theorem yfiz (Kn Kr) (t:T) (h:H) (H0:ytgi h Kn Kr):Wp Tryz.prog 28 (seqR (rest 1 (ygjk Tryz.f163.body))) (mkQ (fun t h=>Kn (t 2) (t 3) (t 4) h) (fun t h=>Kr (t 2) (t 3) (t 4) h) ke0) t h :=
 wpEqF H0 (by kernel_rfl)
def ykg0 (x0:Value) (h:H) (Kn:Value→Value→Value→H→Prop) (Kr:Value→Value→Value→H→Prop):Prop :=
 y636 x0 h (fun h=>ytgi h Kn Kr) Kr
theorem y1kr (Kn Kr) (t:T) (h:H) (H0:ykg0 (t 0) h Kn Kr):Wp Tryz.prog 28 (rest 1 (ygjk Tryz.f163.body)) (mkQ (fun t h=>Kn (t 2) (t 3) (t 4) h) (fun t h=>Kr (t 2) (t 3) (t 4) h) ke0) t h :=
 ykv2 (by kernel_rfl) (fun t h H1=>yfiz Kn Kr t h H1) (yft3 (fun h=>ytgi h Kn Kr) Kr t h H0)
def ywlj (x0:Value) (h:H) (Kn:Value→Value→Value→H→Prop) (Kr:Value→Value→Value→H→Prop):Prop :=
 ykg0 x0 h Kn Kr
theorem y1ds (Kn Kr) (t:T) (h:H) (H0:ywlj (t 0) h Kn Kr):Wp Tryz.prog 28 (ygjk Tryz.f163.body) (mkQ (fun t h=>Kn (t 2) (t 3) (t 4) h) (fun t h=>Kr (t 2) (t 3) (t 4) h) ke0) t h :=
 y3i4 1 H0 (by kernel_rfl) (fun t h (H1:ykg0 (t 0) h Kn Kr)=>y1kr Kn Kr t h H1) (by kernel_rfl)
def F163 (x0:Value) (h:H) (Q:Value→H→Prop):Prop:=ywlj x0 h (fun y2 y3 y4 h=>bif [y2,y3,y4].all boxV then Q (.tuple #[y2,y3,y4]) h else False) (fun y2 y3 y4 h=>bif [y2,y3,y4].all boxV then Q (.tuple #[y2,y3,y4]) h else False)
theorem yvws (x0:Value) (h:H) (Q:Value→H→Prop) (H0:F163 x0 h Q):AM.Spec Tryz.prog 163 [x0] h Q :=
 yqxt mixed (fn:=Tryz.f163) Tryz.func163 (c:=ygjk Tryz.f163.body) (rs:=[2,3,4]) (N:=28) (by kernel_rfl) (by kernel_rfl) (by kernel_rfl) (by kernel_rfl) (by kernel_rfl) (Nat.le_of_ble_eq_true rfl) (y1ds (fun y2 y3 y4 h=>bif [y2,y3,y4].all boxV then Q (.tuple #[y2,y3,y4]) h else False) (fun y2 y3 y4 h=>bif [y2,y3,y4].all boxV then Q (.tuple #[y2,y3,y4]) h else False) (tinit [x0]) h H0) (by kernel_rfl)
def yk37 (x1 x4:Value) (h:H) (Kn:Value→Value→Value→H→Prop) (Kr:Value→H→Prop) (Ke0:Value→H→Prop):Prop :=
 o_bin Tryz.prog .eql 3 x4 (.int .i64 1) fun v6=>o_if v6 (Kn x1 x4 v6 h) (o_bin Tryz.prog .eql 3 x4 (.int .i64 8) fun v7=>o_if v7 (Kn x1 x4 v7 h) (o_bin Tryz.prog .eql 3 x4 (.int .i64 10) fun v8=>o_if v8 (Kn x1 x4 v8 h) (o_bin Tryz.prog .eql 3 x4 (.int .i64 12) fun v9=>Kn x1 x4 v9 h)))
theorem y4wf (Kn Kr Ke0) (t:T) (h:H) (H0:yk37 (t 1) (t 4) h Kn Kr Ke0):Wp Tryz.prog 98 (seqL (blkC (rest 1 (seqL (rest 1 (ygjk Tryz.f164.body)))))) (mkQ (fun t h=>Kn (t 1) (t 4) (t 5) h) (fun t h=>Kr (t 2) h) (keAdd 0 (fun t h=>Ke0 (t 1) h) ke0)) t h :=
 wpEqF H0 (by kernel_rfl)
theorem yo2u {a:Int} {x1:Value} {h:H} {Kn Kr Ke0}:yk37 x1 (.int .i64 a) h Kn Kr Ke0=Kn x1 (.int .i64 a) (.bool (decide (a=1)||(decide (a=8)||(decide (a=10)||decide (a=12))))) h:=by
 simp only [yk37,yc02,if_or]
def yj5t (h:H) (Kn:Value→H→Prop) (Kr:Value→H→Prop) (Ke0:Value→H→Prop):Prop :=
 Kr (.bool true) h
theorem yf90 (Kn Kr Ke0) (t:T) (h:H) (H0:yj5t h Kn Kr Ke0):Wp Tryz.prog 98 (cndX (seqR (blkC (rest 1 (seqL (rest 1 (ygjk Tryz.f164.body))))))) (mkQ (fun t h=>Kn (t 1) h) (fun t h=>Kr (t 2) h) (keAdd 0 (fun t h=>Ke0 (t 1) h) ke0)) t h :=
 wpEqF H0 (by kernel_rfl)
def yaej (x1 x4:Value) (h:H) (Kn:Value→Value→Value→H→Prop) (Kr:Value→H→Prop) (Ke0:Value→H→Prop):Prop :=
 o_bin Tryz.prog .eql 3 x4 (.int .i64 2) fun v11=>o_if v11 (Kn x1 x4 v11 h) (o_bin Tryz.prog .eql 3 x4 (.int .i64 14) fun v12=>Kn x1 x4 v12 h)
theorem y1la (Kn Kr Ke0) (t:T) (h:H) (H0:yaej (t 1) (t 4) h Kn Kr Ke0):Wp Tryz.prog 98 (seqL (cndY (seqR (blkC (rest 1 (seqL (rest 1 (ygjk Tryz.f164.body)))))))) (mkQ (fun t h=>Kn (t 1) (t 4) (t 10) h) (fun t h=>Kr (t 2) h) (keAdd 0 (fun t h=>Ke0 (t 1) h) ke0)) t h :=
 wpEqF H0 (by kernel_rfl)
theorem yopy {a:Int} {x1:Value} {h:H} {Kn Kr Ke0}:yaej x1 (.int .i64 a) h Kn Kr Ke0=Kn x1 (.int .i64 a) (.bool (decide (a=2)||decide (a=14))) h:=by
 simp only [yaej,yc02,if_or]
def yv1m (x1:Value) (h:H) (Kn:Value→H→Prop) (Kr:Value→H→Prop) (Ke0:Value→H→Prop):Prop :=
 yokc 4 x1 fun v13=>ysm8 false 1 v13 h fun v14=>o_bin Tryz.prog .leq 23 v14 (.int .u32 31) fun v15=>Kr v15 h
theorem yvpr (Kn Kr Ke0) (t:T) (h:H) (H0:yv1m (t 1) h Kn Kr Ke0):Wp Tryz.prog 98 (cndX (seqR (cndY (seqR (blkC (rest 1 (seqL (rest 1 (ygjk Tryz.f164.body))))))))) (mkQ (fun t h=>Kn (t 1) h) (fun t h=>Kr (t 2) h) (keAdd 0 (fun t h=>Ke0 (t 1) h) ke0)) t h :=
 wpEqF H0 (by kernel_rfl)
def yc9t (x1 x4:Value) (h:H) (Kn:Value→Value→Value→H→Prop) (Kr:Value→H→Prop) (Ke0:Value→H→Prop):Prop :=
 o_bin Tryz.prog .eql 3 x4 (.int .i64 3) fun v17=>o_if v17 (Kn x1 x4 v17 h) (o_bin Tryz.prog .eql 3 x4 (.int .i64 15) fun v18=>Kn x1 x4 v18 h)
theorem yjsl (Kn Kr Ke0) (t:T) (h:H) (H0:yc9t (t 1) (t 4) h Kn Kr Ke0):Wp Tryz.prog 98 (seqL (cndY (seqR (cndY (seqR (blkC (rest 1 (seqL (rest 1 (ygjk Tryz.f164.body)))))))))) (mkQ (fun t h=>Kn (t 1) (t 4) (t 16) h) (fun t h=>Kr (t 2) h) (keAdd 0 (fun t h=>Ke0 (t 1) h) ke0)) t h :=
 wpEqF H0 (by kernel_rfl)
theorem ytyw {a:Int} {x1:Value} {h:H} {Kn Kr Ke0}:yc9t x1 (.int .i64 a) h Kn Kr Ke0=Kn x1 (.int .i64 a) (.bool (decide (a=3)||decide (a=15))) h:=by
 simp only [yc9t,yc02,if_or]
def yfym (x1:Value) (h:H) (Kn:Value→H→Prop) (Kr:Value→H→Prop) (Ke0:Value→H→Prop):Prop :=
 yokc 4 x1 fun v19=>ysm8 false 1 v19 h fun v20=>o_bin Tryz.prog .geq 23 v20 (.int .u32 1) fun v21=>yy7w v21 true (fun k6=>yokc 4 x1 fun v23=>ysm8 false 1 v23 h fun v24=>o_bin Tryz.prog .leq 23 v24 (.int .u32 31) fun v25=>k6 v25 h) (fun v25 h=>yw1w v21 v25 (.bool false) fun v26=>Kr v26 h) h
theorem y32u (Kn Kr Ke0) (t:T) (h:H) (H0:yfym (t 1) h Kn Kr Ke0):Wp Tryz.prog 98 (cndX (seqR (cndY (seqR (cndY (seqR (blkC (rest 1 (seqL (rest 1 (ygjk Tryz.f164.body))))))))))) (mkQ (fun t h=>Kn (t 1) h) (fun t h=>Kr (t 2) h) (keAdd 0 (fun t h=>Ke0 (t 1) h) ke0)) t h :=
 wpEqF H0 (by kernel_rfl)
def ykny (x1 x4:Value) (h:H) (Kn:Value→Value→Value→H→Prop) (Kr:Value→H→Prop) (Ke0:Value→H→Prop):Prop :=
 o_bin Tryz.prog .eql 3 x4 (.int .i64 4) fun v28=>o_if v28 (Kn x1 x4 v28 h) (o_bin Tryz.prog .eql 3 x4 (.int .i64 16) fun v29=>Kn x1 x4 v29 h)
theorem yk0w (Kn Kr Ke0) (t:T) (h:H) (H0:ykny (t 1) (t 4) h Kn Kr Ke0):Wp Tryz.prog 98 (seqL (cndY (seqR (cndY (seqR (cndY (seqR (blkC (rest 1 (seqL (rest 1 (ygjk Tryz.f164.body)))))))))))) (mkQ (fun t h=>Kn (t 1) (t 4) (t 27) h) (fun t h=>Kr (t 2) h) (keAdd 0 (fun t h=>Ke0 (t 1) h) ke0)) t h :=
 wpEqF H0 (by kernel_rfl)
theorem yrbx {a:Int} {x1:Value} {h:H} {Kn Kr Ke0}:ykny x1 (.int .i64 a) h Kn Kr Ke0=Kn x1 (.int .i64 a) (.bool (decide (a=4)||decide (a=16))) h:=by
 simp only [ykny,yc02,if_or]
def yilk (x1:Value) (h:H) (Kn:Value→H→Prop) (Kr:Value→H→Prop) (Ke0:Value→H→Prop):Prop :=
 yokc 4 x1 fun v30=>ysm8 false 1 v30 h fun v31=>o_bin Tryz.prog .leq 23 v31 (.int .u32 17) fun v32=>Kr v32 h
theorem y8br (Kn Kr Ke0) (t:T) (h:H) (H0:yilk (t 1) h Kn Kr Ke0):Wp Tryz.prog 98 (cndX (seqR (cndY (seqR (cndY (seqR (cndY (seqR (blkC (rest 1 (seqL (rest 1 (ygjk Tryz.f164.body))))))))))))) (mkQ (fun t h=>Kn (t 1) h) (fun t h=>Kr (t 2) h) (keAdd 0 (fun t h=>Ke0 (t 1) h) ke0)) t h :=
 wpEqF H0 (by kernel_rfl)
def y92d (x1:Value) (h:H) (Kn:Value→H→Prop) (Kr:Value→H→Prop) (Ke0:Value→H→Prop):Prop :=
 yokc 4 x1 fun v35=>ysm8 false 1 v35 h fun v36=>o_bin Tryz.prog .leq 23 v36 (.int .u32 7) fun v37=>yy7w v37 true (fun k6=>yokc 4 x1 fun v39=>ysm8 false 1 v39 h fun v40=>o_bin Tryz.prog .neq 23 v40 (.int .u32 2) fun v41=>k6 v41 h) (fun v41 h=>yw1w v37 v41 (.bool false) fun v42=>yy7w v42 true (fun k11=>yokc 4 x1 fun v44=>ysm8 false 1 v44 h fun v45=>o_bin Tryz.prog .neq 23 v45 (.int .u32 3) fun v46=>k11 v46 h) (fun v46 h=>yw1w v42 v46 (.bool false) fun v47=>Kr v47 h) h) h
theorem y616 (Kn Kr Ke0) (t:T) (h:H) (H0:y92d (t 1) h Kn Kr Ke0):Wp Tryz.prog 98 (cndX (rest 1 (cndY (seqR (cndY (seqR (cndY (seqR (cndY (seqR (blkC (rest 1 (seqL (rest 1 (ygjk Tryz.f164.body))))))))))))))) (mkQ (fun t h=>Kn (t 1) h) (fun t h=>Kr (t 2) h) (keAdd 0 (fun t h=>Ke0 (t 1) h) ke0)) t h :=
 wpEqF H0 (by kernel_rfl)
def y7we (x1 x4:Value) (h:H) (Kn:Value→Value→Value→H→Prop) (Kr:Value→H→Prop) (Ke0:Value→H→Prop):Prop :=
 o_bin Tryz.prog .eql 3 x4 (.int .i64 6) fun v49=>o_if v49 (Kn x1 x4 v49 h) (o_bin Tryz.prog .eql 3 x4 (.int .i64 17) fun v50=>Kn x1 x4 v50 h)
theorem y1os (Kn Kr Ke0) (t:T) (h:H) (H0:y7we (t 1) (t 4) h Kn Kr Ke0):Wp Tryz.prog 98 (seqL (cndY (rest 1 (cndY (seqR (cndY (seqR (cndY (seqR (cndY (seqR (blkC (rest 1 (seqL (rest 1 (ygjk Tryz.f164.body)))))))))))))))) (mkQ (fun t h=>Kn (t 1) (t 4) (t 48) h) (fun t h=>Kr (t 2) h) (keAdd 0 (fun t h=>Ke0 (t 1) h) ke0)) t h :=
 wpEqF H0 (by kernel_rfl)
theorem yr5t {a:Int} {x1:Value} {h:H} {Kn Kr Ke0}:y7we x1 (.int .i64 a) h Kn Kr Ke0=Kn x1 (.int .i64 a) (.bool (decide (a=6)||decide (a=17))) h:=by
 simp only [y7we,yc02,if_or]
def yd13 (x1:Value) (h:H) (Kn:Value→H→Prop) (Kr:Value→H→Prop) (Ke0:Value→H→Prop):Prop :=
 yokc 4 x1 fun v51=>ysm8 false 1 v51 h fun v52=>ywv3 Tryz.prog 237 [v52] h fun v53 h=>yy7w v53 false (fun k6=>yokc 4 x1 fun v55=>ysm8 false 1 v55 h fun v56=>o_bin Tryz.prog .eql 23 v56 (.int .u32 9) fun v57=>k6 v57 h) (fun v57 h=>yw1w v53 (.bool true) v57 fun v58=>yy7w v58 false (fun k11=>yokc 4 x1 fun v60=>ysm8 false 1 v60 h fun v61=>o_bin Tryz.prog .eql 23 v61 (.int .u32 10) fun v62=>k11 v62 h) (fun v62 h=>yw1w v58 (.bool true) v62 fun v63=>Kr v63 h) h) h
theorem y4t7 (Kn Kr Ke0) (t:T) (h:H) (H0:yd13 (t 1) h Kn Kr Ke0):Wp Tryz.prog 98 (cndX (seqR (cndY (rest 1 (cndY (seqR (cndY (seqR (cndY (seqR (cndY (seqR (blkC (rest 1 (seqL (rest 1 (ygjk Tryz.f164.body))))))))))))))))) (mkQ (fun t h=>Kn (t 1) h) (fun t h=>Kr (t 2) h) (keAdd 0 (fun t h=>Ke0 (t 1) h) ke0)) t h :=
 wpEqF H0 (by kernel_rfl)
def y812 (x1 x4:Value) (h:H) (Kn:Value→Value→Value→H→Prop) (Kr:Value→H→Prop) (Ke0:Value→H→Prop):Prop :=
 o_bin Tryz.prog .eql 3 x4 (.int .i64 7) fun v65=>o_if v65 (Kn x1 x4 v65 h) (o_bin Tryz.prog .eql 3 x4 (.int .i64 18) fun v66=>Kn x1 x4 v66 h)
theorem yp8s (Kn Kr Ke0) (t:T) (h:H) (H0:y812 (t 1) (t 4) h Kn Kr Ke0):Wp Tryz.prog 98 (seqL (cndY (seqR (cndY (rest 1 (cndY (seqR (cndY (seqR (cndY (seqR (cndY (seqR (blkC (rest 1 (seqL (rest 1 (ygjk Tryz.f164.body)))))))))))))))))) (mkQ (fun t h=>Kn (t 1) (t 4) (t 64) h) (fun t h=>Kr (t 2) h) (keAdd 0 (fun t h=>Ke0 (t 1) h) ke0)) t h :=
 wpEqF H0 (by kernel_rfl)
theorem yux6 {a:Int} {x1:Value} {h:H} {Kn Kr Ke0}:y812 x1 (.int .i64 a) h Kn Kr Ke0=Kn x1 (.int .i64 a) (.bool (decide (a=7)||decide (a=18))) h:=by
 simp only [y812,yc02,if_or]
def yqdp (x1 x4 x64:Value) (h:H) (Kn:Value→H→Prop) (Kr:Value→H→Prop) (Ke0:Value→H→Prop):Prop :=
 o_if x64 (yokc 4 x1 fun v67=>ysm8 false 1 v67 h fun v68=>ywv3 Tryz.prog 237 [v68] h fun v69 h=>Kr v69 h) (o_bin Tryz.prog .eql 3 x4 (.int .i64 13) fun v71=>o_if v71 (yokc 4 x1 fun v72=>ysm8 false 1 v72 h fun v73=>o_bin Tryz.prog .eql 23 v73 (.int .u32 2) fun v74=>yy7w v74 false (fun k6=>yokc 4 x1 fun v76=>ysm8 false 1 v76 h fun v77=>o_bin Tryz.prog .eql 23 v77 (.int .u32 5) fun v78=>k6 v78 h) (fun v78 h=>yw1w v74 (.bool true) v78 fun v79=>yy7w v79 false (fun k11=>yokc 4 x1 fun v81=>ysm8 false 1 v81 h fun v82=>o_bin Tryz.prog .eql 23 v82 (.int .u32 6) fun v83=>k11 v83 h) (fun v83 h=>yw1w v79 (.bool true) v83 fun v84=>Kr v84 h) h) h) (o_bin Tryz.prog .eql 3 x4 (.int .i64 20) fun v86=>o_if v86 (yokc 4 x1 fun v87=>ysm8 false 1 v87 h fun v88=>o_bin Tryz.prog .geq 23 v88 (.int .u32 1) fun v89=>yy7w v89 true (fun k6=>yokc 4 x1 fun v91=>ysm8 false 1 v91 h fun v92=>o_bin Tryz.prog .leq 23 v92 (.int .u32 3) fun v93=>k6 v93 h) (fun v93 h=>yw1w v89 v93 (.bool false) fun v94=>Kr v94 h) h) (Kn x1 h)))
theorem y842 (Kn Kr Ke0) (t:T) (h:H) (H0:yqdp (t 1) (t 4) (t 64) h Kn Kr Ke0):Wp Tryz.prog 98 (seqR (cndY (seqR (cndY (rest 1 (cndY (seqR (cndY (seqR (cndY (seqR (cndY (seqR (blkC (rest 1 (seqL (rest 1 (ygjk Tryz.f164.body)))))))))))))))))) (mkQ (fun t h=>Kn (t 1) h) (fun t h=>Kr (t 2) h) (keAdd 0 (fun t h=>Ke0 (t 1) h) ke0)) t h :=
 wpEqF H0 (by kernel_rfl)
def y12l (x1 x4:Value) (h:H) (Kn:Value→H→Prop) (Kr:Value→H→Prop) (Ke0:Value→H→Prop):Prop :=
 y812 x1 x4 h (fun y1 y4 y64 h=>yqdp y1 y4 y64 h Kn Kr Ke0) Kr Ke0
theorem yxpc (Kn Kr Ke0) (t:T) (h:H) (H0:y12l (t 1) (t 4) h Kn Kr Ke0):Wp Tryz.prog 98 (cndY (seqR (cndY (rest 1 (cndY (seqR (cndY (seqR (cndY (seqR (cndY (seqR (blkC (rest 1 (seqL (rest 1 (ygjk Tryz.f164.body))))))))))))))))) (mkQ (fun t h=>Kn (t 1) h) (fun t h=>Kr (t 2) h) (keAdd 0 (fun t h=>Ke0 (t 1) h) ke0)) t h :=
 ykv2 (by kernel_rfl) (fun t h H1=>y842 Kn Kr Ke0 t h H1) (yp8s (fun y1 y4 y64 h=>yqdp y1 y4 y64 h Kn Kr Ke0) Kr Ke0 t h H0)
def ym48 (x1 x4 x48:Value) (h:H) (Kn:Value→H→Prop) (Kr:Value→H→Prop) (Ke0:Value→H→Prop):Prop :=
 o_if x48 (yd13 x1 h Kn Kr Ke0) (y12l x1 x4 h Kn Kr Ke0)
theorem yjq2 (Kn Kr Ke0) (t:T) (h:H) (H0:ym48 (t 1) (t 4) (t 48) h Kn Kr Ke0):Wp Tryz.prog 98 (seqR (cndY (rest 1 (cndY (seqR (cndY (seqR (cndY (seqR (cndY (seqR (blkC (rest 1 (seqL (rest 1 (ygjk Tryz.f164.body)))))))))))))))) (mkQ (fun t h=>Kn (t 1) h) (fun t h=>Kr (t 2) h) (keAdd 0 (fun t h=>Ke0 (t 1) h) ke0)) t h :=
 yh47 H0 (by kernel_rfl) (y4t7 Kn Kr Ke0 t h) (yxpc Kn Kr Ke0 t h) (by kernel_rfl)
def ypv0 (x1 x4:Value) (h:H) (Kn:Value→H→Prop) (Kr:Value→H→Prop) (Ke0:Value→H→Prop):Prop :=
 y7we x1 x4 h (fun y1 y4 y48 h=>ym48 y1 y4 y48 h Kn Kr Ke0) Kr Ke0
theorem ynho (Kn Kr Ke0) (t:T) (h:H) (H0:ypv0 (t 1) (t 4) h Kn Kr Ke0):Wp Tryz.prog 98 (cndY (rest 1 (cndY (seqR (cndY (seqR (cndY (seqR (cndY (seqR (blkC (rest 1 (seqL (rest 1 (ygjk Tryz.f164.body))))))))))))))) (mkQ (fun t h=>Kn (t 1) h) (fun t h=>Kr (t 2) h) (keAdd 0 (fun t h=>Ke0 (t 1) h) ke0)) t h :=
 ykv2 (by kernel_rfl) (fun t h H1=>yjq2 Kn Kr Ke0 t h H1) (y1os (fun y1 y4 y48 h=>ym48 y1 y4 y48 h Kn Kr Ke0) Kr Ke0 t h H0)
def ydsi (x1 x4 x33:Value) (h:H) (Kn:Value→H→Prop) (Kr:Value→H→Prop) (Ke0:Value→H→Prop):Prop :=
 o_if x33 (y92d x1 h Kn Kr Ke0) (ypv0 x1 x4 h Kn Kr Ke0)
theorem yidb (Kn Kr Ke0) (t:T) (h:H) (H0:ydsi (t 1) (t 4) (t 33) h Kn Kr Ke0):Wp Tryz.prog 98 (rest 1 (cndY (seqR (cndY (seqR (cndY (seqR (cndY (seqR (blkC (rest 1 (seqL (rest 1 (ygjk Tryz.f164.body)))))))))))))) (mkQ (fun t h=>Kn (t 1) h) (fun t h=>Kr (t 2) h) (keAdd 0 (fun t h=>Ke0 (t 1) h) ke0)) t h :=
 yh47 H0 (by kernel_rfl) (y616 Kn Kr Ke0 t h) (ynho Kn Kr Ke0 t h) (by kernel_rfl)
def yqv8 (x1 x4:Value) (h:H) (Kn:Value→H→Prop) (Kr:Value→H→Prop) (Ke0:Value→H→Prop):Prop :=
 o_bin Tryz.prog .eql 3 x4 (.int .i64 5) fun v34=>ydsi x1 x4 v34 h Kn Kr Ke0
theorem y51r (Kn Kr Ke0) (t:T) (h:H) (H0:yqv8 (t 1) (t 4) h Kn Kr Ke0):Wp Tryz.prog 98 (cndY (seqR (cndY (seqR (cndY (seqR (cndY (seqR (blkC (rest 1 (seqL (rest 1 (ygjk Tryz.f164.body))))))))))))) (mkQ (fun t h=>Kn (t 1) h) (fun t h=>Kr (t 2) h) (keAdd 0 (fun t h=>Ke0 (t 1) h) ke0)) t h :=
 y3i4 1 H0 (by kernel_rfl) (fun t h (H1:ydsi (t 1) (t 4) (t 33) h Kn Kr Ke0)=>yidb Kn Kr Ke0 t h H1) (by kernel_rfl)
def yibi (x1 x4 x27:Value) (h:H) (Kn:Value→H→Prop) (Kr:Value→H→Prop) (Ke0:Value→H→Prop):Prop :=
 o_if x27 (yilk x1 h Kn Kr Ke0) (yqv8 x1 x4 h Kn Kr Ke0)
theorem yctd (Kn Kr Ke0) (t:T) (h:H) (H0:yibi (t 1) (t 4) (t 27) h Kn Kr Ke0):Wp Tryz.prog 98 (seqR (cndY (seqR (cndY (seqR (cndY (seqR (blkC (rest 1 (seqL (rest 1 (ygjk Tryz.f164.body)))))))))))) (mkQ (fun t h=>Kn (t 1) h) (fun t h=>Kr (t 2) h) (keAdd 0 (fun t h=>Ke0 (t 1) h) ke0)) t h :=
 yh47 H0 (by kernel_rfl) (y8br Kn Kr Ke0 t h) (y51r Kn Kr Ke0 t h) (by kernel_rfl)
def ykxg (x1 x4:Value) (h:H) (Kn:Value→H→Prop) (Kr:Value→H→Prop) (Ke0:Value→H→Prop):Prop :=
 ykny x1 x4 h (fun y1 y4 y27 h=>yibi y1 y4 y27 h Kn Kr Ke0) Kr Ke0
theorem ygmj (Kn Kr Ke0) (t:T) (h:H) (H0:ykxg (t 1) (t 4) h Kn Kr Ke0):Wp Tryz.prog 98 (cndY (seqR (cndY (seqR (cndY (seqR (blkC (rest 1 (seqL (rest 1 (ygjk Tryz.f164.body))))))))))) (mkQ (fun t h=>Kn (t 1) h) (fun t h=>Kr (t 2) h) (keAdd 0 (fun t h=>Ke0 (t 1) h) ke0)) t h :=
 ykv2 (by kernel_rfl) (fun t h H1=>yctd Kn Kr Ke0 t h H1) (yk0w (fun y1 y4 y27 h=>yibi y1 y4 y27 h Kn Kr Ke0) Kr Ke0 t h H0)
def yy8d (x1 x4 x16:Value) (h:H) (Kn:Value→H→Prop) (Kr:Value→H→Prop) (Ke0:Value→H→Prop):Prop :=
 o_if x16 (yfym x1 h Kn Kr Ke0) (ykxg x1 x4 h Kn Kr Ke0)
theorem y51g (Kn Kr Ke0) (t:T) (h:H) (H0:yy8d (t 1) (t 4) (t 16) h Kn Kr Ke0):Wp Tryz.prog 98 (seqR (cndY (seqR (cndY (seqR (blkC (rest 1 (seqL (rest 1 (ygjk Tryz.f164.body)))))))))) (mkQ (fun t h=>Kn (t 1) h) (fun t h=>Kr (t 2) h) (keAdd 0 (fun t h=>Ke0 (t 1) h) ke0)) t h :=
 yh47 H0 (by kernel_rfl) (y32u Kn Kr Ke0 t h) (ygmj Kn Kr Ke0 t h) (by kernel_rfl)
def ymjh (x1 x4:Value) (h:H) (Kn:Value→H→Prop) (Kr:Value→H→Prop) (Ke0:Value→H→Prop):Prop :=
 yc9t x1 x4 h (fun y1 y4 y16 h=>yy8d y1 y4 y16 h Kn Kr Ke0) Kr Ke0
theorem ya79 (Kn Kr Ke0) (t:T) (h:H) (H0:ymjh (t 1) (t 4) h Kn Kr Ke0):Wp Tryz.prog 98 (cndY (seqR (cndY (seqR (blkC (rest 1 (seqL (rest 1 (ygjk Tryz.f164.body))))))))) (mkQ (fun t h=>Kn (t 1) h) (fun t h=>Kr (t 2) h) (keAdd 0 (fun t h=>Ke0 (t 1) h) ke0)) t h :=
 ykv2 (by kernel_rfl) (fun t h H1=>y51g Kn Kr Ke0 t h H1) (yjsl (fun y1 y4 y16 h=>yy8d y1 y4 y16 h Kn Kr Ke0) Kr Ke0 t h H0)
def yruy (x1 x4 x10:Value) (h:H) (Kn:Value→H→Prop) (Kr:Value→H→Prop) (Ke0:Value→H→Prop):Prop :=
 o_if x10 (yv1m x1 h Kn Kr Ke0) (ymjh x1 x4 h Kn Kr Ke0)
theorem yhjp (Kn Kr Ke0) (t:T) (h:H) (H0:yruy (t 1) (t 4) (t 10) h Kn Kr Ke0):Wp Tryz.prog 98 (seqR (cndY (seqR (blkC (rest 1 (seqL (rest 1 (ygjk Tryz.f164.body)))))))) (mkQ (fun t h=>Kn (t 1) h) (fun t h=>Kr (t 2) h) (keAdd 0 (fun t h=>Ke0 (t 1) h) ke0)) t h :=
 yh47 H0 (by kernel_rfl) (yvpr Kn Kr Ke0 t h) (ya79 Kn Kr Ke0 t h) (by kernel_rfl)
def yuth (x1 x4:Value) (h:H) (Kn:Value→H→Prop) (Kr:Value→H→Prop) (Ke0:Value→H→Prop):Prop :=
 yaej x1 x4 h (fun y1 y4 y10 h=>yruy y1 y4 y10 h Kn Kr Ke0) Kr Ke0
theorem ydun (Kn Kr Ke0) (t:T) (h:H) (H0:yuth (t 1) (t 4) h Kn Kr Ke0):Wp Tryz.prog 98 (cndY (seqR (blkC (rest 1 (seqL (rest 1 (ygjk Tryz.f164.body))))))) (mkQ (fun t h=>Kn (t 1) h) (fun t h=>Kr (t 2) h) (keAdd 0 (fun t h=>Ke0 (t 1) h) ke0)) t h :=
 ykv2 (by kernel_rfl) (fun t h H1=>yhjp Kn Kr Ke0 t h H1) (y1la (fun y1 y4 y10 h=>yruy y1 y4 y10 h Kn Kr Ke0) Kr Ke0 t h H0)
def ypg7 (x1 x4 x5:Value) (h:H) (Kn:Value→H→Prop) (Kr:Value→H→Prop) (Ke0:Value→H→Prop):Prop :=
 o_if x5 (yj5t h Kn Kr Ke0) (yuth x1 x4 h Kn Kr Ke0)
theorem yzfw (Kn Kr Ke0) (t:T) (h:H) (H0:ypg7 (t 1) (t 4) (t 5) h Kn Kr Ke0):Wp Tryz.prog 98 (seqR (blkC (rest 1 (seqL (rest 1 (ygjk Tryz.f164.body)))))) (mkQ (fun t h=>Kn (t 1) h) (fun t h=>Kr (t 2) h) (keAdd 0 (fun t h=>Ke0 (t 1) h) ke0)) t h :=
 yh47 H0 (by kernel_rfl) (yf90 Kn Kr Ke0 t h) (ydun Kn Kr Ke0 t h) (by kernel_rfl)
def yr1s (x1 x4:Value) (h:H) (Kn:Value→H→Prop) (Kr:Value→H→Prop) (Ke0:Value→H→Prop):Prop :=
 yk37 x1 x4 h (fun y1 y4 y5 h=>ypg7 y1 y4 y5 h Kn Kr Ke0) Kr Ke0
theorem yfgh (Kn Kr Ke0) (t:T) (h:H) (H0:yr1s (t 1) (t 4) h Kn Kr Ke0):Wp Tryz.prog 98 (blkC (rest 1 (seqL (rest 1 (ygjk Tryz.f164.body))))) (mkQ (fun t h=>Kn (t 1) h) (fun t h=>Kr (t 2) h) (keAdd 0 (fun t h=>Ke0 (t 1) h) ke0)) t h :=
 ykv2 (by kernel_rfl) (fun t h H1=>yzfw Kn Kr Ke0 t h H1) (y4wf (fun y1 y4 y5 h=>ypg7 y1 y4 y5 h Kn Kr Ke0) Kr Ke0 t h H0)
def yro1 (x1 x4:Value) (h:H) (Kn:Value→H→Prop) (Kr:Value→H→Prop):Prop :=
 yr1s x1 x4 h Kn Kr Kn
theorem yaki (Kn Kr) (t:T) (h:H) (H0:yro1 (t 1) (t 4) h Kn Kr):Wp Tryz.prog 98 (rest 1 (seqL (rest 1 (ygjk Tryz.f164.body)))) (mkQ (fun t h=>Kn (t 1) h) (fun t h=>Kr (t 2) h) ke0) t h :=
 y6tu 0 (by kernel_rfl) (by kernel_rfl) (yfgh Kn Kr Kn t h H0)
def yv6x (x1:Value) (h:H) (Kn:Value→H→Prop) (Kr:Value→H→Prop):Prop :=
 yokc 0 x1 fun v3=>ysm8 false 1 v3 h fun v4=>yro1 x1 v4 h Kn Kr
theorem yrzy (Kn Kr) (t:T) (h:H) (H0:yv6x (t 1) h Kn Kr):Wp Tryz.prog 98 (seqL (rest 1 (ygjk Tryz.f164.body))) (mkQ (fun t h=>Kn (t 1) h) (fun t h=>Kr (t 2) h) ke0) t h :=
 y3i4 1 H0 (by kernel_rfl) (fun t h (H1:yro1 (t 1) (t 4) h Kn Kr)=>yaki Kn Kr t h H1) (by kernel_rfl)
def ylvc (x1:Value) (h:H) (Kn:Value→H→Prop) (Kr:Value→H→Prop):Prop :=
 yokc 4 x1 fun v95=>ysm8 false 1 v95 h fun v96=>o_bin Tryz.prog .eql 23 v96 (.int .u32 0) fun v97=>Kr v97 h
theorem y6ua (Kn Kr) (t:T) (h:H) (H0:ylvc (t 1) h Kn Kr):Wp Tryz.prog 98 (seqR (rest 1 (ygjk Tryz.f164.body))) (mkQ (fun t h=>Kn (t 2) h) (fun t h=>Kr (t 2) h) ke0) t h :=
 wpEqF H0 (by kernel_rfl)
def yb3o (x1:Value) (h:H) (Kn:Value→H→Prop) (Kr:Value→H→Prop):Prop :=
 yv6x x1 h (fun y1 h=>ylvc y1 h Kn Kr) Kr
theorem ypm8 (Kn Kr) (t:T) (h:H) (H0:yb3o (t 1) h Kn Kr):Wp Tryz.prog 98 (rest 1 (ygjk Tryz.f164.body)) (mkQ (fun t h=>Kn (t 2) h) (fun t h=>Kr (t 2) h) ke0) t h :=
 ykv2 (by kernel_rfl) (fun t h H1=>y6ua Kn Kr t h H1) (yrzy (fun y1 h=>ylvc y1 h Kn Kr) Kr t h H0)
def y6m3 (x0:Value) (h:H) (Kn:Value→H→Prop) (Kr:Value→H→Prop):Prop :=
 boxV x0=true∧o_new (Value.cells x0).toList 64 .exact h fun b1 h=>yb3o (.pointer (some ⟨b1,0,none⟩)) h Kn Kr
theorem yxsc (Kn Kr) (t:T) (h:H) (H0:y6m3 (t 0) h Kn Kr):Wp Tryz.prog 98 (ygjk Tryz.f164.body) (mkQ (fun t h=>Kn (t 2) h) (fun t h=>Kr (t 2) h) ke0) t h :=
 y3i4 1 H0 (by kernel_rfl) (fun t h (H1:yb3o (t 1) h Kn Kr)=>ypm8 Kn Kr t h H1) (by kernel_rfl)
def F164 (x0:Value) (h:H) (Q:Value→H→Prop):Prop:=y6m3 x0 h (fun v h=>Q v h) (fun v h=>Q v h)
theorem yncn (x0:Value) (h:H) (Q:Value→H→Prop) (H0:F164 x0 h Q):AM.Spec Tryz.prog 164 [x0] h Q :=
 yqxt mixed (fn:=Tryz.f164) Tryz.func164 (c:=ygjk Tryz.f164.body) (rs:=[2]) (N:=98) (by kernel_rfl) (by kernel_rfl) (by kernel_rfl) (by kernel_rfl) (by kernel_rfl) (Nat.le_of_ble_eq_true rfl) (yxsc (fun v h=>Q v h) (fun v h=>Q v h) (tinit [x0]) h H0) (by kernel_rfl)
def yhtf (x0 x1:Value) (h:H) (Kn:Value→H→Prop) (Kr:Value→H→Prop):Prop :=
 o_bin Tryz.prog .eql 3 x1 (.int .i64 0) fun v6=>yy7w v6 false (fun k11=>yy7w x0 true (fun k6=>o_bin Tryz.prog .gtr 3 x1 (.int .i64 0) fun v11=>k6 v11 h) (fun v11 h=>yw1w x0 v11 (.bool false) fun v12=>yy7w v12 true (fun k10=>o_bin Tryz.prog .lss 3 x1 (.int .i64 256) fun v15=>k10 v15 h) (fun v15 h=>yw1w v12 v15 (.bool false) fun v16=>k11 v16 h) h) h) (fun v16 h=>yw1w v6 (.bool true) v16 fun v17=>Kr v17 h) h
theorem y202 (Kn Kr) (t:T) (h:H) (H0:yhtf (t 0) (t 1) h Kn Kr):Wp Tryz.prog 18 (ygjk Tryz.f165.body) (mkQ (fun t h=>Kn (t 4) h) (fun t h=>Kr (t 4) h) ke0) t h :=
 wpEqF H0 (by kernel_rfl)
def F165 (x0 x1:Value) (h:H) (Q:Value→H→Prop):Prop:=yhtf x0 x1 h (fun v h=>Q v h) (fun v h=>Q v h)
theorem ylnu (x0 x1:Value) (h:H) (Q:Value→H→Prop) (H0:F165 x0 x1 h Q):AM.Spec Tryz.prog 165 [x0,x1] h Q :=
 yqxt mixed (fn:=Tryz.f165) Tryz.func165 (c:=ygjk Tryz.f165.body) (rs:=[4]) (N:=18) (by kernel_rfl) (by kernel_rfl) (by kernel_rfl) (by kernel_rfl) (by kernel_rfl) (Nat.le_of_ble_eq_true rfl) (y202 (fun v h=>Q v h) (fun v h=>Q v h) (tinit [x0,x1]) h H0) (by kernel_rfl)
def yy09 (x0 x1 x7 x8:Value) (h:H) (Kn:Value→Value→Value→Value→H→Prop) (Kr:Value→H→Prop) (Ke0:H→Prop):Prop :=
 o_bin Tryz.prog .lss 3 x8 x7 fun v9=>o_if v9 (ys75 none 1 x0 x8 fun v14=>ysm8 false 1 v14 h fun v15=>o_dyn Tryz.prog x1 [v15] h fun v16 h=>o_if v16 (Kr x8 h) (o_bin Tryz.prog .add 3 x8 (.int .i64 1) fun v18=>Kn x0 x1 x7 v18 h)) (Ke0 h)
theorem yvwr (Kn Kr Ke0) (t:T) (h:H) (H0:yy09 (t 0) (t 1) (t 7) (t 8) h Kn Kr Ke0):Wp Tryz.prog 19 (lopC (blkC (rest 1 (seqL (rest 1 (ygjk Tryz.f166.body)))))) (mkQ (fun t h=>Kn (t 0) (t 1) (t 7) (t 8) h) (fun t h=>Kr (t 4) h) (keAdd 0 (fun t h=>Ke0 h) ke0)) t h :=
 wpEqF H0 (by kernel_rfl)
def yqv1 (x0 x1 x7 x8:Value) (h:H) (Kn:H→Prop) (Kr:Value→H→Prop) (Ke0:H→Prop):Prop :=
 sloop (S:=Value×Value×Value×Value) (fun s h K=>yy09 s.1 s.2.1 s.2.2.1 s.2.2.2 h (fun y0 y1 y7 y8 h=>K (y0,y1,y7,y8) h) Kr Ke0) (x0,x1,x7,x8) h
theorem yoon (Kn Kr Ke0) (t:T) (h:H) (H0:yqv1 (t 0) (t 1) (t 7) (t 8) h Kn Kr Ke0):Wp Tryz.prog 19 (blkC (rest 1 (seqL (rest 1 (ygjk Tryz.f166.body))))) (mkQ (fun t h=>Kn h) (fun t h=>Kr (t 4) h) (keAdd 0 (fun t h=>Ke0 h) ke0)) t h :=
 yv0a (fun t=>(t 0,t 1,t 7,t 8)) (by kernel_rfl) (fun t h K H1=>yvwr (fun y0 y1 y7 y8 h=>K (y0,y1,y7,y8) h) Kr Ke0 t h H1) H0
def ypiu (x0 x1 x7 x8:Value) (h:H) (Kn:H→Prop) (Kr:Value→H→Prop):Prop :=
 yqv1 x0 x1 x7 x8 h Kn Kr Kn
theorem ybyn (Kn Kr) (t:T) (h:H) (H0:ypiu (t 0) (t 1) (t 7) (t 8) h Kn Kr):Wp Tryz.prog 19 (rest 1 (seqL (rest 1 (ygjk Tryz.f166.body)))) (mkQ (fun t h=>Kn h) (fun t h=>Kr (t 4) h) ke0) t h :=
 y6tu 0 (by kernel_rfl) (by kernel_rfl) (yoon Kn Kr Kn t h H0)
def ysai (x0 x1:Value) (h:H) (Kn:H→Prop) (Kr:Value→H→Prop):Prop :=
 yn0t x0 fun v7=>ypiu x0 x1 v7 (.int .i64 0) h Kn Kr
theorem y0ue (Kn Kr) (t:T) (h:H) (H0:ysai (t 0) (t 1) h Kn Kr):Wp Tryz.prog 19 (seqL (rest 1 (ygjk Tryz.f166.body))) (mkQ (fun t h=>Kn h) (fun t h=>Kr (t 4) h) ke0) t h :=
 y3i4 1 H0 (by kernel_rfl) (fun t h (H1:ypiu (t 0) (t 1) (t 7) (t 8) h Kn Kr)=>ybyn Kn Kr t h H1) (by kernel_rfl)
def yqli (h:H) (Kn:Value→H→Prop) (Kr:Value→H→Prop):Prop :=
 Kr (.int .i64 (-1)) h
theorem yqzc (Kn Kr) (t:T) (h:H) (H0:yqli h Kn Kr):Wp Tryz.prog 19 (seqR (rest 1 (ygjk Tryz.f166.body))) (mkQ (fun t h=>Kn (t 4) h) (fun t h=>Kr (t 4) h) ke0) t h :=
 wpEqF H0 (by kernel_rfl)
def ybs3 (x0 x1:Value) (h:H) (Kn:Value→H→Prop) (Kr:Value→H→Prop):Prop :=
 ysai x0 x1 h (fun h=>yqli h Kn Kr) Kr
theorem ydko (Kn Kr) (t:T) (h:H) (H0:ybs3 (t 0) (t 1) h Kn Kr):Wp Tryz.prog 19 (rest 1 (ygjk Tryz.f166.body)) (mkQ (fun t h=>Kn (t 4) h) (fun t h=>Kr (t 4) h) ke0) t h :=
 ykv2 (by kernel_rfl) (fun t h H1=>yqzc Kn Kr t h H1) (y0ue (fun h=>yqli h Kn Kr) Kr t h H0)
def y1jl (x0 x1:Value) (h:H) (Kn:Value→H→Prop) (Kr:Value→H→Prop):Prop :=
 ybs3 x0 x1 h Kn Kr
theorem yos5 (Kn Kr) (t:T) (h:H) (H0:y1jl (t 0) (t 1) h Kn Kr):Wp Tryz.prog 19 (ygjk Tryz.f166.body) (mkQ (fun t h=>Kn (t 4) h) (fun t h=>Kr (t 4) h) ke0) t h :=
 y3i4 1 H0 (by kernel_rfl) (fun t h (H1:ybs3 (t 0) (t 1) h Kn Kr)=>ydko Kn Kr t h H1) (by kernel_rfl)
def F166 (x0 x1:Value) (h:H) (Q:Value→H→Prop):Prop:=y1jl x0 x1 h (fun v h=>Q v h) (fun v h=>Q v h)
theorem ydwp (x0 x1:Value) (h:H) (Q:Value→H→Prop) (H0:F166 x0 x1 h Q):AM.Spec Tryz.prog 166 [x0,x1] h Q :=
 yqxt mixed (fn:=Tryz.f166) Tryz.func166 (c:=ygjk Tryz.f166.body) (rs:=[4]) (N:=19) (by kernel_rfl) (by kernel_rfl) (by kernel_rfl) (by kernel_rfl) (by kernel_rfl) (Nat.le_of_ble_eq_true rfl) (yos5 (fun v h=>Q v h) (fun v h=>Q v h) (tinit [x0,x1]) h H0) (by kernel_rfl)
def y2cq (x0:Value) (h:H) (Kn:Value→H→Prop) (Kr:Value→H→Prop):Prop :=
 o_bin Tryz.prog .eql 23 x0 (.int .u32 1) fun v4=>yy7w v4 false (fun k4=>o_bin Tryz.prog .eql 23 x0 (.int .u32 2) fun v7=>k4 v7 h) (fun v7 h=>yw1w v4 (.bool true) v7 fun v8=>yy7w v8 false (fun k8=>o_bin Tryz.prog .eql 23 x0 (.int .u32 4) fun v11=>k8 v11 h) (fun v11 h=>yw1w v8 (.bool true) v11 fun v12=>Kr v12 h) h) h
theorem yxqh (Kn Kr) (t:T) (h:H) (H0:y2cq (t 0) h Kn Kr):Wp Tryz.prog 13 (ygjk Tryz.f237.body) (mkQ (fun t h=>Kn (t 2) h) (fun t h=>Kr (t 2) h) ke0) t h :=
 wpEqF H0 (by kernel_rfl)
def F237 (x0:Value) (h:H) (Q:Value→H→Prop):Prop:=y2cq x0 h (fun v h=>Q v h) (fun v h=>Q v h)
theorem yxvv (x0:Value) (h:H) (Q:Value→H→Prop) (H0:F237 x0 h Q):AM.Spec Tryz.prog 237 [x0] h Q :=
 yqxt mixed (fn:=Tryz.f237) Tryz.func237 (c:=ygjk Tryz.f237.body) (rs:=[2]) (N:=13) (by kernel_rfl) (by kernel_rfl) (by kernel_rfl) (by kernel_rfl) (by kernel_rfl) (Nat.le_of_ble_eq_true rfl) (yxqh (fun v h=>Q v h) (fun v h=>Q v h) (tinit [x0]) h H0) (by kernel_rfl)
end Go.Proofs.YtnckimioabkheaaGreat
namespace Go.Proofs.YtnckimioabkheaaGreat
open AM
set_option linter.unusedVariables false
set_option maxRecDepth 100000
set_option linter.unusedSimpArgs false
structure Nd where
 op:Int
 to:Int
 a:Int
 b:Int
 v:Int
 deriving DecidableEq
def Nd.cells (n:Nd):List Value:=[.int .i64 n.op,.int .i64 n.to,.int .i64 n.a,.int .i64 n.b,.int .u32 n.v]
def Nd.val (n:Nd):Value:=.agg #[.int .i64 n.op,.int .i64 n.to,.int .i64 n.a,.int .i64 n.b,.int .u32 n.v]
def tagsB (op:Int):Bool:=decide (op=14)||decide (op=16)||decide (op=17)||decide (op=19)
def hasL (op:Int):Bool×Bool×Bool :=
 if op=1∨op=2∨op=14 then (true,false,false)
 else if op=4∨op=5∨op=16 then (true,true,true)
 else if op=6∨op=17∨op=19 then (true,true,false)
 else if op=7∨op=18 then (false,true,true)
 else if op=3∨op=15∨op=10∨op=11∨op=20∨op=21 then (false,true,false)
 else (false,false,false)
def y65c (op:Int):Bool:=decide (op=1)||(decide (op=2)||(decide (op=4)||(decide (op=5)||decide (op=6))))
def yyyr (v:Int):Bool:=decide (v=1)||decide (v=2)||decide (v=4)
def ykl2 (op v:Int):Bool :=
 if op=1∨op=8∨op=10∨op=12 then true
 else if op=2∨op=14 then decide (v≤31)
 else if op=3∨op=15 then decide (1≤v)&&decide (v≤31)
 else if op=4∨op=16 then decide (v≤17)
 else if op=5 then decide (v≤7)&&!decide (v=2)&&!decide (v=3)
 else if op=6∨op=17 then yyyr v||decide (v=9)||decide (v=10)
 else if op=7∨op=18 then yyyr v
 else if op=13 then decide (v=2)||decide (v=5)||decide (v=6)
 else if op=20 then decide (1≤v)&&decide (v≤3)
 else decide (v=0)
theorem to_q {Q:Value→H→Prop} {v v':Value} {h:H} (hq:Q v h) (e:v=v'):Q v' h:=e▸hq
theorem yqt9 {op:Int} {h:H} {Q:Value→H→Prop} (hq:Q (.bool (tagsB op)) h):AM.Spec Tryz.prog 54 [.int .i64 op] h Q:=by
 refine yv0z _ _ _ ?_
 unfold F54 F54_0
 simp only [yc02,yku0,y4yh]
 exact hq
theorem yjsp {op:Int} {h:H} {Q:Value→H→Prop} (hq:Q (.tuple #[.bool (hasL op).1,.bool (hasL op).2.1,.bool (hasL op).2.2]) h):AM.Spec Tryz.prog 163 [.int .i64 op] h Q:=by
 refine yvws _ _ _ ?_
 simp only [F163,ywlj,ykg0,y636,yotz,y4ch,ymy4,ym6a,y289,yjm9,ylc0,y7ll,yidu,y95b,y7bs,y257,y63o,ya2w,y2h1,yhef,yqtk,ytso,ypz1,ye2o,ytgi,yc02,ykm3,Bool.or_eq_true,decide_eq_true_eq,List.all_cons,List.all_nil,y7yb,Bool.and_true,cond_true]
 repeat' split
 all_goals (refine to_q hq ?_;clear hq;simp [hasL, *])
theorem ywu5 {v:Int} {h:H} {Q:Value→H→Prop} (hq:Q (.bool (yyyr v)) h):AM.Spec Tryz.prog 237 [.int .u32 v] h Q:=by
 refine yxvv _ _ _ ?_
 unfold F237 y2cq
 simp only [yc02,yku0,y4yh]
 exact hq
def yalu (is:Bool) (t:Int):Bool:=decide (t=0)||(is&&(decide (0<t))&&(decide (t<256)))
theorem y52o {is:Bool} {t:Int} {h:H} {Q:Value→H→Prop} (hq:Q (.bool (yalu is t)) h):AM.Spec Tryz.prog 165 [.bool is,.int .i64 t] h Q:=by
 refine ylnu _ _ _ _ ?_
 unfold F165 yhtf
 simp only [yc02,y5aw,ypzw,yku0,yu2d,y4yh,ynyz]
 exact hq
theorem ylvp {n:Nd} {h:H} {Q:Value→H→Prop} (hq:Q (.tuple #[.int .i64 (if y65c n.op then n.to else 0),.bool (y65c n.op)]) h):AM.Spec Tryz.prog 58 [n.val] h Q:=by
 refine yz7m (fun Q hq=>?_) hq
 refine yzl8 _ _ _ ?_
 refine ⟨rfl,fun b hb2 hb=>?_⟩
 have hq:=hq _ (Sub.new (o:=.cells n.cells 64 .exact) hb)
 simp only [Nd.val,Value.cells,F58_1,F58_2,F58_3,F58_4,ygld,F58_6,F58_7,yc02,ym6s,y5aw,y3lr,ypzw,y3pi,y642,yy2q,yvbp,yku0,yu2d,y4yh,ynyz,ykm3,y4j6,y2i1,yicc,ex0,ex1,ex0',ex1',ex2',y525,List.getElem?_cons_zero,List.getElem?_cons_succ,Nat.add_zero,Nat.zero_add,List.all_cons,List.all_nil,y7yb,yhlb,y5i6,bx_sl,yn96,y45v,ypw1,y3av,Bool.and_true,Bool.true_and,Bool.and_self,cond_true,cond_false ]
 split
 all_goals (refine to_q hq ?_;clear hq;simp only [y65c, *];rfl)
theorem yv4j {n:Nd} {h:H} {Q:Value→H→Prop} (hq:Q (.bool (ykl2 n.op n.v)) h):AM.Spec Tryz.prog 164 [n.val] h Q:=by
 refine yz7m (fun Q hq=>?_) hq
 refine yncn _ _ _ ?_
 refine ⟨rfl,fun b hb2 hb=>?_⟩
 have hq:=hq _ (Sub.new (o:=.cells n.cells 64 .exact) hb)
 simp only [Nd.val,Value.cells,yb3o,yv6x,yro1,yr1s,yo2u,ypg7,yj5t,yuth,yopy,yruy,yv1m,ymjh,ytyw,yy8d,yfym,ykxg,yrbx,yibi,yilk,yqv8,ydsi,y92d,ypv0,yr5t,ym48,yd13,y12l,yux6,yqdp,ylvc,yc02,ym6s,y5aw,y3lr,ypzw,y3pi,y642,yy2q,yvbp,yku0,yu2d,y4yh,ynyz,ykm3,y4j6,y2i1,yicc,ex0,ex1,ex0',ex1',ex2',y525,List.getElem?_cons_zero,List.getElem?_cons_succ,Nat.add_zero,Nat.zero_add,List.all_cons,List.all_nil,y7yb,yhlb,y5i6,bx_sl,yn96,y45v,ypw1,y3av,Bool.and_true,Bool.true_and,Bool.and_self,cond_true,cond_false ,Bool.or_eq_true,Bool.and_eq_true,decide_eq_true_eq,Bool.not_eq_true',decide_eq_false_iff_not ]
 repeat' split
 all_goals first
  | (refine to_q hq ?_;clear hq;simp [ykl2, *])
  | (refine ⟨rfl,ywu5 ?_⟩;(try simp only [yc02,ym6s,y5aw,y3lr,ypzw,y3pi,y642,yy2q,yvbp,yku0,yu2d,y4yh,ynyz,ykm3,y4j6,y2i1,yicc,ex0,ex1,ex0',ex1',ex2',y525,List.getElem?_cons_zero,List.getElem?_cons_succ,Nat.add_zero,Nat.zero_add,List.all_cons,List.all_nil,y7yb,yhlb,y5i6,bx_sl,yn96,y45v,ypw1,y3av,Bool.and_true,Bool.true_and,Bool.and_self,cond_true,cond_false ]);refine to_q hq ?_;clear hq;simp [ykl2, *])
def yln3 (n:Nd):Bool:=decide (1≤n.op)&&decide (n.op≤21)&&ykl2 n.op n.v&&yalu (hasL n.op).1 n.to&&yalu (hasL n.op).2.1 n.a&&yalu (hasL n.op).2.2 n.b
theorem ymbn {n:Nd} {h:H} {Q:Value→H→Prop} (hq:Q (.bool (yln3 n)) h):AM.Spec Tryz.prog 53 [n.val] h Q:=by
 refine yz7m (fun Q hq=>?_) hq
 refine yaq9 _ _ _ ?_
 refine ⟨rfl,fun b hb2 hb=>?_⟩
 have hq:=hq _ (Sub.new (o:=.cells n.cells 64 .exact) hb)
 simp only [Nd.val,Value.cells,yc02,ym6s,y5aw,y3lr,ypzw,y3pi,y642,yy2q,yvbp,yku0,yu2d,y4yh,ynyz,ykm3,y4j6,y2i1,yicc,ex0,ex1,ex0',ex1',ex2',y525,List.getElem?_cons_zero,List.getElem?_cons_succ,Nat.add_zero,Nat.zero_add,List.all_cons,List.all_nil,y7yb,yhlb,y5i6,bx_sl,yn96,y45v,ypw1,y3av,Bool.and_true,Bool.true_and,Bool.and_self,cond_true,cond_false ]
 refine ⟨rfl,yjsp ?_⟩
 simp only [yc02,ym6s,y5aw,y3lr,ypzw,y3pi,y642,yy2q,yvbp,yku0,yu2d,y4yh,ynyz,ykm3,y4j6,y2i1,yicc,ex0,ex1,ex0',ex1',ex2',y525,List.getElem?_cons_zero,List.getElem?_cons_succ,Nat.add_zero,Nat.zero_add,List.all_cons,List.all_nil,y7yb,yhlb,y5i6,bx_sl,yn96,y45v,ypw1,y3av,Bool.and_true,Bool.true_and,Bool.and_self,cond_true,cond_false ]
 refine yigx (b:=ykl2 n.op n.v) (fun _ K hk=>?_) ?_
 ·rw [y2pr (by rfl)]
  exact ⟨rfl,yv4j (n:=n) hk⟩
 simp only [yc02,ym6s,y5aw,y3lr,ypzw,y3pi,y642,yy2q,yvbp,yku0,yu2d,y4yh,ynyz,ykm3,y4j6,y2i1,yicc,ex0,ex1,ex0',ex1',ex2',y525,List.getElem?_cons_zero,List.getElem?_cons_succ,Nat.add_zero,Nat.zero_add,List.all_cons,List.all_nil,y7yb,yhlb,y5i6,bx_sl,yn96,y45v,ypw1,y3av,Bool.and_true,Bool.true_and,Bool.and_self,cond_true,cond_false ]
 refine yigx (b:=yalu (hasL n.op).1 n.to) (fun _ K hk=>⟨rfl,y52o hk⟩) ?_
 simp only [yc02,ym6s,y5aw,y3lr,ypzw,y3pi,y642,yy2q,yvbp,yku0,yu2d,y4yh,ynyz,ykm3,y4j6,y2i1,yicc,ex0,ex1,ex0',ex1',ex2',y525,List.getElem?_cons_zero,List.getElem?_cons_succ,Nat.add_zero,Nat.zero_add,List.all_cons,List.all_nil,y7yb,yhlb,y5i6,bx_sl,yn96,y45v,ypw1,y3av,Bool.and_true,Bool.true_and,Bool.and_self,cond_true,cond_false ]
 refine yigx (b:=yalu (hasL n.op).2.1 n.a) (fun _ K hk=>⟨rfl,y52o hk⟩) ?_
 simp only [yc02,ym6s,y5aw,y3lr,ypzw,y3pi,y642,yy2q,yvbp,yku0,yu2d,y4yh,ynyz,ykm3,y4j6,y2i1,yicc,ex0,ex1,ex0',ex1',ex2',y525,List.getElem?_cons_zero,List.getElem?_cons_succ,Nat.add_zero,Nat.zero_add,List.all_cons,List.all_nil,y7yb,yhlb,y5i6,bx_sl,yn96,y45v,ypw1,y3av,Bool.and_true,Bool.true_and,Bool.and_self,cond_true,cond_false ]
 refine yigx (b:=yalu (hasL n.op).2.2 n.b) (fun _ K hk=>⟨rfl,y52o hk⟩) ?_
 exact hq
end Go.Proofs.YtnckimioabkheaaGreat
set_option linter.unusedSimpArgs false
set_option linter.unusedVariables false
set_option maxRecDepth 100000
namespace Go.Proofs.YtnckimioabkheaaGreat
open AM
def encI (a:Int):List Value:=[.int .i64 a]
def rl (n:Nd):List Int:=(if (hasL n.op).2.1 then [n.a] else [])++(if (hasL n.op).2.2 then [n.b] else [])++(if n.op=19 then [n.to] else [])
theorem lit37 (a:Int):yrjn Tryz.prog 28 1 [(0,.int .i64 a)]=some ([.int .i64 a],3):=by kernel_rfl
theorem bs37 {a:Int} {h:H} {K:Value→H→Prop}:yyll Tryz.prog 28 1 [(0,.int .i64 a)] h K=o_new [.int .i64 a] 3 .exact h fun b h=>K (.slice (some ⟨b,0,none⟩) 1 1) h:=by
 unfold yyll
 rw [lit37]
def StI (h0:H) (b1:Nat) (q:AObj) (h:H) (v:Value) (l:List Int):Prop :=
 Gr encI 1 3 h0 h v l∧h b1=some q∧Sub h0 h∧yc20 v≠some b1
theorem StI.push {h0 h:H} {b1:Nat} {q:AObj} {v:Value} {l:List Int} {a:Int} {K:Value→H→Prop} (hs:StI h0 b1 q h v l) (hl:l.length≤100) (hk:∀v' h',StI h0 b1 q h' v' (l++[a])→K v' h') :
 yyll Tryz.prog 28 1 [(0,.int .i64 a)] h fun y h=>yc1n 3 1 8 v y h K:=by
 obtain ⟨hg,hb1,hsub,hne⟩:=hs
 rw [bs37]
 intro b hb2 hb
 have hbb:b≠b1:=fun he=>by rw [he,hb1] at hb;cases hb
 have hsub':Sub h0 (upd h b (.cells [.int .i64 a] 3 .exact)):=hsub.upd (hsub.none hb)
 refine Gr.append (m:=[a]) (h:=upd h b (.cells [.int .i64 a] 3 .exact)) (hg.keep fun c hc=>?_) (Sl.of_block (b:=b) (o:=0) (l:=[a]) (c:=1) (fun _ _=>rfl) (yy0e _ _ _) rfl (by simp)) (by simp) (by omega) (by simp;omega) (by simp;omega) hsub' ?_
 ·refine yrkk _ _ fun he=>?_
  rw [he] at hc
  exact hg.there hc hb
 ·intro v' h' h1 h2 h3 h4
  refine hk v' h' ⟨h1,h3 b1 q ?_ hne,h2,fun he=>?_⟩
  ·rw [yrkk _ _ (Ne.symm hbb)];exact hb1
  ·have:=h4 _ he
   rw [yrkk _ _ (Ne.symm hbb),hb1] at this
   cases this
theorem yd4c {n:Nd} {h:H} {Q:Value→H→Prop} (hq:∀v h',Sub h h'→Gr encI 1 3 h h' v (rl n)→Q v h'):AM.Spec Tryz.prog 56 [n.val] h Q:=by
 refine y7vm _ _ _ ?_
 refine ⟨rfl,fun b hb2 hb=>?_⟩
 simp only [Nd.val,Value.cells,yc02,ym6s,y5aw,y3lr,ypzw,y3pi,y642,yy2q,yvbp,yku0,yu2d,y4yh,ynyz,ykm3,y4j6,y2i1,yicc,ex0,ex1,ex0',ex1',ex2',y525,List.getElem?_cons_zero,List.getElem?_cons_succ,Nat.add_zero,Nat.zero_add,List.all_cons,List.all_nil,y7yb,yhlb,y5i6,bx_sl,yn96,y45v,ypw1,y3av,Bool.and_true,Bool.true_and,Bool.and_self,cond_true,cond_false ]
 refine ⟨rfl,yjsp ?_⟩
 simp only [yc02,ym6s,y5aw,y3lr,ypzw,y3pi,y642,yy2q,yvbp,yku0,yu2d,y4yh,ynyz,ykm3,y4j6,y2i1,yicc,ex0,ex1,ex0',ex1',ex2',y525,List.getElem?_cons_zero,List.getElem?_cons_succ,Nat.add_zero,Nat.zero_add,List.all_cons,List.all_nil,y7yb,yhlb,y5i6,bx_sl,yn96,y45v,ypw1,y3av,Bool.and_true,Bool.true_and,Bool.and_self,cond_true,cond_false ]
 have s0:StI h b (.cells n.cells 64 .exact) (upd h b (.cells n.cells 64 .exact)) (.slice none 0 0) []:=⟨Gr.empty,yy0e _ _ _,Sub.new hb,by simp [yc20]⟩
 have ld:∀{h' v l} (i:Nat) (x:Value) {K:Value→Prop},StI h b (.cells n.cells 64 .exact) h' v l→n.cells[i]?=some x→K x→ysm8 false 1 (.pointer (some ⟨b,i,none⟩)) h' K:=by
  intro h' v l i x K hs hx hk
  rw [ycro (v:=x) (by rw [yow8 hs.2.1];exact hx)];exact hk
 have e3:∀{h' v l Kn},StI h b (.cells n.cells 64 .exact) h' v l→l.length≤2→l++(if n.op=19 then [n.to] else [])=rl n→F56_5 (.pointer (some ⟨b,0,none⟩)) v h' Kn Q:=by
  intro h' v l Kn hs hl he
  simp only [F56_5,F56_6,F56_7,yc02,ym6s,y5aw,y3lr,ypzw,y3pi,y642,yy2q,yvbp,yku0,yu2d,y4yh,ynyz,ykm3,y4j6,y2i1,yicc,ex0,ex1,ex0',ex1',ex2',y525,List.getElem?_cons_zero,List.getElem?_cons_succ,Nat.add_zero,Nat.zero_add,List.all_cons,List.all_nil,y7yb,yhlb,y5i6,bx_sl,yn96,y45v,ypw1,y3av,Bool.and_true,Bool.true_and,Bool.and_self,cond_true,cond_false ]
  refine ld 0 (.int .i64 n.op) hs rfl ?_
  simp only [yc02,ym6s,y5aw,y3lr,ypzw,y3pi,y642,yy2q,yvbp,yku0,yu2d,y4yh,ynyz,ykm3,y4j6,y2i1,yicc,ex0,ex1,ex0',ex1',ex2',y525,List.getElem?_cons_zero,List.getElem?_cons_succ,Nat.add_zero,Nat.zero_add,List.all_cons,List.all_nil,y7yb,yhlb,y5i6,bx_sl,yn96,y45v,ypw1,y3av,Bool.and_true,Bool.true_and,Bool.and_self,cond_true,cond_false ,Bool.or_eq_true,Bool.and_eq_true,decide_eq_true_eq,Bool.not_eq_true',decide_eq_false_iff_not ]
  split
  ·refine ld 1 (.int .i64 n.to) hs rfl ?_
   refine hs.push (by omega) fun v' h'' hs'=>hq _ _ hs'.2.2.1 ?_
   have:=hs'.1
   simp only [*,if_true] at he
   rw [← he];exact this
  ·simp only [*,if_false,List.append_nil] at he
   exact hq _ _ hs.2.2.1 (he▸hs.1)
 have e2:∀{h' v l Kn},StI h b (.cells n.cells 64 .exact) h' v l→l.length≤1→l++(if (hasL n.op).2.2=true then [n.b] else [])++(if n.op=19 then [n.to] else [])=rl n→F56_3 (.pointer (some ⟨b,0,none⟩)) (.bool (hasL n.op).2.2) v h' Kn Q:=by
  intro h' v l Kn hs hl he
  simp only [F56_3,F56_4,yc02,ym6s,y5aw,y3lr,ypzw,y3pi,y642,yy2q,yvbp,yku0,yu2d,y4yh,ynyz,ykm3,y4j6,y2i1,yicc,ex0,ex1,ex0',ex1',ex2',y525,List.getElem?_cons_zero,List.getElem?_cons_succ,Nat.add_zero,Nat.zero_add,List.all_cons,List.all_nil,y7yb,yhlb,y5i6,bx_sl,yn96,y45v,ypw1,y3av,Bool.and_true,Bool.true_and,Bool.and_self,cond_true,cond_false ]
  split
  ·refine ld 3 (.int .i64 n.b) hs rfl ?_
   refine hs.push (by omega) fun v' h'' hs'=>e3 hs' (by simp;omega) ?_
   simpa only [*,if_true] using he
  ·refine e3 hs (by omega) ?_
   rw [if_neg ‹_›,List.append_nil] at he
   exact he
 simp only [F56_1,F56_2,yc02,ym6s,y5aw,y3lr,ypzw,y3pi,y642,yy2q,yvbp,yku0,yu2d,y4yh,ynyz,ykm3,y4j6,y2i1,yicc,ex0,ex1,ex0',ex1',ex2',y525,List.getElem?_cons_zero,List.getElem?_cons_succ,Nat.add_zero,Nat.zero_add,List.all_cons,List.all_nil,y7yb,yhlb,y5i6,bx_sl,yn96,y45v,ypw1,y3av,Bool.and_true,Bool.true_and,Bool.and_self,cond_true,cond_false ]
 split
 ·refine s0.push (by simp) fun v' h'' hs'=>e2 hs' (by simp) ?_
  simp [rl, *]
 ·refine e2 s0 (by simp) ?_
  simp [rl, *]
theorem y6qh {n:Nd} {h:H} {Q:Value→H→Prop} (hq:∀v h',Sub h h'→Sl encI 1 h' v (rl n)→Q v h'):AM.Spec Tryz.prog 56 [n.val] h Q :=
 yd4c fun v h' a b=>hq v h' a b.sl
def idx (p:Int→Bool):List Int→Nat→Int
 | [],_ => -1
 | a::l,i=>if p a=true then (i:Int) else idx p l (i+1)
theorem y2gy {v fv:Value} {l:List Int} {p:Int→Bool} {h:H} {Q:Value→H→Prop} (hs:Sl encI 1 h v l) (hl:l.length<9223372036854775807) (hp:∀a∈l,∀K:Value→H→Prop,K (.bool (p a)) h→o_dyn Tryz.prog fv [.int .i64 a] h K)
 (hq:Q (.int .i64 (idx p l 0)) h):AM.Spec Tryz.prog 166 [v,fv] h Q:=by
 refine ydwp _ _ _ _ ?_
 simp only [F166,y1jl,ybs3,ysai,ypiu,yqv1,yqli,hs.len]
 refine ⟨fun n s h'=>∃i:Nat,s=(v,fv,.int .i64 l.length,.int .i64 i)∧h'=h∧n=l.length-i∧i≤l.length∧idx p l 0=idx p (l.drop i) i,⟨_,0,rfl,rfl,by rfl,by omega,by simp⟩,?_⟩
 rintro n s h' ⟨i,rfl,rfl,rfl,hi,hx⟩
 simp only [yy09,yc02,ym6s,y5aw,y3lr,ypzw,y3pi,y642,yy2q,yvbp,yku0,yu2d,y4yh,ynyz,ykm3,y4j6,y2i1,yicc,ex0,ex1,ex0',ex1',ex2',y525,List.getElem?_cons_zero,List.getElem?_cons_succ,Nat.add_zero,Nat.zero_add,List.all_cons,List.all_nil,y7yb,yhlb,y5i6,bx_sl,yn96,y45v,ypw1,y3av,Bool.and_true,Bool.true_and,Bool.and_self,cond_true,cond_false ,Bool.or_eq_true,Bool.and_eq_true,decide_eq_true_eq,Bool.not_eq_true',decide_eq_false_iff_not ]
 split
 ·rename_i hlt
  have hlt:i<l.length:=by omega
  obtain ⟨b,o,h1,h2⟩:=hs.at hlt
  rw [h1]
  rw [ycro (v:=.int .i64 l[i]) (by have:=yg2r h2 (m:=0) (by omega);simpa [encI] using this)]
  refine hp _ (List.getElem_mem hlt) _ ?_
  have hd:l.drop i=l[i]::l.drop (i+1):=by simp
  rw [hd,idx] at hx
  simp only [yc02,ym6s,y5aw,y3lr,ypzw,y3pi,y642,yy2q,yvbp,yku0,yu2d,y4yh,ynyz,ykm3,y4j6,y2i1,yicc,ex0,ex1,ex0',ex1',ex2',y525,List.getElem?_cons_zero,List.getElem?_cons_succ,Nat.add_zero,Nat.zero_add,List.all_cons,List.all_nil,y7yb,yhlb,y5i6,bx_sl,yn96,y45v,ypw1,y3av,Bool.and_true,Bool.true_and,Bool.and_self,cond_true,cond_false ,Bool.or_eq_true,Bool.and_eq_true,decide_eq_true_eq,Bool.not_eq_true',decide_eq_false_iff_not ]
  split
  ·rw [if_pos ‹_›] at hx
   rw [hx] at hq;exact hq
  ·rw [if_neg ‹_›] at hx
   refine ⟨l.length-(i+1),by omega,i+1,?_,trivial,rfl,by omega,hx⟩
   rw [ynux (by omega) (by omega)]
   rfl
 ·rename_i hlt
  have:i=l.length:=by omega
  subst this
  rw [List.drop_length,idx] at hx
  rw [hx] at hq;exact hq
theorem yz7r {p:Int→Bool}:∀(l:List Int) (i:Nat),decide (0≤idx p l i)=l.any p
 | [],_=>rfl
 | a::l,i=>by
   rw [idx]
   cases hp:p a
   ·simp [hp,yz7r l (i+1)]
   ·simp [hp]
theorem yg59 {v fv:Value} {l:List Int} {p:Int→Bool} {h:H} {Q:Value→H→Prop} (hs:Sl encI 1 h v l) (hfv:boxV fv=true) (hl:l.length<9223372036854775807) (hp:∀a∈l,∀K:Value→H→Prop,K (.bool (p a)) h→o_dyn Tryz.prog fv [.int .i64 a] h K)
 (hq:Q (.bool (l.any p)) h):AM.Spec Tryz.prog 55 [v,fv] h Q:=by
 refine y48m _ _ _ _ ?_
 simp only [F55,F55_0]
 refine ⟨by simp [hs.box,hfv],y2gy hs hl hp ?_⟩
 simp only [yc02,ym6s,y5aw,y3lr,ypzw,y3pi,y642,yy2q,yvbp,yku0,yu2d,y4yh,ynyz,ykm3,y4j6,y2i1,yicc,ex0,ex1,ex0',ex1',ex2',y525,List.getElem?_cons_zero,List.getElem?_cons_succ,Nat.add_zero,Nat.zero_add,List.all_cons,List.all_nil,y7yb,yhlb,y5i6,bx_sl,yn96,y45v,ypw1,y3av,Bool.and_true,Bool.true_and,Bool.and_self,cond_true,cond_false ]
 rw [yz7r];exact hq
end Go.Proofs.YtnckimioabkheaaGreat
set_option linter.unusedSimpArgs false
set_option linter.unusedVariables false
set_option maxRecDepth 100000
namespace Go.Proofs.YtnckimioabkheaaGreat
open AM
def bools (th:Int→Bool):List Value:=(List.range 256).map fun i=>.bool (th (i:Nat))
theorem yz16:List.replicate 256 (Value.bool false)=bools (fun _=>false):=by
 simp [bools,List.map_const']
theorem y2le {th:Int→Bool} {i:Int} (h0:0≤i) (h1:i<256):(bools th)[i.toNat]?=some (.bool (th i)):=by
 unfold bools
 have:i.toNat<256:=by omega
 simp [this,Int.toNat_of_nonneg h0]
theorem y7p4 {th:Int→Bool}:(bools th).length=256:=by simp [bools]
def put (th:Int→Bool) (t:Int) (b:Bool):Int→Bool:=fun i=>if i=t then b else th i
theorem y0nl {th:Int→Bool} {i:Int} {b:Bool} (h0:0≤i) (h1:i<256):setL (bools th) i.toNat [.bool b]=bools (put th i b):=by
 unfold bools put
 simp only [setL]
 refine List.ext_getElem? fun k=>?_
 rw [List.getElem?_set]
 simp only [List.length_map,List.length_range,List.getElem?_map,List.getElem?_range]
 by_cases hk:k<256
 ·by_cases he:i.toNat=k
  ·subst he
   simp [hk,Int.toNat_of_nonneg h0]
  ·have:¬((k:Int)=i):=by omega
   simp [he,hk,this]
 ·have:¬(i.toNat=k):=by omega
  simp [this,hk]
theorem ywpn {is:Bool} {t:Int} (h:yalu is t=true):0≤t∧t<256:=by
 simp only [yalu,Bool.or_eq_true,Bool.and_eq_true,decide_eq_true_eq] at h
 omega
def ywct:List Nd→(Int→Bool)→Bool
 | [],_=>true
 | n::r,th=>yln3 n&&!(tagsB n.op&&!th n.to)&&!((rl n).any fun t=>!th t)&&ywct r (if y65c n.op then put th n.to true else th)
def yg6t:List Nd→Int
 | []=>0
 | [n]=>n.op
 | _::r=>yg6t r
def goodB (l:List Nd):Bool :=
 match l with
 | []=>false
 | n::_=>decide (l.length≤2000)&&decide (n.op=8)&&ywct l (fun _=>false)&&(decide (11≤yg6t l)&&decide (yg6t l≤13))
theorem ya30 {n:Nd} (h:yln3 n=true):0≤n.to∧n.to<256∧0≤n.a∧n.a<256∧0≤n.b∧n.b<256:=by
 simp only [yln3,Bool.and_eq_true] at h
 have h1:=ywpn h.1.1.2
 have h2:=ywpn h.1.2
 have h3:=ywpn h.2
 omega
theorem rl_in {n:Nd} (h:yln3 n=true):∀t∈rl n,0≤t∧t<256:=by
 have:=ya30 h
 intro t ht
 simp only [rl,List.mem_append] at ht
 rcases ht with (ht | ht) | ht <;> (split at ht <;> simp at ht;subst ht;omega)
theorem y6a9:∀{l:List Nd} (h:l≠[]),yg6t l=(l[l.length-1]'(by cases l <;> simp at h ⊢)).op
 | [n],_=>rfl
 | _::n::r,_=>by
   have:=y6a9 (l:=n::r) (by simp)
   simp only [yg6t] at this ⊢
   rw [this];simp
theorem yy2a {h:H} {v:Value} {l:List Nd} (hs:Sl Nd.cells 5 h v l) {i:Nat} (hi:i<l.length) {k:IntKind} {K:Value→Prop} (hk:K l[i].val):ys75 none 5 v (.int k i) fun p=>ysm8 true 5 p h K:=by
 obtain ⟨b,o,h1,h2⟩:=hs.at hi
 rw [h1,yw71 h2];exact hk
theorem y1ex {h:H} {v:Value} {l:List Nd} (hs:Sl Nd.cells 5 h v l) {i:Nat} (hi:i<l.length) {k:IntKind} {j:Nat} {x:Value} (hx:l[i].cells[j]?=some x) {K:Value→Prop} (hk:K x):ys75 none 5 v (.int k i) fun p=>yokc j p fun q=>ysm8 false 1 q h K:=by
 obtain ⟨b,o,h1,h2⟩:=hs.at hi
 have hj:j<5:=by
  have:=List.getElem?_eq_some_iff.1 hx
  exact this.1
 rw [h1,y2i1,ycro (v:=x) (by rw [yg2r h2 hj];exact hx)];exact hk
theorem yxd8 {h:H} {b:Nat} {th:Int→Bool} {t:Int} (hb:h b=some (.cells (bools th) 128 .exact)) (h0:0≤t) (h1:t<256) {K:Value→H→Prop} (hk:K (.bool (!th t)) h):o_dyn Tryz.prog (.func (.func 57) #[] #[.pointer (some ⟨b,0,none⟩)]) [.int .i64 t] h K:=by
 refine ⟨rfl,by kernel_rfl,?_⟩
 refine ynh1 _ _ _ _ ?_
 simp only [F57,F57_0]
 rw [yeaw h0 (by simpa using h1),ycro (v:=.bool (th t)) (by rw [yow8 hb];simpa using y2le h0 h1)]
 simp only [yc02,ym6s,y5aw,y3lr,ypzw,y3pi,y642,yy2q,yvbp,yku0,yu2d,y4yh,ynyz,ykm3,y4j6,y2i1,yicc,ex0,ex1,ex0',ex1',ex2',y525,List.getElem?_cons_zero,List.getElem?_cons_succ,Nat.add_zero,Nat.zero_add,List.all_cons,List.all_nil,y7yb,yhlb,y5i6,bx_sl,yn96,y45v,ypw1,y3av,Bool.and_true,Bool.true_and,Bool.and_self,cond_true,cond_false ]
 exact hk
theorem yt62 {th:Int→Bool} {l:List Nd} {i:Nat} (hi:i<l.length):ywct (l.drop i) th=(yln3 l[i]&&!(tagsB l[i].op&&!th l[i].to)&&!((rl l[i]).any fun t=>!th t)&&ywct (l.drop (i+1)) (if y65c l[i].op then put th l[i].to true else th)):=by
 rw [List.drop_eq_getElem_cons hi,ywct]
theorem yaf2 {b:Nat} {h:H} {c0 c1 c2 c3 c4:Value} {E:TypeId} {n:Nd} {K:H→Prop}:yxd5 5 (.pointer (some ⟨b,0,none⟩)) n.val (upd h b (.cells [c0,c1,c2,c3,c4] E .exact)) K=K (upd h b (.cells n.cells E .exact)):=by
 rw [yv4b (yy0e _ _ _) (by simp) (by rfl) (by rfl) (by simp)]
 have eu:∀q q',upd (upd h b q) b q'=upd h b q':=fun q q'=>by funext c;unfold upd;split <;> rfl
 rw [eu];rfl
theorem yo6a {v:Value} {l:List Nd} {h:H} {Q:Value→H→Prop} (hs:Sl Nd.cells 5 h v l) (hlen:l.length<9223372036854775807) (hq:Q (.bool (goodB l)) h):AM.Spec Tryz.prog 14 [v] h Q:=by
 refine yz7m (fun Q hq=>?_) hq
 refine yp1e _ _ _ ?_
 simp only [F14,F14_0,hs.len,yc02,ym6s,y5aw,y3lr,ypzw,y3pi,y642,yy2q,yvbp,yku0,yu2d,y4yh,ynyz,ykm3,y4j6,y2i1,yicc,ex0,ex1,ex0',ex1',ex2',y525,List.getElem?_cons_zero,List.getElem?_cons_succ,Nat.add_zero,Nat.zero_add,List.all_cons,List.all_nil,y7yb,yhlb,y5i6,bx_sl,yn96,y45v,ypw1,y3av,Bool.and_true,Bool.true_and,Bool.and_self,cond_true,cond_false ]
 cases l with
 | nil=>exact hq _ (Sub.refl h)
 | cons n r =>
   have hne:¬(((n::r).length:Nat):Int)=0:=by simp;omega
   refine or_op (b:=!decide (n.op=8)) (fun hf K hk=>?_) ?_
   ·refine y1ex (i:=0) hs (by simp) (j:=0) rfl ?_
    simp only [yc02,ym6s,y5aw,y3lr,ypzw,y3pi,y642,yy2q,yvbp,yku0,yu2d,y4yh,ynyz,ykm3,y4j6,y2i1,yicc,ex0,ex1,ex0',ex1',ex2',y525,List.getElem?_cons_zero,List.getElem?_cons_succ,Nat.add_zero,Nat.zero_add,List.all_cons,List.all_nil,y7yb,yhlb,y5i6,bx_sl,yn96,y45v,ypw1,y3av,Bool.and_true,Bool.true_and,Bool.and_self,cond_true,cond_false ];exact hk
   simp only [yc02,ym6s,y5aw,y3lr,ypzw,y3pi,y642,yy2q,yvbp,yku0,yu2d,y4yh,ynyz,ykm3,y4j6,y2i1,yicc,ex0,ex1,ex0',ex1',ex2',y525,List.getElem?_cons_zero,List.getElem?_cons_succ,Nat.add_zero,Nat.zero_add,List.all_cons,List.all_nil,y7yb,yhlb,y5i6,bx_sl,yn96,y45v,ypw1,y3av,Bool.and_true,Bool.true_and,Bool.and_self,cond_true,cond_false ,hne,decide_false,Bool.false_or,Bool.or_eq_true,Bool.and_eq_true,decide_eq_true_eq,Bool.not_eq_true',decide_eq_false_iff_not ]
   by_cases h1:(2000:Int)<(n::r).length∨¬n.op=8
   ·rw [if_pos h1]
    refine to_q (hq _ (Sub.refl h)) ?_
    simp only [goodB]
    rcases h1 with h1 | h1
    ·have:decide ((n::r).length≤2000)=false:=by rw [decide_eq_false_iff_not];omega
     rw [this];rfl
    ·simp [h1]
   rw [if_neg h1]
   have h2:(n::r).length≤2000:=by omega
   have h3:n.op=8:=by omega
   intro b hb2 hb
   rw [yz16]
   have hgood:goodB (n::r)=(ywct (n::r) (fun _=>false)&&(decide (11≤yg6t (n::r))&&decide (yg6t (n::r)≤13))):=by
    have:decide ((n::r).length≤2000)=true:=by rw [decide_eq_true_eq];omega
    simp only [goodB,this,h3,decide_true,Bool.true_and]
   have hnil:n::r≠[]:=by simp
   generalize hl:n::r=l at *
   rw [hgood] at hq
   have hs1:Sub h (upd h b (.cells (bools fun _=>false) 128 .exact)):=Sub.new hb
   simp only [F14_1,F14_2,hs.len,F14_3,F14_4]
   refine ⟨fun n s h'=>∃i th,s=(v,.pointer (some ⟨b,0,none⟩),v,.int .i64 l.length,.int .i64 (i:Nat))∧Sub h h'∧h' b=some (.cells (bools th) 128 .exact)∧n=l.length-i∧i≤l.length∧ywct l (fun _=>false)=ywct (l.drop i) th,
    ⟨_,0,_,rfl,hs1,yy0e _ _ _,rfl,by omega,rfl⟩,?_⟩
   rintro m s h' ⟨i,th,rfl,hsub,hb',rfl,hi,hrun⟩
   have hs':=hs.mono hsub
   simp only [F14_5,yc02,ym6s,y5aw,y3lr,ypzw,y3pi,y642,yy2q,yvbp,yku0,yu2d,y4yh,ynyz,ykm3,y4j6,y2i1,yicc,ex0,ex1,ex0',ex1',ex2',y525,List.getElem?_cons_zero,List.getElem?_cons_succ,Nat.add_zero,Nat.zero_add,List.all_cons,List.all_nil,y7yb,yhlb,y5i6,bx_sl,yn96,y45v,ypw1,y3av,Bool.and_true,Bool.true_and,Bool.and_self,cond_true,cond_false ,Bool.or_eq_true,Bool.and_eq_true,decide_eq_true_eq,Bool.not_eq_true',decide_eq_false_iff_not ]
   split
   ·rename_i hlt
    have hlt:i<l.length:=by omega
    simp only [F14_6,F14_7]
    refine yy2a hs' hlt ?_
    intro b5 hb52 hb5
    have hbb:b5≠b:=fun he=>by rw [he,hb'] at hb5;cases hb5
    rw [yaf2]
    have h5:∀q,Sub h (upd h' b5 q):=fun q=>hsub.upd (hsub.none hb5)
    rw [y2pr (by rfl)]
    refine ⟨rfl,ymbn (n:=l[i]) ?_⟩
    simp only [yc02,ym6s,y5aw,y3lr,ypzw,y3pi,y642,yy2q,yvbp,yku0,yu2d,y4yh,ynyz,ykm3,y4j6,y2i1,yicc,ex0,ex1,ex0',ex1',ex2',y525,List.getElem?_cons_zero,List.getElem?_cons_succ,Nat.add_zero,Nat.zero_add,List.all_cons,List.all_nil,y7yb,yhlb,y5i6,bx_sl,yn96,y45v,ypw1,y3av,Bool.and_true,Bool.true_and,Bool.and_self,cond_true,cond_false ]
    refine or_op (b:=tagsB l[i].op&&!th l[i].to) (fun hf K hk=>?_) ?_
    ·simp only [Nd.cells,yc02,ym6s,y5aw,y3lr,ypzw,y3pi,y642,yy2q,yvbp,yku0,yu2d,y4yh,ynyz,ykm3,y4j6,y2i1,yicc,ex0,ex1,ex0',ex1',ex2',y525,List.getElem?_cons_zero,List.getElem?_cons_succ,Nat.add_zero,Nat.zero_add,List.all_cons,List.all_nil,y7yb,yhlb,y5i6,bx_sl,yn96,y45v,ypw1,y3av,Bool.and_true,Bool.true_and,Bool.and_self,cond_true,cond_false ]
     refine ⟨rfl,yqt9 ?_⟩
     simp only [yc02,ym6s,y5aw,y3lr,ypzw,y3pi,y642,yy2q,yvbp,yku0,yu2d,y4yh,ynyz,ykm3,y4j6,y2i1,yicc,ex0,ex1,ex0',ex1',ex2',y525,List.getElem?_cons_zero,List.getElem?_cons_succ,Nat.add_zero,Nat.zero_add,List.all_cons,List.all_nil,y7yb,yhlb,y5i6,bx_sl,yn96,y45v,ypw1,y3av,Bool.and_true,Bool.true_and,Bool.and_self,cond_true,cond_false ]
     refine yigx (b:=!th l[i].to) (fun ht K hk=>?_) hk
     have hf:=ya30 (n:=l[i]) (by simpa using hf)
     rw [yeaw hf.1 (by simpa using hf.2.1),y8ge (Ne.symm hbb),ycro (v:=.bool (th l[i].to)) (by rw [yow8 hb'];simpa using y2le hf.1 hf.2.1)]
     simp only [yc02,ym6s,y5aw,y3lr,ypzw,y3pi,y642,yy2q,yvbp,yku0,yu2d,y4yh,ynyz,ykm3,y4j6,y2i1,yicc,ex0,ex1,ex0',ex1',ex2',y525,List.getElem?_cons_zero,List.getElem?_cons_succ,Nat.add_zero,Nat.zero_add,List.all_cons,List.all_nil,y7yb,yhlb,y5i6,bx_sl,yn96,y45v,ypw1,y3av,Bool.and_true,Bool.true_and,Bool.and_self,cond_true,cond_false ]
     exact hk
    simp only [yc02,ym6s,y5aw,y3lr,ypzw,y3pi,y642,yy2q,yvbp,yku0,yu2d,y4yh,ynyz,ykm3,y4j6,y2i1,yicc,ex0,ex1,ex0',ex1',ex2',y525,List.getElem?_cons_zero,List.getElem?_cons_succ,Nat.add_zero,Nat.zero_add,List.all_cons,List.all_nil,y7yb,yhlb,y5i6,bx_sl,yn96,y45v,ypw1,y3av,Bool.and_true,Bool.true_and,Bool.and_self,cond_true,cond_false ,Bool.or_eq_true,Bool.and_eq_true,decide_eq_true_eq,Bool.not_eq_true',decide_eq_false_iff_not ]
    split
    ·rename_i hbad
     refine to_q (hq _ (h5 _)) ?_
     rw [hrun,yt62 hlt]
     rcases hbad with hbad | hbad <;> simp [hbad]
    rename_i hok
    have hfo:yln3 l[i]=true:=by
     cases hq:yln3 l[i] <;> simp [hq] at hok ⊢
    have hf:=ya30 hfo
    rw [y2pr (by rfl)]
    refine ⟨rfl,y6qh (n:=l[i]) fun v46 h4 hs4 hl4=>?_⟩
    refine ⟨trivial,rfl,?_,yg59 (p:=fun t=>!th t) hl4 rfl (by simp [rl];split <;> split <;> split <;> simp) (fun a ha K hk=>yxd8 (th:=th) (hs4 _ _ (by rw [yrkk _ _ (Ne.symm hbb)];exact hb')) (rl_in hfo a ha).1 (rl_in hfo a ha).2 hk) ?_⟩
    ·have:=hl4.box
     simp only [this,yc02,ym6s,y5aw,y3lr,ypzw,y3pi,y642,yy2q,yvbp,yku0,yu2d,y4yh,ynyz,ykm3,y4j6,y2i1,yicc,ex0,ex1,ex0',ex1',ex2',y525,List.getElem?_cons_zero,List.getElem?_cons_succ,Nat.add_zero,Nat.zero_add,List.all_cons,List.all_nil,y7yb,yhlb,y5i6,bx_sl,yn96,y45v,ypw1,y3av,Bool.and_true,Bool.true_and,Bool.and_self,cond_true,cond_false ]
    simp only [yc02,ym6s,y5aw,y3lr,ypzw,y3pi,y642,yy2q,yvbp,yku0,yu2d,y4yh,ynyz,ykm3,y4j6,y2i1,yicc,ex0,ex1,ex0',ex1',ex2',y525,List.getElem?_cons_zero,List.getElem?_cons_succ,Nat.add_zero,Nat.zero_add,List.all_cons,List.all_nil,y7yb,yhlb,y5i6,bx_sl,yn96,y45v,ypw1,y3av,Bool.and_true,Bool.true_and,Bool.and_self,cond_true,cond_false ,Bool.or_eq_true,Bool.and_eq_true,decide_eq_true_eq,Bool.not_eq_true',decide_eq_false_iff_not ]
    have hb5':=hs4 b5 _ (yy0e _ _ _)
    split
    ·rename_i hbad
     refine to_q (hq _ ((h5 _).trans hs4)) ?_
     rw [hrun,yt62 hlt,hbad]
     simp
    rename_i hok2
    rw [yw71 (l:=l[i].cells) (by rw [y08p hb5' (by simp [Nd.cells])];rfl)]
    refine ⟨rfl,ylvp (n:=l[i]) ?_⟩
    simp only [yc02,ym6s,y5aw,y3lr,ypzw,y3pi,y642,yy2q,yvbp,yku0,yu2d,y4yh,ynyz,ykm3,y4j6,y2i1,yicc,ex0,ex1,ex0',ex1',ex2',y525,List.getElem?_cons_zero,List.getElem?_cons_succ,Nat.add_zero,Nat.zero_add,List.all_cons,List.all_nil,y7yb,yhlb,y5i6,bx_sl,yn96,y45v,ypw1,y3av,Bool.and_true,Bool.true_and,Bool.and_self,cond_true,cond_false ]
    have hstep:ywct (l.drop i) th=ywct (l.drop (i+1)) (if y65c l[i].op then put th l[i].to true else th):=by
     rw [yt62 hlt,hfo]
     have e1:(tagsB l[i].op&&!th l[i].to)=false:=by
      cases hq:(tagsB l[i].op&&!th l[i].to)
      ·rfl
      ·exfalso;apply hok;right;simpa using hq
     have e2:((rl l[i]).any fun t=>!th t)=false:=by simpa using hok2
     rw [e1,e2];rfl
    have hbh4:h4 b=some (.cells (bools th) 128 .exact):=hs4 _ _ (by rw [yrkk _ _ (Ne.symm hbb)];exact hb')
    cases hw:y65c l[i].op with
    | true =>
      simp only [hw,if_true] at hstep ⊢
      rw [yeaw hf.1 (by simpa using hf.2.1),yv4b hbh4 (by simp) (by rfl) (by rfl) (by rw [y7p4];omega)]
      simp only [F14_8,yc02,ym6s,y5aw,y3lr,ypzw,y3pi,y642,yy2q,yvbp,yku0,yu2d,y4yh,ynyz,ykm3,y4j6,y2i1,yicc,ex0,ex1,ex0',ex1',ex2',y525,List.getElem?_cons_zero,List.getElem?_cons_succ,Nat.add_zero,Nat.zero_add,List.all_cons,List.all_nil,y7yb,yhlb,y5i6,bx_sl,yn96,y45v,ypw1,y3av,Bool.and_true,Bool.true_and,Bool.and_self,cond_true,cond_false ]
      refine ⟨l.length-(i+1),by omega,i+1,put th l[i].to true,?_,?_,?_,rfl,by omega,by rw [hrun,hstep]⟩
      ·rw [ynux (by omega) (by omega)];rfl
      ·exact ((h5 _).trans hs4).upd hb
      ·rw [yy0e]
       have:=y0nl (th:=th) (b:=true) hf.1 hf.2.1
       simp only [Nat.mul_one]
       rw [← this];rfl
    | false =>
      simp only [hw,Bool.false_eq_true,if_false] at hstep ⊢
      simp only [F14_8,yc02,ym6s,y5aw,y3lr,ypzw,y3pi,y642,yy2q,yvbp,yku0,yu2d,y4yh,ynyz,ykm3,y4j6,y2i1,yicc,ex0,ex1,ex0',ex1',ex2',y525,List.getElem?_cons_zero,List.getElem?_cons_succ,Nat.add_zero,Nat.zero_add,List.all_cons,List.all_nil,y7yb,yhlb,y5i6,bx_sl,yn96,y45v,ypw1,y3av,Bool.and_true,Bool.true_and,Bool.and_self,cond_true,cond_false ]
      refine ⟨l.length-(i+1),by omega,i+1,th,?_,(h5 _).trans hs4,hbh4,rfl,by omega,by rw [hrun,hstep]⟩
      rw [ynux (by omega) (by omega)];rfl
   ·rename_i hge
    have hie:i=l.length:=by omega
    subst hie
    rw [List.drop_length,ywct] at hrun
    have hlast:=y6a9 hnil
    have hpos:0<l.length:=by cases l <;> simp at hnil ⊢
    simp only [F14_9,hs'.len,yc02,ym6s,y5aw,y3lr,ypzw,y3pi,y642,yy2q,yvbp,yku0,yu2d,y4yh,ynyz,ykm3,y4j6,y2i1,yicc,ex0,ex1,ex0',ex1',ex2',y525,List.getElem?_cons_zero,List.getElem?_cons_succ,Nat.add_zero,Nat.zero_add,List.all_cons,List.all_nil,y7yb,yhlb,y5i6,bx_sl,yn96,y45v,ypw1,y3av,Bool.and_true,Bool.true_and,Bool.and_self,cond_true,cond_false ]
    rw [ynux (by omega) (by omega)]
    have e:((l.length:Int)-1)=((l.length-1:Nat):Int):=by omega
    rw [e]
    refine y1ex hs' (by omega) (j:=0) rfl ?_
    simp only [yc02,ym6s,y5aw,y3lr,ypzw,y3pi,y642,yy2q,yvbp,yku0,yu2d,y4yh,ynyz,ykm3,y4j6,y2i1,yicc,ex0,ex1,ex0',ex1',ex2',y525,List.getElem?_cons_zero,List.getElem?_cons_succ,Nat.add_zero,Nat.zero_add,List.all_cons,List.all_nil,y7yb,yhlb,y5i6,bx_sl,yn96,y45v,ypw1,y3av,Bool.and_true,Bool.true_and,Bool.and_self,cond_true,cond_false ]
    refine to_q (hq _ hsub) ?_
    rw [hrun,hlast];rfl
end Go.Proofs.YtnckimioabkheaaGreat
set_option linter.unusedSimpArgs false
set_option linter.unusedVariables false
set_option maxRecDepth 100000
namespace Go.Proofs.YtnckimioabkheaaGreat
open AM
def MK (h0 h:H) (m:Nat) (pc:Int) (l:List Nd):Prop:=∃v,h m=some (.cells [v,.int .u32 pc] yhds .exact)∧Gr Nd.cells 5 yq0s h0 h v l∧Sub h0 h∧h0 m=none
def Keep (m:Nat) (h h':H):Prop:=∀c cs E,c≠m→h c=some (.cells cs E .exact)→h' c=some (.cells cs E .exact)
theorem Keep.trans {m:Nat} {a b c:H} (h1:Keep m a b) (h2:Keep m b c):Keep m a c:=fun _ _ _ n e=>h2 _ _ _ n (h1 _ _ _ n e)
section
variable {h0 h:H} {m:Nat} {pc:Int} {l:List Nd} {K:K1}
theorem MK.c1 (hm:MK h0 h m pc l):cellAt h m 1=some (.int .u32 pc):=by obtain ⟨v,e,_⟩:=hm;simp [yb3e e]
theorem MK.sub (hm:MK h0 h m pc l):Sub h0 h:=by obtain ⟨v,_,_,e,_⟩:=hm;exact e
theorem MK.new (hm:MK h0 h m pc l) {b:Nat} {q:AObj} (hb:h b=none):MK h0 (upd h b q) m pc l:=by
 obtain ⟨v,e,hg,hs,hn⟩:=hm
 have:m≠b:=fun x=>by rw [x,hb] at e;cases e
 refine ⟨v,(yrkk _ _ this).trans e,hg.keep fun c hc=>yrkk _ _ fun x=>hg.there hc (x▸hb),hs.newer hb,hn⟩
theorem MK.ne (hm:MK h0 h m pc l) {b:Nat} (hb:h b=none):b≠m:=by
 obtain ⟨v,e,hg,hs,hn⟩:=hm
 exact fun x=>by rw [← x,hb] at e;cases e
theorem MK.at (hm:MK h0 h m pc l) {pc':Int}:∃v,h m=some (.cells [v,.int .u32 pc] yhds .exact)∧MK h0 (upd h m (.cells [v,.int .u32 pc'] yhds .exact)) m pc' l:=by
 obtain ⟨v,e,hg,hs,hn⟩:=hm
 exact ⟨v,e,v,by simp [upd],hg.over e (by simp),Sub.upd hs hn,hn⟩
theorem yqrz {op to a b x:Int} (hm:MK h0 h m pc l) (hl:l.length<1000000)
 (hk:∀h',MK h0 h' m pc (l++[⟨op,to,a,b,x⟩])→Keep m h h'→K (.tuple #[]) h') :
 AM.Spec PG y1cr [ptr m 0,.int .i64 op,.int .i64 to,.int .i64 a,.int .i64 b,.int .u32 x] h K:=by
 obtain ⟨v,e,hg,hs,hn⟩:=hm
 refine y1p4 _ _ _ _ _ _ _ _ ?_
 simp (config:={dsimp:=false}) [↓ynva,↓ync2,yb3e e]
 refine yw9z (x:=(⟨op,to,a,b,x⟩:Nd)) hg hs rfl (by omega) (by omega) (by omega) (fun v' h' g' s' hke hfr=>?_) rfl
 have e':=hke _ _ e (hg.exact_ne e)
 simp (config:={dsimp:=false}) [e',g'.cells1,g'.sl.box]
 refine hk _ ⟨v',by simp [upd],g'.over e' (by simp),Sub.upd s' hn,hn⟩ ?_
 intro c cs E hc hq
 rw [yrkk _ _ hc]
 exact hke _ _ hq (hg.exact_ne hq)
abbrev W (x:Int):Int:=IntKind.wrap .u32 x
def getN (t r:Int):List Nd:=[⟨2,t,0,0,W r⟩]
def numN (t v:Int):List Nd:=[⟨1,t,0,0,v⟩]
def setN (r t:Int):List Nd:=if 0<r then [⟨3,0,t,0,W r⟩,⟨9,0,0,0,0⟩] else [⟨9,0,0,0,0⟩]
def addrN (i:Ins):List Nd:=getN 0 i.2.2.1++numN 1 (W i.2.2.2.2)++[⟨4,2,0,1,0⟩]
def jalN (pc:Int) (i:Ins):List Nd:=numN 2 (W (pc+W i.2.2.2.2))++[⟨21,0,2,0,0⟩]++numN 3 (W (pc+4))++setN i.2.1 3++[⟨11,0,2,0,0⟩]
def jalrN (pc:Int) (i:Ins):List Nd:=addrN i++numN 3 4294967294++[⟨4,4,2,3,9⟩]++[⟨21,0,4,0,0⟩]++numN 0 (W (pc+4))++setN i.2.1 0++[⟨11,0,4,0,0⟩]
def ykm8 (pc:Int) (i:Ins):List Nd:=getN 0 i.2.2.1++getN 1 i.2.2.2.1++[⟨5,2,0,1,tab (i.1-5) [0,1,4,5,6,7]⟩]++[⟨10,0,2,0,W (pc+W i.2.2.2.2)⟩]++[⟨9,0,0,0,0⟩]
theorem y6db (r t:Int):(setN r t).length≤2:=by unfold setN;split <;> simp
theorem y216 {t r:Int} (hm:MK h0 h m pc l) (hl:l.length<1000000)
 (hk:∀h',MK h0 h' m pc (l++getN t r)→Keep m h h'→K (.tuple #[]) h'):AM.Spec PG yrw2 [ptr m 0,.int .i64 t,.int .i64 r] h K:=by
 refine y9gn _ _ _ _ _ ?_
 simp (config:={dsimp:=false}) [↓yz1t,↓y7nh]
 exact ⟨rfl,yqrz hm hl hk⟩
theorem yjux {t r:Int} (hm:MK h0 h m pc l) (hl:l.length<1000000)
 (hk:∀h',MK h0 h' m pc (l++numN t r)→Keep m h h'→K (.tuple #[]) h'):AM.Spec PG yaf9 [ptr m 0,.int .i64 t,.int .u32 r] h K:=by
 refine yg94 _ _ _ _ _ ?_
 simp (config:={dsimp:=false}) [↓yowe,↓yoe6]
 exact ⟨rfl,yqrz hm hl hk⟩
theorem yy5q {r t:Int} (hm:MK h0 h m pc l) (hl:l.length<999990)
 (hk:∀h',MK h0 h' m pc (l++setN r t)→Keep m h h'→K (.tuple #[]) h'):AM.Spec PG yzfg [ptr m 0,.int .i64 r,.int .i64 t] h K:=by
 refine yn5o _ _ _ _ _ ?_
 simp (config:={dsimp:=false}) [↓yare,↓ymqw]
 unfold setN at hk
 split
 ·rename_i c
  rw [if_pos c] at hk
  refine ⟨rfl,yqrz hm (by omega) fun h1 hm1 k1=>?_⟩
  refine ⟨rfl,yqrz hm1 (by simp;omega) fun h2 hm2 k2=>?_⟩
  exact hk h2 (by simpa using hm2) (k1.trans k2)
 ·rename_i c
  rw [if_neg c] at hk
  exact ⟨rfl,yqrz hm (by omega) hk⟩
section
variable {i:Ins}
theorem yv9b (hm:MK h0 h m pc l) (hl:l.length<999990)
 (hk:∀h',MK h0 h' m pc (l++addrN i)→Keep m h h'→K (.tuple #[]) h'):AM.Spec PG ygwt [ptr m 0,insV i] h K:=by
 obtain ⟨i0,i1,i2,i3,i4⟩:=i
 refine ylnm _ _ _ _ ?_
 simp (config:={dsimp:=false}) [↓y3bv,↓yyxt,insV]
 intro b _ hb
 have hne:=hm.ne hb
 have hc:=yy0e h b (.cells (insC (i0,i1,i2,i3,i4)) yc0x .exact)
 have hkk:Keep m h (upd h b (.cells (insC (i0,i1,i2,i3,i4)) yc0x .exact)):=(fun _ _ _ hn e=>(Sub.new hb) _ _ e)
 replace hm:=hm.new (q:=.cells (insC (i0,i1,i2,i3,i4)) yc0x .exact) hb
 simp only [insC] at hm hc hkk
 generalize upd h b _=hh at *
 refine ⟨rfl,y216 hm (by first | omega | (simp [List.length_append,getN,numN,addrN];omega)) (fun h1 hm1 hk1=>?_)⟩
 replace hc:=hk1 _ _ _ hne hc
 replace hkk:=hkk.trans hk1
 replace hm:=hm1
 clear hm1 hk1
 simp (config:={dsimp:=false}) [yb3e hc]
 refine ⟨rfl,yjux hm (by first | omega | (simp [List.length_append,getN,numN,addrN];omega)) (fun h1 hm1 hk1=>?_)⟩
 replace hc:=hk1 _ _ _ hne hc
 replace hkk:=hkk.trans hk1
 replace hm:=hm1
 clear hm1 hk1
 refine ⟨rfl,yqrz hm (by first | omega | (simp [List.length_append,getN,numN,addrN];omega)) (fun h1 hm1 hk1=>?_)⟩
 replace hc:=hk1 _ _ _ hne hc
 replace hkk:=hkk.trans hk1
 replace hm:=hm1
 clear hm1 hk1
 exact hk _ (by simpa [addrN] using hm) hkk
theorem ygv0 (hm:MK h0 h m pc l) (hl:l.length<999900)
 (hk:∀h',MK h0 h' m pc (l++jalN pc i)→Keep m h h'→K (.tuple #[]) h'):AM.Spec PG y9rb [ptr m 0,insV i] h K:=by
 obtain ⟨i0,i1,i2,i3,i4⟩:=i
 have hs:=y6db i1 3
 refine y7dx _ _ _ _ ?_
 simp (config:={dsimp:=false}) [↓yteq,↓yio4,insV]
 intro b _ hb
 have hne:=hm.ne hb
 have hc:=yy0e h b (.cells (insC (i0,i1,i2,i3,i4)) yc0x .exact)
 have hkk:Keep m h (upd h b (.cells (insC (i0,i1,i2,i3,i4)) yc0x .exact)):=(fun _ _ _ hn e=>(Sub.new hb) _ _ e)
 replace hm:=hm.new (q:=.cells (insC (i0,i1,i2,i3,i4)) yc0x .exact) hb
 simp only [insC] at hm hc hkk
 generalize upd h b _=hh at *
 simp (config:={dsimp:=false}) [↓yp36,↓ytiw,hm.c1,yb3e hc]
 refine ⟨rfl,yjux hm (by first | omega | (simp [List.length_append,getN,numN,addrN];omega)) (fun h1 hm1 hk1=>?_)⟩
 replace hc:=hk1 _ _ _ hne hc
 replace hkk:=hkk.trans hk1
 replace hm:=hm1
 clear hm1 hk1
 simp (config:={dsimp:=false}) [↓y7oi]
 refine ⟨rfl,yqrz hm (by first | omega | (simp [List.length_append,getN,numN,addrN];omega)) (fun h1 hm1 hk1=>?_)⟩
 replace hc:=hk1 _ _ _ hne hc
 replace hkk:=hkk.trans hk1
 replace hm:=hm1
 clear hm1 hk1
 simp (config:={dsimp:=false}) [hm.c1,yb3e hc]
 refine ⟨rfl,yjux hm (by first | omega | (simp [List.length_append,getN,numN,addrN];omega)) (fun h1 hm1 hk1=>?_)⟩
 replace hc:=hk1 _ _ _ hne hc
 replace hkk:=hkk.trans hk1
 replace hm:=hm1
 clear hm1 hk1
 simp (config:={dsimp:=false}) [yb3e hc]
 refine ⟨rfl,yy5q hm (by first | omega | (simp [List.length_append,getN,numN,addrN];omega)) (fun h1 hm1 hk1=>?_)⟩
 replace hc:=hk1 _ _ _ hne hc
 replace hkk:=hkk.trans hk1
 replace hm:=hm1
 clear hm1 hk1
 refine ⟨rfl,yqrz hm (by first | omega | (simp [List.length_append,getN,numN,addrN];omega)) (fun h1 hm1 hk1=>?_)⟩
 replace hc:=hk1 _ _ _ hne hc
 replace hkk:=hkk.trans hk1
 replace hm:=hm1
 clear hm1 hk1
 exact hk _ (by simpa [jalN] using hm) hkk
theorem yklf (hm:MK h0 h m pc l) (hl:l.length<999900)
 (hk:∀h',MK h0 h' m pc (l++jalrN pc i)→Keep m h h'→K (.tuple #[]) h'):AM.Spec PG y7o9 [ptr m 0,insV i] h K:=by
 obtain ⟨i0,i1,i2,i3,i4⟩:=i
 have hs:=y6db i1 0
 refine y8xm _ _ _ _ ?_
 simp (config:={dsimp:=false}) [↓y4lu,↓y7fy,insV]
 intro b _ hb
 have hne:=hm.ne hb
 have hc:=yy0e h b (.cells (insC (i0,i1,i2,i3,i4)) yc0x .exact)
 have hkk:Keep m h (upd h b (.cells (insC (i0,i1,i2,i3,i4)) yc0x .exact)):=(fun _ _ _ hn e=>(Sub.new hb) _ _ e)
 replace hm:=hm.new (q:=.cells (insC (i0,i1,i2,i3,i4)) yc0x .exact) hb
 simp only [insC] at hm hc hkk
 generalize upd h b _=hh at *
 refine ⟨rfl,(yv9b (i:=(i0,i1,i2,i3,i4))) hm (by first | omega | (simp [List.length_append,getN,numN,addrN];omega)) (fun h1 hm1 hk1=>?_)⟩
 replace hc:=hk1 _ _ _ hne hc
 replace hkk:=hkk.trans hk1
 replace hm:=hm1
 clear hm1 hk1
 refine ⟨rfl,yjux hm (by first | omega | (simp [List.length_append,getN,numN,addrN];omega)) (fun h1 hm1 hk1=>?_)⟩
 replace hc:=hk1 _ _ _ hne hc
 replace hkk:=hkk.trans hk1
 replace hm:=hm1
 clear hm1 hk1
 refine ⟨rfl,yqrz hm (by first | omega | (simp [List.length_append,getN,numN,addrN];omega)) (fun h1 hm1 hk1=>?_)⟩
 replace hc:=hk1 _ _ _ hne hc
 replace hkk:=hkk.trans hk1
 replace hm:=hm1
 clear hm1 hk1
 refine ⟨rfl,yqrz hm (by first | omega | (simp [List.length_append,getN,numN,addrN];omega)) (fun h1 hm1 hk1=>?_)⟩
 replace hc:=hk1 _ _ _ hne hc
 replace hkk:=hkk.trans hk1
 replace hm:=hm1
 clear hm1 hk1
 have hpc:=hm.c1
 simp (config:={dsimp:=false}) [hpc]
 refine ⟨rfl,yjux hm (by first | omega | (simp [List.length_append,getN,numN,addrN];omega)) (fun h1 hm1 hk1=>?_)⟩
 replace hc:=hk1 _ _ _ hne hc
 replace hkk:=hkk.trans hk1
 replace hm:=hm1
 clear hm1 hk1
 simp (config:={dsimp:=false}) [yb3e hc]
 refine ⟨rfl,yy5q hm (by first | omega | (simp [List.length_append,getN,numN,addrN];omega)) (fun h1 hm1 hk1=>?_)⟩
 replace hc:=hk1 _ _ _ hne hc
 replace hkk:=hkk.trans hk1
 replace hm:=hm1
 clear hm1 hk1
 refine ⟨rfl,yqrz hm (by first | omega | (simp [List.length_append,getN,numN,addrN];omega)) (fun h1 hm1 hk1=>?_)⟩
 replace hc:=hk1 _ _ _ hne hc
 replace hkk:=hkk.trans hk1
 replace hm:=hm1
 clear hm1 hk1
 exact hk _ (by simpa [jalrN] using hm) hkk
theorem yxzq (hm:MK h0 h m pc l) (hl:l.length<999900) (h5:5≤i.1) (h10:i.1≤10)
 (hk:∀h',MK h0 h' m pc (l++ykm8 pc i)→Keep m h h'→K (.tuple #[]) h'):AM.Spec PG ymae [ptr m 0,insV i] h K:=by
 obtain ⟨i0,i1,i2,i3,i4⟩:=i
 refine y1k3 _ _ _ _ ?_
 simp (config:={dsimp:=false}) [↓yak3,↓y66g,insV]
 intro b _ hb
 have hne:=hm.ne hb
 have hc:=yy0e h b (.cells (insC (i0,i1,i2,i3,i4)) yc0x .exact)
 have hkk:Keep m h (upd h b (.cells (insC (i0,i1,i2,i3,i4)) yc0x .exact)):=(fun _ _ _ hn e=>(Sub.new hb) _ _ e)
 replace hm:=hm.new (q:=.cells (insC (i0,i1,i2,i3,i4)) yc0x .exact) hb
 simp only [insC] at hm hc hkk
 generalize upd h b _=hh at *
 refine ⟨rfl,y216 hm (by first | omega | (simp [List.length_append,getN,numN,addrN];omega)) (fun h1 hm1 hk1=>?_)⟩
 replace hc:=hk1 _ _ _ hne hc
 replace hkk:=hkk.trans hk1
 replace hm:=hm1
 clear hm1 hk1
 simp (config:={dsimp:=false}) [yb3e hc]
 refine ⟨rfl,y216 hm (by first | omega | (simp [List.length_append,getN,numN,addrN];omega)) (fun h1 hm1 hk1=>?_)⟩
 replace hc:=hk1 _ _ _ hne hc
 replace hkk:=hkk.trans hk1
 replace hm:=hm1
 clear hm1 hk1
 have w:IntKind.i64.wrap (i0-5)=i0-5:=w_i64 (by simp only at h5 h10;omega) (by simp only at h5 h10;omega)
 simp (config:={dsimp:=false}) [yb3e hc,w]
 simp only at h5 h10
 refine ⟨by omega,by omega,?_⟩
 refine ⟨rfl,yqrz hm (by first | omega | (simp [List.length_append,getN,numN,addrN];omega)) (fun h1 hm1 hk1=>?_)⟩
 replace hc:=hk1 _ _ _ hne hc
 replace hkk:=hkk.trans hk1
 replace hm:=hm1
 clear hm1 hk1
 simp (config:={dsimp:=false}) [↓y0k9,↓yoaj,hm.c1,yb3e hc]
 refine ⟨rfl,yqrz hm (by first | omega | (simp [List.length_append,getN,numN,addrN];omega)) (fun h1 hm1 hk1=>?_)⟩
 replace hc:=hk1 _ _ _ hne hc
 replace hkk:=hkk.trans hk1
 replace hm:=hm1
 clear hm1 hk1
 simp (config:={dsimp:=false}) [↓y96a]
 refine ⟨rfl,yqrz hm (by first | omega | (simp [List.length_append,getN,numN,addrN];omega)) (fun h1 hm1 hk1=>?_)⟩
 replace hc:=hk1 _ _ _ hne hc
 replace hkk:=hkk.trans hk1
 replace hm:=hm1
 clear hm1 hk1
 exact hk _ (by simpa [ykm8] using hm) hkk
def memN (i:Ins):List Nd :=
 if y3qc i.1=true then addrN i++getN 3 i.2.2.2.1++[⟨7,0,2,3,W (y1g3 i.1)⟩]++[⟨9,0,0,0,0⟩]
 else if y7dv i.1=true then addrN i++[⟨6,3,2,0,W ((((W (y1g3 i.1)%2^IntKind.u32.bits).toNat ||| 8%2^IntKind.u32.bits):Nat):Int)⟩]++setN i.2.1 3
 else addrN i++[⟨6,3,2,0,W (y1g3 i.1)⟩]++setN i.2.1 3
theorem yblz (hm:MK h0 h m pc l) (hl:l.length<999900)
 (hk:∀h',MK h0 h' m pc (l++memN i)→Keep m h h'→K (.tuple #[]) h'):AM.Spec PG yls4 [ptr m 0,insV i] h K:=by
 obtain ⟨i0,i1,i2,i3,i4⟩:=i
 refine ynp3 _ _ _ _ ?_
 simp (config:={dsimp:=false}) [↓y2cs,↓yf79,insV]
 intro b _ hb
 have hne:=hm.ne hb
 have hc:=yy0e h b (.cells (insC (i0,i1,i2,i3,i4)) yc0x .exact)
 have hkk:Keep m h (upd h b (.cells (insC (i0,i1,i2,i3,i4)) yc0x .exact)):=(fun _ _ _ hn e=>(Sub.new hb) _ _ e)
 replace hm:=hm.new (q:=.cells (insC (i0,i1,i2,i3,i4)) yc0x .exact) hb
 simp only [insC] at hm hc hkk
 generalize upd h b _=hh at *
 refine ⟨rfl,(yv9b (i:=(i0,i1,i2,i3,i4))) hm (by first | omega | (simp [List.length_append,getN,numN,addrN];omega)) (fun h1 hm1 hk1=>?_)⟩
 replace hc:=hk1 _ _ _ hne hc
 replace hkk:=hkk.trans hk1
 replace hm:=hm1
 clear hm1 hk1
 simp (config:={dsimp:=false}) [yb3e hc]
 unfold memN at hk
 simp only at hk
 split
 ·rename_i c1
  rw [if_pos c1] at hk
  refine ⟨rfl,y216 hm (by first | omega | (simp [List.length_append,getN,numN,addrN];omega)) (fun h1 hm1 hk1=>?_)⟩
  replace hc:=hk1 _ _ _ hne hc
  replace hkk:=hkk.trans hk1
  replace hm:=hm1
  clear hm1 hk1
  refine ⟨rfl,yqrz hm (by first | omega | (simp [List.length_append,getN,numN,addrN];omega)) (fun h1 hm1 hk1=>?_)⟩
  replace hc:=hk1 _ _ _ hne hc
  replace hkk:=hkk.trans hk1
  replace hm:=hm1
  clear hm1 hk1
  refine ⟨rfl,yqrz hm (by first | omega | (simp [List.length_append,getN,numN,addrN];omega)) (fun h1 hm1 hk1=>?_)⟩
  replace hc:=hk1 _ _ _ hne hc
  replace hkk:=hkk.trans hk1
  replace hm:=hm1
  clear hm1 hk1
  exact hk _ (by simpa using hm) hkk
 ·rename_i c1
  rw [if_neg c1] at hk
  split
  ·rename_i c2
   rw [if_pos c2] at hk
   refine ⟨rfl,yqrz hm (by first | omega | (simp [List.length_append,getN,numN,addrN];omega)) (fun h1 hm1 hk1=>?_)⟩
   replace hc:=hk1 _ _ _ hne hc
   replace hkk:=hkk.trans hk1
   replace hm:=hm1
   clear hm1 hk1
   simp (config:={dsimp:=false}) [yb3e hc]
   refine ⟨rfl,yy5q hm (by first | omega | (simp [List.length_append,getN,numN,addrN];omega)) (fun h1 hm1 hk1=>?_)⟩
   replace hc:=hk1 _ _ _ hne hc
   replace hkk:=hkk.trans hk1
   replace hm:=hm1
   clear hm1 hk1
   exact hk _ (by simpa using hm) hkk
  ·rename_i c2
   rw [if_neg c2] at hk
   refine ⟨rfl,yqrz hm (by first | omega | (simp [List.length_append,getN,numN,addrN];omega)) (fun h1 hm1 hk1=>?_)⟩
   replace hc:=hk1 _ _ _ hne hc
   replace hkk:=hkk.trans hk1
   replace hm:=hm1
   clear hm1 hk1
   simp (config:={dsimp:=false}) [yb3e hc]
   refine ⟨rfl,yy5q hm (by first | omega | (simp [List.length_append,getN,numN,addrN];omega)) (fun h1 hm1 hk1=>?_)⟩
   replace hc:=hk1 _ _ _ hne hc
   replace hkk:=hkk.trans hk1
   replace hm:=hm1
   clear hm1 hk1
   exact hk _ (by simpa using hm) hkk
def reckN (i:Ins):List Nd :=
 if i.1≤27 then getN 0 i.2.2.1++numN 1 (W i.2.2.2.2)++[⟨4,2,0,1,W (ych0 i.1)⟩]++setN i.2.1 2
 else getN 0 i.2.2.1++getN 1 i.2.2.2.1++[⟨4,2,0,1,W (ych0 i.1)⟩]++setN i.2.1 2
theorem ytaj (hm:MK h0 h m pc l) (hl:l.length<999900)
 (hk:∀h',MK h0 h' m pc (l++reckN i)→Keep m h h'→K (.tuple #[]) h'):AM.Spec PG yrtp [ptr m 0,insV i] h K:=by
 obtain ⟨i0,i1,i2,i3,i4⟩:=i
 refine ynti _ _ _ _ ?_
 simp (config:={dsimp:=false}) [↓yqy2,↓yh2w,insV]
 intro b _ hb
 have hne:=hm.ne hb
 have hc:=yy0e h b (.cells (insC (i0,i1,i2,i3,i4)) yc0x .exact)
 have hkk:Keep m h (upd h b (.cells (insC (i0,i1,i2,i3,i4)) yc0x .exact)):=(fun _ _ _ hn e=>(Sub.new hb) _ _ e)
 replace hm:=hm.new (q:=.cells (insC (i0,i1,i2,i3,i4)) yc0x .exact) hb
 simp only [insC] at hm hc hkk
 generalize upd h b _=hh at *
 refine ⟨rfl,y216 hm (by first | omega | (simp [List.length_append,getN,numN,addrN];omega)) (fun h1 hm1 hk1=>?_)⟩
 replace hc:=hk1 _ _ _ hne hc
 replace hkk:=hkk.trans hk1
 replace hm:=hm1
 clear hm1 hk1
 simp (config:={dsimp:=false}) [yb3e hc]
 unfold reckN at hk
 simp only at hk
 split
 ·rename_i c1
  rw [if_pos c1] at hk
  refine ⟨rfl,yjux hm (by first | omega | (simp [List.length_append,getN,numN,addrN];omega)) (fun h1 hm1 hk1=>?_)⟩
  replace hc:=hk1 _ _ _ hne hc
  replace hkk:=hkk.trans hk1
  replace hm:=hm1
  clear hm1 hk1
  simp (config:={dsimp:=false}) [yb3e hc]
  refine ⟨rfl,yqrz hm (by first | omega | (simp [List.length_append,getN,numN,addrN];omega)) (fun h1 hm1 hk1=>?_)⟩
  replace hc:=hk1 _ _ _ hne hc
  replace hkk:=hkk.trans hk1
  replace hm:=hm1
  clear hm1 hk1
  simp (config:={dsimp:=false}) [yb3e hc]
  refine ⟨rfl,yy5q hm (by first | omega | (simp [List.length_append,getN,numN,addrN];omega)) (fun h1 hm1 hk1=>?_)⟩
  replace hc:=hk1 _ _ _ hne hc
  replace hkk:=hkk.trans hk1
  replace hm:=hm1
  clear hm1 hk1
  exact hk _ (by simpa using hm) hkk
 ·rename_i c1
  rw [if_neg c1] at hk
  refine ⟨rfl,y216 hm (by first | omega | (simp [List.length_append,getN,numN,addrN];omega)) (fun h1 hm1 hk1=>?_)⟩
  replace hc:=hk1 _ _ _ hne hc
  replace hkk:=hkk.trans hk1
  replace hm:=hm1
  clear hm1 hk1
  simp (config:={dsimp:=false}) [yb3e hc]
  refine ⟨rfl,yqrz hm (by first | omega | (simp [List.length_append,getN,numN,addrN];omega)) (fun h1 hm1 hk1=>?_)⟩
  replace hc:=hk1 _ _ _ hne hc
  replace hkk:=hkk.trans hk1
  replace hm:=hm1
  clear hm1 hk1
  simp (config:={dsimp:=false}) [yb3e hc]
  refine ⟨rfl,yy5q hm (by first | omega | (simp [List.length_append,getN,numN,addrN];omega)) (fun h1 hm1 hk1=>?_)⟩
  replace hc:=hk1 _ _ _ hne hc
  replace hkk:=hkk.trans hk1
  replace hm:=hm1
  clear hm1 hk1
  exact hk _ (by simpa using hm) hkk
def oneN (pc:Int) (i:Ins):List Nd :=
 ⟨8,0,0,0,pc⟩::(if i.1=1 then numN 0 (W i.2.2.2.2)++setN i.2.1 0 else if i.1=2 then numN 0 (W (pc+W i.2.2.2.2))++setN i.2.1 0 else if i.1=3 then jalN pc i
  else if i.1=4 then jalrN pc i else if 5≤i.1∧i.1≤10 then ykm8 pc i else if 11≤i.1∧i.1≤18 then memN i else if 19≤i.1∧i.1≤45 then reckN i
  else if i.1=48 then [⟨13,0,0,0,5⟩] else if i.1=49 then [⟨13,0,0,0,6⟩] else [⟨9,0,0,0,0⟩])
theorem ynzk (hm:MK h0 h m pc l) (hl:l.length<999800)
 (hk:∀h',MK h0 h' m pc (l++oneN pc i)→Keep m h h'→K (.tuple #[]) h'):AM.Spec PG y76q [ptr m 0,insV i] h K:=by
 obtain ⟨i0,i1,i2,i3,i4⟩:=i
 refine yinc _ _ _ _ ?_
 simp (config:={dsimp:=false}) [↓yali,↓yka2,insV]
 intro b _ hb
 have hne:=hm.ne hb
 have hc:=yy0e h b (.cells (insC (i0,i1,i2,i3,i4)) yc0x .exact)
 have hkk:Keep m h (upd h b (.cells (insC (i0,i1,i2,i3,i4)) yc0x .exact)):=(fun _ _ _ hn e=>(Sub.new hb) _ _ e)
 replace hm:=hm.new (q:=.cells (insC (i0,i1,i2,i3,i4)) yc0x .exact) hb
 simp only [insC] at hm hc hkk
 generalize upd h b _=hh at *
 simp (config:={dsimp:=false}) [↓y4sp,hm.c1]
 refine ⟨rfl,yqrz hm (by first | omega | (simp [List.length_append,getN,numN,addrN];omega)) (fun h1 hm1 hk1=>?_)⟩
 replace hc:=hk1 _ _ _ hne hc
 replace hkk:=hkk.trans hk1
 replace hm:=hm1
 clear hm1 hk1
 simp (config:={dsimp:=false}) [↓y4sp,↓ykeo,↓ywv5,↓ya1p,↓y12u,↓yaw9,↓y1aw,↓ywfg,↓y2zk,↓ypgy,yb3e hc,yzql hc,hm.c1]
 unfold oneN at hk
 simp only at hk
 split
 ·rename_i c
  rw [if_pos c] at hk
  refine ⟨rfl,yjux hm (by first | omega | (simp [List.length_append,getN,numN,addrN];omega)) (fun h1 hm1 hk1=>?_)⟩
  replace hc:=hk1 _ _ _ hne hc
  replace hkk:=hkk.trans hk1
  replace hm:=hm1
  clear hm1 hk1
  simp (config:={dsimp:=false}) [yb3e hc]
  refine ⟨rfl,yy5q hm (by first | omega | (simp [List.length_append,getN,numN,addrN];omega)) (fun h1 hm1 hk1=>?_)⟩
  replace hc:=hk1 _ _ _ hne hc
  replace hkk:=hkk.trans hk1
  replace hm:=hm1
  clear hm1 hk1
  exact hk _ (by simpa using hm) hkk
 rename_i c
 rw [if_neg c] at hk
 split
 ·rename_i c
  rw [if_pos c] at hk
  refine ⟨rfl,yjux hm (by first | omega | (simp [List.length_append,getN,numN,addrN];omega)) (fun h1 hm1 hk1=>?_)⟩
  replace hc:=hk1 _ _ _ hne hc
  replace hkk:=hkk.trans hk1
  replace hm:=hm1
  clear hm1 hk1
  simp (config:={dsimp:=false}) [↓y2zk,yb3e hc]
  refine ⟨rfl,yy5q hm (by first | omega | (simp [List.length_append,getN,numN,addrN];omega)) (fun h1 hm1 hk1=>?_)⟩
  replace hc:=hk1 _ _ _ hne hc
  replace hkk:=hkk.trans hk1
  replace hm:=hm1
  clear hm1 hk1
  exact hk _ (by simpa using hm) hkk
 rename_i c
 rw [if_neg c] at hk
 split
 ·rename_i c
  rw [if_pos c] at hk
  exact ⟨rfl,ygv0 (i:=(i0,i1,i2,i3,i4)) hm (by simp;omega) (fun h' hm' hk'=>hk _ (by simpa using hm') (hkk.trans hk'))⟩
 rename_i c
 rw [if_neg c] at hk
 split
 ·rename_i c
  rw [if_pos c] at hk
  exact ⟨rfl,yklf (i:=(i0,i1,i2,i3,i4)) hm (by simp;omega) (fun h' hm' hk'=>hk _ (by simpa using hm') (hkk.trans hk'))⟩
 rename_i c
 rw [if_neg c] at hk
 split
 ·rename_i c
  rw [if_pos c] at hk
  exact ⟨rfl,yxzq (i:=(i0,i1,i2,i3,i4)) hm (by simp;omega) c.1 c.2 (fun h' hm' hk'=>hk _ (by simpa using hm') (hkk.trans hk'))⟩
 rename_i c
 rw [if_neg c] at hk
 split
 ·rename_i c
  rw [if_pos c] at hk
  exact ⟨rfl,yblz (i:=(i0,i1,i2,i3,i4)) hm (by simp;omega) (fun h' hm' hk'=>hk _ (by simpa using hm') (hkk.trans hk'))⟩
 rename_i c
 rw [if_neg c] at hk
 split
 ·rename_i c
  rw [if_pos c] at hk
  exact ⟨rfl,ytaj (i:=(i0,i1,i2,i3,i4)) hm (by simp;omega) (fun h' hm' hk'=>hk _ (by simpa using hm') (hkk.trans hk'))⟩
 rename_i c
 rw [if_neg c] at hk
 split
 ·rename_i c
  rw [if_pos c] at hk
  refine ⟨rfl,yqrz hm (by first | omega | (simp [List.length_append,getN,numN,addrN];omega)) (fun h1 hm1 hk1=>?_)⟩
  replace hc:=hk1 _ _ _ hne hc
  replace hkk:=hkk.trans hk1
  replace hm:=hm1
  clear hm1 hk1
  exact hk _ (by simpa using hm) hkk
 rename_i c
 rw [if_neg c] at hk
 split
 ·rename_i c
  rw [if_pos c] at hk
  refine ⟨rfl,yqrz hm (by first | omega | (simp [List.length_append,getN,numN,addrN];omega)) (fun h1 hm1 hk1=>?_)⟩
  replace hc:=hk1 _ _ _ hne hc
  replace hkk:=hkk.trans hk1
  replace hm:=hm1
  clear hm1 hk1
  exact hk _ (by simpa using hm) hkk
 rename_i c
 rw [if_neg c] at hk
 refine ⟨rfl,yqrz hm (by first | omega | (simp [List.length_append,getN,numN,addrN];omega)) (fun h1 hm1 hk1=>?_)⟩
 replace hc:=hk1 _ _ _ hne hc
 replace hkk:=hkk.trans hk1
 replace hm:=hm1
 clear hm1 hk1
 exact hk _ (by simpa using hm) hkk
theorem y4z8 (pc:Int) (i:Ins):(oneN pc i).length≤11:=by
 have h0:=y6db i.2.1 0
 have h2:=y6db i.2.1 2
 have h3:=y6db i.2.1 3
 unfold oneN jalN jalrN ykm8 memN reckN addrN getN numN
 repeat' split
 all_goals simp
 all_goals omega
end
end
end Go.Proofs.YtnckimioabkheaaGreat
set_option linter.unusedSimpArgs false
set_option linter.unusedVariables false
set_option maxRecDepth 100000
namespace Go.Proofs.YtnckimioabkheaaGreat
open AM
section
variable {h:H} {pc:Int} {K:K1}
def ygxs (l:List Ins) (pc:Int):Nat→List Nd×Int
 | 0=>([],pc)
 | n+1=>((ygxs l pc n).1++oneN (ygxs l pc n).2 (l.getD n (0,0,0,0,0)),W ((ygxs l pc n).2+4))
theorem yev3 (l:List Ins) (pc:Int) (n:Nat):(ygxs l pc n).1.length≤11*n:=by
 induction n with
 | zero=>simp [ygxs]
 | succ n ih =>
   have:=y4z8 (ygxs l pc n).2 (l.getD n (0,0,0,0,0))
   simp only [ygxs,List.length_append]
   omega
theorem y53m (l:List Ins) (pc:Int) (n:Nat) (hn:0<n):(ygxs l pc n).1≠[]:=by
 cases n with
 | zero=>omega
 | succ n=>simp [ygxs,oneN]
def makeN (pc:Int) (l:List Ins):List Nd :=
 if l=[] then []
 else if yg6t (ygxs l pc l.length).1<11∨13<yg6t (ygxs l pc l.length).1 then (ygxs l pc l.length).1++[⟨12,0,0,0,(ygxs l pc l.length).2⟩]
 else (ygxs l pc l.length).1
theorem yaqv {v:Value} {is:List Ins} {gen:Int} (hs:Sl insC 5 h v is) (hl:is.length≤1000)
 (hk:∀v' h',Sub h h'→Gr Nd.cells 5 yq0s h h' v' (makeN pc is)→K v' h'):AM.Spec PG y849 [.agg #[.int .u32 pc,v,.int .u32 gen]] h K:=by
 refine yaxt _ _ _ ?_
 have hb:=hs.box
 unfold ylc2 yk2y
 simp (config:={dsimp:=false}) [hb,hs.ulen]
 intro b hb2 hbn
 split
 ·rename_i h0
  refine hk _ _ (Sub.new hbn) ?_
  simp only [makeN,h0,if_true]
  exact Gr.empty
 rename_i hne
 intro m hm2 n1 n2 hmn
 have s0:Sub h (upd h b (.cells [.int .u32 pc,v,.int .u32 gen] yrjx .exact)):=Sub.new hbn
 have s1:=s0.newer (q:=.cells [.slice none 0 0,.int .u32 pc] yhds .exact) (b:=m) (by rw [yrkk _ _ n1];exact hmn)
 have hs1:=hs.mono s1
 have hm:MK h _ m pc []:=⟨.slice none 0 0,by simp [upd],Gr.empty,s1,hmn⟩
 simp (config:={dsimp:=false}) [↓y9xi,↓y896,↓ya2i,↓ynsh,n1,n2,hs1.ulen]
 generalize upd (upd h b _) m _=hh at *
 refine yo1k is.length (fun i s h'=>s=(ptr m 0,v,.int .i64 is.length,.int .i64 i)∧MK h h' m (ygxs is pc i).2 (ygxs is pc i).1) ⟨rfl,hm⟩ ?_
 rintro i s h' K' hi ⟨rfl,hm'⟩ hk'
 have hsm:=hs.mono hm'.sub
 by_cases hlt:i<is.length
 ·obtain ⟨x,hx⟩:∃x,is[i]=x:=⟨_,rfl⟩
  have hix:=fun (K:Value→Prop) (u:Dm K)=>hsm.ixA (k:=.i64) hlt (K:=K) (u:=u)
  have hbd:ygxs is pc (i+1)=((ygxs is pc i).1++oneN (ygxs is pc i).2 x,W ((ygxs is pc i).2+4)):=by
   simp [ygxs,hlt,hx]
  rw [hx] at hix
  rw [hbd] at hk'
  have hlen:=yev3 is pc i
  obtain ⟨x0,x1,x2,x3,x4⟩:=x
  simp only [insC] at hix
  generalize ygxs is pc i=B at *
  have w:IntKind.i64.wrap ((i:Int)+1)=(i:Int)+1:=w_i64 (by omega) (by omega)
  simp (config:={dsimp:=false}) [↓ytn3,hlt,hix]
  intro b5 _ hb5
  refine ⟨rfl,ynzk (i:=(x0,x1,x2,x3,x4)) (hm'.new hb5) (by omega) fun h1 hm1 hk1=>?_⟩
  obtain ⟨z,ez,hz⟩:=hm1.at (pc':=W (B.2+4))
  simp (config:={dsimp:=false}) [yb3e ez,ez,w]
  exact hk' _ _ hlt ⟨rfl,hz⟩
 ·have hie:i=is.length:=by omega
  subst hie
  have hlen:=yev3 is pc is.length
  have hbn:=y53m is pc is.length (by cases is <;> simp at hne ⊢)
  simp only [makeN,if_neg hne] at hk
  generalize ygxs is pc is.length=B at *
  obtain ⟨z,ez,hg,hs',hn⟩:=hm'
  have hpos:0<B.1.length:=List.length_pos_iff.2 hbn
  have hlast:(Nd.cells (B.1[B.1.length-1]'(by omega)))[0]?=some (.int .i64 (yg6t B.1)):=by rw [y6a9 hbn];rfl
  have hix:=fun (K:Value→Prop) (u:Dm K)=>hg.sl.ixf (k:=.i64) (i:=B.1.length-1) (off:=0) (by omega) hlast (K:=K) (u:=u)
  have w:IntKind.i64.wrap ((B.1.length:Int)-1)=((B.1.length-1:Nat):Int):=by rw [w_i64 (by omega) (by omega)];omega
  simp (config:={dsimp:=false}) [↓ytn3,↓y2mk,↓y6mk,↓ybk7,↓yym3,yb3e ez,hg.sl.ulen,w,hix]
  split
  ·rename_i c
   rw [if_pos c] at hk
   refine ⟨rfl,yqrz ⟨z,ez,hg,hs',hn⟩ (by omega) fun h1 hm1 hk1=>?_⟩
   obtain ⟨y,ey,gy,sy,ny⟩:=hm1
   simp (config:={dsimp:=false}) [↓yh6b,yb3e ey]
   exact hk _ _ sy gy
  ·rename_i c
   rw [if_neg c] at hk
   simp (config:={dsimp:=false}) [↓yh6b,yb3e ez]
   exact hk _ _ hs' hg
theorem yfp0 {v:Value} {is:List Ins} {gen:Int} (hs:Sl insC 5 h v is) (hl:is.length≤1000)
 (hk:∀v' h',Sub h h'→Sl Nd.cells 5 h' v' (makeN pc is)→K v' h'):AM.Spec PG y849 [.agg #[.int .u32 pc,v,.int .u32 gen]] h K :=
 yaqv hs hl fun v' h' s g=>hk v' h' s g.sl
end
end Go.Proofs.YtnckimioabkheaaGreat
set_option linter.unusedSimpArgs false
set_option linter.unusedVariables false
set_option maxRecDepth 100000
namespace Go.Proofs.YtnckimioabkheaaGreat
open AM
structure InsOk (i:Ins):Prop where
 rd:0≤i.2.1∧i.2.1≤31
 r1:0≤i.2.2.1∧i.2.2.1≤31
 r2:0≤i.2.2.2.1∧i.2.2.2.1≤31
def aft:List Nd→(Int→Bool)→(Int→Bool)
 | [],th=>th
 | n::r,th=>aft r (if y65c n.op then put th n.to true else th)
theorem yh43:∀{a b:List Nd} {th:Int→Bool},ywct (a++b) th=(ywct a th&&ywct b (aft a th))
 | [],b,th=>by simp [ywct,aft]
 | n::r,b,th=>by simp only [List.cons_append,ywct,aft,yh43 (a:=r),Bool.and_assoc]
theorem y3iv {op:Int} (h1:19≤op) (h2:op≤45):0≤ych0 op∧ych0 op≤17:=by
 unfold ych0
 rcases (by omega:op=19∨op=20∨op=21∨op=22∨op=23∨op=24∨op=25∨op=26∨op=27∨op=28∨op=29∨op=30∨op=31∨op=32∨op=33∨op=34∨op=35∨op=36∨op=37∨op=38∨op=39∨op=40∨op=41∨op=42∨op=43∨op=44∨op=45) with rfl | rfl | rfl | rfl | rfl | rfl | rfl | rfl | rfl | rfl | rfl | rfl | rfl | rfl | rfl | rfl | rfl | rfl | rfl | rfl | rfl | rfl | rfl | rfl | rfl | rfl | rfl <;> decide
theorem W_id {x:Int} (h:0≤x∧x≤31):W x=x:=w_u32 (by omega) (by omega)
theorem yyi5 {pc:Int} {i:Ins} (hi:InsOk i) (th:Int→Bool):ywct (oneN pc i) th=true:=by
 obtain ⟨op,rd,r1,r2,imm⟩:=i
 obtain ⟨h1,h2,h3⟩:=hi
 simp only at h1 h2 h3
 have e1:=W_id h1
 have e2:=W_id h2
 have e3:=W_id h3
 unfold oneN
 simp only
 split
 ·simp only [numN,setN,e1]
  split <;> simp [ywct,yln3,ykl2,hasL,yalu,tagsB,rl,y65c,put] <;> omega
 split
 ·simp only [numN,setN,e1]
  split <;> simp [ywct,yln3,ykl2,hasL,yalu,tagsB,rl,y65c,put] <;> omega
 split
 ·simp only [jalN,numN,setN,e1]
  split <;> simp [ywct,yln3,ykl2,hasL,yalu,tagsB,rl,y65c,put] <;> omega
 split
 ·simp only [jalrN,addrN,getN,numN,setN,e1,e2]
  split <;> simp [ywct,yln3,ykl2,hasL,yalu,tagsB,rl,y65c,put] <;> omega
 split
 ·rename_i hc
  have ht:tab (op-5) [0,1,4,5,6,7]≤7∧tab (op-5) [0,1,4,5,6,7]≠2∧tab (op-5) [0,1,4,5,6,7]≠3:=by
   rcases (by omega:op=5∨op=6∨op=7∨op=8∨op=9∨op=10) with rfl | rfl | rfl | rfl | rfl | rfl <;> decide
  simp only [ykm8,getN,numN,setN,e2,e3]
  generalize tab (op-5) [0,1,4,5,6,7]=tt at *
  simp [ywct,yln3,ykl2,hasL,yalu,tagsB,rl,y65c,put]
  omega
 split
 ·rename_i hc
  have key:∀v:Int,(v=1∨v=2∨v=4∨v=9∨v=10)→ywct (⟨8,0,0,0,pc⟩::(addrN (op,rd,r1,r2,imm)++[⟨6,3,2,0,v⟩]++setN rd 3)) th=true:=by
   intro v hv
   simp only [addrN,getN,numN,setN,e1,e2]
   split <;> simp [ywct,yln3,ykl2,hasL,yalu,tagsB,rl,y65c,put,yyyr] <;> omega
  have key2:∀v:Int,(v=1∨v=2∨v=4)→ywct (⟨8,0,0,0,pc⟩::(addrN (op,rd,r1,r2,imm)++getN 3 r2++[⟨7,0,2,3,v⟩]++[⟨9,0,0,0,0⟩])) th=true:=by
   intro v hv
   simp only [addrN,getN,numN,setN,e2,e3]
   simp [ywct,yln3,ykl2,hasL,yalu,tagsB,rl,y65c,put,yyyr]
   omega
  unfold memN
  simp only
  split
  ·refine key2 _ ?_
   rename_i hs
   have:op=16∨op=17∨op=18:=by simp [y3qc] at hs;omega
   rcases this with rfl | rfl | rfl <;> decide
  ·rename_i hs
   have:op=11∨op=12∨op=13∨op=14∨op=15:=by simp [y3qc] at hs;omega
   split
   ·rename_i hz
    refine key _ ?_
    revert hz
    clear hs
    rcases this with rfl | rfl | rfl | rfl | rfl <;> decide
   ·rename_i hz
    refine key _ ?_
    revert hz
    clear hs
    rcases this with rfl | rfl | rfl | rfl | rfl <;> decide
 split
 ·rename_i hc
  have hk:=y3iv hc.1 hc.2
  have ek:W (ych0 op)=ych0 op:=w_u32 (by omega) (by omega)
  unfold reckN
  simp only [ek]
  generalize ych0 op=kk at *
  split
  ·simp only [getN,numN,setN,e1,e2,e3]
   split <;> simp [ywct,yln3,ykl2,hasL,yalu,tagsB,rl,y65c,put] <;> omega
  ·simp only [getN,numN,setN,e1,e2,e3]
   split <;> simp [ywct,yln3,ykl2,hasL,yalu,tagsB,rl,y65c,put] <;> omega
 split
 ·simp [ywct,yln3,ykl2,hasL,yalu,tagsB,rl,y65c,put]
 split
 ·simp [ywct,yln3,ykl2,hasL,yalu,tagsB,rl,y65c,put]
 ·simp [ywct,yln3,ykl2,hasL,yalu,tagsB,rl,y65c,put]
def opOk (n:Nd):Bool:=decide (n.op≤13)||decide (n.op=21)
theorem y55o {r t:Int}:(setN r t).all opOk=true:=by unfold setN;split <;> rfl
theorem yc0a {pc:Int} {i:Ins}:(oneN pc i).all opOk=true:=by
 unfold oneN jalN jalrN ykm8 memN reckN addrN getN numN
 repeat' split
 all_goals simp [List.all_append,y55o,opOk]
theorem yd26 {pc:Int} {i:Ins}:∃r,oneN pc i=⟨8,0,0,0,pc⟩::r:=⟨_,rfl⟩
section
variable {l:List Ins} {pc:Int}
theorem ytty:∀n,(ygxs l pc n).1.all opOk=true
 | 0=>rfl
 | n+1=>by simp only [ygxs,List.all_append,ytty n,yc0a,Bool.and_self]
theorem yz4e (hl:∀i∈l,InsOk i) (n:Nat):InsOk (l.getD n (0,0,0,0,0)):=by
 rw [List.getD_eq_getElem?_getD]
 cases h:l[n]? with
 | none=>exact ⟨by simp,by simp,by simp⟩
 | some i=>exact hl i (List.mem_of_getElem? h)
theorem yb2s (hl:∀i∈l,InsOk i):∀n th,ywct (ygxs l pc n).1 th=true
 | 0,th=>rfl
 | n+1,th=>by
   simp only [ygxs]
   rw [yh43,yb2s hl n,yyi5 (yz4e hl n)]
   rfl
theorem y8pg:∀n,0<n→∃n0 r,(ygxs l pc n).1=n0::r∧n0.op=8
 | 0,h=>by omega
 | n+1,_=>by
   cases n with
   | zero =>
     obtain ⟨r,hr⟩:=yd26 (pc:=pc) (i:=l.getD 0 (0,0,0,0,0))
     exact ⟨_,r,by simp only [ygxs];rw [hr];rfl,rfl⟩
   | succ n =>
     obtain ⟨n0,r,hr,h8⟩:=y8pg (n+1) (by omega)
     exact ⟨n0,r++oneN (ygxs l pc (n+1)).2 (l.getD (n+1) (0,0,0,0,0)),by rw [ygxs,hr];rfl,h8⟩
theorem yedm:∀{a b:List Nd},b≠[]→yg6t (a++b)=yg6t b
 | [],b,_=>rfl
 | [n],b,h=>by
   cases b with
   | nil=>exact absurd rfl h
   | cons m r=>rfl
 | n::m::r,b,h=>by
   have:=yedm (a:=m::r) h
   simpa [yg6t] using this
theorem yvki (hl:∀i∈l,InsOk i) (hne:l≠[]) (h64:l.length≤64):goodB (makeN pc l)=true:=by
 have hlen:=yev3 l pc l.length
 have hpos:0<l.length:=List.length_pos_iff.2 hne
 obtain ⟨n0,r,hr,h8⟩:=y8pg (l:=l) (pc:=pc) l.length hpos
 have hg:=yb2s (pc:=pc) hl l.length (fun _=>false)
 unfold makeN
 rw [if_neg hne]
 split
 ·obtain ⟨z,hz,hz2⟩:∃z:Nd,z=⟨12,0,0,0,(ygxs l pc l.length).2⟩∧z.op=12:=⟨_,rfl,rfl⟩
  rw [← hz]
  have hla:yg6t ((ygxs l pc l.length).1++[z])=12:=(yedm (by simp)).trans hz2
  have hga:ywct ((ygxs l pc l.length).1++[z]) (fun _=>false)=true:=by
   rw [yh43,hg,hz]
   simp [ywct,yln3,ykl2,hasL,yalu,tagsB,rl,y65c]
  have hll:((ygxs l pc l.length).1++[z]).length≤2000:=by simp;omega
  rw [hr] at hla hga hll ⊢
  simp only [List.cons_append] at hla hga hll ⊢
  simp only [goodB,hla,hga,h8,decide_eq_true hll]
  rfl
 ·rename_i hc
  rw [hr] at hg hlen hc ⊢
  have h2:(n0::r).length≤2000:=by omega
  simp only [goodB,hg,h8,decide_eq_true h2]
  simp
  omega
theorem y4zl:(makeN pc l).all opOk=true:=by
 unfold makeN
 split
 ·rfl
 split
 ·rw [List.all_append,ytty];rfl
 ·exact ytty _
theorem yxhi:(makeN pc l).length≤12*l.length+2:=by
 have hlen:=yev3 l pc l.length
 unfold makeN
 split
 ·simp
 split
 ·simp;omega
 ·omega
end
end Go.Proofs.YtnckimioabkheaaGreat
set_option linter.unusedSimpArgs false
set_option linter.unusedVariables false
set_option maxRecDepth 100000
namespace Go.Proofs.YtnckimioabkheaaGreat
open AM
theorem fld5 {w f:Int}:0≤yz4y w f 5∧yz4y w f 5≤31:=by
 unfold yz4y
 have e:(IntKind.u32.wrap (IntKind.u32.wrap (2^min (5:Int).toNat IntKind.u32.bits)-1)%2^IntKind.u32.bits).toNat=31:=by decide
 rw [e]
 generalize (w.fdiv (2^min f.toNat IntKind.u32.bits)%2^IntKind.u32.bits).toNat=x
 have h:=@Nat.and_le_right x 31
 generalize x &&& 31=y at *
 rw [w_u32 (by omega) (by omega),w_i64 (by omega) (by omega)]
 omega
theorem yyhv (w:Int):InsOk (y1j0 w,y41m w,ydwe w,ybta w,y31p w):=by
 have h1:=fld5 (w:=w) (f:=7)
 have h2:=fld5 (w:=w) (f:=15)
 have h3:=fld5 (w:=w) (f:=20)
 refine ⟨?_,?_,?_⟩
 ·show 0≤y41m w∧y41m w≤31
  unfold y41m
  repeat' split
  all_goals omega
 ·show 0≤ydwe w∧ydwe w≤31
  unfold ydwe
  repeat' split
  all_goals omega
 ·show 0≤ybta w∧ybta w≤31
  unfold ybta
  repeat' split
  all_goals omega
theorem ys3r {μ:MS} {pc:Int}:InsOk (ysel μ pc).1:=by
 unfold ysel
 split
 ·exact ⟨by simp,by simp,by simp⟩
 split
 ·exact ⟨by simp,by simp,by simp⟩
 ·exact yyhv _
theorem yqx3 {μ:MS} {pc most:Int}:∀{f:Nat} {a:Int} {l:List Ins},(∀ i∈l,InsOk i)→∀i∈(findL μ pc most f a l).1,InsOk i
 | 0,a,l,h=>h
 | f+1,a,l,h=>by
   have ha:∀i∈l++[(ysel μ a).1],InsOk i:=fun i hi=>by
    rcases List.mem_append.1 hi with hi | hi
    ·exact h i hi
    ·rw [List.mem_singleton.1 hi];exact ys3r
   rw [findL]
   split
   ·split
    ·split
     ·intro i hi;simp at hi
     ·exact h
    ·split
     ·exact ha
     ·exact yqx3 ha
   ·exact h
theorem ynht {μ:MS} {pc most:Int}:∀{f:Nat} {a:Int} {l:List Ins},(l.length:Int)≤most→((findL μ pc most f a l).1.length:Int)≤most
 | 0,a,l,h=>h
 | f+1,a,l,h=>by
   rw [findL]
   split
   ·rename_i hc
    have h2:((l++[(ysel μ a).1]).length:Int)≤most:=by simp;omega
    split
    ·split
     ·simp;omega
     ·exact h
    ·split
     ·exact h2
     ·exact ynht h2
   ·exact h
theorem yvnf {μ:MS} {pc most:Int}:∀{f:Nat} {a:Int} {l:List Ins},l≠[]→(findL μ pc most f a l).1≠[]∧(findL μ pc most f a l).2=(0,0,0)
 | 0,a,l,h=>⟨h,rfl⟩
 | f+1,a,l,h=>by
   rw [findL]
   split
   ·split
    ·exact ⟨h,rfl⟩
    ·split
     ·exact ⟨by simp,rfl⟩
     ·exact yvnf (by simp)
   ·exact ⟨h,rfl⟩
theorem yy6p {μ:MS} {pc most:Int}:((findF μ pc most).1≠[]∧(findF μ pc most).2=(0,0,0))∨((findF μ pc most).1=[]∧(findF μ pc most).2.1≠0):=by
 unfold findF
 rw [findL]
 rw [if_pos (by constructor;simp;omega;rfl)]
 split
 ·rename_i hc
  rw [if_pos rfl]
  exact .inr ⟨rfl,hc⟩
 ·split
  ·exact .inl ⟨by simp,rfl⟩
  ·exact .inl (yvnf (by simp))
theorem yyem {μ:MS} {pc most:Int}:∀i∈(findF μ pc most).1,InsOk i:=yqx3 (by simp)
theorem yifi {μ:MS} {pc most:Int}:(findF μ pc most).1.length≤64:=by
 have:=ynht (μ:=μ) (pc:=pc) (most:=min (max most 1) 64) (f:=65) (a:=pc) (l:=[]) (by simp;omega)
 unfold findF
 omega
end Go.Proofs.YtnckimioabkheaaGreat
set_option linter.unusedSimpArgs false
set_option linter.unusedVariables false
set_option maxRecDepth 100000
set_option maxHeartbeats 4000000
namespace Go.Proofs.YtnckimioabkheaaGreat
open AM
section
variable {h:H} {K:K1}
theorem yd3h {h:H} {cs:List Value} {E:TypeId} {m:AM.Own} {K:Nat→H→Prop} {u:Dm K} (hk:∀b h',2≤b→h b=none→Sub h h'→h' b=some (.cells cs E m)→K b h'):u_new cs E m h K u :=
 fun b h2 hb=>hk b _ h2 hb (Sub.new hb) (yy0e _ _ _)
theorem yvpm:∀{vs cs:List Value} {o:Nat},o+vs.length=cs.length→setL cs o vs=cs.take o++vs
 | [],cs,o,h=>by
   simp at h
   simp [setL,h]
 | v::vs,cs,o,h=>by
   simp only [List.length_cons] at h
   rw [setL,yvpm (by simp;omega)]
   rw [List.take_succ_eq_append_getElem (by simp;omega),List.take_set,List.set_eq_of_length_le (by simp;omega)]
   simp
theorem y24r {vs cs:List Value} (h:vs.length=cs.length):setL cs 0 vs=vs:=by rw [yvpm (by omega)];simp
theorem y1nc {h0 h:H} {b n:Nat} {cs:List Value} {E:TypeId} {m:AM.Own} {v:Value} {K:H→Prop} {u:Dm K} (hs:Sub h0 h) (h0b:h0 b=none) (hb:h b=some (.cells cs E m)) (hm:m≠.ro) (hbx:boxV v=true) (hn:v.cells.size=n) (hl:cs.length=n)
 (hk:∀h',Sub h0 h'→h' b=some (.cells v.cells.toList E m)→(∀ c,c≠b→h' c=h c)→K h'):ylel n (.pointer (some ⟨b,0,none⟩)) v h K u:=by
 rw [ykdp,hb]
 refine ⟨hm,hbx,hn,by omega,?_⟩
 rw [y24r (by simp [hn,hl])]
 exact hk _ (Sub.upd hs h0b) (yy0e _ _ _) fun c hc=>yrkk _ _ hc
@[simp] theorem yxdi {a:Option Addr} {K:Value→Prop} {u:Dm K}:u_bin PG .eql ygd0 (.pointer a) (.pointer none) K u=K (.bool a.isNone):=by
  cases a <;> kernel_rfl
theorem yfs3 {v:Value} {l:List Nd} (hs:Sl Nd.cells 5 h v l) (hlen:l.length≤1000000) (hk:K (.bool (goodB l)) h):AM.Spec PG yym2 [v] h K:=yo6a hs (by omega) hk
end
end Go.Proofs.YtnckimioabkheaaGreat
set_option linter.unusedSimpArgs false
set_option linter.unusedVariables false
set_option maxRecDepth 100000
set_option maxHeartbeats 4000000
namespace Go.Proofs.YtnckimioabkheaaGreat
open AM
structure XC where
 m:Value
 fuel:Int
 stop:Bool
 page:Int
 gen:Int
 n:List Int
 l:List Value
 over:Bool
 e:List Value
def XC.cells (c:XC):List Value:=[c.m,.int .i64 c.fuel,.bool c.stop,.int .u32 c.page,.int .u32 c.gen]++(c.n.map (.int .u32)++(c.l++(.bool c.over::c.e)))
structure XC.Ok (c:XC):Prop where
 n:c.n.length=256
 l:c.l.length=1024
 e:c.e.length=5
section
variable {c:XC}
theorem XC.len (h:c.Ok):c.cells.length=1291:=by
 have h1:=h.n
 have h2:=h.l
 have h3:=h.e
 simp [XC.cells,h1,h2,h3]
theorem XC.drop1285 (h:c.Ok):c.cells.drop 1285=.bool c.over::c.e:=by
 have h1:=h.n
 have h2:=h.l
 unfold XC.cells
 rw [← List.append_assoc,←List.append_assoc]
 exact List.drop_left' (by simp [h1,h2])
theorem XC.at_0:c.cells[0]?=some c.m:=rfl
theorem XC.at_1:c.cells[1]?=some (.int .i64 c.fuel):=rfl
theorem XC.at_3:c.cells[3]?=some (.int .u32 c.page):=rfl
theorem XC.at_4:c.cells[4]?=some (.int .u32 c.gen):=rfl
theorem XC.at_over (h:c.Ok):c.cells[1285]?=some (.bool c.over):=by
 have:=List.getElem?_drop (xs:=c.cells) (i:=1285) (j:=0)
 rw [XC.drop1285 h] at this
 exact this.symm
theorem XC.set_over (h:c.Ok) {b:Bool}:c.cells.set 1285 (.bool b)={ c with over:=b }.cells:=by
 have h1:=h.n
 have h2:=h.l
 unfold XC.cells
 rw [yavo (by simp),yavo (by simp [h1]),yavo (by simp [h1,h2])]
 simp [h1,h2]
theorem XC.set_e (h:c.Ok) {e:List Value} (he:e.length=5):setL c.cells 1286 e={ c with e:=e }.cells:=by
 have h1:=h.n
 have h2:=h.l
 rw [yvpm (by rw [XC.len h];omega)]
 unfold XC.cells
 rw [List.take_append,List.take_append,List.take_append,List.take_of_length_le (by simp),List.take_of_length_le (by simp [h1]),List.take_of_length_le (by simp [h1,h2])]
 simp [h1,h2]
end
theorem MemAt.over {h:H} {D:MD} {μ:MS} (hm:MemAt D h μ) {b:Nat} {q:AObj} (hb:¬MOwn D μ b):MemAt D (upd h b q) μ:=by
 have e:∀c,MOwn D μ c→upd h b q c=h c:=fun c hc=>yrkk _ _ fun he=>hb (he▸hc)
 refine ⟨?_,?_,?_,?_⟩
 ·rw [e _ (.inl rfl)];exact hm.q
 ·obtain ⟨ck,hh⟩:=hm.pm
  exact ⟨ck,by rw [e _ (.inr (.inl rfl))];exact hh⟩
 ·obtain ⟨ck,hh⟩:=hm.gm
  exact ⟨ck,by rw [e _ (.inr (.inr (.inl rfl)))];exact hh⟩
 ·intro p hp
  rw [e _ (.inr (.inr (.inr ⟨p,hp,rfl⟩)))];exact hm.pg p hp
section
variable {h:H} {K:K1}
theorem y9kg {b:Nat} {nd:Nd} (ho:¬(1≤nd.op∧nd.op≤5)) (hk:∀h',Sub h h'→K (.bool false) h'):AM.Spec PG yinw [ptr b 0,.agg nd.cells.toArray] h K:=by
 refine yqpf _ _ _ _ ?_
 unfold yxl5 yglw
 refine ⟨rfl,yd3h fun b3 h1 _ _ s1 c1=>?_⟩
 have o1:¬nd.op=1:=by omega
 have o2:¬nd.op=2:=by omega
 have o3:¬nd.op=3:=by omega
 have o4:¬nd.op=4:=by omega
 have o5:¬nd.op=5:=by omega
 simp (config:={dsimp:=false}) [↓yimd,↓ycji,↓yxmw,↓yqpa,↓yrks,↓yqb7,↓ye2q,↓yqtx,↓ygh1,↓y8tj,↓yw2y,↓y2gx,↓y7j1,↓yo2m,yb3e c1,Nd.cells,o1,o2,o3,o4,o5]
 exact hk h1 s1
theorem y0ok {b:Nat} {nd:Nd} (ho:¬(14≤nd.op∧nd.op≤19)) (hk:∀h',Sub h h'→K (.bool false) h'):AM.Spec PG yebn [ptr b 0,.agg nd.cells.toArray] h K:=by
 refine yfrs _ _ _ _ ?_
 unfold yy26 yyr6
 refine ⟨rfl,yd3h fun b3 h1 _ _ s1 c1=>?_⟩
 have o1:¬nd.op=14:=by omega
 have o2:¬nd.op=15:=by omega
 have o3:¬nd.op=16:=by omega
 have o4:¬nd.op=17:=by omega
 have o5:¬nd.op=19:=by omega
 simp (config:={dsimp:=false}) [↓yckj,↓y2ez,↓y8ky,↓ytpj,↓yk4v,↓yfjm,↓yj9p,↓ydbx,↓y9bv,↓y56s,↓yv0x,↓ynoo,↓yrzr,↓ybkv,yb3e c1,Nd.cells,o1,o2,o3,o4,o5]
 exact hk h1 s1
def endC (k pc f s:Int) (d:Bool):List Value:=[.int .i64 k,.int .u32 pc,.int .i64 f,.int .i64 s,.bool d]
theorem gS_ff {α:Type} {z:α} {op:(α→H→Prop)→Prop} {K:α→H→Prop} {u:Dm (Value.bool false,(op,K))}:y498 z (.bool false) false op K h u=op K:=rfl
theorem y1rg {b i:Nat} {cs:List Value} {E:TypeId} {m:AM.Own} {v:Value} (hb:h b=some (.cells cs E m)) (hv:cs[i]?=some v) {K:Value→Prop} {u:Dm K}:ybqh false 1 (.pointer (some ⟨b,i,none⟩)) h K u=K v:=by
 simp [yb3e hb,hv]
theorem load5 {b:Nat} {k pc f s:Int} {d:Bool} {E:TypeId} {m:AM.Own} {K:Value→Prop} {u:Dm K} (hb:h b=some (.cells (endC k pc f s d) E m)):ybqh true 5 (.pointer (some ⟨b,0,none⟩)) h K u=K (.agg (endC k pc f s d).toArray):=by
 simp [yzql hb,endC]
theorem y5jy {br:Nat} {X:XC} {m:AM.Own} {k pc f s:Int} {d:Bool} (hb:h br=some (.cells X.cells ysiy m)) (hm:m≠.ro) (ho:X.Ok)
 (hk:∀h',h' br=some (.cells ({ X with over:=true,e:=endC k pc f s d }:XC).cells ysiy m)→Fr (· = br) h h'→K (.tuple #[]) h'):AM.Spec PG yfrg [ptr br 0,.agg (endC k pc f s d).toArray] h K:=by
 refine ym9s _ _ _ _ ?_
 unfold ypv2 ymow
 refine ⟨rfl,yd3h fun b3 h1 _ hb3 s1 c1=>?_⟩
 have hb1:=s1 _ _ hb
 have hlen:=XC.len ho
 have ne:b3≠br:=fun e=>by rw [e,hb] at hb3;cases hb3
 have ho2:({ X with over:=true }:XC).Ok:=⟨ho.n,ho.l,ho.e⟩
 have st1:∀(K:H→Prop) (u:Dm K),ylel 1 (.pointer (some ⟨br,1285,none⟩)) (.bool true) h1 K u=K (upd h1 br (.cells ({ X with over:=true }:XC).cells ysiy m)):=fun K u =>
  ypi4 hb1 hm rfl rfl (by omega) (XC.set_over ho)
 have c2:upd h1 br (.cells ({ X with over:=true }:XC).cells ysiy m) b3=some (.cells (endC k pc f s d) yqha .exact):=(yrkk _ _ ne).trans c1
 have hb2:=yy0e h1 br (.cells ({ X with over:=true }:XC).cells ysiy m)
 have hlen2:=XC.len ho2
 have fin:∀(K:H→Prop) (u:Dm K),K (upd h1 br (.cells ({ X with over:=true,e:=endC k pc f s d }:XC).cells ysiy m))→u_st 5 1286 (.pointer (some ⟨br,0,none⟩)) (.agg (endC k pc f s d).toArray) (upd h1 br (.cells ({ X with over:=true }:XC).cells ysiy m)) K u:=fun K u hK=>by
  rw [s_st,ykdp,hb2]
  refine ⟨hm,rfl,rfl,by omega,?_⟩
  rw [show (Value.agg (endC k pc f s d).toArray).cells.toList=endC k pc f s d from rfl]
  simp only [Nat.zero_add]
  rw [XC.set_e ho2 rfl,ydx1]
  exact hK
 have hfr:Fr (· = br) h (upd h1 br (.cells ({ X with over:=true,e:=endC k pc f s d }:XC).cells ysiy m)):=fun c o hc hh=>(yrkk _ _ hc).trans (s1 _ _ hh)
 have hK:=hk _ (yy0e _ _ _) hfr
 have c1':h1 b3=some (.cells (endC k pc f s d) yqha .exact):=c1
 unfold yor2
 simp (config:={dsimp:=false}) only [s_nil,s_fa,Nat.zero_add]
 refine ⟨?_,?_⟩
 ·rw [load5 c1',st1]
  exact fin _ .mk hK
 ·rw [st1,load5 c2]
  exact fin _ .mk hK
theorem y7tq {br:Nat} {X:XC} {m:AM.Own} {k pc f:Int} (hb:h br=some (.cells X.cells ysiy m)) (hm:m≠.ro) (ho:X.Ok)
 (hk:∀h',h' br=some (.cells ({ X with over:=true,e:=endC k pc f 0 false }:XC).cells ysiy m)→Fr (· = br) h h'→K (.tuple #[]) h'):AM.Spec PG yhb9 [ptr br 0,.int .i64 k,.int .u32 pc,.int .i64 f] h K:=by
 refine yb17 _ _ _ _ _ _ ?_
 simp (config:={dsimp:=false}) [↓y6it,↓yswl]
 refine ⟨rfl,y5jy hb hm ho fun h' a b=>?_⟩
 exact hk h' a b
theorem yjsz {br bm:Nat} {X:XC} {C:MC} {m m':AM.Own} {nd:Nd} (hb:h br=some (.cells X.cells ysiy m)) (hm:m≠.ro) (ho:X.Ok) (hX:X.m=ptr bm 0) (hc:h bm=some (.cells C.cells ynne m')) (hC:C.Ok) (hop:nd.op=13) (hv:0≤nd.v∧nd.v<4294967296)
 (hk:∀h',h' br=some (.cells ({ X with over:=true,e:=endC nd.v C.pc 0 0 false }:XC).cells ysiy m)→Fr (· = br) h h'→K (.tuple #[]) h'):AM.Spec PG yduv [ptr br 0,.agg nd.cells.toArray] h K:=by
 refine ynag _ _ _ _ ?_
 unfold ywmd yr0i
 refine ⟨rfl,yd3h fun b3 h1 _ hb3 s1 c1=>?_⟩
 have hb1:=s1 _ _ hb
 have hc1:=s1 _ _ hc
 have x0:X.cells[0]?=some (ptr bm 0):=by rw [XC.at_0,hX]
 have w1:IntKind.i64.wrap nd.v=nd.v:=w_i64 (by omega) (by omega)
 have p0:=MC.at_pc hC
 simp (config:={dsimp:=false}) [↓yv8f,↓ys7a,↓yw2v,↓y024,↓yqh2,↓yiaa,↓yqun,↓ylxu,↓ybtx,↓yrkp,yb3e c1,Nd.cells,hop,yb3e hb1,x0,yb3e hc1,p0,w1]
 refine ⟨rfl,y7tq hb1 hm ho fun h2 b2 f2=>?_⟩
 exact hk h2 b2 fun c o hc hh=>f2 _ _ hc (s1 _ _ hh)
theorem y50k {br bm:Nat} {X:XC} {C:MC} {D:MD} {μ:MS} {m m':AM.Own} {nd:Nd} (hb:h br=some (.cells X.cells ysiy m)) (hX:X.m=ptr bm 0) (hc:h bm=some (.cells C.cells ynne m')) (hm:m'≠.ro) (hC:C.Ok) (hq:C.q=ptr D.q 0) (hmem:MemAt D h μ)
 (hret:C.ret<X.fuel) (hgen:(fnd (yovn X.page) μ.gens).getD 0=X.gen)
 (hk:∀h',h' bm=some (.cells ({ C with pc:=nd.v }:MC).cells ynne m')→Fr (· = bm) h h'→K (.tuple #[]) h'):AM.Spec PG ys9t [ptr br 0,.agg nd.cells.toArray] h K:=by
 refine ydx0 _ _ _ _ ?_
 unfold ylyv ydv2
 refine ⟨rfl,yd3h fun b3 h1 _ hb3 s1 c1=>?_⟩
 have hb1:=s1 _ _ hb
 have hc1:=s1 _ _ hc
 have x0:X.cells[0]?=some (ptr bm 0):=by rw [XC.at_0,hX]
 have hmem1:MemAt D h1 μ:=hmem.sub s1
 have nbr:br≠bm:=fun e=>by rw [e,hc] at hb;simp only [Option.some.injEq,AObj.cells.injEq] at hb;exact absurd hb.2.1 (by decide)
 have hlen:=MC.len hC
 have stq:∀(K:H→Prop) (u:Dm K),u_st 1 32 (.pointer (some ⟨bm,2,none⟩)) (.int .u32 nd.v) h1 K u=K (upd h1 bm (.cells ({ C with pc:=nd.v }:MC).cells ynne m')):=fun K u=>by
  rw [s_st];exact ypi4 hc1 hm rfl rfl (by omega) (MC.set_pc hC)
 simp (config:={dsimp:=false}) [↓y1wr,↓y8zn,yb3e c1,Nd.cells,yb3e hb1,x0,stq]
 have hb2:=(yrkk h1 (.cells ({ C with pc:=nd.v }:MC).cells ynne m') nbr).trans hb1
 have hc2:=yy0e h1 bm (.cells ({ C with pc:=nd.v }:MC).cells ynne m')
 have hmem2:MemAt D (upd h1 bm (.cells ({ C with pc:=nd.v }:MC).cells ynne m')) μ:=hmem1.over (hmem1.other hc1 (by decide) (by decide))
 have hfr:Fr (· = bm) h (upd h1 bm (.cells ({ C with pc:=nd.v }:MC).cells ynne m')):=fun c o hcc hh=>(yrkk _ _ hcc).trans (s1 _ _ hh)
 have hK:=hk _ hc2 hfr
 generalize upd h1 bm _=h2 at *
 have hC2:({ C with pc:=nd.v }:MC).Ok:=⟨hC.x,hC.t⟩
 have r0:=MC.at_ret hC2
 have q0:({ C with pc:=nd.v }:MC).cells[0]?=some (ptr D.q 0):=by rw [MC.at_0,←hq]
 have x1:=XC.at_1 (c:=X)
 have x3:=XC.at_3 (c:=X)
 have x4:=XC.at_4 (c:=X)
 have c4:¬X.fuel≤C.ret:=by omega
 simp (config:={dsimp:=false}) [↓yk6l,↓y1fv,yb3e hb2,yb3e hc2,x0,x1,x3,x4,r0,q0,c4]
 have d4:decide (X.fuel≤C.ret)=false:=decide_eq_false c4
 rw [d4,gS_ff]
 simp (config:={dsimp:=false}) only [↓s_gff,s_pf,s_nil,s_fa,y1rg hb2 x0,y1rg hc2 q0,y1rg hb2 x3,y1rg hb2 x4,Nat.zero_add,Nat.add_zero]
 refine ⟨⟨rfl,ycvw hmem2 ?_⟩,⟨rfl,ycvw hmem2 ?_⟩⟩
 ·rw [hgen]
  simp (config:={dsimp:=false}) [↓yx3d]
  exact hK
 ·rw [hgen]
  simp (config:={dsimp:=false}) [↓yx3d,yb3e hb2,x4]
  exact hK
theorem yb0k {br bm:Nat} {X:XC} {C:MC} {D:MD} {μ:MS} {m m':AM.Own} {nd:Nd} (hop:nd.op=8) (hb:h br=some (.cells X.cells ysiy m)) (hX:X.m=ptr bm 0) (hc:h bm=some (.cells C.cells ynne m')) (hm:m'≠.ro) (hC:C.Ok) (hq:C.q=ptr D.q 0) (hmem:MemAt D h μ)
 (hret:C.ret<X.fuel) (hgen:(fnd (yovn X.page) μ.gens).getD 0=X.gen)
 (hk:∀h',h' bm=some (.cells ({ C with pc:=nd.v }:MC).cells ynne m')→Fr (· = bm) h h'→K (.tuple #[]) h'):AM.Spec PG yo19 [ptr br 0,.agg nd.cells.toArray] h K:=by
 refine ymat _ _ _ _ ?_
 unfold yyqe ytdg
 refine ⟨rfl,yd3h fun b3 h1 _ hb3 s1 c1=>?_⟩
 have n1:¬(1≤nd.op∧nd.op≤5):=by omega
 have n2:¬(14≤nd.op∧nd.op≤19):=by omega
 have ld:∀{h':H},Sub h1 h'→∀(K:Value→Prop) (u:Dm K),ybqh true 5 (.pointer (some ⟨b3,0,none⟩)) h' K u=K (.agg nd.cells.toArray):=fun s K u=>by
  have:=s _ _ c1
  simp [yzql this,Nd.cells]
 rw [ld (Sub.refl _)]
 refine ⟨rfl,y9kg n1 fun h2 s2=>?_⟩
 simp (config:={dsimp:=false}) only [↓s_gff]
 rw [ld s2]
 refine ⟨rfl,y0ok n2 fun h3 s3=>?_⟩
 have c3:=(s2.trans s3) _ _ c1
 have op3:nd.cells[0]?=some (.int .i64 8):=by rw [← hop];rfl
 have c3':h3 b3=some (.cells nd.cells yq0s .exact):=c3
 have s03:=s1.trans (s2.trans s3)
 have hcs:cellsAt h3 b3 0 5=some nd.cells:=by rw [yzql c3'];rfl
 simp (config:={dsimp:=false}) [yb3e c3',op3,hcs]
 refine ⟨rfl,y50k (s03 _ _ hb) hX (s03 _ _ hc) hm hC hq (hmem.sub s03) hret hgen fun h4 e4 f4=>?_⟩
 exact hk h4 e4 fun c o hcc hh=>f4 _ _ hcc (s03 _ _ hh)
theorem ytf9 {br bm:Nat} {X:XC} {C:MC} {m m':AM.Own} {nd:Nd} (hop:nd.op=13) (hv:0≤nd.v∧nd.v<4294967296) (hb:h br=some (.cells X.cells ysiy m)) (hm:m≠.ro) (ho:X.Ok) (hX:X.m=ptr bm 0) (hc:h bm=some (.cells C.cells ynne m')) (hC:C.Ok)
 (hk:∀h',h' br=some (.cells ({ X with over:=true,e:=endC nd.v C.pc 0 0 false }:XC).cells ysiy m)→Fr (· = br) h h'→K (.tuple #[]) h'):AM.Spec PG yo19 [ptr br 0,.agg nd.cells.toArray] h K:=by
 refine ymat _ _ _ _ ?_
 unfold yyqe ytdg
 refine ⟨rfl,yd3h fun b3 h1 _ hb3 s1 c1=>?_⟩
 have n1:¬(1≤nd.op∧nd.op≤5):=by omega
 have n2:¬(14≤nd.op∧nd.op≤19):=by omega
 have ld:∀{h':H},Sub h1 h'→∀(K:Value→Prop) (u:Dm K),ybqh true 5 (.pointer (some ⟨b3,0,none⟩)) h' K u=K (.agg nd.cells.toArray):=fun s K u=>by
  have:=s _ _ c1
  simp [yzql this,Nd.cells]
 rw [ld (Sub.refl _)]
 refine ⟨rfl,y9kg n1 fun h2 s2=>?_⟩
 simp (config:={dsimp:=false}) only [↓s_gff]
 rw [ld s2]
 refine ⟨rfl,y0ok n2 fun h3 s3=>?_⟩
 have c3:=(s2.trans s3) _ _ c1
 have op3:nd.cells[0]?=some (.int .i64 13):=by rw [← hop];rfl
 have c3':h3 b3=some (.cells nd.cells yq0s .exact):=c3
 have s03:=s1.trans (s2.trans s3)
 have hcs:cellsAt h3 b3 0 5=some nd.cells:=by rw [yzql c3'];rfl
 simp (config:={dsimp:=false}) [yb3e c3',op3,hcs]
 refine ⟨rfl,yjsz (s03 _ _ hb) hm ho hX (s03 _ _ hc) hC hop hv fun h4 e4 f4=>?_⟩
 exact hk h4 e4 fun c o hcc hh=>f4 _ _ hcc (s03 _ _ hh)
end
end Go.Proofs.YtnckimioabkheaaGreat
set_option linter.unusedSimpArgs false
set_option linter.unusedVariables false
set_option maxRecDepth 100000
set_option maxHeartbeats 4000000
namespace Go.Proofs.YtnckimioabkheaaGreat
open AM
def xc0 (m:Option Addr) (fuel:Int) (stop:Bool) (page gen:Int):XC:=⟨.pointer m,fuel,stop,page,gen,zeros 256,List.replicate 1024 (.int .u8 0),false,endC 0 0 0 0 false⟩
theorem ymyj {a0:Option Addr} {a1 a3 a4:Int} {a2:Bool} {K:Value→Prop} {u:Dm K}:ysnr PG ysiy [(0,.pointer a0),(1,.int .i64 a1),(2,.bool a2),(3,.int .u32 a3),(4,.int .u32 a4)] K u=K (.agg (xc0 a0 a1 a2 a3 a4).cells.toArray):=by kernel_rfl
theorem yjs8 {a0:Option Addr} {a1 a3 a4:Int} {a2:Bool}:boxV (.agg (xc0 a0 a1 a2 a3 a4).cells.toArray)=true:=by kernel_rfl
theorem yuk8 {a0:Option Addr} {a1 a3 a4:Int} {a2:Bool}:(Value.agg (xc0 a0 a1 a2 a3 a4).cells.toArray).cells.toList=(xc0 a0 a1 a2 a3 a4).cells:=by kernel_rfl
theorem ynae {α:Type} {enc:α→List Value} {sz:Nat} {h:H} {v:Value} {l:List α} (hs:Sl enc sz h v l) {i:Nat} (hi:i<l.length):∃b o,(∀ (k:IntKind) (K:Value→Prop) (u:Dm K),yji6 none sz v (.int k i) K u=K (.pointer (some ⟨b,o,none⟩)))∧cellsAt h b o sz=some (enc l[i]):=by
 obtain ⟨b,o,h1,h2⟩:=hs.at hi
 exact ⟨b,o,fun k K u=>h1 k K,h2⟩
theorem MemAt.fr {h h':H} {D:MD} {μ:MS} {b:Nat} (hm:MemAt D h μ) (hf:Fr (· = b) h h') (hb:¬MOwn D μ b):MemAt D h' μ:=by
 have e:∀c,MOwn D μ c→c≠b:=fun c hc he=>hb (he▸hc)
 obtain ⟨c1,h1⟩:=hm.pm
 obtain ⟨c2,h2⟩:=hm.gm
 exact ⟨hf _ _ (e _ (.inl rfl)) hm.q,⟨c1,hf _ _ (e _ (.inr (.inl rfl))) h1⟩,⟨c2,hf _ _ (e _ (.inr (.inr (.inl rfl)))) h2⟩,fun p hp=>hf _ _ (e _ (.inr (.inr (.inr ⟨p,hp,rfl⟩)))) (hm.pg p hp)⟩
theorem yfv7 {α:Type} {enc:α→List Value} {sz:Nat} {e:TypeId} {g h h':H} {v:Value} {l:List α} (hg:Gr enc sz e g h v l) (hs:∀c cs,h c=some (.cells cs e .open)→h' c=some (.cells cs e .open)):Gr enc sz e g h' v l :=
 hg.keep fun b hb=>(hs _ _ (hg.isOpen hb)).trans (hg.isOpen hb).symm
section
variable {h:H} {K:K1}
theorem y2bf {b o n:Nat} {l:List Value} {K:Value→Prop} {u:Dm K} (hc:cellsAt h b o n=some l):ybqh true n (.pointer (some ⟨b,o,none⟩)) h K u=K (.agg l.toArray):=by
 simp [hc]
theorem ykeu {b:Nat} {nd:Nd} {E:TypeId} {m:AM.Own} {K:Value→Prop} {u:Dm K} (hb:h b=some (.cells (Value.agg nd.cells.toArray).cells.toList E m)):ybqh true 5 (.pointer (some ⟨b,0,none⟩)) h K u=K (.agg nd.cells.toArray):=by
 have hb':h b=some (.cells nd.cells E m):=hb
 simp [yzql hb',Nd.cells]
end
end Go.Proofs.YtnckimioabkheaaGreat
set_option linter.unusedSimpArgs false
set_option linter.unusedVariables false
set_option maxRecDepth 100000
set_option maxHeartbeats 4000000
namespace Go.Proofs.YtnckimioabkheaaGreat
open AM
section
variable {c:XC}
theorem XC.at_n (h:c.Ok) {i:Nat} (hi:i<256):c.cells[5+i]?=some (.int .u32 (c.n.getD i 0)):=by
 have h1:=h.n
 have hx:i<c.n.length:=by omega
 unfold XC.cells
 rw [List.getElem?_append_right (by simp),List.getElem?_append_left (by simp;omega)]
 simp [hx,List.getD_eq_getElem?_getD]
theorem XC.set_n (h:c.Ok) {i:Nat} (hi:i<256) {v:Int}:c.cells.set (5+i) (.int .u32 v)={ c with n:=c.n.set i v }.cells:=by
 have h1:=h.n
 unfold XC.cells
 rw [yavo (by simp),yeps (by simp;omega)]
 simp only [List.length_cons,List.length_nil,List.map_set]
 rw [show 5+i-(0+1+1+1+1+1)=i by omega]
theorem XC.drop261 (h:c.Ok):c.cells.drop 261=c.l++(.bool c.over::c.e):=by
 have h1:=h.n
 unfold XC.cells
 rw [← List.append_assoc]
 exact List.drop_left' (by simp [h1])
theorem XC.at_l (h:c.Ok) {i:Nat} (hi:i<256):(c.cells.drop (261+4*i)).take 4=(c.l.drop (4*i)).take 4:=by
 have h1:=h.l
 rw [← List.drop_drop,XC.drop261 h,List.drop_append_of_le_length (by omega),List.take_append_of_le_length (by simp;omega)]
theorem XC.set_l (h:c.Ok) {i:Nat} (hi:i<256) {vs:List Value} (hv:vs.length=4):setL c.cells (261+4*i) vs={ c with l:=setL c.l (4*i) vs }.cells:=by
 have h1:=h.n
 have h2:=h.l
 have e:c.cells=([c.m,.int .i64 c.fuel,.bool c.stop,.int .u32 c.page,.int .u32 c.gen]++c.n.map (.int .u32))++(c.l++(.bool c.over::c.e)):=by unfold XC.cells;rw [List.append_assoc]
 rw [e]
 have hl:([c.m,.int .i64 c.fuel,.bool c.stop,.int .u32 c.page,.int .u32 c.gen]++c.n.map (Value.int .u32)).length=261:=by simp [h1]
 have:=y5p0 (vs:=vs) (p:=[c.m,.int .i64 c.fuel,.bool c.stop,.int .u32 c.page,.int .u32 c.gen]++c.n.map (Value.int .u32)) (cs:=c.l++(.bool c.over::c.e)) (o:=4*i)
 rw [hl] at this
 rw [this,y8q6 (by omega)]
 simp [XC.cells]
theorem XC.Ok.n_ (h:c.Ok) {i:Nat} {v:Int}:({ c with n:=c.n.set i v }:XC).Ok:=⟨by simp [h.n],h.l,h.e⟩
end
section
variable {h:H} {K:K1}
def tg4 (a b c d:Int):List Value:=[.int .u8 a,.int .u8 b,.int .u8 c,.int .u8 d]
theorem yyzu {br i:Nat} {X:XC} {m:AM.Own} {v:Int} (hb:h br=some (.cells X.cells ysiy m)) (hm:m≠.ro) (ho:X.Ok) (hi:i<256) {K:H→Prop} {u:Dm K} :
 ylel 1 (.pointer (some ⟨br,5+i,none⟩)) (.int .u32 v) h K u=K (upd h br (.cells ({ X with n:=X.n.set i v }:XC).cells ysiy m)) :=
 ypi4 hb hm rfl rfl (by have:=XC.len ho;omega) (XC.set_n ho hi)
theorem y8qt {br i:Nat} {X:XC} {m:AM.Own} {a b c d:Int} (hb:h br=some (.cells X.cells ysiy m)) (hm:m≠.ro) (ho:X.Ok) (hi:i<256) {K:H→Prop} {u:Dm K} :
 ylel 4 (.pointer (some ⟨br,261+i*4,none⟩)) (.agg (tg4 a b c d).toArray) h K u=K (upd h br (.cells ({ X with l:=setL X.l (4*i) (tg4 a b c d) }:XC).cells ysiy m)):=by
 have hlen:=XC.len ho
 rw [ykdp,hb]
 simp only
 have e1:boxV (.agg (tg4 a b c d).toArray)=true:=rfl
 have e2:(Value.agg (tg4 a b c d).toArray).cells.size=4:=rfl
 have e3:(Value.agg (tg4 a b c d).toArray).cells.toList=tg4 a b c d:=rfl
 rw [e1,e2,e3,Nat.mul_comm i 4,XC.set_l ho hi rfl]
 have e4:261+4*i+4≤X.cells.length:=by omega
 simp [hm,e4]
theorem ya5f {br i:Nat} {X:XC} {m:AM.Own} {v:Int} (hb:h br=some (.cells X.cells ysiy m)) (hm:m≠.ro) (ho:X.Ok) (hi:i<256)
 (hk:∀h',h' br=some (.cells ({ X with n:=X.n.set i v,l:=setL X.l (4*i) (tg4 0 0 0 0) }:XC).cells ysiy m)→Fr (· = br) h h'→K (.tuple #[]) h'):AM.Spec PG y6b0 [ptr br 0,.int .i64 i,.int .u32 v] h K:=by
 refine ya77 _ _ _ _ _ ?_
 unfold yjqr yymr
 have hb2:=yy0e h br (.cells ({ X with n:=X.n.set i v }:XC).cells ysiy m)
 have st1:∀(K:H→Prop) (u:Dm K),ylel 1 (.pointer (some ⟨br,5+i,none⟩)) (.int .u32 v) h K u=K (upd h br (.cells ({ X with n:=X.n.set i v }:XC).cells ysiy m)):=fun K u=>yyzu hb hm ho hi
 have st2:∀(K:H→Prop) (u:Dm K),ylel 4 (.pointer (some ⟨br,261+i*4,none⟩)) (.agg #[.int .u8 0,.int .u8 0,.int .u8 0,.int .u8 0]) (upd h br (.cells ({ X with n:=X.n.set i v }:XC).cells ysiy m)) K u=K (upd h br (.cells ({ X with n:=X.n.set i v,l:=setL X.l (4*i) (tg4 0 0 0 0) }:XC).cells ysiy m)):=fun K u=>by
  refine (y8qt (a:=0) (b:=0) (c:=0) (d:=0) hb2 hm ho.n_ hi (K:=K) (u:=u)).trans ?_
  rw [ydx1]
 have hi2:(i:Int)<256:=by omega
 simp (config:={dsimp:=false}) [st1,st2,hi2]
 exact hk _ (yy0e _ _ _) fun c o hc hh=>(yrkk _ _ hc).trans hh
theorem yydo {br bm i:Nat} {X:XC} {C:MC} {m m':AM.Own} (hb:h br=some (.cells X.cells ysiy m)) (hX:X.m=ptr bm 0) (hc:h bm=some (.cells C.cells ynne m')) (hC:C.Ok) (hi:i<32)
 (hk:K (.int .u32 (if i=0 then 0 else C.x.getD i 0)) h):AM.Spec PG yw1c [ptr br 0,.int .u32 i] h K:=by
 refine y6jr _ _ _ _ ?_
 unfold y2c8 y9p9
 have x0:X.cells[0]?=some (ptr bm 0):=by rw [XC.at_0,hX]
 have hi2:(i:Int)<32:=by omega
 have hx:=MC.at_x hC hi
 by_cases h0:i=0
 ·subst h0
  simp (config:={dsimp:=false})
  exact hk
 ·have h1:¬(i:Int)=0:=by omega
  rw [if_neg h0] at hk
  simp (config:={dsimp:=false}) [h1,h0,yb3e hb,x0,yb3e hc,hx,hi2]
  simpa using hk
theorem ix_n {br i:Nat} {X:XC} {m:AM.Own} (hb:h br=some (.cells X.cells ysiy m)) (ho:X.Ok) (hi:i<256) {K:Value→Prop} {u:Dm K} :
 u_ix false 1 (some 256) (.pointer (some ⟨br,5,none⟩)) (.int .i64 i) h K u=K (.int .u32 (X.n.getD i 0)):=by
 have hi2:(i:Int)<256:=by omega
 have hx:=XC.at_n ho hi
 simp (config:={dsimp:=false}) [hi2,yb3e hb,hx]
theorem ydhf {br bm i r:Nat} {X:XC} {C:MC} {m m':AM.Own} {nd:Nd} (hop:nd.op=2) (hto:nd.to=i) (hi:i<256) (hv:nd.v=r) (hr:r<32) (hb:h br=some (.cells X.cells ysiy m)) (hm:m≠.ro) (ho:X.Ok) (hX:X.m=ptr bm 0) (hc:h bm=some (.cells C.cells ynne m')) (hC:C.Ok)
 (hk:∀h',h' br=some (.cells ({ X with n:=X.n.set i (if r=0 then 0 else C.x.getD r 0),l:=setL X.l (4*i) (tg4 0 0 0 0) }:XC).cells ysiy m)→Fr (· = br) h h'→K (.bool true) h'):AM.Spec PG yinw [ptr br 0,.agg nd.cells.toArray] h K:=by
 refine yqpf _ _ _ _ ?_
 unfold yxl5 yglw
 refine ⟨rfl,yd3h fun b3 h1 _ hb3 s1 c1=>?_⟩
 simp (config:={dsimp:=false}) [↓yimd,↓ycji,↓yxmw,↓yqpa,↓yrks,↓yqb7,↓ye2q,↓ylur,yb3e c1,Nd.cells,hop,hto,hv]
 have hb1:=s1 _ _ hb
 have hc1:=s1 _ _ hc
 have fin:∀(h':H),h' br=some (.cells ({ X with n:=X.n.set i (if r=0 then 0 else C.x.getD r 0),l:=setL X.l (4*i) (tg4 0 0 0 0) }:XC).cells ysiy m)→Fr (· = br) h1 h'→yv6f h' K K:=fun h' e2 f2=>by
  simp (config:={dsimp:=false}) [↓yv6f]
  exact hk h' e2 fun c o hc hh=>f2 _ _ hc (s1 _ _ hh)
 refine ⟨⟨rfl,yydo hb1 hX hc1 hC hr ?_⟩,⟨rfl,yydo hb1 hX hc1 hC hr ?_⟩⟩
 ·exact ⟨rfl,ya5f hb1 hm ho hi fun h2 e2 f2=>fin h2 e2 f2⟩
 ·have c1t:h1 b3=some (.cells nd.cells yq0s .exact):=c1
  rw [y1rg c1t (i:=0+1) (v:=.int .i64 i) (by rw [← hto];rfl)]
  exact ⟨rfl,ya5f hb1 hm ho hi fun h2 e2 f2=>fin h2 e2 f2⟩
theorem yukd {br bm a r:Nat} {X:XC} {C:MC} {m m':AM.Own} {nd:Nd} (hop:nd.op=3) (ha:nd.a=a) (hi:a<256) (hv:nd.v=r) (hr:r<32) (hb:h br=some (.cells X.cells ysiy m)) (ho:X.Ok) (hX:X.m=ptr bm 0) (hc:h bm=some (.cells C.cells ynne m')) (hm:m'≠.ro) (hC:C.Ok)
 (hk:∀h',h' bm=some (.cells ({ C with x:=C.x.set r (X.n.getD a 0) }:MC).cells ynne m')→Fr (· = bm) h h'→K (.bool true) h'):AM.Spec PG yinw [ptr br 0,.agg nd.cells.toArray] h K:=by
 refine yqpf _ _ _ _ ?_
 unfold yxl5 yglw
 refine ⟨rfl,yd3h fun b3 h1 _ hb3 s1 c1=>?_⟩
 have hb1:=s1 _ _ hb
 have hc1:=s1 _ _ hc
 have x0:X.cells[0]?=some (ptr bm 0):=by rw [XC.at_0,hX]
 have hx:=XC.at_n ho hi
 have hi2:(a:Int)<256:=by omega
 have hr2:(r:Int)<32:=by omega
 have hlen:=MC.len hC
 have stx:∀(K:H→Prop) (u:Dm K),ylel 1 (.pointer (some ⟨bm,2+r,none⟩)) (.int .u32 (X.n.getD a 0)) h1 K u=K (upd h1 bm (.cells ({ C with x:=C.x.set r (X.n.getD a 0) }:MC).cells ynne m')):=fun K u =>
  ypi4 hc1 hm rfl rfl (by omega) (MC.set_x hC hr)
 simp only [List.getD_eq_getElem?_getD] at hx stx hk
 simp (config:={dsimp:=false}) [↓yimd,↓ycji,↓yxmw,↓yqpa,↓yrks,↓yqb7,↓ye2q,↓yqtx,↓ygh1,↓y74t,↓yv6f,yb3e c1,Nd.cells,hop,ha,hv,yb3e hb1,x0,hx,hi2,hr2,stx]
 exact hk _ (yy0e _ _ _) fun c o hcc hh=>(yrkk _ _ hcc).trans (s1 _ _ hh)
theorem ynnk {br i a b:Nat} {X:XC} {m:AM.Own} {nd:Nd} (hop:nd.op=4) (hto:nd.to=i) (hi:i<256) (hna:nd.a=a) (ha:a<256) (hnb:nd.b=b) (hbb:b<256) (hv:0≤nd.v∧nd.v<4294967296) (hy:0≤X.n.getD b 0∧X.n.getD b 0<4294967296)
 (hb:h br=some (.cells X.cells ysiy m)) (hm:m≠.ro) (ho:X.Ok)
 (hk:∀h',h' br=some (.cells ({ X with n:=X.n.set i (yc81 nd.v (X.n.getD a 0) (X.n.getD b 0)),l:=setL X.l (4*i) (tg4 0 0 0 0) }:XC).cells ysiy m)→Fr (· = br) h h'→K (.bool true) h'):AM.Spec PG yinw [ptr br 0,.agg nd.cells.toArray] h K:=by
 refine yqpf _ _ _ _ ?_
 unfold yxl5 yglw
 refine ⟨rfl,yd3h fun b3 h1 _ hb3 s1 c1=>?_⟩
 have hb1:=s1 _ _ hb
 have ha2:(a:Int)<256:=by omega
 have hb2:(b:Int)<256:=by omega
 have w1:IntKind.i64.wrap nd.v=nd.v:=w_i64 (by omega) (by omega)
 have xa:=XC.at_n ho ha
 have xb:=XC.at_n ho hbb
 simp only [List.getD_eq_getElem?_getD] at xa xb hy hk
 simp (config:={dsimp:=false}) [↓yimd,↓ycji,↓yxmw,↓yqpa,↓yrks,↓yqb7,↓ye2q,↓yqtx,↓ygh1,↓y8tj,↓yw2y,↓y1dj,↓ykct,↓yoba,yb3e c1,Nd.cells,hop,hto,hna,hnb,yb3e hb1,xa,xb,ha2,hb2,w1,hy.1,hy.2,y53y]
 refine ⟨rfl,ya5f hb1 hm ho hi fun h2 e2 f2=>?_⟩
 simp (config:={dsimp:=false}) [↓yv6f]
 exact hk h2 e2 fun c o hc hh=>f2 _ _ hc (s1 _ _ hh)
end
end Go.Proofs.YtnckimioabkheaaGreat
