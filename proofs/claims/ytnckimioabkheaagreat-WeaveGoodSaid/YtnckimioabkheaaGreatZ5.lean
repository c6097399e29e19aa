/-
  Part of a proof: several texts put together, long names shortened.
-/
import Derived.Test.YtnckimioabkheaaGreatZ4
import Derived.Test.YtnckimioabkheaaGreatZ3
import Derived.KernelRfl
import Derived.Test.YtnckimioabkheaaGreatZ2
set_option linter.unusedSimpArgs false
set_option linter.unusedVariables false
namespace Go.Proofs.YtnckimioabkheaaGreat.AM
section
variable {α:Type} {enc:α→List Value} {sz:Nat} {e:TypeId} {h h':H} {v x y:Value} {l m:List α} {b:Option Nat}
def OL (enc:α→List Value) (sz:Nat) (e:TypeId) (h:H) (v:Value) (l:List α) (b:Option Nat):Prop :=
 (∀ x∈l,(enc x).length=sz)∧((l=[]∧b=none∧v=.slice none 0 0) ∨
   ∃c m,b=some c∧2≤c∧v=.slice (some ⟨c,0,none⟩) l.length l.length∧h c=some (.cells (l.flatMap enc) e m)∧m≠.ro)
theorem OL.sl (ho:OL enc sz e h v l b):Sl enc sz h v l:=by
 obtain ⟨hz,⟨rfl,_,rfl⟩ | ⟨c,m,_,_,rfl,hb,_⟩⟩:=ho
 ·exact Sl.nil
 ·refine Sl.of_block hz hb ?_ ?_
  ·rw [List.drop_zero,←yr37 hz,List.take_length]
  ·rw [yr37 hz];omega
theorem OL.none:OL enc sz e h (.slice none 0 0) ([]:List α) none:=⟨fun _ h=>by simp at h,.inl ⟨rfl,rfl,rfl⟩⟩
theorem OL.there (ho:OL enc sz e h v l b) {c:Nat} (hc:b=some c):h c≠Option.none:=by
 obtain ⟨_,⟨_,rfl,_⟩ | ⟨c',m,rfl,_,_,hb,_⟩⟩:=ho
 ·cases hc
 ·cases hc;rw [hb];simp
theorem OL.keep (ho:OL enc sz e h v l b) (hk:∀c,b=some c→h' c=h c):OL enc sz e h' v l b:=by
 obtain ⟨hz,⟨h1,h2,h3⟩ | ⟨c,m,h1,h2,h3,h4,h5⟩⟩:=ho
 ·exact ⟨hz,.inl ⟨h1,h2,h3⟩⟩
 ·exact ⟨hz,.inr ⟨c,m,h1,h2,h3,by rw [hk c h1];exact h4,h5⟩⟩
def ChO (b b':Option Nat) (h h':H):Prop:=(∀ c o,h c=some o→b≠some c→h' c=some o)∧(∀ c,b'=some c→b=some c∨h c=Option.none)
theorem ChO.refl:ChO b b h h:=⟨fun _ _ h _=>h,fun _ h=>.inl h⟩
theorem OL.app {bytes:Nat} {K:K1} (ho:OL enc sz e h v l b) (hx:Sl enc sz h x m) (hsz:0<sz) (hb:(l.length+m.length)*bytes≤140737488355328) (hn:l.length+m.length<9223372036854775808)
 (hk:∀v' h' b',OL enc sz e h' v' (l++m) b'→ChO b b' h h'→(m≠[]→∀c,b'=some c→h c=Option.none)→K v' h') {u:Dm K}:yx4h e sz bytes v x h K u:=by
 show yc1n e sz bytes v x h K
 have hsl:=hx.srcLen
 have hsrc:=hx.src
 have hzm:=hx.1
 have hlen:=yr37 (l:=m) hzm
 unfold yc1n
 by_cases hm:m=[]
 ·subst hm
  obtain ⟨hz,⟨rfl,rfl,rfl⟩ | ⟨c,q,rfl,h2,rfl,hc,hq⟩⟩:=ho
  ·simp only [hsl,hsrc]
   simp
   exact hk _ _ Option.none OL.none ChO.refl (by simp)
  ·simp only [hsl,hsrc]
   simp
   refine hk _ _ (some c) ⟨by simpa using hz,.inr ⟨c,q,rfl,h2,by simp,by simpa using hc,hq⟩⟩ ChO.refl (by simp)
 have hm0:0<m.length:=by cases m <;> simp at hm ⊢
 have hz:∀x∈l++m,(enc x).length=sz:=fun y hy=>(List.mem_append.1 hy).elim (ho.1 y) (hzm y)
 obtain ⟨hzl,⟨rfl,rfl,rfl⟩ | ⟨c,q,rfl,h2,rfl,hc,hq⟩⟩:=ho
 ·simp only [hsl,hsrc]
  have hno:¬(0+m.length≤0):=by omega
  simp only [hno,if_false]
  simp only [List.length_nil,Nat.zero_add] at hb hn ⊢
  refine ⟨hb,hn,hlen,hm0,trivial,fun b' hb2 hbn=>?_⟩
  refine hk _ _ (some b') ⟨by simpa using hz,.inr ⟨b',.open,rfl,hb2,by simp,by simp [upd],by simp⟩⟩ ⟨fun c o hc _=>?_,fun c hc=>by cases hc;exact .inr hbn⟩ fun _ c hc=>by cases hc;exact hbn
  have:c≠b':=fun he=>by rw [he,hbn] at hc;cases hc
  rw [yrkk _ _ this];exact hc
 ·simp only [hsl,hsrc]
  have hno:¬(l.length+m.length≤l.length):=by omega
  simp only [hno,if_false]
  have hll:=yr37 (l:=l) hzl
  have hbz:¬c=0:=by omega
  refine ⟨hb,hn,hlen,hm0,?_⟩
  simp only [hbz,if_false,hc]
  have e1:((l.flatMap enc).drop 0).take (l.length*sz)=l.flatMap enc:=by rw [List.drop_zero,←hll,List.take_length]
  have go:∀b',2≤b'→h b'=Option.none→∀g:H,(∀ x,x≠c→g x=h x)→K (.slice (some ⟨b',0,Option.none⟩) (l.length+m.length) (l.length+m.length)) (upd g b' (.cells (((l.flatMap enc).drop 0).take (l.length*sz)++m.flatMap enc) e .open)):=by
   intro b' hb2 hbn g hg
   rw [e1]
   have hcb:c≠b':=fun he=>by rw [he,hbn] at hc;cases hc
   refine hk _ _ (some b') ⟨hz,.inr ⟨b',.open,rfl,hb2,by simp,by simp [upd],by simp⟩⟩ ⟨fun x o hx hne=>?_,fun x hx=>by cases hx;exact .inr hbn⟩ fun _ x hx=>by cases hx;exact hbn
   have h1:x≠b':=fun he=>by rw [he,hbn] at hx;cases hx
   have h2:x≠c:=fun he=>hne (by rw [he])
   rw [yrkk _ _ h1,hg _ h2];exact hx
  cases q with
  | ro=>exact absurd rfl hq
  | exact=>exact ⟨by omega,fun b' hb2 hbn=>go b' hb2 hbn h fun _ _=>rfl⟩
  | «open»=>exact ⟨by omega,trivial,by omega,hsz,fun b' hb2 hbn=>go b' hb2 hbn (del h c) fun x hx=>ybsf h hx⟩
theorem OL.empty {c:Nat} (h2:2≤c) {q:Own} (hq:q≠.ro):OL enc sz e (upd h c (.cells [] e q)) (.slice (some ⟨c,0,Option.none⟩) 0 0) ([]:List α) (some c) :=
 ⟨fun _ h=>by simp at h,.inr ⟨c,q,rfl,h2,rfl,by simp [upd],hq⟩⟩
theorem OL.ia (ho:OL enc sz e h v l b) {i:Nat} (hi:i<l.length):∃c q,b=some c∧2≤c∧v=.slice (some ⟨c,0,Option.none⟩) l.length l.length∧h c=some (.cells (l.flatMap enc) e q)∧q≠.ro:=by
 obtain ⟨_,⟨rfl,_⟩ | ⟨c,m,h1,h2,h3,h4,h5⟩⟩:=ho
 ·exact absurd hi (by simp)
 ·exact ⟨c,m,h1,h2,h3,h4,h5⟩
theorem y5p0:∀{vs p cs:List Value} {o:Nat},setL (p++cs) (p.length+o) vs=p++setL cs o vs
 | [],p,cs,o=>by simp
 | v::vs,p,cs,o=>by
   rw [yf16,yf16]
   rw [List.set_append_right _ _ (by omega)]
   have:p.length+o+1=p.length+(o+1):=by omega
   rw [this,y5p0]
   congr 3
   omega
theorem y8q6:∀{vs p cs:List Value} {o:Nat},o+vs.length≤p.length→setL (p++cs) o vs=setL p o vs++cs
 | [],p,cs,o,_=>by simp
 | v::vs,p,cs,o,h=>by
   simp only [List.length_cons] at h
   rw [yf16,yf16,List.set_append_left _ _ (by omega),y8q6 (by simp;omega)]
theorem ysvh:∀{l:List α} {i:Nat} (hi:i<l.length) {w:α} {vs:List Value} {o:Nat},(∀ x∈l,(enc x).length=sz)→o+vs.length≤sz→enc w=setL (enc l[i]) o vs →
 (l.set i w).flatMap enc=setL (l.flatMap enc) (i*sz+o) vs
 | [],i,hi,_,_,_,_,_,_=>by simp at hi
 | x::l,0,hi,w,vs,o,hz,ho,hw=>by
   have hx:=hz x (List.mem_cons_self ..)
   simp only [List.set_cons_zero,List.flatMap_cons,Nat.zero_mul,Nat.zero_add]
   rw [y8q6 (by omega),hw]
   rfl
 | x::l,i+1,hi,w,vs,o,hz,ho,hw=>by
   have hx:=hz x (List.mem_cons_self ..)
   simp only [List.set_cons_succ,List.flatMap_cons]
   have:(i+1)*sz+o=(enc x).length+(i*sz+o):=by rw [hx,Nat.add_mul];omega
   rw [this,y5p0,ysvh (by simpa using hi) (fun y hy=>hz y (List.mem_cons_of_mem _ hy)) ho (by simpa using hw)]
theorem OL.set (ho:OL enc sz e h v l b) {i:Nat} (hi:i<l.length) {w:α} {vs:List Value} {o:Nat} (hov:o+vs.length≤sz) (hw:enc w=setL (enc l[i]) o vs) {c:Nat} (hc:b=some c) {q:Own} (hq:q≠.ro) :
 OL enc sz e (upd h c (.cells (setL (l.flatMap enc) (i*sz+o) vs) e q)) v (l.set i w) b:=by
 obtain ⟨hz,⟨rfl,_⟩ | ⟨c',m,h1,h2,h3,h4,h5⟩⟩:=ho
 ·exact absurd hi (by simp)
 ·rw [hc] at h1;cases h1
  refine ⟨fun x hx=>?_,.inr ⟨c,q,hc,h2,by simpa using h3,?_,hq⟩⟩
  ·rcases List.mem_or_eq_of_mem_set hx with hx | rfl
   ·exact hz _ hx
   ·rw [hw,ydo0];exact hz _ (List.getElem_mem hi)
  ·rw [yy0e,ysvh hi hz hov hw]
def capOk:Value→Prop
 | .slice _ n c=>n≤c
 | _=>True
theorem OL.cap (ho:OL enc sz e h v l b):capOk v:=by
 obtain ⟨_,⟨_,_,rfl⟩ | ⟨c,m,_,_,rfl,_⟩⟩:=ho <;> exact Nat.le_refl _
theorem yvbk:∀{l:List α} {k:Nat},(∀ x∈l,(enc x).length=sz)→(l.flatMap enc).take (k*sz)=(l.take k).flatMap enc
 | [],k,_=>by simp
 | x::l,0,_=>by simp
 | x::l,k+1,hz=>by
   have hx:=hz x (List.mem_cons_self ..)
   rw [List.take_succ_cons,List.flatMap_cons,List.flatMap_cons,Nat.add_mul,Nat.one_mul,Nat.add_comm,←hx,List.take_append,hx]
   rw [List.take_of_length_le (by omega)]
   congr 1
   have:sz+k*sz-(enc x).length=k*sz:=by omega
   rw [show sz+k*sz-sz=k*sz by omega]
   exact yvbk fun y hy=>hz y (List.mem_cons_of_mem _ hy)
theorem yaxr:∀{l:List α} {k:Nat},(∀ x∈l,(enc x).length=sz)→(l.flatMap enc).drop (k*sz)=(l.drop k).flatMap enc
 | [],k,_=>by simp
 | x::l,0,_=>by simp
 | x::l,k+1,hz=>by
   have hx:=hz x (List.mem_cons_self ..)
   rw [List.drop_succ_cons,List.flatMap_cons,Nat.add_mul,Nat.one_mul,Nat.add_comm,←hx,List.drop_append,hx]
   rw [List.drop_of_length_le (by omega),List.nil_append,show sz+k*sz-sz=k*sz by omega]
   exact yaxr fun y hy=>hz y (List.mem_cons_of_mem _ hy)
theorem Sl.cut (hs:Sl enc sz h v l) (hcap:capOk v) {lo hi:Option Value} {a n:Nat} (hlo:(lo=Option.none∧a=0)∨∃k,lo=some (.int k a)) (hhi:(hi=Option.none∧n=l.length)∨∃k,hi=some (.int k n)) (ha:a≤n) (hn:n≤l.length) {K:Value→Prop}
 (hk:∀v',Sl enc sz h v' ((l.take n).drop a)→capOk v'→K v') {u:Dm K}:y4a7 sz v lo hi Option.none K u:=by
 show ykvd sz v lo hi Option.none K
 obtain ⟨hz,⟨rfl,rfl⟩ | ⟨b,o,c,rfl,hb⟩⟩:=hs
 ·simp at hn
  subst hn
  have:a=0:=by omega
  subst this
  refine ⟨?_,?_,hk _ (by simpa using Sl.nil) (Nat.le_refl _)⟩
  ·rcases hlo with ⟨rfl,_⟩ | ⟨k,rfl⟩
   ·trivial
   ·rfl
  ·rcases hhi with ⟨rfl,_⟩ | ⟨k,rfl⟩
   ·trivial
   ·rfl
 ·have hcap':l.length≤c:=hcap
  refine ⟨a,n,?_,?_,ha,by omega,?_⟩
  ·rcases hlo with ⟨rfl,rfl⟩ | ⟨k,rfl⟩ <;> rfl
  ·rcases hhi with ⟨rfl,rfl⟩ | ⟨k,rfl⟩ <;> rfl
  have hzt:∀x∈(l.take n).drop a,(enc x).length=sz:=fun x hx=>hz x (List.mem_of_mem_take (List.mem_of_mem_drop hx))
  have hlen:((l.take n).drop a).length=n-a:=by simp;omega
  have key:n-a≠0→cellsAt h b (o+a*sz) ((n-a)*sz)=some (((l.take n).drop a).flatMap enc):=by
   intro hna
   have hl0:l≠[]:=fun he=>by subst he;simp at hn;omega
   have h1:=hb hl0
   have hle:a*sz+(n-a)*sz≤l.length*sz:=by rw [← Nat.add_mul];exact Nat.mul_le_mul_right _ (by omega)
   rw [yt82 h1 hle,yaxr hz,yvbk fun x hx=>hz x (List.mem_of_mem_drop hx),List.drop_take]
  split
  ·rename_i h0
   subst h0
   refine hk _ ⟨hzt,.inr ⟨b,o,c,by rw [hlen];rfl,fun hne=>?_⟩⟩ (by show n≤c;omega)
   have:=key (by rw [← hlen];exact fun he=>hne (List.eq_nil_of_length_eq_zero he))
   rw [hlen]
   simpa using this
  ·split
   ·refine hk _ ⟨hzt,.inr ⟨b,o+a*sz,c-a,by rw [hlen],fun hne=>?_⟩⟩ (by show n-a≤c-a;omega)
    rw [hlen]
    exact key (by rw [← hlen];exact fun he=>hne (List.eq_nil_of_length_eq_zero he))
   ·have:n-a=0:=by omega
    have h5:(l.take n).drop a=[]:=List.eq_nil_of_length_eq_zero (by omega)
    rw [h5] at hk
    exact hk _ Sl.nil' (Nat.le_refl _)
end
end Go.Proofs.YtnckimioabkheaaGreat.AM
set_option linter.unusedSimpArgs false
set_option linter.unusedVariables false
set_option maxRecDepth 100000
namespace Go.Proofs.YtnckimioabkheaaGreat
open AM
theorem _root_.Go.Proofs.YtnckimioabkheaaGreat.AM.ChO.sub {b b':Option Nat} {h0 h h':H} (hc:ChO b b' h h') (hs:Sub h0 h) (hb:∀c,b=some c→h0 c=none):Sub h0 h'∧∀c,b'=some c→h0 c=none :=
 ⟨fun c o ho=>hc.1 c o (hs c o ho) (fun he=>by rw [hb c he] at ho;cases ho),fun c hc'=>(hc.2 c hc').elim (hb c) fun hn=>Sub.none hs hn⟩
theorem _root_.Go.Proofs.YtnckimioabkheaaGreat.AM.OL.push {α:Type} {enc:α→List Value} {sz:Nat} {e:TypeId} {bytes:Nat} {h:H} {v:Value} {l m:List α} {b:Option Nat} {K:K1} (ho:OL enc sz e h v l b) (hx:∀x∈m,(enc x).length=sz) (h0z:0<sz)
 (hb:(l.length+m.length)*bytes≤140737488355328) (hn:l.length+m.length<9223372036854775808)
 (hk:∀v' h' b',OL enc sz e h' v' (l++m) b'→ChO b b' h h'→K v' h') {cs:List Value} (hcs:cs=m.flatMap enc) {k:Nat} (hkm:k=m.length) :
 u_new cs e .exact h (fun c h=>yx4h e sz bytes v (.slice (some ⟨c,0,none⟩) k k) h K):=by
 subst hcs hkm
 intro c hc2 hcn
 have ho':OL enc sz e (upd h c (.cells (m.flatMap enc) e .exact)) v l b:=ho.keep fun d hd=>yrkk _ _ fun he=>by rw [he] at hd;exact ho.there hd hcn
 have hsx:Sl enc sz (upd h c (.cells (m.flatMap enc) e .exact)) (.slice (some ⟨c,0,none⟩) m.length m.length) m:=Sl.of_block (b:=c) (o:=0) (l:=m) (c:=m.length) hx (yy0e _ _ _) (by rw [List.drop_zero,←yr37 hx,List.take_length]) (by rw [yr37 hx];omega)
 refine OL.app (m:=m) ho' hsx h0z hb hn fun v' h' b' g1 g2 g3=>hk v' h' b' g1 ⟨fun d o hd hne=>g2.1 d o ?_ hne,fun d hd=>?_⟩
 ·rw [yrkk _ _ fun he=>by rw [he,hcn] at hd;cases hd];exact hd
 ·rcases g2.2 d hd with h5 | h5
  ·exact .inl h5
  ·rw [ynej] at h5;exact .inr h5.2.2
section
variable {h:H} {K:K1}
theorem y4fp {K:Value→Prop} {u:Dm K}:u_bin PG .eql y8f0 nilV nilV K u=K (.bool true):=by kernel_rfl
theorem yojm {K:Value→Prop} {u:Dm K}:u_bin PG .eql y7as nilV nilV K u=K (.bool true):=by kernel_rfl
theorem yets {K:Value→Prop} {u:Dm K}:u_bin PG .eql yoi5 nilV nilV K u=K (.bool true):=by kernel_rfl
theorem yzpg (hk:K nilV h):AM.Spec PG y7ie [nilV] h K:=by
 refine ylcn _ _ _ ?_
 simp (config:={dsimp:=false}) [↓yg0z,↓yqfw,y4fp]
 exact hk
theorem ymb9 (hk:K nilV h):AM.Spec PG ynjv [nilV] h K:=by
 refine yc3d _ _ _ ?_
 simp (config:={dsimp:=false}) [↓yw05,↓yzgu,yojm]
 exact hk
theorem ydgf (hk:K nilV h):AM.Spec PG ydmm [nilV] h K:=by
 refine yc5z _ _ _ ?_
 simp (config:={dsimp:=false}) [↓yw4b,↓ynh2,yets]
 exact hk
theorem ypmx (hk:∀v h',Sub h h'→boxV v=true→K (.tuple #[v,.int .i64 0]) h'):AM.Spec PG y8kn [noPol] h K:=by
 refine y1r0 _ _ _ ?_
 simp (config:={dsimp:=false}) [↓yiif,↓yzcv]
 intro b _ hb
 have hs:Sub h (upd h b (.cells [.bool false,nilV,nilV] y4pp .exact)):=Sub.new hb
 have hc:=yy0e h b (.cells [.bool false,nilV,nilV] y4pp .exact)
 generalize upd h b _=h1 at *
 refine ⟨rfl,yvhg ?_⟩
 simp (config:={dsimp:=false})
 intro c hc2 hcn
 have hcn0:=Sub.none hs hcn
 have ho:OL u8V 1 yoj6 (upd h1 c (.cells [.int .u8 84,.int .u8 80,.int .u8 49] yoj6 .exact)) (.slice (some ⟨c,0,none⟩) 3 3) [84,80,49] (some c) :=
  ⟨by simp,.inr ⟨c,.exact,rfl,hc2,rfl,by simp [upd],by simp⟩⟩
 have hs1:Sub h (upd h1 c (.cells [.int .u8 84,.int .u8 80,.int .u8 49] yoj6 .exact)):=Sub.upd hs hcn0
 have hb1:(upd h1 c (.cells [.int .u8 84,.int .u8 80,.int .u8 49] yoj6 .exact)) b=some (.cells [.bool false,nilV,nilV] y4pp .exact):=by
  rw [yrkk _ _ fun he=>by rw [he,hcn] at hc;cases hc];exact hc
 generalize upd h1 c _=h2 at *
 have hcb:b≠c:=fun he=>by rw [he,hcn] at hc;cases hc
 simp (config:={dsimp:=false}) [↓y89z,↓ylzg,yb3e hb1]
 refine OL.push (m:=[0]) ho (by simp) (by omega) (by simp) (by simp) (fun v1 h3 b3 o3 c3=>?_) rfl rfl
 have f3:=c3.sub hs1 (fun d hd=>by cases hd;exact hcn0)
 have hb3:=c3.1 _ _ hb1 (fun he=>hcb (by cases he;rfl))
 simp (config:={dsimp:=false}) [↓yjfw,yb3e hb3]
 refine OL.push (m:=[0]) o3 (by simp) (by omega) (by simp) (by simp) (fun v2 h4 b4 o4 c4=>?_) rfl rfl
 have hbb3:b3≠some b:=fun he=>by
  rcases c3.2 b he with h5 | h5
  ·cases h5;exact hcb rfl
  ·rw [hb1] at h5;cases h5
 have f4:=c4.sub f3.1 f3.2
 have hb4:=c4.1 _ _ hb3 hbb3
 have hbb4:b4≠some b:=fun he=>by
  rcases c4.2 b he with h5 | h5
  ·exact hbb3 h5
  ·rw [hb3] at h5;cases h5
 simp (config:={dsimp:=false}) [↓y575,↓y6t1,↓y63m,yb3e hb4]
 unfold yx32
 refine yq9z fun K'=>?_
 simp (config:={dsimp:=false}) [↓ytw3,↓yybb,yb3e hb4]
 refine OL.push (m:=[0]) o4 (by simp) (by omega) (by simp) (by simp) (fun v3 h5 b5 o5 c5=>?_) rfl rfl
 have f5:=c5.sub f4.1 f4.2
 have hb5:=c5.1 _ _ hb4 hbb4
 simp (config:={dsimp:=false}) [↓yahi,↓yin7,↓yzs2,yb3e hb5]
 unfold yk8a
 refine yq9z fun K'=>?_
 simp (config:={dsimp:=false}) [↓yv99,↓ytwq,o5.sl.box]
 exact hk _ _ f5.1 o5.sl.box
theorem y0fz (hk:∀q h',Sub h h'→h q=none→h' q=some (.cells [nilV,nilV,nilV,.int .i64 0,.int .i64 0,.int .i64 0] y1og .exact)→K (ptr q 0) h'):AM.Spec PG yxfw [yh6o] h K:=by
 refine ymih _ _ _ ?_
 simp (config:={dsimp:=false}) [↓ylot,↓yzbs]
 intro b _ hb
 have hs:Sub h (upd h b (.cells [nilV,nilV,nilV,nilV,nilV,nilV] ylzr .exact)):=Sub.new hb
 have hc:=yy0e h b (.cells [nilV,nilV,nilV,nilV,nilV,nilV] ylzr .exact)
 generalize upd h b _=h1 at *
 refine ⟨rfl,ynul ?_⟩
 simp (config:={dsimp:=false}) [↓y5p5,↓yab4,yb3e hc]
 refine ⟨rfl,ymb9 ?_⟩
 simp (config:={dsimp:=false}) [yb3e hc]
 refine ⟨rfl,yzpg ?_⟩
 simp (config:={dsimp:=false}) [yb3e hc]
 refine ⟨rfl,ydgf ?_⟩
 simp (config:={dsimp:=false}) [↓y3wn]
 intro q _ hq
 exact hk _ _ (Sub.upd hs (Sub.none hs hq)) (Sub.none hs hq) (yy0e _ _ _)
def fileC (inp:Value) (w:Bool):Value:=.agg #[inp,.int .i64 0,.bool w]
def yc18 (inp:Value):List (Value×Value):=[(.int .i64 0,fileC inp false),(.int .i64 1,fileC nilV true),(.int .i64 2,fileC nilV true)]
theorem y2a2 (hk:∀f q mo mu h',Sub h h'→h f=none→h q=none→h mo=none→h mu=none→[f,q,mo,mu].Nodup →
 h' f=some (.cells [nilV,ptr q 0,.map (some mo),.map (some mu)] yxbe .exact)→h' q=some (.cells [nilV,nilV,nilV,.int .i64 0,.int .i64 0,.int .i64 0] y1og .exact) →
 (∃ ck,h' mo=some (.map (.int .i64) (yc18 nilV) ck))→(∃ ck,h' mu=some (.map (.int .i64) [] ck))→K (ptr f 0) h'):AM.Spec PG yrso [yh6o] h K:=by
 refine yab1 _ _ _ ?_
 simp (config:={dsimp:=false}) [↓y9r2,↓yg0c]
 intro b _ hb
 have hs:Sub h (upd h b (.cells [nilV,nilV,nilV,nilV,nilV,nilV] ylzr .exact)):=Sub.new hb
 have hc:=yy0e h b (.cells [nilV,nilV,nilV,nilV,nilV,nilV] ylzr .exact)
 generalize upd h b _=h1 at *
 refine ⟨rfl,y0fz fun q h2 s2 hq hqc=>?_⟩
 have hc2:=s2 _ _ hc
 have hs2:=hs.trans s2
 have hq0:=Sub.none hs hq
 simp (config:={dsimp:=false})
 intro mo _ hmo mu _ n1 n2 hmu f _ n3 n4 n5 n6 hf
 have m1:q≠mo:=fun e=>by rw [← e,hqc] at hmo;cases hmo
 have m2:q≠mu:=fun e=>by rw [← e,hqc] at hmu;cases hmu
 have m3:q≠f:=fun e=>by rw [← e,hqc] at hf;cases hf
 have l1:b≠mo:=fun e=>by rw [← e,hc2] at hmo;cases hmo
 have l2:b≠mu:=fun e=>by rw [← e,hc2] at hmu;cases hmu
 have l3:b≠f:=fun e=>by rw [← e,hc2] at hf;cases hf
 simp (config:={dsimp:=false}) [↓y9pm,↓yp7r,l1,l2,l3,yzql hc2]
 have s3:Sub h2 (upd (upd (upd h2 mo (.map (.int .i64) [] 0)) mu (.map (.int .i64) [] 0)) f (.cells [nilV,ptr q 0,.map (some mo),.map (some mu)] yxbe .exact)):=Sub.upd (Sub.upd (Sub.new hmo) hmu) hf
 have e1:upd (upd (upd h2 mo (.map (.int .i64) [] 0)) mu (.map (.int .i64) [] 0)) f (.cells [nilV,ptr q 0,.map (some mo),.map (some mu)] yxbe .exact) mo=some (.map (.int .i64) [] 0):=by
  rw [yrkk _ _ n6,yrkk _ _ n2,yy0e]
 have e2:upd (upd (upd h2 mo (.map (.int .i64) [] 0)) mu (.map (.int .i64) [] 0)) f (.cells [nilV,ptr q 0,.map (some mo),.map (some mu)] yxbe .exact) mu=some (.map (.int .i64) [] 0):=by
  rw [yrkk _ _ n4,yy0e]
 have e3:=yy0e (upd (upd h2 mo (.map (.int .i64) [] 0)) mu (.map (.int .i64) [] 0)) f (.cells [nilV,ptr q 0,.map (some mo),.map (some mu)] yxbe .exact)
 generalize upd (upd (upd h2 mo _) mu _) f _=h3 at *
 have hc3:=s3 _ _ hc2
 refine ⟨rfl,ynul ?_⟩
 simp (config:={dsimp:=false}) [↓y3jh,↓yh08,yb3e hc3]
 refine ⟨rfl,yzpg ?_⟩
 simp (config:={dsimp:=false}) [↓yhsi,yb3e hc3]
 unfold y81e
 refine yq9z fun K'=>?_
 have up:∀{hh:H} {es:List (Value×Value)} {ck:Nat} {x:Int} {v:Value} {K:H→Prop} {u:Dm K},hh mo=some (.map (.int .i64) es ck)→(yw4g (.int .i64) (.map (some mo)) (.int .i64 x) v hh K u=(boxV v=true∧K (upd hh mo (.map (.int .i64) (mset es (.int .i64 x) v) (if mhas es (.int .i64 x) then ck else ck+1))))):=fun {hh es ck x v K u} hb=>by
  show ynew _ _ _ _ hh K=_
  unfold ynew
  simp only [hb]
  simp [kkHas]
 simp (config:={dsimp:=false}) only [↓yvun,↓ygke,s_lss,s_if]
 simp (config:={dsimp:=false}) [yb3e e3,n5]
 rw [up e1]
 refine ⟨rfl,?_⟩
 simp (config:={dsimp:=false}) [yb3e e3,n5]
 rw [up (yy0e _ _ _)]
 refine ⟨rfl,?_⟩
 rw [yre8]
 simp (config:={dsimp:=false}) [yb3e e3,n5]
 rw [up (yy0e _ _ _)]
 refine ⟨rfl,?_⟩
 rw [yre8]
 have hmo0:=Sub.none hs2 hmo
 refine hk f q mo mu _ (Sub.upd (hs2.trans s3) hmo0) (Sub.none hs2 hf) hq0 hmo0 (Sub.none hs2 hmu) ?_ ((yrkk _ _ n5).trans e3) ((yrkk _ _ m1).trans (s3 _ _ hqc)) ⟨_,yy0e _ _ _⟩ ⟨_,(yrkk _ _ n1).trans e2⟩
 simp [n3,n4,n5,n6,m1,m2,m3,Ne.symm m3,n1,n2]
end
end Go.Proofs.YtnckimioabkheaaGreat
set_option linter.unusedSimpArgs false
set_option linter.unusedVariables false
set_option maxRecDepth 100000
namespace Go.Proofs.YtnckimioabkheaaGreat
open AM
section
variable {h0 h:H} {D:MD} {μ:MS} {K:K1}
structure SgOk (h0:H) (s:Sg×List Int):Prop where
 a:0≤s.1.1∧s.1.1<4294967296
 n:0≤s.1.2.1∧s.1.2.1<4294967296
 b:Sl (fun x:Int=>[Value.int .u8 x]) 1 h0 s.1.2.2.2 s.2
 byte:∀x∈s.2,0≤x∧x<256
 len:s.2.length<9223372036854775808
theorem yk6i {a most need:Int} {bs:List Int}:keysM (wrR μ a most need bs)=keysM μ:=by
 unfold wrR
 split
 ·exact ynn2 _
 ·rfl
theorem y5zb {bm:Nat} {cs:List Value} {vs:Value} {segs:List (Sg×List Int)} (hbm:h bm=some (.cells (ptr D.q 0::cs) ynne .exact)) (hm:MemIn h0 D h μ) (hw:MSok μ) (hz:MSz μ) (hsub:Sub h0 h)
 (hvs:Sl sgC 4 h0 vs (segs.map (·.1))) (hsg:∀s∈segs,SgOk h0 s) (hlen:segs.length≤1000)
 (hk:∀D' h',Went h0 D μ h D' (layF μ segs).2 h'→K (.int .i64 (layF μ segs).1) h') :
 AM.Spec PG ysm3 [ptr bm 0,vs] h K:=by
 refine yvg9 _ _ _ _ ?_
 unfold ypkn yubh yub3 yml8
 simp (config:={dsimp:=false}) only [(hvs.mono hsub).ulen]
 unfold y5my yff1
 simp only [List.length_map]
 refine yo1k segs.length (fun i s h'=>s=(ptr bm 0,vs,.int .i64 segs.length,.int .i64 i)∧∃D' μ',Went h0 D μ h D' μ' h'∧MSok μ'∧MSz μ'∧layF μ segs=layF μ' (segs.drop i)) ⟨rfl,D,μ,Went.refl hm,hw,hz,rfl⟩ ?_
 rintro i s h' K' hi ⟨rfl,D',μ',hwt,hw',hz',hly⟩ hk'
 have hs':=hwt.sub0 hm hsub
 have hbm':=hwt.fr _ _ (hm.at_.other hbm (by decide) (by decide)) hbm
 by_cases hlt:i<segs.length
 ·have hlt':i<(segs.map (·.1)).length:=by simpa using hlt
  obtain ⟨sg,hsge⟩:∃sg,segs[i]=sg:=⟨_,rfl⟩
  have hok:=hsg segs[i] (List.getElem_mem hlt)
  have hix:=fun (K:Value→Prop) (u:Dm K)=>(hvs.mono hs').ixA (k:=.i64) hlt' (K:=K) (u:=u)
  simp only [List.getElem_map] at hix
  have hdr:segs.drop i=segs[i]::segs.drop (i+1):=List.drop_eq_getElem_cons hlt
  rw [hdr,layF] at hly
  rw [hsge] at hix hok hly
  obtain ⟨⟨a,n,perm,vb⟩,bs⟩:=sg
  obtain ⟨oa,on,ob,oby,ol⟩:=hok
  simp only at oa on ob oby ol hly
  simp only [sgC] at hix
  have w1:IntKind.i64.wrap ((i:Int)+1)=(i:Int)+1:=w_i64 (by omega) (by omega)
  obtain ⟨ab,nb,cb,rfl⟩:=Sl.form ob
  simp (config:={dsimp:=false}) [↓yxhl,↓yoek,↓y85b,↓ytdv,↓yxcb,↓y02s,hlt,hix]
  intro b _ hb
  have hwt1:=hwt.new (q:=.cells [.int .u32 a,.int .u32 n,.int .i64 perm,.slice ab nb cb] ym0k .exact) hb
  have hs1:=hwt1.sub0 hm hsub
  have hbm1:=hwt1.fr _ _ (hm.at_.other hbm (by decide) (by decide)) hbm
  have hc:=yy0e h' b (.cells [.int .u32 a,.int .u32 n,.int .i64 perm,.slice ab nb cb] ym0k .exact)
  generalize upd h' b _=h1 at *
  simp (config:={dsimp:=false}) [↓yzuv,yb3e hbm1,yb3e hc,←hwt.q]
  refine ⟨rfl,yjn9 hwt1.mem hs1 (by obtain ⟨z1,z2⟩:=hz';omega) oa.1 oa.2 on.1 on.2 fun E2 h2 m2 e2 f2 o2=>?_⟩
  have hwA:Went h0 D' μ' h1 E2 (mapM μ' a n perm) h2:=⟨m2,e2,f2,o2⟩
  have hwt2:=hwt1.trans hwA
  have hs2:=hwt2.sub0 hm hsub
  have hbm2:=hwt2.fr _ _ (hm.at_.other hbm (by decide) (by decide)) hbm
  have hc2:=f2 _ _ (hwt1.mem.at_.other hc (by decide) (by decide)) hc
  by_cases he:mapE μ' a n perm=0
  case neg =>
   rw [if_pos he] at hly
   have hmm:mapM μ' a n perm=μ':=by simp [mapM,he]
   rw [hmm] at hwt2
   simp (config:={dsimp:=false}) [↓y79q,he]
   rw [hly] at hk
   exact hk E2 h2 hwt2
  rw [if_neg (by simpa using he)] at hly
  have hcA:=yb3e hbm2 (i:=0)
  have hq2:D.q=E2.q:=hwt2.q.symm
  simp (config:={dsimp:=false}) [↓y79q,↓ya6l,↓ym52,he,hcA,yb3e hc2,hq2]
  refine ⟨rfl,y91f m2 hw'.map hs2 oa.1 oa.2 oby ob ol fun h3 m3 f3=>?_⟩
  have hwB:Went h0 E2 (mapM μ' a n perm) h2 E2 (wrR (mapM μ' a n perm) a 65536 0 bs) h3:=⟨m3,rfl,f3,fun b hb=>.inl ((y2rr yk6i).1 hb)⟩
  have hwt3:=hwt2.trans hwB
  by_cases he2:wrE (mapM μ' a n perm) a 65536 0 bs=0
  case neg =>
   rw [if_pos he2] at hly
   have hmm:wrR (mapM μ' a n perm) a 65536 0 bs=mapM μ' a n perm:=by simp [wrR,he2]
   rw [hmm] at hwt3
   simp (config:={dsimp:=false}) [↓yp6m,he2]
   rw [hly] at hk
   exact hk E2 h3 hwt3
  rw [if_neg (by simpa using he2)] at hly
  simp (config:={dsimp:=false}) [↓yp6m,↓ycl4,he2,w1]
  exact hk' (ptr bm 0,vs,.int .i64 segs.length,.int .i64 ((i:Int)+1)) _ hlt ⟨by simp,E2,_,hwt3,hw'.map.wr oby,(hz'.map on.1 on.2).wr,hly⟩
 ·simp (config:={dsimp:=false}) [↓yxhl,hlt,↓ysa5]
  have hie:i=segs.length:=by omega
  subst hie
  rw [List.drop_length,layF] at hly
  rw [hly] at hk
  exact hk D' h' hwt
end
end Go.Proofs.YtnckimioabkheaaGreat
set_option linter.unusedVariables false
set_option maxRecDepth 100000
namespace Go.Proofs.YtnckimioabkheaaGreat
open Go.Proofs.YtnckimioabkheaaGreat.AM
def y1pu (x0 x1 x7 x8:Value) (h:H) (Kn:K4) (Kr:K1) (Ke0:K0):Prop :=
 u_bin PG .lss T_int x8 x7 fun v9=>u_if v9 (u_ix true 4 none x0 x8 h fun v15=>u_dyn PG x1 [v15] h fun v16 h=>u_if v16 (Kr x8 h) (u_bin PG .add T_int x8 (.int .i64 1) fun v18=>Kn x0 x1 x7 v18 h)) (Ke0 h)
def ys1p (x0 x1 x7 x8:Value) (h:H) (Kn:K0) (Kr:K1) (Ke0:K0):Prop :=
 sloop (S:=Value×Value×Value×Value) (fun s h K=>y1pu s.1 s.2.1 s.2.2.1 s.2.2.2 h (fun y0 y1 y7 y8 h=>K (y0,y1,y7,y8) h) Kr Ke0) (x0,x1,x7,x8) h
def ykfk (x0 x1 x7 x8:Value) (h:H) (Kn:K0) (Kr:K1):Prop :=
 ys1p x0 x1 x7 x8 h Kn Kr Kn
def yu4k (x0 x1:Value) (h:H) (Kn:K0) (Kr:K1):Prop :=
 ywmm x0 fun v7=>ykfk x0 x1 v7 (.int .i64 0) h Kn Kr
def y9q1 (h:H) (Kn Kr:K1):Prop :=
 Kr (.int .i64 (-1)) h
def yiqk (x0 x1:Value) (h:H) (Kn Kr:K1):Prop :=
 yu4k x0 x1 h (fun h=>y9q1 h Kn Kr) Kr
def ypgx (x0 x1:Value) (h:H) (Kn Kr:K1):Prop :=
 yiqk x0 x1 h Kn Kr
theorem ytpg {Kn Kr:K1} {t:T} {h:H} (H0:ypgx (t 0) (t 1) h Kn Kr):Wp PG 19 (ygjk Tryz.f326.body) (mkQ (q1 Kn 4) (q1 Kr 4) ke0) t h :=
 (toE E5_ok 1 H0 fun t h (H:yiqk (t 0) (t 1) h Kn Kr)=>(sqE (q0 (fun h=>y9q1 h Kn Kr)) (toE E5_ok 1 H fun t h (H:ykfk (t 0) (t 1) (t 7) (t 8) h (fun h=>y9q1 h Kn Kr) Kr)=>(bkE 0 (lpE (fun t=>(t 0,t 1,t 7,t 8)) H fun t h K H=>(wpE E5_ok H)))) fun t h H=>(wpE E5_ok H)))
def ysgb (x0 x1:Value) (h:H) (Q:K1):Prop:=ypgx x0 x1 h Q Q
theorem y3hq (x0 x1:Value) (h:H) (Q:K1) (H0:ysgb x0 x1 h Q):AM.Spec PG ypqi [x0,x1] h Q :=
 spH mixed Tryz.func326 [4] (ytpg H0)
def ymv4 (x0 x1:Value) (h:H) (Kn Kr:K1):Prop :=
 yjdf PG ypqi [x0,x1] h fun v7 h=>u_bin PG .geq T_int v7 (.int .i64 0) fun v8=>Kr v8 h
def ynzg (x0 x1:Value) (h:H) (Q:K1):Prop:=ymv4 x0 x1 h Q Q
theorem ygzv (x0 x1:Value) (h:H) (Q:K1) (H0:ynzg x0 x1 h Q):AM.Spec PG yv5z [x0,x1] h Q :=
 spE mixed E5_ok Tryz.func311 [4] H0
def y0yj (x0 x1:Value) (h:H) (Kn Kr:K1):Prop :=
 boxV x0=true∧u_new (Value.cells x0).toList ym0k .exact h fun b2 h=>u_bf false 1 2 (.pointer (some ⟨b2,0,none⟩)) h fun v5=>u_bin PG .and T_int v5 (.int .i64 4) fun v6=>u_bin PG .neq T_int v6 (.int .i64 0) fun v7=>ydv6 v7 true (fun k9=>u_bf false 1 0 x1 h fun v10=>u_bf false 1 0 (.pointer (some ⟨b2,0,none⟩)) h fun v12=>u_bin PG .geq ycpa v10 v12 fun v13=>k9 v13 h) (fun v13 h=>y9rg v7 v13 (.bool false) fun v14=>ydv6 v14 true (fun k22=>u_bf false 1 0 x1 h fun v17=>y2x6 .u64 v17 fun v18=>u_bf false 1 0 (.pointer (some ⟨b2,0,none⟩)) h fun v20=>y2x6 .u64 v20 fun v21=>u_bf false 1 1 (.pointer (some ⟨b2,0,none⟩)) h fun v23=>y2x6 .u64 v23 fun v24=>u_bin PG .add yxjj v21 v24 fun v25=>u_bin PG .lss yxjj v18 v25 fun v26=>k22 v26 h) (fun v26 h=>y9rg v14 v26 (.bool false) fun v27=>Kr v27 h) h) h
def yyug (x0 x1:Value) (h:H) (Q:K1):Prop:=y0yj x0 x1 h Q Q
theorem y2xa (x0 x1:Value) (h:H) (Q:K1) (H0:yyug x0 x1 h Q):AM.Spec PG yebs [x0,x1] h Q :=
 spE mixed E5_ok Tryz.func312 [3] H0
def y20u (x0:Value) (h:H) (Kn Kr:K1):Prop :=
 boxV x0=true∧u_new (Value.cells x0).toList y33u .exact h fun b1 h=>u_bf false 1 1 (.pointer (some ⟨b1,0,none⟩)) h fun v5=>List.all [] ysqa=true∧List.all [(.pointer (some ⟨b1,0,none⟩))] ysqa=true∧yjdf PG yv5z [v5,(.func (.func yebs) #[] #[(.pointer (some ⟨b1,0,none⟩))])] h fun v7 h=>ydv6 v7 true (fun k5=>u_bf false 1 0 (.pointer (some ⟨b1,0,none⟩)) h fun v11=>u_bin PG .rem ycpa v11 (.int .u32 4) fun v12=>u_bin PG .eql ycpa v12 (.int .u32 0) fun v13=>k5 v13 h) (fun v13 h=>y9rg v7 v13 (.bool false) fun v14=>Kr v14 h) h
def y4bu (x0:Value) (h:H) (Q:K1):Prop:=y20u x0 h Q Q
theorem y19z (x0:Value) (h:H) (Q:K1) (H0:y4bu x0 h Q):AM.Spec PG yi8e [x0] h Q :=
 spE mixed E5_ok Tryz.func266 [2] H0
def yqw3 (x1 x3 x4 x16 x17 x18:Value) (h:H) (Kn:K6) (Kr:K1) (Ke0:K3):Prop :=
 u_bin PG .lss T_int x18 x17 fun v19=>u_if v19 (u_ix true 4 none x16 x18 h fun v21=>u_new [.int .u32 0,.int .u32 0,.int .i64 0,.slice none 0 0] ym0k .exact h fun b6 h=>ylel 4 (.pointer (some ⟨b6,0,none⟩)) v21 h fun h=>ybqh true 4 (.pointer (some ⟨b6,0,none⟩)) h fun v22=>u_ct y76m [v22] h fun v23 h=>u_un PG .not v23 fun v24=>u_if v24 (Kr (.int .i64 1) h) (u_bf false 1 3 (.pointer (some ⟨b6,0,none⟩)) h fun v27=>ywmm v27 fun v28=>y2x6 .u64 v28 fun v29=>u_bin PG .add yxjj x3 v29 fun v30=>u_bf false 1 1 (.pointer (some ⟨b6,0,none⟩)) h fun v33=>y2x6 .u64 v33 fun v34=>u_bin PG .add yxjj x4 v34 fun v35=>u_bin PG .add T_int x18 (.int .i64 1) fun v36=>Kn x1 v30 v35 x16 x17 v36 h)) (Ke0 x1 x3 x4 h)
def yuff (x1 x3 x4 x16 x17 x18:Value) (h:H) (Kn:K3) (Kr:K1) (Ke0:K3):Prop :=
 sloop (S:=Value×Value×Value×Value×Value×Value) (fun s h K=>yqw3 s.1 s.2.1 s.2.2.1 s.2.2.2.1 s.2.2.2.2.1 s.2.2.2.2.2 h (fun y1 y3 y4 y16 y17 y18 h=>K (y1,y3,y4,y16,y17,y18) h) Kr Ke0) (x1,x3,x4,x16,x17,x18) h
def y9fv (x1 x3 x4 x16 x17 x18:Value) (h:H) (Kn:K3) (Kr:K1):Prop :=
 yuff x1 x3 x4 x16 x17 x18 h Kn Kr Kn
def y92v (x1 x3 x4:Value) (h:H) (Kn:K3) (Kr:K1):Prop :=
 u_bf false 1 1 x1 h fun v16=>ywmm v16 fun v17=>y9fv x1 x3 x4 v16 v17 (.int .i64 0) h Kn Kr
def yw83 (x1 x8 x50 x51 x52 x60 x61 x62:Value) (h:H) (Kn:K8) (Kr:K1) (Ke5 Ke4:K4) (Ke3:K1):Prop :=
 u_bin PG .lss T_int x62 x61 fun v63=>u_if v63 (u_ix true 4 none x60 x62 h fun v65=>u_new [.int .u32 0,.int .u32 0,.int .i64 0,.slice none 0 0] ym0k .exact h fun b10 h=>ylel 4 (.pointer (some ⟨b10,0,none⟩)) v65 h fun h=>ybqh true 4 x8 h fun v66=>ybqh true 4 (.pointer (some ⟨b10,0,none⟩)) h fun v67=>u_ct ynwe [v66,v67] h fun v68 h=>u_un PG .not v68 fun v69=>u_if v69 (Kr (.int .i64 1) h) (u_bin PG .add T_int x62 (.int .i64 1) fun v70=>Kn x1 x8 x50 x51 x52 x60 x61 v70 h)) (Ke5 x1 x50 x51 x52 h)
def yh3o (x1 x8 x50 x51 x52 x60 x61 x62:Value) (h:H) (Kn:K4) (Kr:K1) (Ke5 Ke4:K4) (Ke3:K1):Prop :=
 sloop (S:=Value×Value×Value×Value×Value×Value×Value×Value) (fun s h K=>yw83 s.1 s.2.1 s.2.2.1 s.2.2.2.1 s.2.2.2.2.1 s.2.2.2.2.2.1 s.2.2.2.2.2.2.1 s.2.2.2.2.2.2.2 h (fun y1 y8 y50 y51 y52 y60 y61 y62 h=>K (y1,y8,y50,y51,y52,y60,y61,y62) h) Kr Ke5 Ke4 Ke3) (x1,x8,x50,x51,x52,x60,x61,x62) h
def yw6q (x1 x8 x50 x51 x52 x60 x61 x62:Value) (h:H) (Kn:K4) (Kr:K1) (Ke4:K4) (Ke3:K1):Prop :=
 yh3o x1 x8 x50 x51 x52 x60 x61 x62 h Kn Kr Kn Ke4 Ke3
def y0mn (x1 x50 x51 x52:Value) (h:H) (Kn:K4) (Kr:K1) (Ke4:K4) (Ke3:K1):Prop :=
 u_ix true 4 none x50 x52 h fun v56=>u_new [.int .u32 0,.int .u32 0,.int .i64 0,.slice none 0 0] ym0k .exact h fun b8 h=>ylel 4 (.pointer (some ⟨b8,0,none⟩)) v56 h fun h=>u_bf false 1 1 x1 h fun v58=>y4a7 4 v58 none (some x52) none fun v60=>ywmm v60 fun v61=>yw6q x1 (.pointer (some ⟨b8,0,none⟩)) x50 x51 x52 v60 v61 (.int .i64 0) h Kn Kr Ke4 Ke3
def y2xm (x1 x50 x51 x52:Value) (h:H) (Kn:K4) (Kr Ke3:K1):Prop :=
 y0mn x1 x50 x51 x52 h Kn Kr Kn Ke3
def yyez (x1 x50 x51 x52:Value) (h:H) (Kn:K4) (Kr Ke3:K1):Prop :=
 u_bin PG .add T_int x52 (.int .i64 1) fun v71=>Kn x1 x50 x51 v71 h
def ycnj (x1 x50 x51 x52:Value) (h:H) (Kn:K4) (Kr Ke3:K1):Prop :=
 y2xm x1 x50 x51 x52 h (fun y1 y50 y51 y52 h=>yyez y1 y50 y51 y52 h Kn Kr Ke3) Kr Ke3
def yhqq (x1 x50 x51 x52:Value) (h:H) (Kn:K4) (Kr Ke3:K1):Prop :=
 u_bin PG .lss T_int x52 x51 fun v53=>u_if v53 (ycnj x1 x50 x51 x52 h Kn Kr Ke3) (Ke3 x1 h)
def ydqv (x1 x50 x51 x52:Value) (h:H) (Kn Kr Ke3:K1):Prop :=
 sloop (S:=Value×Value×Value×Value) (fun s h K=>yhqq s.1 s.2.1 s.2.2.1 s.2.2.2 h (fun y1 y50 y51 y52 h=>K (y1,y50,y51,y52) h) Kr Ke3) (x1,x50,x51,x52) h
def yof2 (x1 x50 x51 x52:Value) (h:H) (Kn Kr:K1):Prop :=
 ydqv x1 x50 x51 x52 h Kn Kr Kn
def yqhm (x1:Value) (h:H) (Kn Kr:K1):Prop :=
 u_bf false 1 1 x1 h fun v50=>ywmm v50 fun v51=>yof2 x1 v50 v51 (.int .i64 0) h Kn Kr
def ypzm (x1:Value) (h:H) (Kn Kr:K1):Prop :=
 ybqh true 2 x1 h fun v72=>yjdf PG yi8e [v72] h fun v73 h=>u_un PG .not v73 fun v74=>u_if v74 (Kr (.int .i64 1) h) (Kr (.int .i64 0) h)
def yagd (x1:Value) (h:H) (Kn Kr:K1):Prop :=
 yqhm x1 h (fun y1 h=>ypzm y1 h Kn Kr) Kr
def ypec (x1 x3 x4:Value) (h:H) (Kn Kr:K1):Prop :=
 u_bf false 1 1 x1 h fun v39=>ywmm v39 fun v40=>u_bin PG .eql T_int v40 (.int .i64 0) fun v41=>u_if v41 (Kr (.int .i64 1) h) (u_bin PG .gtr yxjj x3 (.int .u64 65536) fun v44=>ydv6 v44 false (fun k4=>u_bin PG .gtr yxjj x4 (.int .u64 65536) fun v47=>k4 v47 h) (fun v47 h=>y9rg v44 (.bool true) v47 fun v48=>u_if v48 (Kr (.int .i64 2) h) (yagd x1 h Kn Kr)) h)
def y6t9 (x1 x3 x4:Value) (h:H) (Kn Kr:K1):Prop :=
 y92v x1 x3 x4 h (fun y1 y3 y4 h=>ypec y1 y3 y4 h Kn Kr) Kr
def yfmg (x0:Value) (h:H) (Kn Kr:K1):Prop :=
 boxV x0=true∧u_new (Value.cells x0).toList y33u .exact h fun b1 h=>u_bf false 1 1 (.pointer (some ⟨b1,0,none⟩)) h fun v12=>ywmm v12 fun v13=>u_bin PG .gtr T_int v13 (.int .i64 8) fun v14=>u_if v14 (Kr (.int .i64 2) h) (y6t9 (.pointer (some ⟨b1,0,none⟩)) (.int .u64 0) (.int .u64 0) h Kn Kr)
theorem yzhw {Kn:K4} {Kr Ke3:K1} {t:T} {h:H} (H0:y2xm (t 1) (t 50) (t 51) (t 52) h Kn Kr Ke3):Wp PG 75 (seqL (rest 2 (lopC (blkC (rest 1 (seqL (rest 1 (seqR (rest 3 (ygjk Tryz.f208.body)))))))))) (mkQ (q4 Kn 1 50 51 52) (q1 Kr 2) (keAdd 3 (q1 Ke3 1) ke0)) t h :=
 (bkE 4 (toE E5_ok 2 H0 fun t h (H:yw6q (t 1) (t 8) (t 50) (t 51) (t 52) (t 60) (t 61) (t 62) h Kn Kr Kn Ke3)=>(bkE 5 (lpE (fun t=>(t 1,t 8,t 50,t 51,t 52,t 60,t 61,t 62)) H fun t h K H=>(wpE E5_ok H)))))
theorem y6f3 {Kn Kr:K1} {t:T} {h:H} (H0:ypec (t 1) (t 3) (t 4) h Kn Kr):Wp PG 75 (seqR (rest 3 (ygjk Tryz.f208.body))) (mkQ (q1 Kn 2) (q1 Kr 2) ke0) t h :=
 (toE E5_ok 1 H0 fun t h (H:yagd (t 1) h Kn Kr)=>(sqE (q1 (fun y1 h=>ypzm y1 h Kn Kr) 1) (toE E5_ok 1 H fun t h (H:yof2 (t 1) (t 50) (t 51) (t 52) h (fun y1 h=>ypzm y1 h Kn Kr) Kr)=>(bkE 3 (lpE (fun t=>(t 1,t 50,t 51,t 52)) H fun t h K H=>(toE E5_ok 2 H fun t h (H:ycnj (t 1) (t 50) (t 51) (t 52) h (fun y1 y50 y51 y52 h=>K (y1,y50,y51,y52) h) Kr (fun y1 h=>ypzm y1 h Kn Kr))=>(sqE _ (yzhw H) fun t h H=>(wpE E5_ok H)))))) fun t h H=>(wpE E5_ok H)))
theorem y7z7 {Kn Kr:K1} {t:T} {h:H} (H0:yfmg (t 0) h Kn Kr):Wp PG 75 (ygjk Tryz.f208.body) (mkQ (q1 Kn 2) (q1 Kr 2) ke0) t h :=
 (toE E5_ok 3 H0 fun t h (H:y6t9 (t 1) (t 3) (t 4) h Kn Kr)=>(sqE (q3 (fun y1 y3 y4 h=>ypec y1 y3 y4 h Kn Kr) 1 3 4) (toE E5_ok 1 H fun t h (H:y9fv (t 1) (t 3) (t 4) (t 16) (t 17) (t 18) h (fun y1 y3 y4 h=>ypec y1 y3 y4 h Kn Kr) Kr)=>(bkE 0 (lpE (fun t=>(t 1,t 3,t 4,t 16,t 17,t 18)) H fun t h K H=>(wpE E5_ok H)))) fun t h H=>(y6f3 H)))
def ydlt (x0:Value) (h:H) (Q:K1):Prop:=yfmg x0 h Q Q
theorem yl4o (x0:Value) (h:H) (Q:K1) (H0:ydlt x0 h Q):AM.Spec PG y45l [x0] h Q :=
 spH mixed Tryz.func208 [2] (y7z7 H0)
def y2l3 (x1 x3 x4 x5 x8 x9 x10:Value) (h:H) (Kn:K7) (Kr:K1) (Ke1:K5) (Ke0:K2):Prop :=
 u_bf false 1 0 x5 h fun v16=>u_bin PG .lss ycpa v16 (.int .u32 2147475456) fun v17=>ydv6 v17 true (fun k16=>u_bin PG .lss T_int x3 (.int .i64 0) fun v20=>ydv6 v20 false (fun k15=>u_bf false 1 0 x5 h fun v23=>u_bf false 1 1 x1 h fun v25=>u_ixf false 1 0 none 4 v25 x3 h fun v29=>u_bin PG .gtr ycpa v23 v29 fun v30=>k15 v30 h) (fun v30 h=>y9rg v20 (.bool true) v30 fun v31=>k16 v31 h) h) (fun v31 h=>y9rg v17 v31 (.bool false) fun v32=>Kn x1 x3 x4 x8 x9 x10 v32 h) h
def yl89 (x1 x3 x4 x8 x9 x10 x32:Value) (h:H) (Kn:K5) (Kr:K1) (Ke1:K5) (Ke0:K2):Prop :=
 u_if x32 (Kn x1 x4 x8 x9 x10 h) (Kn x1 x3 x8 x9 x10 h)
def yrdl (x1 x3 x4 x5 x8 x9 x10:Value) (h:H) (Kn:K5) (Kr:K1) (Ke1:K5) (Ke0:K2):Prop :=
 y2l3 x1 x3 x4 x5 x8 x9 x10 h (fun y1 y3 y4 y8 y9 y10 y32 h=>yl89 y1 y3 y4 y8 y9 y10 y32 h Kn Kr Ke1 Ke0) Kr Ke1 Ke0
def yyu0 (x1 x3 x8 x9 x10:Value) (h:H) (Kn:K5) (Kr:K1) (Ke1:K5) (Ke0:K2):Prop :=
 u_ix true 4 none x8 x10 h fun v14=>u_new [.int .u32 0,.int .u32 0,.int .i64 0,.slice none 0 0] ym0k .exact h fun b5 h=>ylel 4 (.pointer (some ⟨b5,0,none⟩)) v14 h fun h=>yrdl x1 x3 x10 (.pointer (some ⟨b5,0,none⟩)) x8 x9 x10 h Kn Kr Ke1 Ke0
def yslf (x1 x3 x8 x9 x10:Value) (h:H) (Kn:K5) (Kr:K1) (Ke0:K2):Prop :=
 yyu0 x1 x3 x8 x9 x10 h Kn Kr Kn Ke0
def y0ru (x1 x3 x8 x9 x10:Value) (h:H) (Kn:K5) (Kr:K1) (Ke0:K2):Prop :=
 u_bin PG .add T_int x10 (.int .i64 1) fun v34=>Kn x1 x3 x8 x9 v34 h
def ybjp (x1 x3 x8 x9 x10:Value) (h:H) (Kn:K5) (Kr:K1) (Ke0:K2):Prop :=
 yslf x1 x3 x8 x9 x10 h (fun y1 y3 y8 y9 y10 h=>y0ru y1 y3 y8 y9 y10 h Kn Kr Ke0) Kr Ke0
def ytbn (x1 x3 x8 x9 x10:Value) (h:H) (Kn:K5) (Kr:K1) (Ke0:K2):Prop :=
 u_bin PG .lss T_int x10 x9 fun v11=>u_if v11 (ybjp x1 x3 x8 x9 x10 h Kn Kr Ke0) (Ke0 x1 x3 h)
def y2n4 (x1 x3 x8 x9 x10:Value) (h:H) (Kn:K2) (Kr:K1) (Ke0:K2):Prop :=
 sloop (S:=Value×Value×Value×Value×Value) (fun s h K=>ytbn s.1 s.2.1 s.2.2.1 s.2.2.2.1 s.2.2.2.2 h (fun y1 y3 y8 y9 y10 h=>K (y1,y3,y8,y9,y10) h) Kr Ke0) (x1,x3,x8,x9,x10) h
def y45h (x1 x3 x8 x9 x10:Value) (h:H) (Kn:K2) (Kr:K1):Prop :=
 y2n4 x1 x3 x8 x9 x10 h Kn Kr Kn
def ygy9 (x1 x3:Value) (h:H) (Kn:K2) (Kr:K1):Prop :=
 u_bf false 1 1 x1 h fun v8=>ywmm v8 fun v9=>y45h x1 x3 v8 v9 (.int .i64 0) h Kn Kr
def ykxj (x1 x3:Value) (h:H) (Kn Kr:K1):Prop :=
 u_bin PG .lss T_int x3 (.int .i64 0) fun v36=>u_if v36 (Kr (.int .u32 2147475456) h) (u_bf false 1 1 x1 h fun v38=>u_ix true 4 none v38 x3 h fun v41=>u_new [.int .u32 0,.int .u32 0,.int .i64 0,.slice none 0 0] ym0k .exact h fun b6 h=>ylel 4 (.pointer (some ⟨b6,0,none⟩)) v41 h fun h=>u_bf false 1 0 (.pointer (some ⟨b6,0,none⟩)) h fun v43=>u_bf false 1 1 (.pointer (some ⟨b6,0,none⟩)) h fun v45=>u_bin PG .add ycpa v43 v45 fun v46=>u_bin PG .add ycpa v46 (.int .u32 256) fun v47=>u_bin PG .sub ycpa v47 (.int .u32 1) fun v48=>u_bin PG .quo ycpa v48 (.int .u32 256) fun v49=>u_bin PG .mul ycpa v49 (.int .u32 256) fun v50=>Kr v50 h)
def y3f3 (x1 x3:Value) (h:H) (Kn Kr:K1):Prop :=
 ygy9 x1 x3 h (fun y1 y3 h=>ykxj y1 y3 h Kn Kr) Kr
def y77w (x0:Value) (h:H) (Kn Kr:K1):Prop :=
 boxV x0=true∧u_new (Value.cells x0).toList y33u .exact h fun b1 h=>y3f3 (.pointer (some ⟨b1,0,none⟩)) (.int .i64 (-1)) h Kn Kr
theorem yroc {Kn:K5} {Kr:K1} {Ke0:K2} {t:T} {h:H} (H0:yslf (t 1) (t 3) (t 8) (t 9) (t 10) h Kn Kr Ke0):Wp PG 51 (seqL (rest 2 (lopC (blkC (rest 1 (seqL (rest 2 (ygjk Tryz.f139.body)))))))) (mkQ (q5 Kn 1 3 8 9 10) (q1 Kr 2) (keAdd 0 (q2 Ke0 1 3) ke0)) t h :=
 (bkE 1 (toE E5_ok 1 H0 fun t h (H:yrdl (t 1) (t 3) (t 4) (t 5) (t 8) (t 9) (t 10) h Kn Kr Kn Ke0)=>(sqE (fun t h=>(fun y1 y3 y4 y8 y9 y10 y32 h=>yl89 y1 y3 y4 y8 y9 y10 y32 h Kn Kr Kn Ke0) (t 1) (t 3) (t 4) (t 8) (t 9) (t 10) (t 32) h) (drE E5_ok [0,1,2,3,4,5,6,7,8,9,10,11,12,13,14,15,16,17] H) fun t h H=>(wpE E5_ok H))))
theorem yqdv {Kn Kr:K1} {t:T} {h:H} (H0:y3f3 (t 1) (t 3) h Kn Kr):Wp PG 51 (rest 2 (ygjk Tryz.f139.body)) (mkQ (q1 Kn 2) (q1 Kr 2) ke0) t h :=
 (sqE (q2 (fun y1 y3 h=>ykxj y1 y3 h Kn Kr) 1 3) (toE E5_ok 1 H0 fun t h (H:y45h (t 1) (t 3) (t 8) (t 9) (t 10) h (fun y1 y3 h=>ykxj y1 y3 h Kn Kr) Kr)=>(bkE 0 (lpE (fun t=>(t 1,t 3,t 8,t 9,t 10)) H fun t h K H=>(toE E5_ok 2 H fun t h (H:ybjp (t 1) (t 3) (t 8) (t 9) (t 10) h (fun y1 y3 y8 y9 y10 h=>K (y1,y3,y8,y9,y10) h) Kr (fun y1 y3 h=>ykxj y1 y3 h Kn Kr))=>(sqE _ (yroc H) fun t h H=>(wpE E5_ok H)))))) fun t h H=>(wpE E5_ok H))
theorem yz9l {Kn Kr:K1} {t:T} {h:H} (H0:y77w (t 0) h Kn Kr):Wp PG 51 (ygjk Tryz.f139.body) (mkQ (q1 Kn 2) (q1 Kr 2) ke0) t h :=
 (toE E5_ok 2 H0 fun t h (H:y3f3 (t 1) (t 3) h Kn Kr)=>(yqdv H))
def ygd5 (x0:Value) (h:H) (Q:K1):Prop:=y77w x0 h Q Q
theorem yppr (x0:Value) (h:H) (Q:K1) (H0:ygd5 x0 h Q):AM.Spec PG yl1q [x0] h Q :=
 spH mixed Tryz.func139 [2] (yz9l H0)
end Go.Proofs.YtnckimioabkheaaGreat
set_option linter.unusedSimpArgs false
set_option linter.unusedVariables false
set_option maxRecDepth 100000
namespace Go.Proofs.YtnckimioabkheaaGreat
open AM
section
variable {h:H} {K:K1}
theorem Sub.sl {α:Type} {enc:α→List Value} {sz:Nat} {h h':H} {v:Value} {l:List α} (hs:Sub h h') (hl:Sl enc sz h v l):Sl enc sz h' v l:=hl.mono hs
theorem and_d {q:Prop} [Decidable q] {op:(Value→H→Prop)→Prop} {K:Value→H→Prop} {h:H} {u:Dm (Value.bool (decide q),K)} (hq:q):u_and (.bool (decide q)) op K h u=op K:=by
 show (bif decide q then op K else K (.bool false) h)=op K
 simp [hq]
theorem or_d {q:Prop} [Decidable q] {op:(Value→H→Prop)→Prop} {K:Value→H→Prop} {h:H} {u:Dm (Value.bool (decide q),K)} (hq:q):u_or (.bool (decide q)) op K h u=K (.bool true) h:=by
 show (bif decide q then K (.bool true) h else op K)=K (.bool true) h
 simp [hq]
theorem or_dn {q:Prop} [Decidable q] {op:(Value→H→Prop)→Prop} {K:Value→H→Prop} {h:H} {u:Dm (Value.bool (decide q),K)} (hq:¬q):u_or (.bool (decide q)) op K h u=op K:=by
 show (bif decide q then K (.bool true) h else op K)=op K
 simp [hq]
theorem y8iy {vs vb vd:Value} {p:Int} (hv:Sl sgC 4 h vs [(4096,1024,p,vb),(65536,512,3,vd)]) (hk:K (.int .u32 66048) h):AM.Spec PG yl1q [.agg #[.int .u32 4096,vs]] h K:=by
 refine yz7m (fun K hk=>?_) hk
 refine yppr _ _ _ ?_
 have hb:=hv.box
 unfold ygd5 y77w
 simp (config:={dsimp:=false}) [hb]
 intro b _ hbn
 have hs:Sub h (upd h b (.cells [.int .u32 4096,vs] y33u .exact)):=Sub.new hbn
 have hc:=yy0e h b (.cells [.int .u32 4096,vs] y33u .exact)
 generalize upd h b _=h1 at *
 simp (config:={dsimp:=false}) [↓y3f3,↓ygy9,yb3e hc,(hv.mono hs).ulen]
 unfold y45h y2n4
 refine yo1k 2 (fun i s h'=>s=(ptr b 0,.int .i64 ((i:Int)-1),vs,.int .i64 2,.int .i64 i)∧Sub h h'∧h' b=some (.cells [.int .u32 4096,vs] y33u .exact)) ⟨rfl,hs,hc⟩ ?_
 rintro i s h' K' hi ⟨rfl,hs',hc'⟩ hk'
 have hv':=hv.mono hs'
 have i0:=fun (K:Value→Prop) (u:Dm K)=>hv'.ixA (k:=.i64) (i:=0) (by simp) (K:=K) (u:=u)
 have i1:=fun (K:Value→Prop) (u:Dm K)=>hv'.ixA (k:=.i64) (i:=1) (by simp) (K:=K) (u:=u)
 have f0:=fun (K:Value→Prop) (u:Dm K)=>hv'.ixf (k:=.i64) (i:=0) (off:=0) (w:=.int .u32 4096) (by simp) rfl (K:=K) (u:=u)
 simp (config:={dsimp:=false}) [sgC] at i0 i1 f0
 match i,hi with
 | 0,_ =>
   simp (config:={dsimp:=false}) [↓ytbn,↓ybjp,↓yslf,↓yyu0,↓yrdl,↓y2l3,↓yl89,↓y0ru,i0]
   intro b5 _ hb5
   rw [and_d (by decide),or_d (by decide)]
   simp (config:={dsimp:=false}) [↓yl89,↓y0ru]
   exact hk' (ptr b 0,.int .i64 0,vs,.int .i64 2,.int .i64 1) _ (by omega) ⟨by simp,Sub.newer hs' hb5,(yrkk _ _ (fun e=>by rw [e,hb5] at hc';cases hc')).trans hc'⟩
 | 1,_ =>
   simp (config:={dsimp:=false}) [↓ytbn,↓ybjp,↓yslf,↓yyu0,↓yrdl,↓y2l3,↓yl89,↓y0ru,i1,f0]
   intro b5 _ hb5
   have n5:b≠b5:=fun e=>by rw [e,hb5] at hc';cases hc'
   rw [and_d (by decide),or_dn (by decide)]
   have f1:=fun q (K:Value→Prop) (u:Dm K)=>(hv'.mono (Sub.new (o:=q) hb5)).ixf (k:=.i64) (i:=0) (off:=0) (w:=.int .u32 4096) (by simp) rfl (K:=K) (u:=u)
   simp (config:={dsimp:=false}) at f1
   simp (config:={dsimp:=false}) [↓yl89,↓y0ru,n5,yb3e hc',f1]
   exact hk' (ptr b 0,.int .i64 1,vs,.int .i64 2,.int .i64 2) _ (by omega) ⟨by simp,Sub.newer hs' hb5,(yrkk _ _ n5).trans hc'⟩
 | 2,_ =>
   simp (config:={dsimp:=false}) [↓ytbn,↓ykxj,yb3e hc',i1]
   exact fun b2 _ hb2=>hk _ (Sub.newer hs' hb2)
end
end Go.Proofs.YtnckimioabkheaaGreat
set_option linter.unusedSimpArgs false
set_option linter.unusedVariables false
set_option maxRecDepth 100000
namespace Go.Proofs.YtnckimioabkheaaGreat
open AM
section
variable {h:H} {K:K1}
theorem yde1 {q:Nat} {vs vb:Value} {p:Int} (hq:h q=some (.cells [.int .u32 4096,vs] y33u .exact)) (hp:p=5∨p=7) (hb:boxV vb=true) (hk:∀h',Sub h h'→K (.bool true) h') :
 AM.Spec PG yebs [.agg #[.int .u32 4096,.int .u32 1024,.int .i64 p,vb],ptr q 0] h K:=by
 refine y2xa _ _ _ _ ?_
 rcases hp with rfl | rfl
 ·simp (config:={dsimp:=false}) [↓yyug,↓y0yj,hb]
  intro b _ hbn
  have n1:q≠b:=fun e=>by rw [e,hbn] at hq;cases hq
  simp (config:={dsimp:=false}) [n1,yb3e hq]
  exact hk _ (Sub.new hbn)
 ·simp (config:={dsimp:=false}) [↓yyug,↓y0yj,hb]
  intro b _ hbn
  have n1:q≠b:=fun e=>by rw [e,hbn] at hq;cases hq
  simp (config:={dsimp:=false}) [n1,yb3e hq]
  exact hk _ (Sub.new hbn)
theorem yzpr {vs vb vd:Value} {p:Int} (hv:Sl sgC 4 h vs [(4096,1024,p,vb),(65536,512,3,vd)]) (hp:p=5∨p=7) (hb:boxV vb=true) (hk:K (.bool true) h) :
 AM.Spec PG yi8e [.agg #[.int .u32 4096,vs]] h K:=by
 refine yz7m (fun K hk=>?_) hk
 refine y19z _ _ _ ?_
 have hvb:=hv.box
 unfold y4bu y20u
 simp (config:={dsimp:=false}) [hvb]
 intro b _ hbn
 have hs:Sub h (upd h b (.cells [.int .u32 4096,vs] y33u .exact)):=Sub.new hbn
 have hc:=yy0e h b (.cells [.int .u32 4096,vs] y33u .exact)
 generalize upd h b _=h1 at *
 have hv1:=hv.mono hs
 refine ⟨rfl,by simp [hvb],ygzv _ _ _ _ ?_⟩
 unfold ynzg ymv4
 refine ⟨by simp [hvb],y3hq _ _ _ _ ?_⟩
 simp (config:={dsimp:=false}) [↓ysgb,↓ypgx,↓yiqk,↓yu4k,hv1.ulen]
 unfold ykfk ys1p
 refine yq9z fun K'=>?_
 have i0:=fun (K:Value→Prop) (u:Dm K)=>hv1.ixA (k:=.i64) (i:=0) (by simp) (K:=K) (u:=u)
 simp (config:={dsimp:=false}) [sgC] at i0
 simp (config:={dsimp:=false}) [↓y1pu,i0]
 refine ⟨by simp [hb],by kernel_rfl,yde1 hc hp hb fun h2 hs2=>?_⟩
 have hc2:=hs2 _ _ hc
 simp (config:={dsimp:=false}) [yb3e hc2]
 exact hk _ (hs.trans hs2)
theorem Sl.formL {α:Type} {enc:α→List Value} {sz:Nat} {v:Value} {l:List α} (hs:Sl enc sz h v l):∃a c,v=.slice a l.length c:=by
 obtain ⟨_,⟨rfl,rfl⟩ | ⟨b,o,c,rfl,_⟩⟩:=hs
 ·exact ⟨_,_,rfl⟩
 ·exact ⟨_,_,rfl⟩
theorem yjdc {q i n c sz:Nat} {k:IntKind} {K:Value→Prop} {u:Dm K} (hi:i≤c):y4a7 sz (.slice (some ⟨q,0,none⟩) n c) none (some (.int k i)) none K u=K (.slice (some ⟨q,0,none⟩) i c):=by
 refine propext ⟨?_,fun hk=>⟨0,i,rfl,rfl,Nat.zero_le _,hi,by simpa using hk⟩⟩
 rintro ⟨l,u,h1,h2,_,_,h5⟩
 simp only at h1 h2
 subst h1
 have:i=u:=by omega
 subst this
 simpa using h5
theorem y5xs {vs vb vd:Value} {p:Int} {bs data:List Int} (hv:Sl sgC 4 h vs [(4096,1024,p,vb),(65536,512,3,vd)]) (hp:p=5∨p=7) (hb:Sl u8V 1 h vb bs) (hd:Sl u8V 1 h vd data) (hvq:∃q,vs=.slice (some ⟨q,0,none⟩) 2 2) (hbl:bs.length≤1024) (hdl:data.length≤512) (hk:K (.int .i64 0) h) :
 AM.Spec PG y45l [.agg #[.int .u32 4096,vs]] h K:=by
 refine yz7m (fun K hk=>?_) hk
 refine yl4o _ _ _ ?_
 have hvb:=hv.box
 obtain ⟨za,zc,rfl⟩:=Sl.formL hb
 obtain ⟨ya,yc,rfl⟩:=Sl.formL hd
 have hm0:yaom 4096 1024 p za bs.length zc=true:=by
  unfold yaom
  rw [w_u64 (x:=(bs.length:Int)) (by omega) (by omega)]
  have e1:IntKind.u64.wrap 1024=1024:=by decide
  have e2:IntKind.u64.wrap (IntKind.u64.wrap 4096+1024)=5120:=by decide
  rw [e1,e2]
  simp
  omega
 have hm1:yaom 65536 512 3 ya data.length yc=true:=by
  unfold yaom
  rw [w_u64 (x:=(data.length:Int)) (by omega) (by omega)]
  have e1:IntKind.u64.wrap 512=512:=by decide
  have e2:IntKind.u64.wrap (IntKind.u64.wrap 65536+512)=66048:=by decide
  rw [e1,e2]
  simp
  omega
 have wb:IntKind.u64.wrap (bs.length:Int)=bs.length:=w_u64 (by omega) (by omega)
 have wd:IntKind.u64.wrap (data.length:Int)=data.length:=w_u64 (by omega) (by omega)
 have wbd:IntKind.u64.wrap ((bs.length:Int)+data.length)=bs.length+data.length:=w_u64 (by omega) (by omega)
 unfold ydlt yfmg
 simp (config:={dsimp:=false}) [hvb]
 intro b _ hbn
 have hs:Sub h (upd h b (.cells [.int .u32 4096,vs] y33u .exact)):=Sub.new hbn
 have hc:=yy0e h b (.cells [.int .u32 4096,vs] y33u .exact)
 generalize upd h b _=h1 at *
 simp (config:={dsimp:=false}) [↓y6t9,↓y92v,yb3e hc,(hv.mono hs).ulen]
 unfold y9fv yuff
 refine yo1k 2 (fun i s h'=>s=(ptr b 0,.int .u64 (if i=0 then 0 else if i=1 then bs.length else bs.length+data.length),.int .u64 (if i=0 then 0 else if i=1 then 1024 else 1536),vs,.int .i64 2,.int .i64 i)∧Sub h h'∧h' b=some (.cells [.int .u32 4096,vs] y33u .exact)) ⟨rfl,hs,hc⟩ ?_
 rintro i s h' K' hi ⟨rfl,hs',hc'⟩ hk'
 have hv':=hv.mono hs'
 have i0:=fun (K:Value→Prop) (u:Dm K)=>hv'.ixA (k:=.i64) (i:=0) (by simp) (K:=K) (u:=u)
 have i1:=fun (K:Value→Prop) (u:Dm K)=>hv'.ixA (k:=.i64) (i:=1) (by simp) (K:=K) (u:=u)
 simp (config:={dsimp:=false}) [sgC] at i0 i1
 match i,hi with
 | 0,_ =>
   simp (config:={dsimp:=false}) [↓yqw3,i0,hb.box,hm0,wb]
   intro b5 _ hb5
   have n5:b≠b5:=fun e=>by rw [e,hb5] at hc';cases hc'
   exact hk' (ptr b 0,.int .u64 bs.length,.int .u64 1024,vs,.int .i64 2,.int .i64 1) _ (by omega) ⟨by simp,Sub.newer hs' hb5,(yrkk _ _ n5).trans hc'⟩
 | 1,_ =>
   simp (config:={dsimp:=false}) [↓yqw3,i1,hd.box,hm1,wd,wbd]
   intro b5 _ hb5
   have n5:b≠b5:=fun e=>by rw [e,hb5] at hc';cases hc'
   exact hk' (ptr b 0,.int .u64 (bs.length+data.length),.int .u64 1536,vs,.int .i64 2,.int .i64 2) _ (by omega) ⟨by simp,Sub.newer hs' hb5,(yrkk _ _ n5).trans hc'⟩
 | 2,_ =>
   have q1:¬(65536:Int)<(bs.length:Int)+data.length:=by omega
   simp (config:={dsimp:=false}) [↓yqw3,↓ypec,↓yagd,↓yqhm,yb3e hc',hv'.ulen,q1]
   clear hk'
   unfold yof2 ydqv
   obtain ⟨q,rfl⟩:=hvq
   refine yo1k 2 (fun i s h'=>s=(ptr b 0,.slice (some ⟨q,0,none⟩) 2 2,.int .i64 2,.int .i64 i)∧Sub h h'∧h' b=some (.cells [.int .u32 4096,.slice (some ⟨q,0,none⟩) 2 2] y33u .exact)) ⟨rfl,hs',hc'⟩ ?_
   clear hs' hc' hv' i0 i1
   rintro i s h' K' hi ⟨rfl,hs',hc'⟩ hk'
   have hv':=hv.mono hs'
   have i0:=fun (K:Value→Prop) (u:Dm K)=>hv'.ixA (k:=.i64) (i:=0) (by simp) (K:=K) (u:=u)
   have i1:=fun (K:Value→Prop) (u:Dm K)=>hv'.ixA (k:=.i64) (i:=1) (by simp) (K:=K) (u:=u)
   simp (config:={dsimp:=false}) [sgC] at i0 i1
   obtain ⟨c0,c1⟩:cellsAt h' q 0 4=some [.int .u32 4096,.int .u32 1024,.int .i64 p,.slice za bs.length zc]∧cellsAt h' q 4 4=some [.int .u32 65536,.int .u32 512,.int .i64 3,.slice ya data.length yc]:=by
    obtain ⟨_,⟨he,_⟩ | ⟨b',o',c',h1,h2⟩⟩:=hv'
    ·cases he
    ·simp only [Value.slice.injEq,Option.some.injEq,Addr.mk.injEq] at h1
     obtain ⟨⟨rfl,rfl,_⟩,_,rfl⟩:=h1
     have h3:=h2 (by simp)
     exact ⟨yt82 (m:=0) h3 (by simp),yt82 (o:=0) (m:=4) h3 (by simp)⟩
   match i,hi with
   | 0,_ =>
     simp (config:={dsimp:=false}) [↓yhqq,↓ycnj,↓y2xm,↓y0mn,c0]
     intro b8 _ hb8
     have n8:b≠b8:=fun e=>by rw [e,hb8] at hc';cases hc'
     have hst:=fun (K:Value→Prop) (u:Dm K)=>yjdc (q:=q) (i:=0) (n:=2) (c:=2) (sz:=4) (k:=.i64) (K:=K) (u:=u) (by omega)
     simp (config:={dsimp:=false}) at hst
     simp (config:={dsimp:=false}) [n8,yb3e hc',hst]
     unfold yw6q yh3o
     refine yq9z fun K2=>?_
     simp (config:={dsimp:=false}) [↓yw83,↓yyez]
     exact hk' (ptr b 0,.slice (some ⟨q,0,none⟩) 2 2,.int .i64 2,.int .i64 1) _ (by omega) ⟨by simp,Sub.newer hs' hb8,(yrkk _ _ n8).trans hc'⟩
   | 1,_ =>
     simp (config:={dsimp:=false}) [↓yhqq,↓ycnj,↓y2xm,↓y0mn,c1]
     intro b8 _ hb8
     have n8:b≠b8:=fun e=>by rw [e,hb8] at hc';cases hc'
     have hst:=fun (K:Value→Prop) (u:Dm K)=>yjdc (q:=q) (i:=1) (n:=2) (c:=2) (sz:=4) (k:=.i64) (K:=K) (u:=u) (by omega)
     simp (config:={dsimp:=false}) at hst
     simp (config:={dsimp:=false}) [n8,yb3e hc',hst]
     have s8:=Sub.new (o:=.cells [.int .u32 65536,.int .u32 512,.int .i64 3,.slice ya data.length yc] ym0k .exact) hb8
     have e8:=yy0e h' b8 (.cells [.int .u32 65536,.int .u32 512,.int .i64 3,.slice ya data.length yc] ym0k .exact)
     have eb:=s8 _ _ hc'
     have sx:=Sub.trans hs' s8
     have d0:=s8.cellsAt c0
     generalize upd h' b8 _=h8 at *
     unfold yw6q yh3o
     refine yo1k 1 (fun j s h2=>s=(ptr b 0,ptr b8 0,.slice (some ⟨q,0,none⟩) 2 2,.int .i64 2,.int .i64 1,.slice (some ⟨q,0,none⟩) 1 2,.int .i64 1,.int .i64 j)∧Sub h8 h2) ⟨rfl,Sub.refl _⟩ ?_
     rintro j s h2 K2 hj ⟨rfl,s2⟩ hk2
     have eb2:=s2 _ _ eb
     have e82:=s2 _ _ e8
     match j,hj with
     | 0,_ =>
       simp (config:={dsimp:=false}) [↓yw83,s2.cellsAt d0]
       intro b10 _ hb10
       have n10:b8≠b10:=fun e=>by rw [e,hb10] at e82;cases e82
       simp (config:={dsimp:=false}) [n10,yzql e82]
       rw [if_pos (by unfold ym5a ywor;decide)]
       exact hk2 (ptr b 0,ptr b8 0,.slice (some ⟨q,0,none⟩) 2 2,.int .i64 2,.int .i64 1,.slice (some ⟨q,0,none⟩) 1 2,.int .i64 1,.int .i64 1) _ (by omega) ⟨by simp,Sub.newer s2 hb10⟩
     | 1,_ =>
       simp (config:={dsimp:=false}) [↓yw83,↓yyez]
       exact hk' (ptr b 0,.slice (some ⟨q,0,none⟩) 2 2,.int .i64 2,.int .i64 2) _ (by omega) ⟨by simp,Sub.trans sx s2,eb2⟩
   | 2,_ =>
     simp (config:={dsimp:=false}) [↓yhqq,↓ypzm,yzql hc']
     refine ⟨rfl,yzpr hv' hp hb.box ?_⟩
     simp (config:={dsimp:=false})
     exact hk _ hs'
end
end Go.Proofs.YtnckimioabkheaaGreat
set_option linter.unusedSimpArgs false
set_option linter.unusedVariables false
set_option maxRecDepth 100000
namespace Go.Proofs.YtnckimioabkheaaGreat
open AM
theorem y8k7 {h:H} {b:Nat} {o:AObj} (hb:h b=some o):upd h b o=h:=by
 funext c
 unfold upd
 by_cases hc:c=b
 ·subst hc;simp [hb]
 ·simp [hc]
def yadi (v:Int) (i:Nat):Int:=IntKind.u8.wrap (v.fdiv (2^min (8*i) 32))
def put4 (bs:List Int) (at_:Nat) (v:Int):Nat→List Int
 | 0=>bs
 | i+1=>(put4 bs at_ v i).set (at_+i) (yadi v i)
theorem yfw8 {bs:List Int} {at_:Nat} {v:Int}:∀i,(put4 bs at_ v i).length=bs.length
 | 0=>rfl
 | i+1=>by simp [put4,yfw8 i]
theorem yd4z {n at_:Nat}:∀i,put4 (List.replicate n 0) at_ 0 i=List.replicate n 0
 | 0=>rfl
 | i+1=>by
   rw [put4,yd4z i]
   have:yadi 0 i=0:=by unfold yadi;simp
   rw [this]
   simp
def stkB:List Int:=List.replicate 4096 0
theorem y5r7:stkB.length=4096:=List.length_replicate
theorem ynbh:∀x∈stkB,0≤x∧x<256:=fun x hx=>by have:=(List.mem_replicate.1 hx).2;omega
theorem yk6e {at_ i:Nat}:put4 stkB at_ 0 i=stkB:=yd4z i
section
variable {h:H} {K:K1}
theorem yaj7 {q c:Nat} {E:TypeId} {m:AM.Own} {bs:List Int} {at_:Nat} {v:Int} (hq:h q=some (.cells (bs.map (.int .u8)) E m)) (hm:m≠.ro) (hat:at_+4≤bs.length) (hl:bs.length<1000000)
 (hk:K (.tuple #[]) (upd h q (.cells ((put4 bs at_ v 4).map (.int .u8)) E m))):AM.Spec PG y3rk [.slice (some ⟨q,0,none⟩) bs.length c,.int .i64 at_,.int .u32 v] h K:=by
 refine y8pi _ _ _ _ _ ?_
 unfold y5cc yqvc yhj6 ypfd
 refine yo1k 4 (fun i s h'=>s=(.slice (some ⟨q,0,none⟩) bs.length c,.int .i64 at_,.int .u32 v,.int .i64 i)∧h'=upd h q (.cells ((put4 bs at_ v i).map (.int .u8)) E m)) ⟨rfl,(y8k7 hq).symm⟩ ?_
 rintro i s h' K' hi ⟨rfl,rfl⟩ hk'
 by_cases hlt:i<4
 ·have w1:IntKind.i64.wrap ((at_:Int)+i)=((at_+i:Nat):Int):=by rw [w_i64 (by omega) (by omega)];omega
  have w2:IntKind.i64.wrap (8*(i:Int))=((8*i:Nat):Int):=by rw [w_i64 (by omega) (by omega)];omega
  have w3:IntKind.i64.wrap ((i:Int)+1)=((i+1:Nat):Int):=by rw [w_i64 (by omega) (by omega)];omega
  have d1:decide ((i:Int)<4)=true:=by simp;omega
  have hl2:=yfw8 (bs:=bs) (at_:=at_) (v:=v) i
  simp (config:={dsimp:=false}) only [↓ybq4,s_lss,d1,s_if,if_true,s_add,w1,s_mul,w2]
  rw [s_shr (by omega),ym88,s_ia,w1,Int.toNat_natCast,Int.toNat_natCast]
  refine ⟨by omega,by omega,?_⟩
  rw [ykdp,yy0e]
  refine ⟨hm,rfl,rfl,by simp;omega,?_⟩
  rw [yre8]
  simp (config:={dsimp:=false}) only [s_add,w3]
  refine hk' _ _ hlt ⟨rfl,?_⟩
  rw [put4]
  congr 2
  have e0:0+(at_+i)*1=at_+i:=by omega
  rw [e0]
  simp [yadi,IntKind.bits]
 ·have d1:decide ((i:Int)<4)=false:=by simp;omega
  simp (config:={dsimp:=false}) only [↓ybq4,s_lss,d1,s_if,if_false]
  have:i=4:=by omega
  subst this
  simpa using hk
theorem yqp9 (hk:K (.bool true) h):AM.Spec PG ygag [nilV] h K:=by
 refine ypqv _ _ _ ?_
 simp (config:={dsimp:=false}) [↓ymcy,↓ygpf,↓yf8n,↓yh7p,↓yoq9]
 unfold y5o2
 refine yq9z fun K'=>?_
 simp (config:={dsimp:=false}) [↓ys8i,↓yovo]
 exact hk
theorem ydbw {a:Option Addr} {c:Nat} {s:ByteArray} {u:Dm K}:yyhb 1 (.slice a 0 c) (.string s) h K u=K (.int .i64 0) h:=by
 show y1uk 1 _ _ h K=_
 unfold y1uk
 simp [srcLen,yc23]
theorem y46r:∀n,ybp0 [.int .u8 0] n=(List.replicate n (0:Int)).map (Value.int .u8)
 | 0=>rfl
 | n+1=>by rw [ybp0,y46r n];rfl
theorem ykv0 (hk:∀q h',Sub h h'→h q=none→2≤q→h' q=some (.cells (stkB.map (.int .u8)) yoj6 .exact)→K (.tuple #[.slice (some ⟨q,0,none⟩) 4096 4096,.int .u32 2147479536,nilV,.int .i64 0]) h') :
 AM.Spec PG ybm3 [nilV] h K:=by
 refine ybpt _ _ _ ?_
 unfold y2v2 y44k
 refine ⟨rfl,yqp9 ?_⟩
 simp (config:={dsimp:=false}) [↓yfbt,↓ygdq,↓y6te]
 unfold yusv
 refine yq9z fun K'=>?_
 have e0:(({ data := #[] }:ByteArray).size:Int)=0:=rfl
 simp (config:={dsimp:=false}) [↓ypsh,↓ysxt,e0]
 refine ⟨rfl,by decide,by decide,by decide,by decide,by decide,fun q hq2 hq=>?_⟩
 rw [y46r]
 have e4:Int.toNat 4096=4096:=rfl
 rw [e4]
 have eb:List.replicate 4096 (0:Int)=stkB:=rfl
 rw [eb]
 refine ⟨4096,4096,rfl,rfl,by decide,by decide,?_⟩
 have e1:¬(4096=0):=by decide
 have e2:¬(4096<4096):=by decide
 rw [if_neg e1,if_neg e2]
 have hqq:=yy0e h q (.cells (stkB.map (.int .u8)) yoj6 .exact)
 have hsn:Sub h (upd h q (.cells (stkB.map (.int .u8)) yoj6 .exact)):=Sub.new hq
 have hlen:=y5r7
 have hcc:∀{K:K1},K (.tuple #[]) (upd h q (.cells (stkB.map (.int .u8)) yoj6 .exact))→AM.Spec PG y3rk [.slice (some ⟨q,0,none⟩) 4096 4096,.int .i64 4080,.int .u32 0] (upd h q (.cells (stkB.map (.int .u8)) yoj6 .exact)) K:=fun {K} hk=>by
  have:=yaj7 (K:=K) (c:=4096) (at_:=4080) (v:=0) hqq (by simp) (by rw [hlen];decide) (by rw [hlen];decide) (by rw [yk6e,yre8];exact hk)
  rw [hlen] at this
  exact this
 generalize stkB.map (Value.int .u8)=cs at *
 simp (config:={dsimp:=false}) [ydbw,e0]
 refine ⟨rfl,hcc ?_⟩
 simp (config:={dsimp:=false}) [↓yt2s,↓y38p,↓yxzz]
 unfold yh44
 refine yq9z fun K'=>?_
 simp (config:={dsimp:=false}) [↓y8g9,↓yh6i]
 exact hk q _ hsn hq hq2 hqq
end
end Go.Proofs.YtnckimioabkheaaGreat
set_option linter.unusedSimpArgs false
set_option linter.unusedVariables false
set_option maxRecDepth 100000
namespace Go.Proofs.YtnckimioabkheaaGreat
open AM
structure MC where
 q:Value
 s:Value
 x:List Int
 pc:Int
 ret:Int
 t:List Int
 f:Value
 pp:Bool
 src:Value
 snk:Value
 brk:Int
 flo:Int
 al:Value
def MC.rest (c:MC):List Value:=[c.f,.bool c.pp,c.src,c.snk,.int .u32 c.brk,.int .u32 c.flo,c.al]
def MC.cells (c:MC):List Value:=[c.q,c.s]++(c.x.map (.int .u32)++([.int .u32 c.pc,.int .i64 c.ret]++(c.t.map (.int .u8)++c.rest)))
structure MC.Ok (c:MC):Prop where
 x:c.x.length=32
 t:c.t.length=128
section
variable {c:MC}
theorem MC.len (h:c.Ok):c.cells.length=171:=by
 have h1:=h.x
 have h2:=h.t
 simp [MC.cells,MC.rest,h1,h2]
theorem MC.at_x (h:c.Ok) {i:Nat} (hi:i<32):c.cells[2+i]?=some (.int .u32 (c.x.getD i 0)):=by
 have h1:=h.x
 have hx:i<c.x.length:=by omega
 unfold MC.cells
 rw [List.getElem?_append_right (by simp),List.getElem?_append_left (by simp;omega)]
 simp [hx,List.getD_eq_getElem?_getD]
theorem MC.drop34 (h:c.Ok):c.cells.drop 34=[.int .u32 c.pc,.int .i64 c.ret]++(c.t.map (.int .u8)++c.rest):=by
 have h1:=h.x
 unfold MC.cells
 rw [← List.append_assoc]
 exact List.drop_left' (by simp [h1])
theorem MC.drop164 (h:c.Ok):c.cells.drop 164=c.rest:=by
 have h1:=h.x
 have h2:=h.t
 unfold MC.cells
 rw [← List.append_assoc,←List.append_assoc,←List.append_assoc]
 exact List.drop_left' (by simp [h1,h2])
theorem MC.at_d (h:c.Ok) {i k:Nat} {l:List Value} (hd:c.cells.drop k=l):c.cells[k+i]?=l[i]?:=by rw [← hd,List.getElem?_drop]
theorem MC.at_0:c.cells[0]?=some c.q:=rfl
theorem MC.at_1:c.cells[1]?=some c.s:=rfl
theorem MC.at_pc (h:c.Ok):c.cells[34]?=some (.int .u32 c.pc):=MC.at_d (i:=0) h (MC.drop34 h)
theorem MC.at_ret (h:c.Ok):c.cells[35]?=some (.int .i64 c.ret):=MC.at_d (i:=1) h (MC.drop34 h)
theorem MC.at_src (h:c.Ok):c.cells[166]?=some c.src:=MC.at_d (i:=2) h (MC.drop164 h)
theorem MC.at_flo (h:c.Ok):c.cells[169]?=some (.int .u32 c.flo):=MC.at_d (i:=5) h (MC.drop164 h)
theorem MC.set_q {v:Value}:c.cells.set 0 v={ c with q:=v }.cells:=rfl
theorem MC.set_s {v:Value}:c.cells.set 1 v={ c with s:=v }.cells:=rfl
theorem yavo {α:Type} {a b:List α} {i:Nat} {v:α} (h:a.length≤i):(a++b).set i v=a++b.set (i-a.length) v:=List.set_append_right _ _ h
theorem yeps {α:Type} {a b:List α} {i:Nat} {v:α} (h:i<a.length):(a++b).set i v=a.set i v++b:=List.set_append_left _ _ h
theorem MC.set_x (h:c.Ok) {i:Nat} (hi:i<32) {v:Int}:c.cells.set (2+i) (.int .u32 v)={ c with x:=c.x.set i v }.cells:=by
 have h1:=h.x
 unfold MC.cells
 rw [yavo (by simp),yeps (by simp;omega)]
 simp only [List.length_cons,List.length_nil,List.map_set]
 rw [show 2+i-(0+1+1)=i by omega]
 rfl
theorem MC.set_pc (h:c.Ok) {v:Int}:c.cells.set 34 (.int .u32 v)={ c with pc:=v }.cells:=by
 have h1:=h.x
 unfold MC.cells
 rw [yavo (by simp),yavo (by simp [h1])]
 simp [h1,MC.rest]
theorem MC.set_ret (h:c.Ok) {v:Int}:c.cells.set 35 (.int .i64 v)={ c with ret:=v }.cells:=by
 have h1:=h.x
 unfold MC.cells
 rw [yavo (by simp),yavo (by simp [h1])]
 simp [h1,MC.rest]
theorem MC.set_r (h:c.Ok) {i:Nat} {v:Value} {c':MC} (e:c'.q=c.q∧c'.s=c.s∧c'.x=c.x∧c'.pc=c.pc∧c'.ret=c.ret∧c'.t=c.t) (hr:c.rest.set i v=c'.rest):c.cells.set (164+i) v=c'.cells:=by
 have h1:=h.x
 have h2:=h.t
 obtain ⟨e1,e2,e3,e4,e5,e6⟩:=e
 unfold MC.cells
 rw [yavo (by simp;omega),yavo (by simp [h1];omega),yavo (by simp [h1];omega),yavo (by simp [h1,h2];omega),e1,e2,e3,e4,e5,e6,←hr]
 congr 5
 simp [h1,h2]
 omega
theorem MC.set_brk (h:c.Ok) {v:Int}:c.cells.set 168 (.int .u32 v)={ c with brk:=v }.cells:=MC.set_r (i:=4) (c':={ c with brk:=v }) h ⟨rfl,rfl,rfl,rfl,rfl,rfl⟩ rfl
end
section
variable {h0 h:H} {D:MD} {μ:MS} {K:K1}
theorem MemIn.base (hm:MemIn h0 D h μ) (hs:Sub h0 h) {q:Nat} {o:AObj} (hq:h q=some o) (hn:¬MOwn D μ q):MemIn (upd h0 q o) D h μ∧Sub (upd h0 q o) h:=by
 refine ⟨⟨hm.at_,fun b hb=>?_,hm.ne,hm.inj,hm.nd⟩,fun b x hb=>?_⟩
 ·have hbq:b≠q:=fun he=>hn (by rw [← he];exact hb)
  rw [yrkk _ _ hbq];exact hm.new b hb
 ·by_cases hbq:b=q
  ·subst hbq;rw [yy0e] at hb;rw [hq];exact hb
  ·rw [yrkk _ _ hbq] at hb;exact hs _ _ hb
theorem MemIn.less {q:Nat} {o:AObj} (hm:MemIn (upd h0 q o) D h μ):MemIn h0 D h μ:=⟨hm.at_,fun b hb=>by
 have:=hm.new b hb
 rw [ynej] at this
 exact this.2.2,hm.ne,hm.inj,hm.nd⟩
theorem MemIn.over (hm:MemIn h0 D h μ) {b:Nat} {q:AObj} (hb:¬MOwn D μ b):MemIn h0 D (upd h b q) μ:=by
 have e:∀c,MOwn D μ c→upd h b q c=h c:=fun c hc=>yrkk _ _ fun he=>hb (he▸hc)
 refine ⟨⟨?_,?_,?_,?_⟩,hm.new,hm.ne,hm.inj,hm.nd⟩
 ·rw [e _ (.inl rfl)];exact hm.at_.q
 ·obtain ⟨ck,hh⟩:=hm.at_.pm
  exact ⟨ck,by rw [e _ (.inr (.inl rfl))];exact hh⟩
 ·obtain ⟨ck,hh⟩:=hm.at_.gm
  exact ⟨ck,by rw [e _ (.inr (.inr (.inl rfl)))];exact hh⟩
 ·intro p hp
  rw [e _ (.inr (.inr (.inr ⟨p,hp,rfl⟩)))];exact hm.at_.pg p hp
theorem ys9b {h:H} {q c:Nat} {E:TypeId} {m:AM.Own} {f:Int→Value} {bs:List Int} (hq:h q=some (.cells (bs.map f) E m)):Sl (fun x=>[f x]) 1 h (.slice (some ⟨q,0,none⟩) bs.length c) bs:=by
 have hl:∀l:List Int,l.flatMap (fun x=>[f x])=l.map f:=fun l=>by induction l with | nil=>rfl | cons x r ih=>simp [ih]
 refine Sl.of_block (by simp) hq ?_ (by simp)
 rw [hl,List.drop_zero,Nat.mul_one]
 exact List.take_of_length_le (by simp)
def stkSg:Sg×List Int:=((2147475456,4096,3,nilV),stkB)
theorem yid5 (hm:MemIn h0 D h μ) (hw:MSok μ) (hz:MSz μ) (hsub:Sub h0 h)
 (hk:∀D' h',Went h0 D μ h D' (layF μ [stkSg]).2 h'→K (.tuple #[.int .u32 (if (layF μ [stkSg]).1=0 then 2147479536 else 0),nilV,.int .i64 (layF μ [stkSg]).1]) h') :
 AM.Spec PG yhhb [ptr D.q 0,nilV] h K:=by
 refine y3ry _ _ _ _ ?_
 unfold yd9e yppp
 refine ⟨rfl,ykv0 fun q h1 s1 hq hq2 hqq=>?_⟩
 have hwt0:Went h0 D μ h D μ h1:=⟨hm.sub s1,rfl,fun b o _ hb=>s1 b o hb,fun b hb=>.inl hb⟩
 have hnq:¬MOwn D μ q:=fun hc=>by
  rcases hc with rfl | rfl | rfl | ⟨e,he,rfl⟩
  ·have:=hm.at_.q;rw [hq] at this;cases this
  ·obtain ⟨ck,this⟩:=hm.at_.pm;rw [hq] at this;cases this
  ·obtain ⟨ck,this⟩:=hm.at_.gm;rw [hq] at this;cases this
  ·have:=hm.at_.pg e he;rw [hq] at this;cases this
 obtain ⟨mb,sb⟩:=(hm.sub s1).base (hsub.trans s1) hqq hnq
 have hv:Sl (fun x:Int=>[Value.int .u8 x]) 1 (upd h0 q (.cells (stkB.map (.int .u8)) yoj6 .exact)) (.slice (some ⟨q,0,none⟩) 4096 4096) stkB:=by
  have:=ys9b (h:=upd h0 q (.cells (stkB.map (.int .u8)) yoj6 .exact)) (c:=4096) (yy0e _ _ _)
  rw [y5r7] at this
  exact this
 simp only [layF,stkSg] at hk
 simp (config:={dsimp:=false})
 refine ⟨rfl,yjn9 mb sb (by obtain ⟨z1,z2⟩:=hz;omega) (by decide) (by decide) (by decide) (by decide) fun E2 h2 m2 e2 f2 o2=>?_⟩
 have hwA:Went h0 D μ h1 E2 (mapM μ 2147475456 4096 3) h2:=⟨m2.less,e2,f2,o2⟩
 have hwt2:=hwt0.trans hwA
 by_cases he:mapE μ 2147475456 4096 3=0
 case neg =>
  have hmm:mapM μ 2147475456 4096 3=μ:=by simp [mapM,he]
  rw [hmm] at hwt2
  simp [he] at hk
  simp (config:={dsimp:=false}) [he]
  exact hk E2 h2 hwt2
 simp only [he,ne_eq,not_true,if_false] at hk
 simp (config:={dsimp:=false}) [he]
 have hq2':D.q=E2.q:=e2.symm
 rw [hq2']
 have s2:Sub (upd h0 q (.cells (stkB.map (.int .u8)) yoj6 .exact)) h2:=f2.sub sb mb.new
 refine ⟨rfl,y91f m2 hw.map s2 (by decide) (by decide) ynbh hv (by rw [y5r7];decide) fun h3 m3 f3=>?_⟩
 have hwB:Went h0 E2 (mapM μ 2147475456 4096 3) h2 E2 (wrR (mapM μ 2147475456 4096 3) 2147475456 65536 0 stkB) h3:=⟨m3.less,rfl,f3,fun b hb=>.inl ((y2rr yk6i).1 hb)⟩
 have hwt3:=hwt2.trans hwB
 by_cases he2:wrE (mapM μ 2147475456 4096 3) 2147475456 65536 0 stkB=0
 case neg =>
  have hmm:wrR (mapM μ 2147475456 4096 3) 2147475456 65536 0 stkB=mapM μ 2147475456 4096 3:=by simp [wrR,he2]
  rw [hmm] at hwt3
  simp [he2] at hk
  simp (config:={dsimp:=false}) [he2]
  exact hk E2 h3 hwt3
 simp [he2] at hk
 simp (config:={dsimp:=false}) [he2]
 exact hk E2 h3 hwt3
end
end Go.Proofs.YtnckimioabkheaaGreat
set_option linter.unusedSimpArgs false
set_option linter.unusedVariables false
set_option maxRecDepth 100000
namespace Go.Proofs.YtnckimioabkheaaGreat
open AM
section
variable {h:H} {K:K1}
theorem yjhg (hk:K (.bool true) h):AM.Spec PG ywke [noPol] h K:=by
 refine yz7m (fun K hk=>?_) hk
 refine yxso _ _ _ ?_
 simp (config:={dsimp:=false}) [↓y5ue,↓y1gy]
 intro b _ hb
 have hs:Sub h (upd h b (.cells [.bool false,nilV,nilV] ysrv .exact)):=Sub.new hb
 have hc:=yy0e h b (.cells [.bool false,nilV,nilV] ysrv .exact)
 generalize upd h b _=h1 at *
 simp (config:={dsimp:=false}) [↓y7gc,↓y198,↓yqes,yb3e hc]
 unfold y856
 refine yq9z fun K'=>?_
 simp (config:={dsimp:=false}) [↓ylt6,↓y56t,↓yiih,↓y5fc,yb3e hc]
 unfold yt3h
 refine yq9z fun K'=>?_
 simp (config:={dsimp:=false}) [↓yrek,↓ymcg,yb3e hc]
 exact hk _ hs
theorem y8mf (hk:K (.bool true) h):AM.Spec PG yak4 [yh6o] h K:=by
 refine yz7m (fun K hk=>?_) hk
 refine yrlf _ _ _ ?_
 simp (config:={dsimp:=false}) [↓ykiw,↓yukp]
 intro b _ hb
 have hs:Sub h (upd h b (.cells [nilV,nilV,nilV,nilV,nilV,nilV] y5c0 .exact)):=Sub.new hb
 have hc:=yy0e h b (.cells [nilV,nilV,nilV,nilV,nilV,nilV] y5c0 .exact)
 generalize upd h b _=h1 at *
 simp (config:={dsimp:=false}) [↓ykqk,↓yasy,↓yj7y,yb3e hc]
 unfold yecb
 refine yq9z fun K'=>?_
 simp (config:={dsimp:=false}) [↓yzcq,↓yrvm,↓yctv,↓y67r,yb3e hc]
 unfold y3g7
 refine yq9z fun K'=>?_
 simp (config:={dsimp:=false}) [↓y5l6,↓y1zn,↓ym1c,↓yq1z,yb3e hc]
 unfold y38c
 refine yq9z fun K'=>?_
 simp (config:={dsimp:=false}) [↓y0rw,↓yt7z,yb3e hc]
 exact hk _ hs
abbrev use7:List Value:=[nilV,nilV,nilV,nilV,nilV,nilV,.int .i64 0,.int .i64 0,.int .i64 0]
theorem yfsy (hk:∀q h',Sub h h'→h q=none→h' q=some (.cells use7 yxsr .exact)→K (ptr q 0) h'):AM.Spec PG ygvy [yh6o] h K:=by
 refine y6h7 _ _ _ ?_
 simp (config:={dsimp:=false}) [↓y8a3,↓ylli]
 intro b _ hb
 have hs:Sub h (upd h b (.cells [nilV,nilV,nilV,nilV,nilV,nilV] y5c0 .exact)):=Sub.new hb
 have hc:=yy0e h b (.cells [nilV,nilV,nilV,nilV,nilV,nilV] y5c0 .exact)
 generalize upd h b _=h1 at *
 refine ⟨rfl,y8mf ?_⟩
 simp (config:={dsimp:=false}) [yzql hc]
 intro q _ hq
 exact hk q _ (Sub.upd hs (Sub.none hs hq)) (Sub.none hs hq) (yy0e _ _ _)
def openC (fd file at_:Int):List Value:=[.int .i64 fd,.int .i64 file,.int .i64 at_]
theorem yxk1 (hk:∀f q o h',Sub h h'→h f=none→h q=none→h o=none→h' f=some (.cells [ptr q 0,.slice (some ⟨o,0,none⟩) 3 3,nilV,nilV] ydrn .exact) →
 h' q=some (.cells use7 yxsr .exact)→h' o=some (.cells (openC 0 (-1) 0++openC 1 (-2) 0++openC 2 (-2) 0) yukk .exact)→K (ptr f 0) h'):AM.Spec PG ybvf [yh6o] h K:=by
 refine yigq _ _ _ ?_
 simp (config:={dsimp:=false}) [↓y6jv,↓y0it]
 intro b _ hb
 have hs:Sub h (upd h b (.cells [nilV,nilV,nilV,nilV,nilV,nilV] y5c0 .exact)):=Sub.new hb
 generalize upd h b _=h1 at *
 refine ⟨rfl,yfsy fun q h2 s2 hq hqc=>?_⟩
 have hs2:=hs.trans s2
 simp (config:={dsimp:=false})
 intro o _ ho f _ n1 n2 hf
 have m1:q≠o:=fun e=>by rw [← e,hqc] at ho;cases ho
 have m2:q≠f:=fun e=>by rw [← e,hqc] at hf;cases hf
 exact hk f q o _ (Sub.upd (Sub.upd hs2 (Sub.none hs2 ho)) (Sub.none hs2 hf)) (Sub.none hs2 hf) (Sub.none hs hq) (Sub.none hs2 ho) (yy0e _ _ _) (by rw [yrkk _ _ m2,yrkk _ _ m1];exact hqc) (by rw [yrkk _ _ n2,yy0e];rfl)
theorem yben {v:Int} (hk:∀w h',Sub h h'→Sl u8V 1 h' w (word4 v)→capOk w→K w h'):AM.Spec PG yfwh [nilV,.int .u32 v] h K:=by
 refine y4po _ _ _ _ ?_
 simp (config:={dsimp:=false}) [↓y3hh,↓yvgt]
 intro c hc2 hcn
 refine OL.app (m:=[]) (OL.empty (enc:=u8V) hc2 (by simp)) Sl.nil (by omega) (by simp) (by simp) fun v1 h1 b1 o1 c1 f1=>?_
 have s1:Sub h (upd h c (.cells [] yoj6 .exact)):=Sub.new hcn
 have k1:=c1.sub s1 (fun d hd=>by cases hd;exact hcn)
 simp (config:={dsimp:=false})
 refine OL.push (m:=word4 v) o1 (by simp [word4]) (by omega) (by simp [word4]) (by simp [word4]) (fun v2 h2 b2 o2 c2=>?_) rfl rfl
 have k2:=c2.sub k1.1 k1.2
 rw [List.append_nil,List.nil_append] at o2
 exact hk _ _ k2.1 o2.sl o2.cap
theorem ycqb {bs:List Int} {o n:Nat} (hb:bs=List.replicate n 0):∀k,setL (bs.map (Value.int .u8)) o (List.replicate k (Value.int .u8 0))=bs.map (Value.int .u8):=by
 intro k
 subst hb
 induction k generalizing o with
 | zero=>simp
 | succ k ih =>
   rw [List.replicate_succ,yf16,List.map_replicate,List.set_replicate_self]
   have:=ih (o:=o+1)
   rw [List.map_replicate] at this
   exact this
theorem yvad (hk:∀q h',Sub h h'→h q=none→2≤q→h' q=some (.cells (stkB.map (.int .u8)) yoj6 .exact)→K (.tuple #[.slice (some ⟨q,0,none⟩) 4096 4096,.int .u32 2147479536,nilV,.int .i64 0]) h') :
 AM.Spec PG yujl [nilV] h K:=by
 refine y8kb _ _ _ ?_
 simp (config:={dsimp:=false}) [↓yy9w,↓y6bz,↓y0my,↓yq1v,↓ywwt]
 unfold yfef
 refine yq9z fun K'=>?_
 simp (config:={dsimp:=false}) [↓y19o,↓ys2n]
 refine ⟨rfl,by decide,by decide,by decide,by decide,by decide,fun q hq2 hq=>?_⟩
 rw [y46r]
 have e4:Int.toNat 4096=4096:=rfl
 rw [e4]
 have eb:List.replicate 4096 (0:Int)=stkB:=rfl
 rw [eb]
 have hqq:=yy0e h q (.cells (stkB.map (.int .u8)) yoj6 .exact)
 have hsn:Sub h (upd h q (.cells (stkB.map (.int .u8)) yoj6 .exact)):=Sub.new hq
 have hlen:(stkB.map (Value.int .u8)).length=4096:=by rw [List.length_map];exact y5r7
 have hset:∀o k,setL (stkB.map (Value.int .u8)) o (List.replicate k (Value.int .u8 0))=stkB.map (Value.int .u8):=fun o k=>ycqb (n:=4096) rfl k
 generalize stkB.map (Value.int .u8)=cs at *
 simp (config:={dsimp:=false})
 refine ⟨rfl,yben fun w h2 s2 hw hcw=>?_⟩
 have hq2c:=s2 _ _ hqq
 simp (config:={dsimp:=false}) [↓ylwr,↓yo7x,↓ybpq]
 unfold ytbe
 refine yq9z fun K'=>?_
 simp (config:={dsimp:=false}) [↓yd1i,↓yvdo]
 refine ⟨4080,4096,rfl,rfl,by decide,by decide,?_⟩
 rw [if_neg (by decide),if_pos (by decide)]
 have ew:word4 0=[0,0,0,0]:=rfl
 rw [ew] at hw
 have hl4:=hw.srcLen
 have hsrc:=hw.src
 simp only [List.length_cons,List.length_nil] at hl4 hsrc
 show y1uk 1 (.slice (some ⟨q,0+4080*1,none⟩) (4096-4080) (4096-4080)) w h2 _
 unfold y1uk
 simp only [hl4]
 have e5:Nat.min 4 (4096-4080)=4:=rfl
 rw [e5,hsrc]
 simp only [hq2c]
 rw [if_neg (by decide)]
 refine ⟨by decide,by rw [hlen];decide,rfl,?_⟩
 have e6:[0,0,0,0].flatMap u8V=List.replicate 4 (Value.int .u8 0):=rfl
 rw [e6,hset]
 have hself:=y8k7 hq2c
 rw [hself]
 simp (config:={dsimp:=false})
 exact hk q _ (hsn.trans s2) hq hq2 hq2c
end
end Go.Proofs.YtnckimioabkheaaGreat
set_option linter.unusedSimpArgs false
set_option linter.unusedVariables false
set_option maxRecDepth 100000
namespace Go.Proofs.YtnckimioabkheaaGreat
open AM
def y2g0 (h:H) (v:Value):Prop:=∃f q o,v=ptr f 0∧h f=some (.cells [ptr q 0,.slice (some ⟨o,0,none⟩) 3 3,nilV,nilV] ydrn .exact) ∧
 h q=some (.cells use7 yxsr .exact)∧h o=some (.cells (openC 0 (-1) 0++openC 1 (-2) 0++openC 2 (-2) 0) yukk .exact)
theorem y2g0.sub {h h':H} {v:Value} (hs:Sub h h') (hf:y2g0 h v):y2g0 h' v:=by
 obtain ⟨f,q,o,h1,h2,h3,h4⟩:=hf
 exact ⟨f,q,o,h1,hs _ _ h2,hs _ _ h3,hs _ _ h4⟩
def y03k:CE:=.grow (fun args _=>args=[yh6o]) (fun _ h v=>y2g0 h v) (fun _ _ _ _ h=>h) (fun _ _ _ _ hs h=>h.sub hs)
@[simp] theorem ylv8 {args:List Value} {h:H} {K:K1}:CE.run y03k args h K=(args=[yh6o]∧∀v h',Sub h h'→y2g0 h' v→K v h'):=rfl
def D6:CT:=ctOf [(ybvf,y03k)] E5
theorem D6_ok:CTOk PG D6:=yko4 E5_ok (by
 intro x hx args h K hr
 simp only [List.mem_cons,List.not_mem_nil,or_false] at hx
 subst hx
 obtain ⟨rfl,hr⟩:=hr
 exact yxk1 fun f q o h' hs _ _ _ h1 h2 h3=>hr _ _ hs ⟨f,q,o,rfl,h1,h2,h3⟩)
end Go.Proofs.YtnckimioabkheaaGreat
set_option linter.unusedVariables false
set_option maxRecDepth 100000
namespace Go.Proofs.YtnckimioabkheaaGreat
open Go.Proofs.YtnckimioabkheaaGreat.AM
@[simp] theorem yh5f {a0:Int} {K:Value→Prop} {u:Dm K}:ysnr PG ycje [(0,.int .i64 a0)] K u=K (.agg #[.int .i64 a0,.slice none 0 0]):=by kernel_rfl
@[simp] theorem ysut {a0:Int} {K:Value→Prop} {u:Dm K}:ysnr PG yxex [(0,.int .i64 a0)] K u=K (.agg #[.int .i64 a0,.slice none 0 0,.slice none 0 0]):=by kernel_rfl
@[simp] theorem y55d {a0:Option Addr} {a1:Option Addr} {a4:Option Addr} {a5_0:Bool} {a5_1a:Option Addr} {a5_1n:Nat} {a5_1c:Nat} {a5_2a:Option Addr} {a5_2n:Nat} {a5_2c:Nat} {K:Value→Prop} {u:Dm K}:ysnr PG yb54 [(0,.pointer a0),(1,.pointer a1),(4,.pointer a4),(5,.agg #[.bool a5_0,.slice a5_1a a5_1n a5_1c,.slice a5_2a a5_2n a5_2c])] K u=K (.agg #[.pointer a0,.pointer a1,.int .u32 0,.int .u32 0,.int .u32 0,.int .u32 0,.int .u32 0,.int .u32 0,.int .u32 0,.int .u32 0,.int .u32 0,.int .u32 0,.int .u32 0,.int .u32 0,.int .u32 0,.int .u32 0,.int .u32 0,.int .u32 0,.int .u32 0,.int .u32 0,.int .u32 0,.int .u32 0,.int .u32 0,.int .u32 0,.int .u32 0,.int .u32 0,.int .u32 0,.int .u32 0,.int .u32 0,.int .u32 0,.int .u32 0,.int .u32 0,.int .u32 0,.int .u32 0,.int .u32 0,.int .i64 0,.int .u8 0,.int .u8 0,.int .u8 0,.int .u8 0,.int .u8 0,.int .u8 0,.int .u8 0,.int .u8 0,.int .u8 0,.int .u8 0,.int .u8 0,.int .u8 0,.int .u8 0,.int .u8 0,.int .u8 0,.int .u8 0,.int .u8 0,.int .u8 0,.int .u8 0,.int .u8 0,.int .u8 0,.int .u8 0,.int .u8 0,.int .u8 0,.int .u8 0,.int .u8 0,.int .u8 0,.int .u8 0,.int .u8 0,.int .u8 0,.int .u8 0,.int .u8 0,.int .u8 0,.int .u8 0,.int .u8 0,.int .u8 0,.int .u8 0,.int .u8 0,.int .u8 0,.int .u8 0,.int .u8 0,.int .u8 0,.int .u8 0,.int .u8 0,.int .u8 0,.int .u8 0,.int .u8 0,.int .u8 0,.int .u8 0,.int .u8 0,.int .u8 0,.int .u8 0,.int .u8 0,.int .u8 0,.int .u8 0,.int .u8 0,.int .u8 0,.int .u8 0,.int .u8 0,.int .u8 0,.int .u8 0,.int .u8 0,.int .u8 0,.int .u8 0,.int .u8 0,.int .u8 0,.int .u8 0,.int .u8 0,.int .u8 0,.int .u8 0,.int .u8 0,.int .u8 0,.int .u8 0,.int .u8 0,.int .u8 0,.int .u8 0,.int .u8 0,.int .u8 0,.int .u8 0,.int .u8 0,.int .u8 0,.int .u8 0,.int .u8 0,.int .u8 0,.int .u8 0,.int .u8 0,.int .u8 0,.int .u8 0,.int .u8 0,.int .u8 0,.int .u8 0,.int .u8 0,.int .u8 0,.int .u8 0,.int .u8 0,.int .u8 0,.int .u8 0,.int .u8 0,.int .u8 0,.int .u8 0,.int .u8 0,.int .u8 0,.int .u8 0,.int .u8 0,.int .u8 0,.int .u8 0,.int .u8 0,.int .u8 0,.int .u8 0,.int .u8 0,.int .u8 0,.int .u8 0,.int .u8 0,.int .u8 0,.int .u8 0,.int .u8 0,.int .u8 0,.int .u8 0,.int .u8 0,.int .u8 0,.int .u8 0,.int .u8 0,.int .u8 0,.int .u8 0,.int .u8 0,.int .u8 0,.int .u8 0,.int .u8 0,.pointer a4,.bool a5_0,.slice a5_1a a5_1n a5_1c,.slice a5_2a a5_2n a5_2c,.int .u32 0,.int .u32 0,.slice none 0 0]):=by kernel_rfl
def y4to (x3 x4 x5 x6 x7:Value) (h:H) (Kn:K4) (Kr:K2):Prop :=
 ysnr PG yxex [(0,x3)] fun v53=>ysnr PG ycje [(0,x4)] fun v56=>ybqh true 6 x7 h fun v58=>ybqh true 3 x6 h fun v60=>(boxV v56=true∧u_new (Value.cells v56).toList ycje .exact h fun b57 h=>True)∧(u_ct y03k [v58] h fun v59 h=>True)∧boxV v53=true∧u_new (Value.cells v53).toList yxex .exact h fun b54 h=>(u_ct y03k [v58] h fun v59 h=>True)∧boxV v56=true∧u_new (Value.cells v56).toList ycje .exact h fun b57 h=>u_ct y03k [v58] h fun v59 h=>ysnr PG yb54 [(0,(.pointer (some ⟨b54,0,none⟩))),(1,(.pointer (some ⟨b57,0,none⟩))),(4,v59),(5,v60)] fun v61=>boxV v61=true∧u_new (Value.cells v61).toList yb54 .exact h fun b62 h=>Kn x5 x6 x7 (.pointer (some ⟨b62,0,none⟩)) h
def yuof (x5 x6 x7 x13 x14 x15 x16:Value) (h:H) (Kn:K8) (Kr:K2) (Ke1:K6) (Ke0:K4):Prop :=
 u_pf false 1 0 x13 h fun v81=>u_bf false 1 0 x16 h fun v83=>u_bf false 1 1 x16 h fun v85=>u_bf false 1 2 x16 h fun v87=>yjdf PG y0iw [v81,v83,v85,v87] h fun v88 h=>Kn x5 x6 x7 v88 x13 x14 x15 x16 h
def ytq5 (x5 x6 x7 x13 x14 x15 x16:Value) (h:H) (Kn:K7) (Kr:K2) (Ke1:K6) (Ke0:K4):Prop :=
 u_pf false 1 0 x13 h fun v95=>u_bf false 1 0 x16 h fun v97=>u_bf false 1 3 x16 h fun v99=>yjdf PG y3o4 [v95,v97,v99] h fun v100 h=>Kn x5 x6 x7 x13 x14 x15 x16 h
def y343 (x5 x6 x7 x13 x14 x15 x16:Value) (h:H) (Kn:K6) (Kr:K2) (Ke1:K6) (Ke0:K4):Prop :=
 u_bf false 1 0 x16 h fun v102=>u_bin PG .lss ycpa v102 (.int .u32 2147475456) fun v103=>ydv6 v103 true (fun k8=>u_bf false 1 0 x16 h fun v106=>y2x6 .i64 v106 fun v107=>u_bin PG .gtr yeb5 v107 x14 fun v109=>k8 v109 h) (fun v109 h=>y9rg v103 v109 (.bool false) fun v110=>u_if v110 (u_bf false 1 0 x16 h fun v112=>y2x6 .i64 v112 fun v113=>u_bf false 1 0 x16 h fun v116=>y2x6 .i64 v116 fun v117=>u_bf false 1 1 x16 h fun v119=>y2x6 .i64 v119 fun v120=>u_bin PG .add yeb5 v117 v120 fun v121=>u_bin PG .add yeb5 v121 (.int .i64 255) fun v122=>u_bin PG .quo yeb5 v122 (.int .i64 256) fun v123=>u_bin PG .mul yeb5 v123 (.int .i64 256) fun v124=>y2x6 .u32 v124 fun v125=>y394 x13 fun v126=>u_st 1 169 v126 v125 h fun h=>Kn x5 x6 x7 x13 v113 x15 h) (Kn x5 x6 x7 x13 x14 x15 h)) h
def yclc (x5 x6 x7 x13 x14 x15 x16:Value) (h:H) (Kn:K6) (Kr:K2) (Ke1:K6) (Ke0:K4):Prop :=
 ytq5 x5 x6 x7 x13 x14 x15 x16 h (fun y5 y6 y7 y13 y14 y15 y16 h=>y343 y5 y6 y7 y13 y14 y15 y16 h Kn Kr Ke1 Ke0) Kr Ke1 Ke0
def y03n (x5 x6 x7 x12 x13 x14 x15 x16:Value) (h:H) (Kn:K6) (Kr:K2) (Ke1:K6) (Ke0:K4):Prop :=
 u_bin PG .neq ya0f x12 (.int .i64 0) fun v90=>u_if v90 (Kr (.pointer none) x12 h) (yclc x5 x6 x7 x13 x14 x15 x16 h Kn Kr Ke1 Ke0)
def y4fd (x5 x6 x7 x13 x14 x15 x16:Value) (h:H) (Kn:K6) (Kr:K2) (Ke1:K6) (Ke0:K4):Prop :=
 yuof x5 x6 x7 x13 x14 x15 x16 h (fun y5 y6 y7 y12 y13 y14 y15 y16 h=>y03n y5 y6 y7 y12 y13 y14 y15 y16 h Kn Kr Ke1 Ke0) Kr Ke1 Ke0
def yiac (x5 x6 x7 x13 x14 x15:Value) (h:H) (Kn:K6) (Kr:K2) (Ke1:K6) (Ke0:K4):Prop :=
 u_bf false 1 1 x5 h fun v74=>u_ix true 4 none v74 x15 h fun v77=>u_new [.int .u32 0,.int .u32 0,.int .i64 0,.slice none 0 0] yhas .exact h fun b16 h=>ylel 4 (.pointer (some ⟨b16,0,none⟩)) v77 h fun h=>y4fd x5 x6 x7 x13 x14 x15 (.pointer (some ⟨b16,0,none⟩)) h Kn Kr Ke1 Ke0
def y4w5 (x5 x6 x7 x13 x14 x15:Value) (h:H) (Kn:K6) (Kr:K2) (Ke0:K4):Prop :=
 yiac x5 x6 x7 x13 x14 x15 h Kn Kr Kn Ke0
def yvtw (x5 x6 x7 x13 x14 x15:Value) (h:H) (Kn:K6) (Kr:K2) (Ke0:K4):Prop :=
 u_bin PG .add T_int x15 (.int .i64 1) fun v72=>Kn x5 x6 x7 x13 x14 v72 h
def y7ew (x5 x6 x7 x13 x14 x15:Value) (h:H) (Kn:K6) (Kr:K2) (Ke0:K4):Prop :=
 y4w5 x5 x6 x7 x13 x14 x15 h (fun y5 y6 y7 y13 y14 y15 h=>yvtw y5 y6 y7 y13 y14 y15 h Kn Kr Ke0) Kr Ke0
def ybxa (x5 x6 x7 x13 x14 x15:Value) (h:H) (Kn:K6) (Kr:K2) (Ke0:K4):Prop :=
 u_bf false 1 1 x5 h fun v68=>ywmm v68 fun v69=>u_bin PG .lss T_int x15 v69 fun v70=>u_if v70 (y7ew x5 x6 x7 x13 x14 x15 h Kn Kr Ke0) (Ke0 x5 x6 x7 x13 h)
def yfqr (x5 x6 x7 x13 x14 x15:Value) (h:H) (Kn:K4) (Kr:K2) (Ke0:K4):Prop :=
 sloop (S:=Value×Value×Value×Value×Value×Value) (fun s h K=>ybxa s.1 s.2.1 s.2.2.1 s.2.2.2.1 s.2.2.2.2.1 s.2.2.2.2.2 h (fun y5 y6 y7 y13 y14 y15 h=>K (y5,y6,y7,y13,y14,y15) h) Kr Ke0) (x5,x6,x7,x13,x14,x15) h
def yag9 (x5 x6 x7 x13 x14 x15:Value) (h:H) (Kn:K4) (Kr:K2):Prop :=
 yfqr x5 x6 x7 x13 x14 x15 h Kn Kr Kn
def yj9m (x5 x6 x7 x13 x14:Value) (h:H) (Kn:K4) (Kr:K2):Prop :=
 yag9 x5 x6 x7 x13 x14 (.int .i64 0) h Kn Kr
def yah6 (x5 x6 x12 x13 x18 x19 x20 x21:Value) (h:H) (Kn:K8) (Kr:K2) (Ke3:K7) (Ke2:K3):Prop :=
 u_bf false 1 0 x21 h fun v173=>u_bin PG .eql T_int v173 (.int .i64 4) fun v174=>u_if v174 (u_bf false 1 1 x21 h fun v177=>u_bf false 1 2 x21 h fun v179=>y2x6 .i64 v179 fun v180=>u_bf false 1 3 x21 h fun v182=>yjdf PG yog4 [x13,v177,v180,v182] h fun v183 h=>Kn x5 x6 v183 x13 x18 x19 x20 x21 h) (Kn x5 x6 x12 x13 x18 x19 x20 x21 h)
def yc1q (x5 x6 x13 x18 x19 x20 x21 x22:Value) (h:H) (Kn:(Value→Value→Value→Value→Value→Value→Value→Value→Value→H→Prop)) (Kr:K2) (Ke5:(Value→Value→Value→Value→Value→Value→Value→Value→Value→H→Prop)) (Ke4 Ke3:K7) (Ke2:K3):Prop :=
 u_ixf false 1 0 none 2 x19 x22 h fun v204=>u_ixf false 1 1 none 2 x19 x22 h fun v209=>u_bf false 1 3 x21 h fun v211=>yjdf PG yog4 [x13,v204,v209,v211] h fun v212 h=>Kn x5 x6 v212 x13 x18 x19 x20 x21 x22 h
def y6nr (x5 x6 x13 x18 x19 x20 x21 x22:Value) (h:H) (Kn:(Value→Value→Value→Value→Value→Value→Value→Value→Value→H→Prop)) (Kr:K2) (Ke4 Ke3:K7) (Ke2:K3):Prop :=
 yc1q x5 x6 x13 x18 x19 x20 x21 x22 h Kn Kr Kn Ke4 Ke3 Ke2
def y3fl (x5 x6 x12 x13 x18 x19 x20 x21 x22:Value) (h:H) (Kn:(Value→Value→Value→Value→Value→Value→Value→Value→Value→H→Prop)) (Kr:K2) (Ke4 Ke3:K7) (Ke2:K3):Prop :=
 u_bin PG .add T_int x22 (.int .i64 1) fun v198=>Kn x5 x6 x12 x13 x18 x19 x20 x21 v198 h
def y1wa (x5 x6 x13 x18 x19 x20 x21 x22:Value) (h:H) (Kn:(Value→Value→Value→Value→Value→Value→Value→Value→Value→H→Prop)) (Kr:K2) (Ke4 Ke3:K7) (Ke2:K3):Prop :=
 y6nr x5 x6 x13 x18 x19 x20 x21 x22 h (fun y5 y6 y12 y13 y18 y19 y20 y21 y22 h=>y3fl y5 y6 y12 y13 y18 y19 y20 y21 y22 h Kn Kr Ke4 Ke3 Ke2) Kr Ke4 Ke3 Ke2
def ypmf (x5 x6 x12 x13 x18 x19 x20 x21 x22:Value) (h:H) (Kn:(Value→Value→Value→Value→Value→Value→Value→Value→Value→H→Prop)) (Kr:K2) (Ke4 Ke3:K7) (Ke2:K3):Prop :=
 ywmm x19 fun v186=>u_bin PG .lss T_int x22 v186 fun v187=>ydv6 v187 true (fun k7=>u_bf false 1 0 x21 h fun v190=>u_bin PG .eql T_int v190 (.int .i64 5) fun v191=>k7 v191 h) (fun v191 h=>y9rg v187 v191 (.bool false) fun v192=>ydv6 v192 true (fun k11=>u_bin PG .eql ya0f x12 (.int .i64 0) fun v195=>k11 v195 h) (fun v195 h=>y9rg v192 v195 (.bool false) fun v196=>u_if v196 (y1wa x5 x6 x13 x18 x19 x20 x21 x22 h Kn Kr Ke4 Ke3 Ke2) (Ke4 x5 x6 x12 x13 x18 x19 x20 h)) h) h
def yt2j (x5 x6 x12 x13 x18 x19 x20 x21 x22:Value) (h:H) (Kn:K7) (Kr:K2) (Ke4 Ke3:K7) (Ke2:K3):Prop :=
 sloop (S:=Value×Value×Value×Value×Value×Value×Value×Value×Value) (fun s h K=>ypmf s.1 s.2.1 s.2.2.1 s.2.2.2.1 s.2.2.2.2.1 s.2.2.2.2.2.1 s.2.2.2.2.2.2.1 s.2.2.2.2.2.2.2.1 s.2.2.2.2.2.2.2.2 h (fun y5 y6 y12 y13 y18 y19 y20 y21 y22 h=>K (y5,y6,y12,y13,y18,y19,y20,y21,y22) h) Kr Ke4 Ke3 Ke2) (x5,x6,x12,x13,x18,x19,x20,x21,x22) h
def yiz2 (x5 x6 x12 x13 x18 x19 x20 x21 x22:Value) (h:H) (Kn:K7) (Kr:K2) (Ke3:K7) (Ke2:K3):Prop :=
 yt2j x5 x6 x12 x13 x18 x19 x20 x21 x22 h Kn Kr Kn Ke3 Ke2
def yxoc (x5 x6 x12 x13 x18 x19 x20 x21:Value) (h:H) (Kn:K7) (Kr:K2) (Ke3:K7) (Ke2:K3):Prop :=
 yiz2 x5 x6 x12 x13 x18 x19 x20 x21 (.int .i64 0) h Kn Kr Ke3 Ke2
def yijq (x5 x6 x12 x13 x18 x19 x20:Value) (h:H) (Kn:K7) (Kr:K2) (Ke3:K7) (Ke2:K3):Prop :=
 u_bin PG .neq ya0f x12 (.int .i64 0) fun v214=>u_if v214 (Kr (.pointer none) x12 h) (Kn x5 x6 x12 x13 x18 x19 x20 h)
def ypjb (x5 x6 x12 x13 x18 x19 x20 x21:Value) (h:H) (Kn:K7) (Kr:K2) (Ke3:K7) (Ke2:K3):Prop :=
 yxoc x5 x6 x12 x13 x18 x19 x20 x21 h (fun y5 y6 y12 y13 y18 y19 y20 h=>yijq y5 y6 y12 y13 y18 y19 y20 h Kn Kr Ke3 Ke2) Kr Ke3 Ke2
def yd8b (x5 x6 x12 x13 x18 x19 x20 x21:Value) (h:H) (Kn:K7) (Kr:K2) (Ke3:K7) (Ke2:K3):Prop :=
 yah6 x5 x6 x12 x13 x18 x19 x20 x21 h (fun y5 y6 y12 y13 y18 y19 y20 y21 h=>ypjb y5 y6 y12 y13 y18 y19 y20 y21 h Kn Kr Ke3 Ke2) Kr Ke3 Ke2
def y4vw (x5 x6 x12 x13 x18 x19 x20:Value) (h:H) (Kn:K7) (Kr:K2) (Ke3:K7) (Ke2:K3):Prop :=
 u_bf false 1 1 x6 h fun v168=>u_ix true 4 none v168 x20 h fun v171=>u_new [.int .i64 0,.int .u32 0,.int .u32 0,.int .u8 0] ybsk .exact h fun b21 h=>ylel 4 (.pointer (some ⟨b21,0,none⟩)) v171 h fun h=>yd8b x5 x6 x12 x13 x18 x19 x20 (.pointer (some ⟨b21,0,none⟩)) h Kn Kr Ke3 Ke2
def ycy3 (x5 x6 x12 x13 x18 x19 x20:Value) (h:H) (Kn:K7) (Kr:K2) (Ke2:K3):Prop :=
 y4vw x5 x6 x12 x13 x18 x19 x20 h Kn Kr Kn Ke2
def yhe8 (x5 x6 x12 x13 x18 x19 x20:Value) (h:H) (Kn:K7) (Kr:K2) (Ke2:K3):Prop :=
 u_bin PG .add T_int x20 (.int .i64 1) fun v166=>Kn x5 x6 x12 x13 x18 x19 v166 h
def ygjs (x5 x6 x12 x13 x18 x19 x20:Value) (h:H) (Kn:K7) (Kr:K2) (Ke2:K3):Prop :=
 ycy3 x5 x6 x12 x13 x18 x19 x20 h (fun y5 y6 y12 y13 y18 y19 y20 h=>yhe8 y5 y6 y12 y13 y18 y19 y20 h Kn Kr Ke2) Kr Ke2
def ytqz (x5 x6 x12 x13 x18 x19 x20:Value) (h:H) (Kn:K7) (Kr:K2) (Ke2:K3):Prop :=
 u_bf false 1 1 x6 h fun v162=>ywmm v162 fun v163=>u_bin PG .lss T_int x20 v163 fun v164=>u_if v164 (ygjs x5 x6 x12 x13 x18 x19 x20 h Kn Kr Ke2) (Ke2 x5 x13 x18 h)
def ywpg (x5 x6 x12 x13 x18 x19 x20:Value) (h:H) (Kn:K3) (Kr:K2) (Ke2:K3):Prop :=
 sloop (S:=Value×Value×Value×Value×Value×Value×Value) (fun s h K=>ytqz s.1 s.2.1 s.2.2.1 s.2.2.2.1 s.2.2.2.2.1 s.2.2.2.2.2.1 s.2.2.2.2.2.2 h (fun y5 y6 y12 y13 y18 y19 y20 h=>K (y5,y6,y12,y13,y18,y19,y20) h) Kr Ke2) (x5,x6,x12,x13,x18,x19,x20) h
def yf5q (x5 x6 x12 x13 x18 x19 x20:Value) (h:H) (Kn:K3) (Kr:K2):Prop :=
 ywpg x5 x6 x12 x13 x18 x19 x20 h Kn Kr Kn
def ygxc (x5 x6 x12 x13 x18 x19:Value) (h:H) (Kn:K3) (Kr:K2):Prop :=
 yf5q x5 x6 x12 x13 x18 x19 (.int .i64 0) h Kn Kr
def yy4w (x5 x13 x18:Value) (h:H) (Kn Kr:K2):Prop :=
 u_bf false 1 0 x5 h fun v218=>y394 x13 fun v219=>y0wt 2 v219 fun v220=>u_st 1 32 v220 v218 h fun h=>y394 x13 fun v224=>y0wt 2 v224 fun v225=>y0wt 0 v225 fun v226=>yji6 (some 32) 1 v226 (.int .i64 2) fun v227=>ylel 1 v227 x18 h fun h=>Kr x13 (.int .i64 0) h
def yaz5 (x5 x6 x12 x13 x18 x19:Value) (h:H) (Kn Kr:K2):Prop :=
 ygxc x5 x6 x12 x13 x18 x19 h (fun y5 y13 y18 h=>yy4w y5 y13 y18 h Kn Kr) Kr
def y241 (x5 x6 x7 x13:Value) (h:H) (Kn Kr:K2):Prop :=
 u_bf false 1 0 x7 h fun v130=>yjdf PG yujl [v130] h fun v131 h=>yvu8 v131 0 fun v132=>yvu8 v131 1 fun v133=>yvu8 v131 2 fun v134=>yvu8 v131 3 fun v135=>u_bin PG .neq ya0f v135 (.int .i64 0) fun v137=>u_if v137 (Kr (.pointer none) v135 h) (u_pf false 1 0 x13 h fun v142=>yjdf PG y0iw [v142,(.int .u32 2147475456),(.int .u32 4096),(.int .i64 3)] h fun v143 h=>u_bin PG .neq ya0f v143 (.int .i64 0) fun v145=>u_if v145 (Kr (.pointer none) v143 h) (u_pf false 1 0 x13 h fun v150=>yjdf PG y3o4 [v150,(.int .u32 2147475456),v132] h fun v152 h=>u_pf false 1 169 x13 h fun v157=>y394 x13 fun v158=>u_st 1 168 v158 v157 h fun h=>yaz5 x5 x6 v143 x13 v133 v134 h Kn Kr))
def y2yo (x5 x6 x7 x13 x14:Value) (h:H) (Kn Kr:K2):Prop :=
 yj9m x5 x6 x7 x13 x14 h (fun y5 y6 y7 y13 h=>y241 y5 y6 y7 y13 h Kn Kr) Kr
def ylpr (x5 x6 x7 x13:Value) (h:H) (Kn Kr:K2):Prop :=
 y394 x13 fun v64=>u_st 1 169 v64 (.int .u32 2147475456) h fun h=>y2yo x5 x6 x7 x13 (.int .i64 (-1)) h Kn Kr
def yeh7 (x3 x4 x5 x6 x7:Value) (h:H) (Kn Kr:K2):Prop :=
 y4to x3 x4 x5 x6 x7 h (fun y5 y6 y7 y13 h=>ylpr y5 y6 y7 y13 h Kn Kr) Kr
def yals (x0 x1 x2 x3 x4:Value) (h:H) (Kn Kr:K2):Prop :=
 boxV x0=true∧u_new (Value.cells x0).toList yr7r .exact h fun b5 h=>boxV x1=true∧u_new (Value.cells x1).toList ysrv .exact h fun b6 h=>boxV x2=true∧u_new (Value.cells x2).toList y5c0 .exact h fun b7 h=>ybqh true 2 (.pointer (some ⟨b5,0,none⟩)) h fun v23=>yjdf PG y3mv [v23] h fun v24 h=>u_bin PG .neq ya0f v24 (.int .i64 0) fun v26=>u_if v26 (Kr (.pointer none) v24 h) (ybqh true 3 (.pointer (some ⟨b6,0,none⟩)) h fun v28=>yjdf PG ywke [v28] h fun v29 h=>u_un PG .not v29 fun v30=>ydv6 v30 false (fun k6=>ybqh true 6 (.pointer (some ⟨b7,0,none⟩)) h fun v32=>yjdf PG yak4 [v32] h fun v33 h=>u_un PG .not v33 fun v34=>k6 v34 h) (fun v34 h=>y9rg v30 (.bool true) v34 fun v35=>ydv6 v35 false (fun k10=>u_bin PG .lss T_int x3 (.int .i64 1) fun v38=>k10 v38 h) (fun v38 h=>y9rg v35 (.bool true) v38 fun v39=>ydv6 v39 false (fun k14=>u_bin PG .gtr T_int x3 (.int .i64 4096) fun v42=>k14 v42 h) (fun v42 h=>y9rg v39 (.bool true) v42 fun v43=>ydv6 v43 false (fun k18=>u_bin PG .lss T_int x4 (.int .i64 0) fun v46=>k18 v46 h) (fun v46 h=>y9rg v43 (.bool true) v46 fun v47=>ydv6 v47 false (fun k22=>u_bin PG .gtr T_int x4 (.int .i64 4096) fun v50=>k22 v50 h) (fun v50 h=>y9rg v47 (.bool true) v50 fun v51=>u_if v51 (Kr (.pointer none) (.int .i64 1) h) (yeh7 x3 x4 (.pointer (some ⟨b5,0,none⟩)) (.pointer (some ⟨b6,0,none⟩)) (.pointer (some ⟨b7,0,none⟩)) h Kn Kr)) h) h) h) h) h)
theorem ya8s {Kn:(Value→Value→Value→Value→Value→Value→Value→Value→Value→H→Prop)} {Kr:K2} {Ke4 Ke3:K7} {Ke2:K3} {t:T} {h:H} (H0:ypmf (t 5) (t 6) (t 12) (t 13) (t 18) (t 19) (t 20) (t 21) (t 22) h Kn Kr Ke4 Ke3 Ke2):Wp PG 229 (lopC (blkC (rest 1 (seqL (seqR (rest 1 (blkC (seqL (rest 1 (lopC (blkC (rest 1 (seqL (rest 6 (seqR (rest 2 (seqR (rest 4 (ygjk Tryz.f44.body))))))))))))))))))) (mkQ (fun t h=>Kn (t 5) (t 6) (t 12) (t 13) (t 18) (t 19) (t 20) (t 21) (t 22) h) (q2 Kr 10 11) (keAdd 4 (fun t h=>Ke4 (t 5) (t 6) (t 12) (t 13) (t 18) (t 19) (t 20) h) (keAdd 3 (fun t h=>Ke3 (t 5) (t 6) (t 12) (t 13) (t 18) (t 19) (t 20) h) (keAdd 2 (q3 Ke2 5 13 18) ke0)))) t h :=
 (toE D6_ok 1 H0 fun t h (H:y1wa (t 5) (t 6) (t 13) (t 18) (t 19) (t 20) (t 21) (t 22) h Kn Kr Ke4 Ke3 Ke2)=>(sqE (fun t h=>(fun y5 y6 y12 y13 y18 y19 y20 y21 y22 h=>y3fl y5 y6 y12 y13 y18 y19 y20 y21 y22 h Kn Kr Ke4 Ke3 Ke2) (t 5) (t 6) (t 12) (t 13) (t 18) (t 19) (t 20) (t 21) (t 22) h) (bkE 5 (drE D6_ok [0,1,2,3,4,5,6,7,8,9,10,11,12,13,14] H)) fun t h H=>(wpE D6_ok H)))
theorem ynoi {Kn:K7} {Kr:K2} {Ke3:K7} {Ke2:K3} {t:T} {h:H} (H0:yxoc (t 5) (t 6) (t 12) (t 13) (t 18) (t 19) (t 20) (t 21) h Kn Kr Ke3 Ke2):Wp PG 229 (seqL (seqR (rest 1 (blkC (seqL (rest 1 (lopC (blkC (rest 1 (seqL (rest 6 (seqR (rest 2 (seqR (rest 4 (ygjk Tryz.f44.body)))))))))))))))) (mkQ (fun t h=>Kn (t 5) (t 6) (t 12) (t 13) (t 18) (t 19) (t 20) h) (q2 Kr 10 11) (keAdd 3 (fun t h=>Ke3 (t 5) (t 6) (t 12) (t 13) (t 18) (t 19) (t 20) h) (keAdd 2 (q3 Ke2 5 13 18) ke0))) t h :=
 (toE D6_ok 1 H0 fun t h (H:yiz2 (t 5) (t 6) (t 12) (t 13) (t 18) (t 19) (t 20) (t 21) (t 22) h Kn Kr Ke3 Ke2)=>(bkE 4 (lpE (fun t=>(t 5,t 6,t 12,t 13,t 18,t 19,t 20,t 21,t 22)) H fun t h K H=>(ya8s H))))
theorem y992 {Kn:K7} {Kr:K2} {Ke2:K3} {t:T} {h:H} (H0:ycy3 (t 5) (t 6) (t 12) (t 13) (t 18) (t 19) (t 20) h Kn Kr Ke2):Wp PG 229 (seqL (rest 1 (lopC (blkC (rest 1 (seqL (rest 6 (seqR (rest 2 (seqR (rest 4 (ygjk Tryz.f44.body)))))))))))) (mkQ (fun t h=>Kn (t 5) (t 6) (t 12) (t 13) (t 18) (t 19) (t 20) h) (q2 Kr 10 11) (keAdd 2 (q3 Ke2 5 13 18) ke0)) t h :=
 (bkE 3 (toE D6_ok 1 H0 fun t h (H:yd8b (t 5) (t 6) (t 12) (t 13) (t 18) (t 19) (t 20) (t 21) h Kn Kr Kn Ke2)=>(sqE (fun t h=>(fun y5 y6 y12 y13 y18 y19 y20 y21 h=>ypjb y5 y6 y12 y13 y18 y19 y20 y21 h Kn Kr Kn Ke2) (t 5) (t 6) (t 12) (t 13) (t 18) (t 19) (t 20) (t 21) h) (wpE D6_ok H) fun t h H=>(sqE _ (ynoi H) fun t h H=>(wpE D6_ok H)))))
theorem y1lu {Kn:K7} {Kr:K2} {Ke2:K3} {t:T} {h:H} (H0:ytqz (t 5) (t 6) (t 12) (t 13) (t 18) (t 19) (t 20) h Kn Kr Ke2):Wp PG 229 (lopC (blkC (rest 1 (seqL (rest 6 (seqR (rest 2 (seqR (rest 4 (ygjk Tryz.f44.body)))))))))) (mkQ (fun t h=>Kn (t 5) (t 6) (t 12) (t 13) (t 18) (t 19) (t 20) h) (q2 Kr 10 11) (keAdd 2 (q3 Ke2 5 13 18) ke0)) t h :=
 (toE D6_ok 1 H0 fun t h (H:ygjs (t 5) (t 6) (t 12) (t 13) (t 18) (t 19) (t 20) h Kn Kr Ke2)=>(sqE _ (y992 H) fun t h H=>(wpE D6_ok H)))
theorem yv0n {Kn:K6} {Kr:K2} {Ke1:K6} {Ke0:K4} {t:T} {h:H} (H0:y4fd (t 5) (t 6) (t 7) (t 13) (t 14) (t 15) (t 16) h Kn Kr Ke1 Ke0):Wp PG 229 (rest 1 (blkC (seqL (rest 1 (lopC (blkC (rest 1 (seqL (rest 2 (seqR (rest 4 (ygjk Tryz.f44.body)))))))))))) (mkQ (q6 Kn 5 6 7 13 14 15) (q2 Kr 10 11) (keAdd 1 (q6 Ke1 5 6 7 13 14 15) (keAdd 0 (q4 Ke0 5 6 7 13) ke0))) t h :=
 (sqE (fun t h=>(fun y5 y6 y7 y12 y13 y14 y15 y16 h=>y03n y5 y6 y7 y12 y13 y14 y15 y16 h Kn Kr Ke1 Ke0) (t 5) (t 6) (t 7) (t 12) (t 13) (t 14) (t 15) (t 16) h) (drE D6_ok [0,1,2,3,4,5,6,7,8,9,10,11] H0) fun t h H=>(toE D6_ok 1 H fun t h (H:yclc (t 5) (t 6) (t 7) (t 13) (t 14) (t 15) (t 16) h Kn Kr Ke1 Ke0)=>(sqE (fun t h=>(fun y5 y6 y7 y13 y14 y15 y16 h=>y343 y5 y6 y7 y13 y14 y15 y16 h Kn Kr Ke1 Ke0) (t 5) (t 6) (t 7) (t 13) (t 14) (t 15) (t 16) h) (drE D6_ok [0,1,2,3,4,5,6,7,8] H) fun t h H=>(wpE D6_ok H))))
theorem yxcd {Kn:K6} {Kr:K2} {Ke0:K4} {t:T} {h:H} (H0:y4w5 (t 5) (t 6) (t 7) (t 13) (t 14) (t 15) h Kn Kr Ke0):Wp PG 229 (seqL (rest 1 (lopC (blkC (rest 1 (seqL (rest 2 (seqR (rest 4 (ygjk Tryz.f44.body)))))))))) (mkQ (q6 Kn 5 6 7 13 14 15) (q2 Kr 10 11) (keAdd 0 (q4 Ke0 5 6 7 13) ke0)) t h :=
 (bkE 1 (toE D6_ok 1 H0 fun t h (H:y4fd (t 5) (t 6) (t 7) (t 13) (t 14) (t 15) (t 16) h Kn Kr Kn Ke0)=>(yv0n H)))
theorem y2s6 {Kn:K4} {Kr:K2} {t:T} {h:H} (H0:yj9m (t 5) (t 6) (t 7) (t 13) (t 14) h Kn Kr):Wp PG 229 (seqL (rest 2 (seqR (rest 4 (ygjk Tryz.f44.body))))) (mkQ (q4 Kn 5 6 7 13) (q2 Kr 10 11) ke0) t h :=
 (toE D6_ok 1 H0 fun t h (H:yag9 (t 5) (t 6) (t 7) (t 13) (t 14) (t 15) h Kn Kr)=>(bkE 0 (lpE (fun t=>(t 5,t 6,t 7,t 13,t 14,t 15)) H fun t h K H=>(toE D6_ok 1 H fun t h (H:y7ew (t 5) (t 6) (t 7) (t 13) (t 14) (t 15) h (fun y5 y6 y7 y13 y14 y15 h=>K (y5,y6,y7,y13,y14,y15) h) Kr Kn)=>(sqE _ (yxcd H) fun t h H=>(wpE D6_ok H))))))
theorem yxhs {Kn Kr:K2} {t:T} {h:H} (H0:y2yo (t 5) (t 6) (t 7) (t 13) (t 14) h Kn Kr):Wp PG 229 (rest 2 (seqR (rest 4 (ygjk Tryz.f44.body)))) (mkQ (q2 Kn 10 11) (q2 Kr 10 11) ke0) t h :=
 (sqE _ (y2s6 H0) fun t h H=>(toE D6_ok 6 H fun t h (H:yaz5 (t 5) (t 6) (t 12) (t 13) (t 18) (t 19) h Kn Kr)=>(sqE (q3 (fun y5 y13 y18 h=>yy4w y5 y13 y18 h Kn Kr) 5 13 18) (toE D6_ok 1 H fun t h (H:yf5q (t 5) (t 6) (t 12) (t 13) (t 18) (t 19) (t 20) h (fun y5 y13 y18 h=>yy4w y5 y13 y18 h Kn Kr) Kr)=>(bkE 2 (lpE (fun t=>(t 5,t 6,t 12,t 13,t 18,t 19,t 20)) H fun t h K H=>(y1lu H)))) fun t h H=>(wpE D6_ok H))))
theorem y3fh {Kn Kr:K2} {t:T} {h:H} (H0:yals (t 0) (t 1) (t 2) (t 3) (t 4) h Kn Kr):Wp PG 229 (ygjk Tryz.f44.body) (mkQ (q2 Kn 10 11) (q2 Kr 10 11) ke0) t h :=
 (toE D6_ok 4 H0 fun t h (H:yeh7 (t 3) (t 4) (t 5) (t 6) (t 7) h Kn Kr)=>(sqE (q4 (fun y5 y6 y7 y13 h=>ylpr y5 y6 y7 y13 h Kn Kr) 5 6 7 13) (drR D6_ok [(0,[],[]),(1,[],[]),(3,[],[]),(4,[],[]),(6,[],[]),(8,[],[]),(2,[],[5,7]),(5,[],[7]),(7,[],[]),(9,[],[]),(10,[],[]),(11,[],[])] H) fun t h H=>(toE D6_ok 2 H fun t h (H:y2yo (t 5) (t 6) (t 7) (t 13) (t 14) h Kn Kr)=>(yxhs H))))
def yse5 (x0 x1 x2 x3 x4:Value) (h:H) (Q:K1):Prop:=yals x0 x1 x2 x3 x4 h (fun y10 y11 h=>bif [y10,y11].all boxV then Q (.tuple #[y10,y11]) h else False) (fun y10 y11 h=>bif [y10,y11].all boxV then Q (.tuple #[y10,y11]) h else False)
theorem yulk (x0 x1 x2 x3 x4:Value) (h:H) (Q:K1) (H0:yse5 x0 x1 x2 x3 x4 h Q):AM.Spec PG yvpi [x0,x1,x2,x3,x4] h Q :=
 spH mixed Tryz.func44 [10,11] (y3fh H0)
def y3bz (x5 x6 x10 x11 x16 x17 x18:Value) (h:H) (Kn:K4) (Kr:K2):Prop :=
 ybqh true 2 x16 h fun v35=>ybqh true 3 x11 h fun v37=>ybqh true 6 x10 h fun v39=>yjdf PG yy5b [v35] h fun v36 h=>(ybqh true 3 x11 h fun w37=>w37=v37)∧(ybqh true 6 x10 h fun w39=>w39=v39)∧yjdf PG ygpd [v37] h fun v38 h=>(ybqh true 6 x10 h fun w39=>w39=v39)∧yjdf PG ycj8 [v39] h fun v40 h=>yjdf PG yvpi [v36,v38,v40,x5,x6] h fun v43 h=>yvu8 v43 0 fun v44=>yvu8 v43 1 fun v45=>Kn x17 x18 v44 v45 h
def y7xz (x17 x18 x19 x20:Value) (h:H) (Kn Kr:K2):Prop :=
 u_bin PG .neq ya0f x18 (.int .i64 0) fun v47=>ydv6 v47 false (fun k4=>u_bin PG .neq ya0f x20 (.int .i64 0) fun v50=>k4 v50 h) (fun v50 h=>y9rg v47 (.bool true) v50 fun v51=>u_if v51 (Kr (.pointer none) (.pointer none) h) (Kr x17 x19 h)) h
def yg9e (x5 x6 x10 x11 x16 x17 x18:Value) (h:H) (Kn Kr:K2):Prop :=
 y3bz x5 x6 x10 x11 x16 x17 x18 h (fun y17 y18 y19 y20 h=>y7xz y17 y18 y19 y20 h Kn Kr) Kr
def y7wb (x0 x1 x2 x3 x4 x5 x6:Value) (h:H) (Kn Kr:K2):Prop :=
 boxV x3=true∧u_new (Value.cells x3).toList ylzr .exact h fun b10 h=>boxV x4=true∧u_new (Value.cells x4).toList y4pp .exact h fun b11 h=>yjdf PG ymwz [x0,x1,x2] h fun v24 h=>u_new [.int .u32 0,.slice none 0 0] y33u .exact h fun b16 h=>ylel 2 (.pointer (some ⟨b16,0,none⟩)) v24 h fun h=>ybqh true 2 (.pointer (some ⟨b16,0,none⟩)) h fun v26=>ybqh true 3 (.pointer (some ⟨b11,0,none⟩)) h fun v27=>ybqh true 6 (.pointer (some ⟨b10,0,none⟩)) h fun v28=>yjdf PG yuxz [v26,v27,v28,x5,x6] h fun v31 h=>yvu8 v31 0 fun v32=>yvu8 v31 1 fun v33=>yg9e x5 x6 (.pointer (some ⟨b10,0,none⟩)) (.pointer (some ⟨b11,0,none⟩)) (.pointer (some ⟨b16,0,none⟩)) v32 v33 h Kn Kr
theorem yyfs {Kn Kr:K2} {t:T} {h:H} (H0:y7wb (t 0) (t 1) (t 2) (t 3) (t 4) (t 5) (t 6) h Kn Kr):Wp PG 54 (ygjk Tryz.f17.body) (mkQ (q2 Kn 14 15) (q2 Kr 14 15) ke0) t h :=
 (toE D6_ok 3 H0 fun t h (H:yg9e (t 5) (t 6) (t 10) (t 11) (t 16) (t 17) (t 18) h Kn Kr)=>(sqE (q4 (fun y17 y18 y19 y20 h=>y7xz y17 y18 y19 y20 h Kn Kr) 17 18 19 20) (drR D6_ok [(0,[],[]),(2,[],[]),(4,[],[]),(6,[],[]),(7,[],[]),(1,[2,4],[]),(3,[4],[]),(5,[],[]),(8,[],[]),(9,[],[]),(10,[],[]),(11,[],[]),(12,[],[]),(13,[],[])] H) fun t h H=>(wpE D6_ok H)))
def yxed (x0 x1 x2 x3 x4 x5 x6:Value) (h:H) (Q:K1):Prop:=y7wb x0 x1 x2 x3 x4 x5 x6 h (fun y14 y15 h=>bif [y14,y15].all boxV then Q (.tuple #[y14,y15]) h else False) (fun y14 y15 h=>bif [y14,y15].all boxV then Q (.tuple #[y14,y15]) h else False)
theorem ycq2 (x0 x1 x2 x3 x4 x5 x6:Value) (h:H) (Q:K1) (H0:yxed x0 x1 x2 x3 x4 x5 x6 h Q):AM.Spec PG y7ww [x0,x1,x2,x3,x4,x5,x6] h Q :=
 spH mixed Tryz.func17 [14,15] (yyfs H0)
end Go.Proofs.YtnckimioabkheaaGreat
set_option linter.unusedSimpArgs false
set_option linter.unusedVariables false
set_option maxRecDepth 100000
namespace Go.Proofs.YtnckimioabkheaaGreat
open AM
theorem y1s4 {a n:Int} {p:Int} {z:Option Addr} {l c:Nat} {h:H} {K:K1} {u:Dm K}:ynqb PG y1cj 1 [(0,.agg #[.int .u32 a,.int .u32 n,.int .i64 p,.slice z l c])] h K u=u_new [.int .u32 a,.int .u32 n,.int .i64 p,.slice z l c] yhas .exact h fun b h=>K (.slice (some ⟨b,0,none⟩) 1 1) h:=by kernel_rfl
section
variable {h:H} {K:K1}
theorem yen8 {e:Int} {vs:Value} {segs:List Sg} (hv:Sl sgC 4 h vs segs) (hsl:∀s∈segs,∃z l c,s.2.2.2=.slice z l c) (hlen:segs.length≤1000) (hk:∀v h',Sub h h'→Sl sgC 4 h' v segs→K (.agg #[.int .u32 e,v]) h') :
 AM.Spec PG yy5b [.agg #[.int .u32 e,vs]] h K:=by
 refine y9dh _ _ _ ?_
 have hvb:=hv.box
 simp (config:={dsimp:=false}) [↓y4cu,↓yw8r,hvb]
 intro b1 _ hb1 b2 _ n1 n2 hb2
 have c1:upd (upd h b1 (.cells [.int .u32 e,vs] y33u .exact)) b2 (.cells [.int .u32 0,nilV] yr7r .exact) b1=some (.cells [.int .u32 e,vs] y33u .exact):=by rw [yrkk _ _ n2,yy0e]
 have c2:=yy0e (upd h b1 (.cells [.int .u32 e,vs] y33u .exact)) b2 (.cells [.int .u32 0,nilV] yr7r .exact)
 have s2:Sub h (upd (upd h b1 (.cells [.int .u32 e,vs] y33u .exact)) b2 (.cells [.int .u32 0,nilV] yr7r .exact)):=Sub.upd (Sub.new hb1) hb2
 simp (config:={dsimp:=false}) [yb3e c1,n2]
 intro b3 _ p1 p2 p3 p4 hb30
 have hb3:upd (upd h b1 (.cells [.int .u32 e,vs] y33u .exact)) b2 (.cells [.int .u32 0,nilV] yr7r .exact) b3=none:=by rw [yrkk _ _ p1,yrkk _ _ p3];exact hb30
 generalize upd (upd h b1 _) b2 _=h2 at *
 have m1:b1≠b3:=fun x=>by rw [x,hb3] at c1;cases c1
 have m2:b2≠b3:=fun x=>by rw [x,hb3] at c2;cases c2
 simp (config:={dsimp:=false}) [↓y7bk,↓yv9h,↓yu1e]
 unfold yis8
 refine yo1k segs.length (fun i s h'=>∃v b,s=(ptr b1 0,ptr b2 0,ptr b3 0,.int .i64 i,undef)∧Sub h2 h'∧h' b1=some (.cells [.int .u32 e,vs] y33u .exact)∧h' b2=some (.cells [.int .u32 0,nilV] yr7r .exact)∧h' b3=some (.cells [.int .u32 e,v] yr7r .exact)∧OL sgC 4 yhas h' v (segs.take i) b∧(∀ c,b=some c→h2 c=none)) ?_ ?_
 ·refine ⟨nilV,none,rfl,Sub.new hb3,(yrkk _ _ m1).trans c1,(yrkk _ _ m2).trans c2,yy0e _ _ _,OL.none,by simp⟩
 rintro i s h' K' hi ⟨v,b,rfl,s3,d1,d2,d3,ho,hbn⟩ hk'
 by_cases hlt:i<segs.length
 ·have hv3:=hv.mono (s2.trans s3)
  have hix:=fun (K:Value→Prop) (u:Dm K)=>hv3.ixA (k:=.i64) hlt (K:=K) (u:=u)
  obtain ⟨z,l,cc,hz⟩:=hsl segs[i] (List.getElem_mem hlt)
  have htk:segs.take (i+1)=segs.take i++[segs[i]]:=List.take_succ_eq_append_getElem hlt
  rw [htk] at hk'
  have w1:IntKind.i64.wrap ((i:Int)+1)=((i+1:Nat):Int):=by rw [w_i64 (by omega) (by omega)];omega
  obtain ⟨sg,hsg⟩:∃sg,segs[i]=sg:=⟨_,rfl⟩
  rw [hsg] at hix hz hk'
  obtain ⟨a,n,p,vb⟩:=sg
  simp only at hz
  subst hz
  simp only [sgC] at hix
  simp (config:={dsimp:=false}) [↓yvra,yb3e d1,hv3.ulen,hlt,hix]
  intro b5 _ hb5
  have k5:∀{c o},h' c=some o→∀q q',upd (upd h' b5 q) b5 q' c=some o:=fun {c o} hc q q'=>by
   have:c≠b5:=fun x=>by rw [x,hb5] at hc;cases hc
   rw [yrkk _ _ this,yrkk _ _ this];exact hc
  have k5':∀{c o},h' c=some o→∀q,upd h' b5 q c=some o:=fun {c o} hc q=>by
   have:c≠b5:=fun x=>by rw [x,hb5] at hc;cases hc
   rw [yrkk _ _ this];exact hc
  have s5:Sub h2 (upd h' b5 (.cells [.int .u32 a,.int .u32 n,.int .i64 p,.slice z l cc] ym0k .exact)):=Sub.upd s3 (Sub.none s3 hb5)
  have ho5:OL sgC 4 yhas (upd h' b5 (.cells [.int .u32 a,.int .u32 n,.int .i64 p,.slice z l cc] ym0k .exact)) v (segs.take i) b:=ho.keep fun c hc=>yrkk _ _ fun x=>by rw [x] at hc;exact ho.there hc hb5
  have e1:=k5' d1 (.cells [.int .u32 a,.int .u32 n,.int .i64 p,.slice z l cc] ym0k .exact)
  have e2:=k5' d2 (.cells [.int .u32 a,.int .u32 n,.int .i64 p,.slice z l cc] ym0k .exact)
  have e3:=k5' d3 (.cells [.int .u32 a,.int .u32 n,.int .i64 p,.slice z l cc] ym0k .exact)
  have e5:=yy0e h' b5 (.cells [.int .u32 a,.int .u32 n,.int .i64 p,.slice z l cc] ym0k .exact)
  simp (config:={dsimp:=false}) [yb3e e3,yb3e e5,y1s4]
  intro c hc2 q1 q2 hcn
  refine OL.push (bytes:=40) (m:=[(a,n,p,.slice z l cc)]) ho5 (by simp [sgC]) (by omega) (by simp;omega) (by simp;omega) (fun v' h6 b' o6 c6=>?_) rfl rfl c hc2 ((yrkk _ _ q1).trans hcn)
  have nb:∀{c o},h2 c=some o→b≠some c:=fun {c o} hc x=>by rw [hbn c x] at hc;cases hc
  have f1:=c6.1 _ _ e1 (nb c1)
  have f2:=c6.1 _ _ e2 (nb c2)
  have hb3b:b≠some b3:=fun x=>by
   obtain ⟨_,⟨_,hx,_⟩ | ⟨c',m,hx,_,_,hx4,_⟩⟩:=ho5
   ·rw [hx] at x;cases x
   ·rw [hx] at x;cases x
    rw [e3] at hx4
    simp only [Option.some.injEq,AObj.cells.injEq] at hx4
    exact absurd hx4.2.1 (by decide)
  have f3:=c6.1 _ _ e3 hb3b
  have s6:=c6.sub s5 hbn
  have hcell:v'.cells = #[v']:=by
   obtain ⟨_,⟨_,_,rfl⟩ | ⟨_,_,_,_,rfl,_⟩⟩:=o6 <;> rfl
  simp (config:={dsimp:=false}) [f3,o6.sl.box,hcell,w1]
  refine hk' _ _ hlt ⟨v',b',by simp,Sub.upd s6.1 hb3,(yrkk _ _ m1).trans f1,(yrkk _ _ m2).trans f2,yy0e _ _ _,o6.keep fun c hc=>yrkk _ _ fun x=>?_,fun c hc=>?_⟩
  ·subst x
   rcases c6.2 _ hc with h7 | h7
   ·exact hb3b h7
   ·rw [e3] at h7;cases h7
  ·exact s6.2 c hc
 ·have hie:i=segs.length:=by omega
  subst hie
  rw [List.take_length] at ho
  have hv3:=hv.mono (s2.trans s3)
  have hb:=ho.sl.box
  simp (config:={dsimp:=false}) [↓yvra,↓ywxz,yb3e d1,hv3.ulen,yzql d3,hb,d2]
  refine hk v _ (Sub.upd (s2.trans s3) hb2) ((ho.keep fun c hc=>yrkk _ _ fun x=>?_).sl)
  subst x
  have:=hbn _ hc
  rw [c2] at this
  cases this
theorem yrmy (hk:∀h',Sub h h'→K noPol h'):AM.Spec PG ygpd [noPol] h K:=by
 refine y0ck _ _ _ ?_
 simp (config:={dsimp:=false}) [↓y23a,↓ybnz]
 intro b1 _ hb1 b2 _ n1 n2 hb2
 have c1:upd (upd h b1 (.cells [.bool false,nilV,nilV] y4pp .exact)) b2 (.cells [.bool false,nilV,nilV] ysrv .exact) b1=some (.cells [.bool false,nilV,nilV] y4pp .exact):=by rw [yrkk _ _ n2,yy0e]
 simp (config:={dsimp:=false}) [yb3e c1,n2]
 intro b3 _ p1 p2 p3 p4 hb3
 have s3:Sub h (upd (upd (upd h b1 (.cells [.bool false,nilV,nilV] y4pp .exact)) b2 (.cells [.bool false,nilV,nilV] ysrv .exact)) b3 (.cells [.bool false,nilV,nilV] ysrv .exact)):=Sub.upd (Sub.upd (Sub.new hb1) hb2) hb3
 have d1:upd (upd (upd h b1 (.cells [.bool false,nilV,nilV] y4pp .exact)) b2 (.cells [.bool false,nilV,nilV] ysrv .exact)) b3 (.cells [.bool false,nilV,nilV] ysrv .exact) b1=some (.cells [.bool false,nilV,nilV] y4pp .exact):=by rw [yrkk _ _ p4];exact c1
 have d2:upd (upd (upd h b1 (.cells [.bool false,nilV,nilV] y4pp .exact)) b2 (.cells [.bool false,nilV,nilV] ysrv .exact)) b3 (.cells [.bool false,nilV,nilV] ysrv .exact) b2=some (.cells [.bool false,nilV,nilV] ysrv .exact):=by rw [yrkk _ _ p2,yy0e]
 have d3:=yy0e (upd (upd h b1 (.cells [.bool false,nilV,nilV] y4pp .exact)) b2 (.cells [.bool false,nilV,nilV] ysrv .exact)) b3 (.cells [.bool false,nilV,nilV] ysrv .exact)
 generalize upd (upd (upd h b1 _) b2 _) b3 _=h3 at *
 simp (config:={dsimp:=false}) [↓y5b7,↓yh5p,↓y9no]
 unfold yli5
 refine yq9z fun K'=>?_
 simp (config:={dsimp:=false}) [↓ygov,↓ys9f,↓yl2o,↓y8wh,yb3e d1]
 unfold y2bp
 refine yq9z fun K'=>?_
 simp (config:={dsimp:=false}) [↓yue3,↓yzwa,yb3e d1,yzql d3,d2]
 exact hk _ (Sub.upd s3 hb2)
theorem ybr2 (hk:∀h',Sub h h'→K yh6o h'):AM.Spec PG ycj8 [yh6o] h K:=by
 refine y1ql _ _ _ ?_
 simp (config:={dsimp:=false}) [↓yi1f,↓ypmy]
 intro b1 _ hb1 b2 _ n1 n2 hb2
 have c1:upd (upd h b1 (.cells [nilV,nilV,nilV,nilV,nilV,nilV] ylzr .exact)) b2 (.cells [nilV,nilV,nilV,nilV,nilV,nilV] y5c0 .exact) b1=some (.cells [nilV,nilV,nilV,nilV,nilV,nilV] ylzr .exact):=by rw [yrkk _ _ n2,yy0e]
 have c2:=yy0e (upd h b1 (.cells [nilV,nilV,nilV,nilV,nilV,nilV] ylzr .exact)) b2 (.cells [nilV,nilV,nilV,nilV,nilV,nilV] y5c0 .exact)
 have s2:Sub h (upd (upd h b1 (.cells [nilV,nilV,nilV,nilV,nilV,nilV] ylzr .exact)) b2 (.cells [nilV,nilV,nilV,nilV,nilV,nilV] y5c0 .exact)):=Sub.upd (Sub.new hb1) hb2
 simp (config:={dsimp:=false}) [yb3e c1,n2]
 intro b3 _ p1 p2 p3 p4 hb3
 have hb3':upd (upd h b1 (.cells [nilV,nilV,nilV,nilV,nilV,nilV] ylzr .exact)) b2 (.cells [nilV,nilV,nilV,nilV,nilV,nilV] y5c0 .exact) b3=none:=by rw [yrkk _ _ p1,yrkk _ _ p3];exact hb3
 generalize upd (upd h b1 _) b2 _=h2 at *
 have d1:=(yrkk h2 (.cells [nilV,nilV,nilV,nilV,nilV,nilV] y5c0 .exact) p4).trans c1
 have d2:=(yrkk h2 (.cells [nilV,nilV,nilV,nilV,nilV,nilV] y5c0 .exact) p2).trans c2
 have d3:=yy0e h2 b3 (.cells [nilV,nilV,nilV,nilV,nilV,nilV] y5c0 .exact)
 have s3:Sub h (upd h2 b3 (.cells [nilV,nilV,nilV,nilV,nilV,nilV] y5c0 .exact)):=Sub.upd s2 hb3
 generalize upd h2 b3 _=h3 at *
 simp (config:={dsimp:=false}) [↓yplv,↓ybu1,↓yilz]
 unfold yzlh
 refine yq9z fun K'=>?_
 simp (config:={dsimp:=false}) [↓yakw,↓ycg9,yb3e d1,yzql d3,d2]
 exact hk _ (Sub.upd s3 hb2)
end
end Go.Proofs.YtnckimioabkheaaGreat
set_option linter.unusedSimpArgs false
set_option linter.unusedVariables false
set_option maxRecDepth 100000
namespace Go.Proofs.YtnckimioabkheaaGreat
open AM
section
variable {h:H} {K:K1}
theorem y8oc {vs vb vd:Value} {p:Int} {bs data:List Int} (hv:Sl sgC 4 h vs [(4096,1024,p,vb),(65536,512,3,vd)]) (hp:p=5∨p=7) (hb:Sl u8V 1 h vb bs) (hd:Sl u8V 1 h vd data) (hbl:bs.length≤1024) (hdl:data.length≤512) (hk:K (.int .i64 0) h) :
 AM.Spec PG y3mv [.agg #[.int .u32 4096,vs]] h K:=by
 refine yz7m (fun K hk=>?_) hk
 refine yepe _ _ _ ?_
 have hvb:=hv.box
 obtain ⟨za,zc,rfl⟩:=Sl.formL hb
 obtain ⟨ya,yc,rfl⟩:=Sl.formL hd
 simp (config:={dsimp:=false}) [↓yg76,↓y2if,hvb]
 intro b1 _ hb1
 have hs:Sub h (upd h b1 (.cells [.int .u32 4096,vs] yr7r .exact)):=Sub.new hb1
 have hc:=yy0e h b1 (.cells [.int .u32 4096,vs] yr7r .exact)
 generalize upd h b1 _=h1 at *
 have wb:IntKind.i64.wrap (bs.length:Int)=bs.length:=w_i64 (by omega) (by omega)
 have wd:IntKind.i64.wrap (data.length:Int)=data.length:=w_i64 (by omega) (by omega)
 have wbd:IntKind.i64.wrap ((bs.length:Int)+data.length)=bs.length+data.length:=w_i64 (by omega) (by omega)
 simp (config:={dsimp:=false}) [yb3e hc,(hv.mono hs).ulen,↓yvrz,↓ycly,↓y8ix]
 unfold y48c
 refine yo1k 2 (fun i s h'=>s=(ptr b1 0,.int .i64 (if i=0 then 0 else if i=1 then bs.length else bs.length+data.length),.int .i64 (if i=0 then 0 else if i=1 then 1024 else 1536),.int .i64 i)∧Sub h h'∧h' b1=some (.cells [.int .u32 4096,vs] yr7r .exact)) ⟨rfl,hs,hc⟩ ?_
 rintro i s h' K' hi ⟨rfl,hs',hc'⟩ hk'
 have hv':=hv.mono hs'
 have i0:=fun (K:Value→Prop) (u:Dm K)=>hv'.ixA (k:=.i64) (i:=0) (by simp) (K:=K) (u:=u)
 have i1:=fun (K:Value→Prop) (u:Dm K)=>hv'.ixA (k:=.i64) (i:=1) (by simp) (K:=K) (u:=u)
 simp (config:={dsimp:=false}) [sgC] at i0 i1
 have q0:¬(1024:Int)<bs.length:=by omega
 have q1:¬(512:Int)<data.length:=by omega
 have hp1:¬p<0:=by omega
 have hp2:¬7<p:=by omega
 match i,hi with
 | 0,_ =>
   simp (config:={dsimp:=false}) [↓yfec,yb3e hc',hv'.ulen,i0]
   intro b6 _ hb6
   have n6:b1≠b6:=fun e=>by rw [e,hb6] at hc';cases hc'
   simp (config:={dsimp:=false}) [q0,hp1,hp2,wb]
   exact hk' (ptr b1 0,.int .i64 bs.length,.int .i64 1024,.int .i64 1) _ (by omega) ⟨by simp,Sub.newer hs' hb6,(yrkk _ _ n6).trans hc'⟩
 | 1,_ =>
   simp (config:={dsimp:=false}) [↓yfec,yb3e hc',hv'.ulen,i1]
   intro b6 _ hb6
   have n6:b1≠b6:=fun e=>by rw [e,hb6] at hc';cases hc'
   simp (config:={dsimp:=false}) [q1,wd,wbd]
   exact hk' (ptr b1 0,.int .i64 (bs.length+data.length),.int .i64 1536,.int .i64 2) _ (by omega) ⟨by simp,Sub.newer hs' hb6,(yrkk _ _ n6).trans hc'⟩
 | 2,_ =>
   have q2:¬(65536:Int)<(bs.length:Int)+data.length:=by omega
   simp (config:={dsimp:=false}) [↓yfec,↓yggq,↓yeqh,↓ywqd,↓yp4t,yb3e hc',hv'.ulen,q2]
   clear hk'
   unfold ygfp
   refine yo1k 2 (fun i s h'=>s=(ptr b1 0,.bool (decide (i≠0)),.int .i64 i)∧Sub h h'∧h' b1=some (.cells [.int .u32 4096,vs] yr7r .exact)) ⟨rfl,hs',hc'⟩ ?_
   clear hs' hc' hv' i0 i1
   rintro i s h' K' hi ⟨rfl,hs',hc'⟩ hk'
   have hv':=hv.mono hs'
   have i0:=fun (K:Value→Prop) (u:Dm K)=>hv'.ixA (k:=.i64) (i:=0) (by simp) (K:=K) (u:=u)
   have i1:=fun (K:Value→Prop) (u:Dm K)=>hv'.ixA (k:=.i64) (i:=1) (by simp) (K:=K) (u:=u)
   simp (config:={dsimp:=false}) [sgC] at i0 i1
   match i,hi with
   | 0,_ =>
     simp (config:={dsimp:=false}) [↓yaeq,↓yzbx,↓yaq4,↓yq9s,yb3e hc',hv'.ulen,i0]
     intro b9 _ hb9
     have n9:b1≠b9:=fun e=>by rw [e,hb9] at hc';cases hc'
     simp (config:={dsimp:=false}) [↓yp7k,↓y09h,↓y43f]
     have s9:=Sub.newer (q:=.cells [.int .u32 4096,.int .u32 1024,.int .i64 p,.slice za bs.length zc] yhas .exact) hs' hb9
     have e9:=yy0e h' b9 (.cells [.int .u32 4096,.int .u32 1024,.int .i64 p,.slice za bs.length zc] yhas .exact)
     have e1:=(yrkk h' (.cells [.int .u32 4096,.int .u32 1024,.int .i64 p,.slice za bs.length zc] yhas .exact) n9).trans hc'
     generalize upd h' b9 _=h9 at *
     unfold y8ev
     refine yq9z fun K2=>?_
     have hp4:¬IntKind.i64.wrap (((p%2^IntKind.i64.bits).toNat &&& 4%2^IntKind.i64.bits:Nat):Int)=0:=by rcases hp with rfl | rfl <;> decide
     simp (config:={dsimp:=false}) [↓yl0b]
     simp (config:={dsimp:=false}) [↓yx28,↓yd2r,yb3e e9,yb3e e1,hp4]
     exact hk' (ptr b1 0,.bool true,.int .i64 1) _ (by omega) ⟨by simp,s9,e1⟩
   | 1,_ =>
     simp (config:={dsimp:=false}) [↓yaeq,↓yzbx,↓yaq4,↓yq9s,yb3e hc',hv'.ulen,i1]
     intro b9 _ hb9
     have n9:b1≠b9:=fun e=>by rw [e,hb9] at hc';cases hc'
     simp (config:={dsimp:=false}) [↓yp7k,↓y09h,↓y43f]
     have s9:=Sub.newer (q:=.cells [.int .u32 65536,.int .u32 512,.int .i64 3,.slice ya data.length yc] yhas .exact) hs' hb9
     have e9:=yy0e h' b9 (.cells [.int .u32 65536,.int .u32 512,.int .i64 3,.slice ya data.length yc] yhas .exact)
     have e1:=(yrkk h' (.cells [.int .u32 65536,.int .u32 512,.int .i64 3,.slice ya data.length yc] yhas .exact) n9).trans hc'
     generalize upd h' b9 _=h9 at *
     unfold y8ev
     refine yo1k 1 (fun j s h2=>s=(ptr b1 0,.bool true,.int .i64 1,ptr b9 0,.int .i64 j)∧Sub h9 h2) ⟨rfl,Sub.refl _⟩ ?_
     rintro j s h2 K2 hj ⟨rfl,s2⟩ hk2
     have f1:=s2 _ _ e1
     have f9:=s2 _ _ e9
     have hv2:=hv.mono (s9.trans s2)
     have i0:=fun (K:Value→Prop) (u:Dm K)=>hv2.ixA (k:=.i64) (i:=0) (by simp) (K:=K) (u:=u)
     simp (config:={dsimp:=false}) [sgC] at i0
     match j,hj with
     | 0,_ =>
       simp (config:={dsimp:=false}) [↓yl0b,↓yt29,↓yf2o,↓ydsc,yb3e f1,i0]
       intro b11 _ hb11
       have n11:b9≠b11:=fun e=>by rw [e,hb11] at f9;cases f9
       have u1:yy7c 1024=1024:=by unfold yy7c;decide
       have u2:yy7c 512=512:=by unfold yy7c;decide
       simp (config:={dsimp:=false}) [↓y494,↓yns0,↓y6b3,↓ywfn,n11,yb3e f9,u1,u2]
       exact hk2 (ptr b1 0,.bool true,.int .i64 1,ptr b9 0,.int .i64 1) _ (by omega) ⟨by simp,Sub.newer s2 hb11⟩
     | 1,_ =>
       simp (config:={dsimp:=false}) [↓yl0b]
       simp (config:={dsimp:=false}) [↓yx28,↓yd2r]
       exact hk' (ptr b1 0,.bool true,.int .i64 2) _ (by omega) ⟨by simp,s9.trans s2,f1⟩
   | 2,_ =>
     simp (config:={dsimp:=false}) [↓yaeq,↓ytui,yb3e hc',hv'.ulen]
     exact hk _ hs'
end
end Go.Proofs.YtnckimioabkheaaGreat
set_option linter.unusedVariables false
set_option maxRecDepth 100000
namespace Go.Proofs.YtnckimioabkheaaGreat
open Go.Proofs.YtnckimioabkheaaGreat.AM
@[simp] theorem yzl9 {a0:Int} {a1:Int} {K:Value→Prop} {u:Dm K}:ysnr PG yrli [(0,.int .u32 a0),(1,.int .u32 a1)] K u=K (.agg #[.int .u32 a0,.int .u32 a1]):=by kernel_rfl
@[simp] theorem yhos {a0:Int} {a1:Int} {K:Value→Prop} {u:Dm K}:ysnr PG yezi [(0,.int .u32 a0),(1,.int .i64 a1)] K u=K (.agg #[.int .u32 a0,.int .i64 a1,.int .u8 0,.int .u8 0,.int .u8 0,.int .u8 0,.int .u8 0,.int .u8 0,.int .u8 0,.int .u8 0,.int .u8 0,.int .u8 0,.int .u8 0,.int .u8 0,.int .u8 0,.int .u8 0,.int .u8 0,.int .u8 0,.int .u8 0,.int .u8 0,.int .u8 0,.int .u8 0,.int .u8 0,.int .u8 0,.int .u8 0,.int .u8 0,.int .u8 0,.int .u8 0,.int .u8 0,.int .u8 0,.int .u8 0,.int .u8 0,.int .u8 0,.int .u8 0,.int .u8 0,.int .u8 0,.int .u8 0,.int .u8 0,.int .u8 0,.int .u8 0,.int .u8 0,.int .u8 0,.int .u8 0,.int .u8 0,.int .u8 0,.int .u8 0,.int .u8 0,.int .u8 0,.int .u8 0,.int .u8 0,.int .u8 0,.int .u8 0,.int .u8 0,.int .u8 0,.int .u8 0,.int .u8 0,.int .u8 0,.int .u8 0,.int .u8 0,.int .u8 0,.int .u8 0,.int .u8 0,.int .u8 0,.int .u8 0,.int .u8 0,.int .u8 0,.int .u8 0,.int .u8 0,.int .u8 0,.int .u8 0,.int .u8 0,.int .u8 0,.int .u8 0,.int .u8 0,.int .u8 0,.int .u8 0,.int .u8 0,.int .u8 0,.int .u8 0,.int .u8 0,.int .u8 0,.int .u8 0,.int .u8 0,.int .u8 0,.int .u8 0,.int .u8 0,.int .u8 0,.int .u8 0,.int .u8 0,.int .u8 0,.int .u8 0,.int .u8 0,.int .u8 0,.int .u8 0,.int .u8 0,.int .u8 0,.int .u8 0,.int .u8 0,.int .u8 0,.int .u8 0,.int .u8 0,.int .u8 0,.int .u8 0,.int .u8 0,.int .u8 0,.int .u8 0,.int .u8 0,.int .u8 0,.int .u8 0,.int .u8 0,.int .u8 0,.int .u8 0,.int .u8 0,.int .u8 0,.int .u8 0,.int .u8 0,.int .u8 0,.int .u8 0,.int .u8 0,.int .u8 0,.int .u8 0,.int .u8 0,.int .u8 0,.int .u8 0,.int .u8 0,.int .u8 0,.int .u8 0,.int .u8 0,.int .u8 0,.int .u8 0,.int .u8 0,.int .u8 0,.int .u8 0,.int .u8 0,.int .u8 0,.int .u8 0,.int .u8 0,.int .u8 0,.int .u8 0,.int .u8 0,.int .u8 0,.int .u8 0,.int .u8 0,.int .u8 0,.int .u8 0,.int .u8 0,.int .u8 0,.int .u8 0,.int .u8 0,.int .u8 0,.int .u8 0,.int .u8 0,.int .u8 0,.int .u8 0,.int .u8 0,.int .u8 0,.int .u8 0,.int .u8 0,.int .u8 0,.int .u8 0,.int .u8 0,.int .u8 0,.int .u8 0,.int .u8 0,.int .u8 0,.int .u8 0,.int .u8 0,.int .u8 0,.int .u8 0,.int .u8 0,.int .u8 0,.int .u8 0,.int .u8 0,.int .u8 0,.int .u8 0,.int .u8 0,.int .u8 0,.int .u8 0,.int .u8 0,.int .u8 0,.int .u8 0,.int .u8 0,.int .u8 0,.int .u8 0,.int .u8 0,.int .u8 0,.int .u8 0,.int .u8 0,.int .u8 0,.int .u8 0,.int .u8 0,.int .u8 0,.int .u8 0,.int .u8 0,.int .u8 0,.int .u8 0,.int .u8 0,.int .u8 0,.int .u8 0,.int .u8 0,.int .u8 0,.int .u8 0,.int .u8 0,.int .u8 0,.int .u8 0,.int .u8 0,.int .u8 0,.int .u8 0,.int .u8 0,.int .u8 0,.int .u8 0,.int .u8 0,.int .u8 0,.int .u8 0,.int .u8 0,.int .u8 0,.int .u8 0,.int .u8 0,.int .u8 0,.int .u8 0,.int .u8 0,.int .u8 0,.int .u8 0,.int .u8 0,.int .u8 0,.int .u8 0,.int .u8 0,.int .u8 0,.int .u8 0,.int .u8 0,.int .u8 0,.int .u8 0,.int .u8 0,.int .u8 0,.int .u8 0,.int .u8 0,.int .u8 0,.int .u8 0,.int .u8 0,.int .u8 0,.int .u8 0,.int .u8 0,.int .u8 0,.int .u8 0,.int .u8 0,.int .u8 0,.int .u8 0,.int .u8 0,.int .u8 0,.int .u8 0,.int .u8 0,.int .u8 0,.int .u8 0,.int .u8 0,.int .u8 0,.int .u8 0,.int .u8 0,.int .u8 0]):=by kernel_rfl
@[simp] theorem yndy {h:H} {K:K1} {u:Dm K}:ynqb PG yoza 0 [] h K u=u_new [] yezi .exact h fun b h=>K (.slice (some ⟨b,0,none⟩) 0 0) h:=by kernel_rfl
@[simp] theorem y2wv {a0_0:Int} {a0_1:Int} {a0_2_0:Int} {a0_2_1:Int} {a0_2_2:Int} {a0_2_3:Int} {a0_2_4:Int} {a0_2_5:Int} {a0_2_6:Int} {a0_2_7:Int} {a0_2_8:Int} {a0_2_9:Int} {a0_2_10:Int} {a0_2_11:Int} {a0_2_12:Int} {a0_2_13:Int} {a0_2_14:Int} {a0_2_15:Int} {a0_2_16:Int} {a0_2_17:Int} {a0_2_18:Int} {a0_2_19:Int} {a0_2_20:Int} {a0_2_21:Int} {a0_2_22:Int} {a0_2_23:Int} {a0_2_24:Int} {a0_2_25:Int} {a0_2_26:Int} {a0_2_27:Int} {a0_2_28:Int} {a0_2_29:Int} {a0_2_30:Int} {a0_2_31:Int} {a0_2_32:Int} {a0_2_33:Int} {a0_2_34:Int} {a0_2_35:Int} {a0_2_36:Int} {a0_2_37:Int} {a0_2_38:Int} {a0_2_39:Int} {a0_2_40:Int} {a0_2_41:Int} {a0_2_42:Int} {a0_2_43:Int} {a0_2_44:Int} {a0_2_45:Int} {a0_2_46:Int} {a0_2_47:Int} {a0_2_48:Int} {a0_2_49:Int} {a0_2_50:Int} {a0_2_51:Int} {a0_2_52:Int} {a0_2_53:Int} {a0_2_54:Int} {a0_2_55:Int} {a0_2_56:Int} {a0_2_57:Int} {a0_2_58:Int} {a0_2_59:Int} {a0_2_60:Int} {a0_2_61:Int} {a0_2_62:Int} {a0_2_63:Int} {a0_2_64:Int} {a0_2_65:Int} {a0_2_66:Int} {a0_2_67:Int} {a0_2_68:Int} {a0_2_69:Int} {a0_2_70:Int} {a0_2_71:Int} {a0_2_72:Int} {a0_2_73:Int} {a0_2_74:Int} {a0_2_75:Int} {a0_2_76:Int} {a0_2_77:Int} {a0_2_78:Int} {a0_2_79:Int} {a0_2_80:Int} {a0_2_81:Int} {a0_2_82:Int} {a0_2_83:Int} {a0_2_84:Int} {a0_2_85:Int} {a0_2_86:Int} {a0_2_87:Int} {a0_2_88:Int} {a0_2_89:Int} {a0_2_90:Int} {a0_2_91:Int} {a0_2_92:Int} {a0_2_93:Int} {a0_2_94:Int} {a0_2_95:Int} {a0_2_96:Int} {a0_2_97:Int} {a0_2_98:Int} {a0_2_99:Int} {a0_2_100:Int} {a0_2_101:Int} {a0_2_102:Int} {a0_2_103:Int} {a0_2_104:Int} {a0_2_105:Int} {a0_2_106:Int} {a0_2_107:Int} {a0_2_108:Int} {a0_2_109:Int} {a0_2_110:Int} {a0_2_111:Int} {a0_2_112:Int} {a0_2_113:Int} {a0_2_114:Int} {a0_2_115:Int} {a0_2_116:Int} {a0_2_117:Int} {a0_2_118:Int} {a0_2_119:Int} {a0_2_120:Int} {a0_2_121:Int} {a0_2_122:Int} {a0_2_123:Int} {a0_2_124:Int} {a0_2_125:Int} {a0_2_126:Int} {a0_2_127:Int} {a0_2_128:Int} {a0_2_129:Int} {a0_2_130:Int} {a0_2_131:Int} {a0_2_132:Int} {a0_2_133:Int} {a0_2_134:Int} {a0_2_135:Int} {a0_2_136:Int} {a0_2_137:Int} {a0_2_138:Int} {a0_2_139:Int} {a0_2_140:Int} {a0_2_141:Int} {a0_2_142:Int} {a0_2_143:Int} {a0_2_144:Int} {a0_2_145:Int} {a0_2_146:Int} {a0_2_147:Int} {a0_2_148:Int} {a0_2_149:Int} {a0_2_150:Int} {a0_2_151:Int} {a0_2_152:Int} {a0_2_153:Int} {a0_2_154:Int} {a0_2_155:Int} {a0_2_156:Int} {a0_2_157:Int} {a0_2_158:Int} {a0_2_159:Int} {a0_2_160:Int} {a0_2_161:Int} {a0_2_162:Int} {a0_2_163:Int} {a0_2_164:Int} {a0_2_165:Int} {a0_2_166:Int} {a0_2_167:Int} {a0_2_168:Int} {a0_2_169:Int} {a0_2_170:Int} {a0_2_171:Int} {a0_2_172:Int} {a0_2_173:Int} {a0_2_174:Int} {a0_2_175:Int} {a0_2_176:Int} {a0_2_177:Int} {a0_2_178:Int} {a0_2_179:Int} {a0_2_180:Int} {a0_2_181:Int} {a0_2_182:Int} {a0_2_183:Int} {a0_2_184:Int} {a0_2_185:Int} {a0_2_186:Int} {a0_2_187:Int} {a0_2_188:Int} {a0_2_189:Int} {a0_2_190:Int} {a0_2_191:Int} {a0_2_192:Int} {a0_2_193:Int} {a0_2_194:Int} {a0_2_195:Int} {a0_2_196:Int} {a0_2_197:Int} {a0_2_198:Int} {a0_2_199:Int} {a0_2_200:Int} {a0_2_201:Int} {a0_2_202:Int} {a0_2_203:Int} {a0_2_204:Int} {a0_2_205:Int} {a0_2_206:Int} {a0_2_207:Int} {a0_2_208:Int} {a0_2_209:Int} {a0_2_210:Int} {a0_2_211:Int} {a0_2_212:Int} {a0_2_213:Int} {a0_2_214:Int} {a0_2_215:Int} {a0_2_216:Int} {a0_2_217:Int} {a0_2_218:Int} {a0_2_219:Int} {a0_2_220:Int} {a0_2_221:Int} {a0_2_222:Int} {a0_2_223:Int} {a0_2_224:Int} {a0_2_225:Int} {a0_2_226:Int} {a0_2_227:Int} {a0_2_228:Int} {a0_2_229:Int} {a0_2_230:Int} {a0_2_231:Int} {a0_2_232:Int} {a0_2_233:Int} {a0_2_234:Int} {a0_2_235:Int} {a0_2_236:Int} {a0_2_237:Int} {a0_2_238:Int} {a0_2_239:Int} {a0_2_240:Int} {a0_2_241:Int} {a0_2_242:Int} {a0_2_243:Int} {a0_2_244:Int} {a0_2_245:Int} {a0_2_246:Int} {a0_2_247:Int} {a0_2_248:Int} {a0_2_249:Int} {a0_2_250:Int} {a0_2_251:Int} {a0_2_252:Int} {a0_2_253:Int} {a0_2_254:Int} {a0_2_255:Int} {h:H} {K:K1} {u:Dm K}:ynqb PG yoza 1 [(0,.agg #[.int .u32 a0_0,.int .i64 a0_1,.int .u8 a0_2_0,.int .u8 a0_2_1,.int .u8 a0_2_2,.int .u8 a0_2_3,.int .u8 a0_2_4,.int .u8 a0_2_5,.int .u8 a0_2_6,.int .u8 a0_2_7,.int .u8 a0_2_8,.int .u8 a0_2_9,.int .u8 a0_2_10,.int .u8 a0_2_11,.int .u8 a0_2_12,.int .u8 a0_2_13,.int .u8 a0_2_14,.int .u8 a0_2_15,.int .u8 a0_2_16,.int .u8 a0_2_17,.int .u8 a0_2_18,.int .u8 a0_2_19,.int .u8 a0_2_20,.int .u8 a0_2_21,.int .u8 a0_2_22,.int .u8 a0_2_23,.int .u8 a0_2_24,.int .u8 a0_2_25,.int .u8 a0_2_26,.int .u8 a0_2_27,.int .u8 a0_2_28,.int .u8 a0_2_29,.int .u8 a0_2_30,.int .u8 a0_2_31,.int .u8 a0_2_32,.int .u8 a0_2_33,.int .u8 a0_2_34,.int .u8 a0_2_35,.int .u8 a0_2_36,.int .u8 a0_2_37,.int .u8 a0_2_38,.int .u8 a0_2_39,.int .u8 a0_2_40,.int .u8 a0_2_41,.int .u8 a0_2_42,.int .u8 a0_2_43,.int .u8 a0_2_44,.int .u8 a0_2_45,.int .u8 a0_2_46,.int .u8 a0_2_47,.int .u8 a0_2_48,.int .u8 a0_2_49,.int .u8 a0_2_50,.int .u8 a0_2_51,.int .u8 a0_2_52,.int .u8 a0_2_53,.int .u8 a0_2_54,.int .u8 a0_2_55,.int .u8 a0_2_56,.int .u8 a0_2_57,.int .u8 a0_2_58,.int .u8 a0_2_59,.int .u8 a0_2_60,.int .u8 a0_2_61,.int .u8 a0_2_62,.int .u8 a0_2_63,.int .u8 a0_2_64,.int .u8 a0_2_65,.int .u8 a0_2_66,.int .u8 a0_2_67,.int .u8 a0_2_68,.int .u8 a0_2_69,.int .u8 a0_2_70,.int .u8 a0_2_71,.int .u8 a0_2_72,.int .u8 a0_2_73,.int .u8 a0_2_74,.int .u8 a0_2_75,.int .u8 a0_2_76,.int .u8 a0_2_77,.int .u8 a0_2_78,.int .u8 a0_2_79,.int .u8 a0_2_80,.int .u8 a0_2_81,.int .u8 a0_2_82,.int .u8 a0_2_83,.int .u8 a0_2_84,.int .u8 a0_2_85,.int .u8 a0_2_86,.int .u8 a0_2_87,.int .u8 a0_2_88,.int .u8 a0_2_89,.int .u8 a0_2_90,.int .u8 a0_2_91,.int .u8 a0_2_92,.int .u8 a0_2_93,.int .u8 a0_2_94,.int .u8 a0_2_95,.int .u8 a0_2_96,.int .u8 a0_2_97,.int .u8 a0_2_98,.int .u8 a0_2_99,.int .u8 a0_2_100,.int .u8 a0_2_101,.int .u8 a0_2_102,.int .u8 a0_2_103,.int .u8 a0_2_104,.int .u8 a0_2_105,.int .u8 a0_2_106,.int .u8 a0_2_107,.int .u8 a0_2_108,.int .u8 a0_2_109,.int .u8 a0_2_110,.int .u8 a0_2_111,.int .u8 a0_2_112,.int .u8 a0_2_113,.int .u8 a0_2_114,.int .u8 a0_2_115,.int .u8 a0_2_116,.int .u8 a0_2_117,.int .u8 a0_2_118,.int .u8 a0_2_119,.int .u8 a0_2_120,.int .u8 a0_2_121,.int .u8 a0_2_122,.int .u8 a0_2_123,.int .u8 a0_2_124,.int .u8 a0_2_125,.int .u8 a0_2_126,.int .u8 a0_2_127,.int .u8 a0_2_128,.int .u8 a0_2_129,.int .u8 a0_2_130,.int .u8 a0_2_131,.int .u8 a0_2_132,.int .u8 a0_2_133,.int .u8 a0_2_134,.int .u8 a0_2_135,.int .u8 a0_2_136,.int .u8 a0_2_137,.int .u8 a0_2_138,.int .u8 a0_2_139,.int .u8 a0_2_140,.int .u8 a0_2_141,.int .u8 a0_2_142,.int .u8 a0_2_143,.int .u8 a0_2_144,.int .u8 a0_2_145,.int .u8 a0_2_146,.int .u8 a0_2_147,.int .u8 a0_2_148,.int .u8 a0_2_149,.int .u8 a0_2_150,.int .u8 a0_2_151,.int .u8 a0_2_152,.int .u8 a0_2_153,.int .u8 a0_2_154,.int .u8 a0_2_155,.int .u8 a0_2_156,.int .u8 a0_2_157,.int .u8 a0_2_158,.int .u8 a0_2_159,.int .u8 a0_2_160,.int .u8 a0_2_161,.int .u8 a0_2_162,.int .u8 a0_2_163,.int .u8 a0_2_164,.int .u8 a0_2_165,.int .u8 a0_2_166,.int .u8 a0_2_167,.int .u8 a0_2_168,.int .u8 a0_2_169,.int .u8 a0_2_170,.int .u8 a0_2_171,.int .u8 a0_2_172,.int .u8 a0_2_173,.int .u8 a0_2_174,.int .u8 a0_2_175,.int .u8 a0_2_176,.int .u8 a0_2_177,.int .u8 a0_2_178,.int .u8 a0_2_179,.int .u8 a0_2_180,.int .u8 a0_2_181,.int .u8 a0_2_182,.int .u8 a0_2_183,.int .u8 a0_2_184,.int .u8 a0_2_185,.int .u8 a0_2_186,.int .u8 a0_2_187,.int .u8 a0_2_188,.int .u8 a0_2_189,.int .u8 a0_2_190,.int .u8 a0_2_191,.int .u8 a0_2_192,.int .u8 a0_2_193,.int .u8 a0_2_194,.int .u8 a0_2_195,.int .u8 a0_2_196,.int .u8 a0_2_197,.int .u8 a0_2_198,.int .u8 a0_2_199,.int .u8 a0_2_200,.int .u8 a0_2_201,.int .u8 a0_2_202,.int .u8 a0_2_203,.int .u8 a0_2_204,.int .u8 a0_2_205,.int .u8 a0_2_206,.int .u8 a0_2_207,.int .u8 a0_2_208,.int .u8 a0_2_209,.int .u8 a0_2_210,.int .u8 a0_2_211,.int .u8 a0_2_212,.int .u8 a0_2_213,.int .u8 a0_2_214,.int .u8 a0_2_215,.int .u8 a0_2_216,.int .u8 a0_2_217,.int .u8 a0_2_218,.int .u8 a0_2_219,.int .u8 a0_2_220,.int .u8 a0_2_221,.int .u8 a0_2_222,.int .u8 a0_2_223,.int .u8 a0_2_224,.int .u8 a0_2_225,.int .u8 a0_2_226,.int .u8 a0_2_227,.int .u8 a0_2_228,.int .u8 a0_2_229,.int .u8 a0_2_230,.int .u8 a0_2_231,.int .u8 a0_2_232,.int .u8 a0_2_233,.int .u8 a0_2_234,.int .u8 a0_2_235,.int .u8 a0_2_236,.int .u8 a0_2_237,.int .u8 a0_2_238,.int .u8 a0_2_239,.int .u8 a0_2_240,.int .u8 a0_2_241,.int .u8 a0_2_242,.int .u8 a0_2_243,.int .u8 a0_2_244,.int .u8 a0_2_245,.int .u8 a0_2_246,.int .u8 a0_2_247,.int .u8 a0_2_248,.int .u8 a0_2_249,.int .u8 a0_2_250,.int .u8 a0_2_251,.int .u8 a0_2_252,.int .u8 a0_2_253,.int .u8 a0_2_254,.int .u8 a0_2_255])] h K u=u_new [.int .u32 a0_0,.int .i64 a0_1,.int .u8 a0_2_0,.int .u8 a0_2_1,.int .u8 a0_2_2,.int .u8 a0_2_3,.int .u8 a0_2_4,.int .u8 a0_2_5,.int .u8 a0_2_6,.int .u8 a0_2_7,.int .u8 a0_2_8,.int .u8 a0_2_9,.int .u8 a0_2_10,.int .u8 a0_2_11,.int .u8 a0_2_12,.int .u8 a0_2_13,.int .u8 a0_2_14,.int .u8 a0_2_15,.int .u8 a0_2_16,.int .u8 a0_2_17,.int .u8 a0_2_18,.int .u8 a0_2_19,.int .u8 a0_2_20,.int .u8 a0_2_21,.int .u8 a0_2_22,.int .u8 a0_2_23,.int .u8 a0_2_24,.int .u8 a0_2_25,.int .u8 a0_2_26,.int .u8 a0_2_27,.int .u8 a0_2_28,.int .u8 a0_2_29,.int .u8 a0_2_30,.int .u8 a0_2_31,.int .u8 a0_2_32,.int .u8 a0_2_33,.int .u8 a0_2_34,.int .u8 a0_2_35,.int .u8 a0_2_36,.int .u8 a0_2_37,.int .u8 a0_2_38,.int .u8 a0_2_39,.int .u8 a0_2_40,.int .u8 a0_2_41,.int .u8 a0_2_42,.int .u8 a0_2_43,.int .u8 a0_2_44,.int .u8 a0_2_45,.int .u8 a0_2_46,.int .u8 a0_2_47,.int .u8 a0_2_48,.int .u8 a0_2_49,.int .u8 a0_2_50,.int .u8 a0_2_51,.int .u8 a0_2_52,.int .u8 a0_2_53,.int .u8 a0_2_54,.int .u8 a0_2_55,.int .u8 a0_2_56,.int .u8 a0_2_57,.int .u8 a0_2_58,.int .u8 a0_2_59,.int .u8 a0_2_60,.int .u8 a0_2_61,.int .u8 a0_2_62,.int .u8 a0_2_63,.int .u8 a0_2_64,.int .u8 a0_2_65,.int .u8 a0_2_66,.int .u8 a0_2_67,.int .u8 a0_2_68,.int .u8 a0_2_69,.int .u8 a0_2_70,.int .u8 a0_2_71,.int .u8 a0_2_72,.int .u8 a0_2_73,.int .u8 a0_2_74,.int .u8 a0_2_75,.int .u8 a0_2_76,.int .u8 a0_2_77,.int .u8 a0_2_78,.int .u8 a0_2_79,.int .u8 a0_2_80,.int .u8 a0_2_81,.int .u8 a0_2_82,.int .u8 a0_2_83,.int .u8 a0_2_84,.int .u8 a0_2_85,.int .u8 a0_2_86,.int .u8 a0_2_87,.int .u8 a0_2_88,.int .u8 a0_2_89,.int .u8 a0_2_90,.int .u8 a0_2_91,.int .u8 a0_2_92,.int .u8 a0_2_93,.int .u8 a0_2_94,.int .u8 a0_2_95,.int .u8 a0_2_96,.int .u8 a0_2_97,.int .u8 a0_2_98,.int .u8 a0_2_99,.int .u8 a0_2_100,.int .u8 a0_2_101,.int .u8 a0_2_102,.int .u8 a0_2_103,.int .u8 a0_2_104,.int .u8 a0_2_105,.int .u8 a0_2_106,.int .u8 a0_2_107,.int .u8 a0_2_108,.int .u8 a0_2_109,.int .u8 a0_2_110,.int .u8 a0_2_111,.int .u8 a0_2_112,.int .u8 a0_2_113,.int .u8 a0_2_114,.int .u8 a0_2_115,.int .u8 a0_2_116,.int .u8 a0_2_117,.int .u8 a0_2_118,.int .u8 a0_2_119,.int .u8 a0_2_120,.int .u8 a0_2_121,.int .u8 a0_2_122,.int .u8 a0_2_123,.int .u8 a0_2_124,.int .u8 a0_2_125,.int .u8 a0_2_126,.int .u8 a0_2_127,.int .u8 a0_2_128,.int .u8 a0_2_129,.int .u8 a0_2_130,.int .u8 a0_2_131,.int .u8 a0_2_132,.int .u8 a0_2_133,.int .u8 a0_2_134,.int .u8 a0_2_135,.int .u8 a0_2_136,.int .u8 a0_2_137,.int .u8 a0_2_138,.int .u8 a0_2_139,.int .u8 a0_2_140,.int .u8 a0_2_141,.int .u8 a0_2_142,.int .u8 a0_2_143,.int .u8 a0_2_144,.int .u8 a0_2_145,.int .u8 a0_2_146,.int .u8 a0_2_147,.int .u8 a0_2_148,.int .u8 a0_2_149,.int .u8 a0_2_150,.int .u8 a0_2_151,.int .u8 a0_2_152,.int .u8 a0_2_153,.int .u8 a0_2_154,.int .u8 a0_2_155,.int .u8 a0_2_156,.int .u8 a0_2_157,.int .u8 a0_2_158,.int .u8 a0_2_159,.int .u8 a0_2_160,.int .u8 a0_2_161,.int .u8 a0_2_162,.int .u8 a0_2_163,.int .u8 a0_2_164,.int .u8 a0_2_165,.int .u8 a0_2_166,.int .u8 a0_2_167,.int .u8 a0_2_168,.int .u8 a0_2_169,.int .u8 a0_2_170,.int .u8 a0_2_171,.int .u8 a0_2_172,.int .u8 a0_2_173,.int .u8 a0_2_174,.int .u8 a0_2_175,.int .u8 a0_2_176,.int .u8 a0_2_177,.int .u8 a0_2_178,.int .u8 a0_2_179,.int .u8 a0_2_180,.int .u8 a0_2_181,.int .u8 a0_2_182,.int .u8 a0_2_183,.int .u8 a0_2_184,.int .u8 a0_2_185,.int .u8 a0_2_186,.int .u8 a0_2_187,.int .u8 a0_2_188,.int .u8 a0_2_189,.int .u8 a0_2_190,.int .u8 a0_2_191,.int .u8 a0_2_192,.int .u8 a0_2_193,.int .u8 a0_2_194,.int .u8 a0_2_195,.int .u8 a0_2_196,.int .u8 a0_2_197,.int .u8 a0_2_198,.int .u8 a0_2_199,.int .u8 a0_2_200,.int .u8 a0_2_201,.int .u8 a0_2_202,.int .u8 a0_2_203,.int .u8 a0_2_204,.int .u8 a0_2_205,.int .u8 a0_2_206,.int .u8 a0_2_207,.int .u8 a0_2_208,.int .u8 a0_2_209,.int .u8 a0_2_210,.int .u8 a0_2_211,.int .u8 a0_2_212,.int .u8 a0_2_213,.int .u8 a0_2_214,.int .u8 a0_2_215,.int .u8 a0_2_216,.int .u8 a0_2_217,.int .u8 a0_2_218,.int .u8 a0_2_219,.int .u8 a0_2_220,.int .u8 a0_2_221,.int .u8 a0_2_222,.int .u8 a0_2_223,.int .u8 a0_2_224,.int .u8 a0_2_225,.int .u8 a0_2_226,.int .u8 a0_2_227,.int .u8 a0_2_228,.int .u8 a0_2_229,.int .u8 a0_2_230,.int .u8 a0_2_231,.int .u8 a0_2_232,.int .u8 a0_2_233,.int .u8 a0_2_234,.int .u8 a0_2_235,.int .u8 a0_2_236,.int .u8 a0_2_237,.int .u8 a0_2_238,.int .u8 a0_2_239,.int .u8 a0_2_240,.int .u8 a0_2_241,.int .u8 a0_2_242,.int .u8 a0_2_243,.int .u8 a0_2_244,.int .u8 a0_2_245,.int .u8 a0_2_246,.int .u8 a0_2_247,.int .u8 a0_2_248,.int .u8 a0_2_249,.int .u8 a0_2_250,.int .u8 a0_2_251,.int .u8 a0_2_252,.int .u8 a0_2_253,.int .u8 a0_2_254,.int .u8 a0_2_255] yezi .exact h fun b h=>K (.slice (some ⟨b,0,none⟩) 1 1) h:=by kernel_rfl
@[simp] theorem yob0 {h:H} {K:K1} {u:Dm K}:ynqb PG ywlv 0 [] h K u=u_new [] yrli .exact h fun b h=>K (.slice (some ⟨b,0,none⟩) 0 0) h:=by kernel_rfl
@[simp] theorem yqey {a0_0:Int} {a0_1:Int} {h:H} {K:K1} {u:Dm K}:ynqb PG ywlv 1 [(0,.agg #[.int .u32 a0_0,.int .u32 a0_1])] h K u=u_new [.int .u32 a0_0,.int .u32 a0_1] yrli .exact h fun b h=>K (.slice (some ⟨b,0,none⟩) 1 1) h:=by kernel_rfl
def yrnw (x0 x4 x5:Value) (h:H) (Kn:K3) (Kr:K0) (Ke0:K2):Prop :=
 u_pf false 1 2 x0 h fun v14=>ywmm v14 fun v15=>u_bin PG .lss T_int x5 v15 fun v16=>u_if v16 (u_pf false 1 2 x0 h fun v22=>u_ixf false 1 0 none 2 v22 x5 h fun v26=>u_bin PG .eql ycpa v26 x4 fun v28=>u_if v28 (u_pf false 1 2 x0 h fun v32=>u_ixf false 1 1 none 2 v32 x5 h fun v36=>u_bin PG .add ycpa v36 (.int .u32 1) fun v37=>yji6 none 2 v32 x5 fun v38=>u_st 1 1 v38 v37 h fun h=>Kr h) (u_bin PG .add T_int x5 (.int .i64 1) fun v18=>Kn x0 x4 v18 h)) (Ke0 x0 x4 h)
def ydqt (x0 x4 x5:Value) (h:H) (Kn:K2) (Kr:K0) (Ke0:K2):Prop :=
 sloop (S:=Value×Value×Value) (fun s h K=>yrnw s.1 s.2.1 s.2.2 h (fun y0 y4 y5 h=>K (y0,y4,y5) h) Kr Ke0) (x0,x4,x5) h
def y9al (x0 x4 x5:Value) (h:H) (Kn:K2) (Kr:K0):Prop :=
 ydqt x0 x4 x5 h Kn Kr Kn
def yw2b (x0 x4:Value) (h:H) (Kn:K2) (Kr:K0):Prop :=
 y9al x0 x4 (.int .i64 0) h Kn Kr
def yq44 (x0 x4:Value) (h:H) (Kn Kr:K0):Prop :=
 ynqb PG ywlv 0 [] h fun v41 h=>u_pf false 1 2 x0 h fun v45=>yx4h yrli 2 8 v41 v45 h fun v46 h=>ysnr PG yrli [(0,x4),(1,(.int .u32 1))] fun v48=>ynqb PG ywlv 1 [(0,v48)] h fun v49 h=>yx4h yrli 2 8 v46 v49 h fun v50 h=>y394 x0 fun v51=>u_st 1 2 v51 v50 h fun h=>Kn h
def ykm6 (x0 x4:Value) (h:H) (Kn Kr:K0):Prop :=
 yw2b x0 x4 h (fun y0 y4 h=>yq44 y0 y4 h Kn Kr) Kr
def y6fl (x0 x1:Value) (h:H) (Kn Kr:K0):Prop :=
 u_bin PG .rem ycpa x1 (.int .u32 256) fun v8=>u_bin PG .sub ycpa x1 v8 fun v9=>ykm6 x0 v9 h Kn Kr
theorem yx9s {Kn Kr:K0} {t:T} {h:H} (H0:y6fl (t 0) (t 1) h Kn Kr):Wp PG 53 (ygjk Tryz.f188.body) (mkQ (q0 Kn) (q0 Kr) ke0) t h :=
 (toE E5_ok 1 H0 fun t h (H:ykm6 (t 0) (t 4) h Kn Kr)=>(sqE (q2 (fun y0 y4 h=>yq44 y0 y4 h Kn Kr) 0 4) (toE E5_ok 1 H fun t h (H:y9al (t 0) (t 4) (t 5) h (fun y0 y4 h=>yq44 y0 y4 h Kn Kr) Kr)=>(bkE 0 (lpE (fun t=>(t 0,t 4,t 5)) H fun t h K H=>(wpE E5_ok H)))) fun t h H=>(wpE E5_ok H)))
def y78d (x0 x1:Value) (h:H) (Q:K1):Prop:=y6fl x0 x1 h (fun h=>bif [].all boxV then Q (.tuple #[]) h else False) (fun h=>bif [].all boxV then Q (.tuple #[]) h else False)
theorem yoeu (x0 x1:Value) (h:H) (Q:K1) (H0:y78d x0 x1 h Q):AM.Spec PG yrlt [x0,x1] h Q :=
 spH mixed Tryz.func188 [] (yx9s H0)
def y3zw (x0 x1 x2 x7 x8:Value) (h:H) (Kn:K5) (Kr Ke0:K1):Prop :=
 u_pf false 1 1 x0 h fun v13=>ywmm v13 fun v14=>u_bin PG .lss T_int x8 v14 fun v15=>u_if v15 (u_pf false 1 1 x0 h fun v21=>u_ixf false 1 0 none 258 v21 x8 h fun v25=>u_ct yyxh [v25,x1,x2] h fun v28 h=>u_if v28 (u_bin PG .add yeb5 x7 (.int .i64 1) fun v30=>u_bin PG .add T_int x8 (.int .i64 1) fun v17=>Kn x0 x1 x2 v30 v17 h) (u_bin PG .add T_int x8 (.int .i64 1) fun v17=>Kn x0 x1 x2 x7 v17 h)) (Ke0 x7 h)
def yz03 (x0 x1 x2 x7 x8:Value) (h:H) (Kn Kr Ke0:K1):Prop :=
 sloop (S:=Value×Value×Value×Value×Value) (fun s h K=>y3zw s.1 s.2.1 s.2.2.1 s.2.2.2.1 s.2.2.2.2 h (fun y0 y1 y2 y7 y8 h=>K (y0,y1,y2,y7,y8) h) Kr Ke0) (x0,x1,x2,x7,x8) h
def yygt (x0 x1 x2 x7 x8:Value) (h:H) (Kn Kr:K1):Prop :=
 yz03 x0 x1 x2 x7 x8 h Kn Kr Kn
def yjpk (x0 x1 x2 x7:Value) (h:H) (Kn Kr:K1):Prop :=
 yygt x0 x1 x2 x7 (.int .i64 0) h Kn Kr
def yd4u (x7:Value) (h:H) (Kn Kr:K1):Prop :=
 Kr x7 h
def ya01 (x0 x1 x2 x7:Value) (h:H) (Kn Kr:K1):Prop :=
 yjpk x0 x1 x2 x7 h (fun y7 h=>yd4u y7 h Kn Kr) Kr
def yukl (x0 x1 x2:Value) (h:H) (Kn Kr:K1):Prop :=
 ya01 x0 x1 x2 (.int .i64 0) h Kn Kr
theorem y0o9 {Kn Kr:K1} {t:T} {h:H} (H0:yukl (t 0) (t 1) (t 2) h Kn Kr):Wp PG 32 (ygjk Tryz.f220.body) (mkQ (q1 Kn 6) (q1 Kr 6) ke0) t h :=
 (toE E5_ok 2 H0 fun t h (H:ya01 (t 0) (t 1) (t 2) (t 7) h Kn Kr)=>(sqE (q1 (fun y7 h=>yd4u y7 h Kn Kr) 7) (toE E5_ok 1 H fun t h (H:yygt (t 0) (t 1) (t 2) (t 7) (t 8) h (fun y7 h=>yd4u y7 h Kn Kr) Kr)=>(bkE 0 (lpE (fun t=>(t 0,t 1,t 2,t 7,t 8)) H fun t h K H=>(wpE E5_ok H)))) fun t h H=>(wpE E5_ok H)))
def yrsc (x0 x1 x2:Value) (h:H) (Q:K1):Prop:=yukl x0 x1 x2 h Q Q
theorem y5iw (x0 x1 x2:Value) (h:H) (Q:K1) (H0:yrsc x0 x1 x2 h Q):AM.Spec PG y3y7 [x0,x1,x2] h Q :=
 spH mixed Tryz.func220 [6] (y0o9 H0)
def y4ap (x0 x6 x7:Value) (h:H) (Kn:K3) (Kr:K2) (Ke0:K3):Prop :=
 u_pf false 1 1 x0 h fun v16=>ywmm v16 fun v17=>u_bin PG .lss T_int x7 v17 fun v18=>ydv6 v18 true (fun k17=>u_pf false 1 1 x0 h fun v23=>u_ixf false 1 0 none 258 v23 x7 h fun v27=>u_bin PG .lss ycpa v27 x6 fun v29=>k17 v29 h) (fun v29 h=>y9rg v18 v29 (.bool false) fun v30=>u_if v30 (u_bin PG .add T_int x7 (.int .i64 1) fun v32=>Kn x0 x6 v32 h) (Ke0 x0 x6 x7 h)) h
def yc0h (x0 x6 x7:Value) (h:H) (Kn:K3) (Kr:K2) (Ke0:K3):Prop :=
 sloop (S:=Value×Value×Value) (fun s h K=>y4ap s.1 s.2.1 s.2.2 h (fun y0 y6 y7 h=>K (y0,y6,y7) h) Kr Ke0) (x0,x6,x7) h
def ypgi (x0 x6 x7:Value) (h:H) (Kn:K3) (Kr:K2):Prop :=
 yc0h x0 x6 x7 h Kn Kr Kn
def yekl (x0 x6 x7:Value) (h:H) (Kn Kr:K2):Prop :=
 u_pf false 1 1 x0 h fun v38=>ywmm v38 fun v39=>u_bin PG .lss T_int x7 v39 fun v40=>ydv6 v40 true (fun k18=>u_pf false 1 1 x0 h fun v45=>u_ixf false 1 0 none 258 v45 x7 h fun v49=>u_bin PG .eql ycpa v49 x6 fun v51=>k18 v51 h) (fun v51 h=>y9rg v40 v51 (.bool false) fun v52=>Kn x7 v52 h) h
def yzan (x4 x5:Value) (h:H) (Kn Kr:K2):Prop :=
 Kr x4 x5 h
def yf7k (x0 x6 x7:Value) (h:H) (Kn Kr:K2):Prop :=
 yekl x0 x6 x7 h (fun y4 y5 h=>yzan y4 y5 h Kn Kr) Kr
def ynky (x0 x6 x7:Value) (h:H) (Kn Kr:K2):Prop :=
 ypgi x0 x6 x7 h (fun y0 y6 y7 h=>yf7k y0 y6 y7 h Kn Kr) Kr
def ykfg (x0 x1:Value) (h:H) (Kn Kr:K2):Prop :=
 u_bin PG .rem ycpa x1 (.int .u32 256) fun v10=>u_bin PG .sub ycpa x1 v10 fun v11=>ynky x0 v11 (.int .i64 0) h Kn Kr
theorem ys4b {Kn Kr:K2} {t:T} {h:H} (H0:ykfg (t 0) (t 1) h Kn Kr):Wp PG 53 (ygjk Tryz.f221.body) (mkQ (q2 Kn 4 5) (q2 Kr 4 5) ke0) t h :=
 (toE E5_ok 3 H0 fun t h (H:ynky (t 0) (t 6) (t 7) h Kn Kr)=>(sqE (q3 (fun y0 y6 y7 h=>yf7k y0 y6 y7 h Kn Kr) 0 6 7) (bkE 0 (lpE (fun t=>(t 0,t 6,t 7)) H fun t h K H=>(wpE E5_ok H))) fun t h H=>(sqE (q2 (fun y4 y5 h=>yzan y4 y5 h Kn Kr) 4 5) (drE E5_ok [0,1,2,3,4,5,6,7,8,9,10,11,12,13,14,15,16,17,18,19,20,21] H) fun t h H=>(wpE E5_ok H))))
def y1e4 (x0 x1:Value) (h:H) (Q:K1):Prop:=ykfg x0 x1 h (fun y4 y5 h=>bif [y4,y5].all boxV then Q (.tuple #[y4,y5]) h else False) (fun y4 y5 h=>bif [y4,y5].all boxV then Q (.tuple #[y4,y5]) h else False)
theorem y1i7 (x0 x1:Value) (h:H) (Q:K1) (H0:y1e4 x0 x1 h Q):AM.Spec PG yhnf [x0,x1] h Q :=
 spH mixed Tryz.func221 [4,5] (ys4b H0)
def y4iv (x0 x1 x3 x9:Value) (h:H) (Kn:K5) (Kr:K1):Prop :=
 u_pf false 1 0 x0 h fun v36=>u_pf false 1 1 x0 h fun v40=>ywmm v40 fun v41=>u_bin PG .sub T_int v36 v41 fun v42=>u_bin PG .gtr yeb5 x9 v42 fun v43=>Kn x0 x1 x3 x9 v43 h
def ynev (x0 x1 x3 x9 x43:Value) (h:H) (Kn:K4) (Kr:K1):Prop :=
 u_if x43 (Kr (.int .i64 6) h) (Kn x0 x1 x3 x9 h)
def ywd8 (x0 x1 x3 x9:Value) (h:H) (Kn:K4) (Kr:K1):Prop :=
 y4iv x0 x1 x3 x9 h (fun y0 y1 y3 y9 y43 h=>ynev y0 y1 y3 y9 y43 h Kn Kr) Kr
def yuie (x0 x1 x3 x9 x10 x11 x12:Value) (h:H) (Kn:K6) (Kr:K1) (Ke1:K5) (Ke0:K0):Prop :=
 y394 x0 fun v63=>y0wt 1 v63 fun v64=>ybqh false 1 v64 h fun v65=>y4a7 258 v65 none (some x12) none fun v67=>ysnr PG yezi [(0,x11),(1,x3)] fun v71=>y394 x0 fun v75=>y0wt 1 v75 fun v76=>ybqh false 1 v76 h fun v77=>y4a7 258 v77 (some x12) none none fun v79=>(ynqb PG yoza 1 [(0,v71)] h fun v72 h=>True)∧ynqb PG yoza 0 [] h fun v61 h=>(ynqb PG yoza 1 [(0,v71)] h fun v72 h=>True)∧yx4h yezi 258 272 v61 v67 h fun v68 h=>(ybqh false 1 v76 h fun w77=>w77=v77)∧ynqb PG yoza 1 [(0,v71)] h fun v72 h=>yx4h yezi 258 272 v68 v72 h fun v73 h=>(ybqh false 1 v76 h fun w77=>w77=v77)∧yx4h yezi 258 272 v73 v79 h fun v80 h=>y394 x0 fun v81=>y0wt 1 v81 fun v82=>ylel 1 v82 v80 h fun h=>Kn x0 x1 x3 x9 x10 x11 h
def yi78 (x0 x1 x3 x9 x10 x11:Value) (h:H) (Kn:K5) (Kr:K1) (Ke1:K5) (Ke0:K0):Prop :=
 yjdf PG yrlt [x0,x11] h fun v85 h=>Kn x0 x1 x3 x9 x10 h
def ykw3 (x0 x1 x3 x9 x10 x11 x12:Value) (h:H) (Kn:K5) (Kr:K1) (Ke1:K5) (Ke0:K0):Prop :=
 yuie x0 x1 x3 x9 x10 x11 x12 h (fun y0 y1 y3 y9 y10 y11 h=>yi78 y0 y1 y3 y9 y10 y11 h Kn Kr Ke1 Ke0) Kr Ke1 Ke0
def yz92 (x0 x1 x3 x9 x10:Value) (h:H) (Kn:K5) (Kr:K1) (Ke1:K5) (Ke0:K0):Prop :=
 u_bin PG .mul yeb5 (.int .i64 256) x10 fun v51=>y2x6 .u32 v51 fun v52=>u_bin PG .add ycpa x1 v52 fun v53=>yjdf PG yhnf [x0,v53] h fun v57 h=>yvu8 v57 0 fun v58=>yvu8 v57 1 fun v59=>ykw3 x0 x1 x3 x9 x10 v53 v58 h Kn Kr Ke1 Ke0
def y7xv (x0 x1 x3 x9 x10:Value) (h:H) (Kn:K5) (Kr:K1) (Ke0:K0):Prop :=
 yz92 x0 x1 x3 x9 x10 h Kn Kr Kn Ke0
def ysya (x0 x1 x3 x9 x10:Value) (h:H) (Kn:K5) (Kr:K1) (Ke0:K0):Prop :=
 u_bin PG .add yeb5 x10 (.int .i64 1) fun v48=>Kn x0 x1 x3 x9 v48 h
def yqng (x0 x1 x3 x9 x10:Value) (h:H) (Kn:K5) (Kr:K1) (Ke0:K0):Prop :=
 y7xv x0 x1 x3 x9 x10 h (fun y0 y1 y3 y9 y10 h=>ysya y0 y1 y3 y9 y10 h Kn Kr Ke0) Kr Ke0
def ya8w (x0 x1 x3 x9 x10:Value) (h:H) (Kn:K5) (Kr:K1) (Ke0:K0):Prop :=
 u_bin PG .lss yeb5 x10 x9 fun v46=>u_if v46 (yqng x0 x1 x3 x9 x10 h Kn Kr Ke0) (Ke0 h)
def ysf2 (x0 x1 x3 x9 x10:Value) (h:H) (Kn:K0) (Kr:K1) (Ke0:K0):Prop :=
 sloop (S:=Value×Value×Value×Value×Value) (fun s h K=>ya8w s.1 s.2.1 s.2.2.1 s.2.2.2.1 s.2.2.2.2 h (fun y0 y1 y3 y9 y10 h=>K (y0,y1,y3,y9,y10) h) Kr Ke0) (x0,x1,x3,x9,x10) h
def y1a7 (x0 x1 x3 x9 x10:Value) (h:H) (Kn:K0) (Kr:K1):Prop :=
 ysf2 x0 x1 x3 x9 x10 h Kn Kr Kn
def yptq (x0 x1 x3 x9:Value) (h:H) (Kn:K0) (Kr:K1):Prop :=
 y1a7 x0 x1 x3 x9 (.int .i64 0) h Kn Kr
def yysk (h:H) (Kn Kr:K1):Prop :=
 Kr (.int .i64 0) h
def y6vu (x0 x1 x3 x9:Value) (h:H) (Kn Kr:K1):Prop :=
 yptq x0 x1 x3 x9 h (fun h=>yysk h Kn Kr) Kr
def yo03 (x0 x1 x3 x9:Value) (h:H) (Kn Kr:K1):Prop :=
 ywd8 x0 x1 x3 x9 h (fun y0 y1 y3 y9 h=>y6vu y0 y1 y3 y9 h Kn Kr) Kr
def yf2f (x0 x1 x2 x3:Value) (h:H) (Kn Kr:K1):Prop :=
 u_ct yr9w [x1,x2] h fun v16 h=>u_bin PG .lss yeb5 v16 (.int .i64 0) fun v18=>ydv6 v18 false (fun k4=>u_bin PG .lss T_int x3 (.int .i64 0) fun v21=>k4 v21 h) (fun v21 h=>y9rg v18 (.bool true) v21 fun v22=>ydv6 v22 false (fun k8=>u_bin PG .gtr T_int x3 (.int .i64 7) fun v25=>k8 v25 h) (fun v25 h=>y9rg v22 (.bool true) v25 fun v26=>u_if v26 (Kr (.int .i64 1) h) (yjdf PG y3y7 [x0,x1,v16] h fun v30 h=>u_bin PG .gtr yeb5 v30 (.int .i64 0) fun v31=>u_if v31 (Kr (.int .i64 5) h) (yo03 x0 x1 x3 v16 h Kn Kr))) h) h
theorem ym3x {Kn:K5} {Kr:K1} {Ke1:K5} {Ke0:K0} {t:T} {h:H} (H0:yz92 (t 0) (t 1) (t 3) (t 9) (t 10) h Kn Kr Ke1 Ke0):Wp PG 86 (blkC (seqL (rest 1 (lopC (blkC (rest 1 (seqL (seqR (rest 4 (ygjk Tryz.f149.body)))))))))) (mkQ (q5 Kn 0 1 3 9 10) (q1 Kr 8) (keAdd 1 (q5 Ke1 0 1 3 9 10) (keAdd 0 (q0 Ke0) ke0))) t h :=
 (toE E5_ok 2 H0 fun t h (H:ykw3 (t 0) (t 1) (t 3) (t 9) (t 10) (t 11) (t 12) h Kn Kr Ke1 Ke0)=>(sqE (q6 (fun y0 y1 y3 y9 y10 y11 h=>yi78 y0 y1 y3 y9 y10 y11 h Kn Kr Ke1 Ke0) 0 1 3 9 10 11) (drR E5_ok [(0,[],[]),(2,[],[]),(3,[],[]),(4,[],[]),(5,[],[]),(6,[],[]),(7,[],[]),(9,[],[]),(10,[],[]),(11,[],[]),(14,[],[]),(15,[],[]),(16,[],[]),(17,[],[]),(18,[],[]),(19,[],[]),(1,[],[12]),(8,[17],[12]),(12,[],[]),(13,[17],[]),(20,[],[]),(21,[],[]),(22,[],[]),(23,[],[])] H) fun t h H=>(wpE E5_ok H)))
theorem yi0s {Kn:K5} {Kr:K1} {Ke0:K0} {t:T} {h:H} (H0:y7xv (t 0) (t 1) (t 3) (t 9) (t 10) h Kn Kr Ke0):Wp PG 86 (seqL (rest 1 (lopC (blkC (rest 1 (seqL (seqR (rest 4 (ygjk Tryz.f149.body))))))))) (mkQ (q5 Kn 0 1 3 9 10) (q1 Kr 8) (keAdd 0 (q0 Ke0) ke0)) t h :=
 (bkE 1 (ym3x H0))
theorem y8qd {Kn Kr:K1} {t:T} {h:H} (H0:y6vu (t 0) (t 1) (t 3) (t 9) h Kn Kr):Wp PG 86 (seqR (rest 4 (ygjk Tryz.f149.body))) (mkQ (q1 Kn 8) (q1 Kr 8) ke0) t h :=
 (sqE (q0 (fun h=>yysk h Kn Kr)) (toE E5_ok 1 H0 fun t h (H:y1a7 (t 0) (t 1) (t 3) (t 9) (t 10) h (fun h=>yysk h Kn Kr) Kr)=>(bkE 0 (lpE (fun t=>(t 0,t 1,t 3,t 9,t 10)) H fun t h K H=>(toE E5_ok 1 H fun t h (H:yqng (t 0) (t 1) (t 3) (t 9) (t 10) h (fun y0 y1 y3 y9 y10 h=>K (y0,y1,y3,y9,y10) h) Kr (fun h=>yysk h Kn Kr))=>(sqE _ (yi0s H) fun t h H=>(wpE E5_ok H)))))) fun t h H=>(wpE E5_ok H))
theorem y7hu {Kn Kr:K1} {t:T} {h:H} (H0:yf2f (t 0) (t 1) (t 2) (t 3) h Kn Kr):Wp PG 86 (ygjk Tryz.f149.body) (mkQ (q1 Kn 8) (q1 Kr 8) ke0) t h :=
 (toE E5_ok 4 H0 fun t h (H:yo03 (t 0) (t 1) (t 3) (t 9) h Kn Kr)=>(sqE (q4 (fun y0 y1 y3 y9 h=>y6vu y0 y1 y3 y9 h Kn Kr) 0 1 3 9) (sqE (q5 (fun y0 y1 y3 y9 y43 h=>ynev y0 y1 y3 y9 y43 h (fun y0 y1 y3 y9 h=>y6vu y0 y1 y3 y9 h Kn Kr) Kr) 0 1 3 9 43) (drE E5_ok [0,1,2,3,4,5,6,7,8,9,10,11] H) fun t h H=>(wpE E5_ok H)) fun t h H=>(y8qd H)))
def ydgw (x0 x1 x2 x3:Value) (h:H) (Q:K1):Prop:=yf2f x0 x1 x2 x3 h Q Q
theorem yq2p (x0 x1 x2 x3:Value) (h:H) (Q:K1) (H0:ydgw x0 x1 x2 x3 h Q):AM.Spec PG y0iw [x0,x1,x2,x3] h Q :=
 spH mixed Tryz.func149 [8] (y7hu H0)
def yyf5 (x0 x1:Value) (h:H) (Kn Kr:K2):Prop :=
 yjdf PG yhnf [x0,x1] h fun v11 h=>yvu8 v11 0 fun v12=>yvu8 v11 1 fun v13=>u_un PG .not v13 fun v15=>u_if v15 (Kr (.int .i64 0) (.bool false) h) (u_pf false 1 1 x0 h fun v19=>u_ixf false 1 1 none 258 v19 v12 h fun v23=>Kr v23 (.bool true) h)
def ygos (x0 x1:Value) (h:H) (Q:K1):Prop:=yyf5 x0 x1 h (fun y4 y5 h=>bif [y4,y5].all boxV then Q (.tuple #[y4,y5]) h else False) (fun y4 y5 h=>bif [y4,y5].all boxV then Q (.tuple #[y4,y5]) h else False)
theorem ywrr (x0 x1:Value) (h:H) (Q:K1) (H0:ygos x0 x1 h Q):AM.Spec PG ycsm [x0,x1] h Q :=
 spE mixed E5_ok Tryz.func280 [4,5] H0
def ygex (x0 x1 x2 x3 x9:Value) (h:H) (Kn:K5) (Kr:K1) (Ke0:K0):Prop :=
 y2x6 .i64 x1 fun v26=>u_bin PG .add yeb5 v26 x2 fun v28=>u_bin PG .lss yeb5 x9 v28 fun v29=>u_if v29 (y2x6 .u32 x9 fun v35=>yjdf PG ycsm [x0,v35] h fun v36 h=>yvu8 v36 0 fun v37=>yvu8 v36 1 fun v38=>u_un PG .not v38 fun v40=>ydv6 v40 false (fun k7=>u_bin PG .and T_int v37 x3 fun v44=>u_bin PG .neq T_int v44 x3 fun v46=>k7 v46 h) (fun v46 h=>y9rg v40 (.bool true) v46 fun v47=>u_if v47 (Kr (.bool false) h) (u_bin PG .add yeb5 x9 (.int .i64 256) fun v31=>Kn x0 x1 x2 x3 v31 h)) h) (Ke0 h)
def yhuv (x0 x1 x2 x3 x9:Value) (h:H) (Kn:K0) (Kr:K1) (Ke0:K0):Prop :=
 sloop (S:=Value×Value×Value×Value×Value) (fun s h K=>ygex s.1 s.2.1 s.2.2.1 s.2.2.2.1 s.2.2.2.2 h (fun y0 y1 y2 y3 y9 h=>K (y0,y1,y2,y3,y9) h) Kr Ke0) (x0,x1,x2,x3,x9) h
def y8dj (x0 x1 x2 x3 x9:Value) (h:H) (Kn:K0) (Kr:K1):Prop :=
 yhuv x0 x1 x2 x3 x9 h Kn Kr Kn
def y954 (x0 x1 x2 x3:Value) (h:H) (Kn:K0) (Kr:K1):Prop :=
 u_bin PG .rem ycpa x1 (.int .u32 256) fun v21=>u_bin PG .sub ycpa x1 v21 fun v22=>y2x6 .i64 v22 fun v23=>y8dj x0 x1 x2 x3 v23 h Kn Kr
def y41e (h:H) (Kn Kr:K1):Prop :=
 Kr (.bool true) h
def ye8e (x0 x1 x2 x3:Value) (h:H) (Kn Kr:K1):Prop :=
 y954 x0 x1 x2 x3 h (fun h=>y41e h Kn Kr) Kr
def y499 (x0 x1 x2 x3:Value) (h:H) (Kn Kr:K1):Prop :=
 u_bin PG .leq T_int x2 (.int .i64 0) fun v13=>u_if v13 (Kr (.bool true) h) (y2x6 .i64 x1 fun v15=>u_bin PG .add yeb5 v15 x2 fun v17=>u_bin PG .gtr yeb5 v17 (.int .i64 4294967296) fun v18=>u_if v18 (Kr (.bool false) h) (ye8e x0 x1 x2 x3 h Kn Kr))
theorem y7hj {Kn Kr:K1} {t:T} {h:H} (H0:y499 (t 0) (t 1) (t 2) (t 3) h Kn Kr):Wp PG 48 (ygjk Tryz.f222.body) (mkQ (q1 Kn 8) (q1 Kr 8) ke0) t h :=
 (toE E5_ok 3 H0 fun t h (H:ye8e (t 0) (t 1) (t 2) (t 3) h Kn Kr)=>(sqE (q0 (fun h=>y41e h Kn Kr)) (toE E5_ok 1 H fun t h (H:y8dj (t 0) (t 1) (t 2) (t 3) (t 9) h (fun h=>y41e h Kn Kr) Kr)=>(bkE 0 (lpE (fun t=>(t 0,t 1,t 2,t 3,t 9)) H fun t h K H=>(wpE E5_ok H)))) fun t h H=>(wpE E5_ok H)))
def ytnd (x0 x1 x2 x3:Value) (h:H) (Q:K1):Prop:=y499 x0 x1 x2 x3 h Q Q
theorem ylw4 (x0 x1 x2 x3:Value) (h:H) (Q:K1) (H0:ytnd x0 x1 x2 x3 h Q):AM.Spec PG yy8p [x0,x1,x2,x3] h Q :=
 spH mixed Tryz.func222 [8] (y7hj H0)
def y9lj (x0 x1 x2 x6 x7 x8:Value) (h:H) (Kn:K5) (Kr:K0) (Ke1:K4) (Ke0:K0):Prop :=
 u_pf false 1 1 x0 h fun v29=>u_bin PG .rem ycpa x7 (.int .u32 256) fun v32=>u_ix false 1 none x2 x6 h fun v36=>yji6 none 258 v29 x8 fun v37=>y0wt 2 v37 fun v38=>yji6 (some 256) 1 v38 v32 fun v39=>ylel 1 v39 v36 h fun h=>Kn x0 x1 x2 x6 x7 h
def y5i8 (x0 x1 x2 x6 x7:Value) (h:H) (Kn:K4) (Kr:K0) (Ke1:K4) (Ke0:K0):Prop :=
 u_bin PG .eql T_int x6 (.int .i64 0) fun v41=>ydv6 v41 false (fun k5=>u_bin PG .rem ycpa x7 (.int .u32 256) fun v44=>u_bin PG .eql ycpa v44 (.int .u32 0) fun v45=>k5 v45 h) (fun v45 h=>y9rg v41 (.bool true) v45 fun v46=>u_if v46 (yjdf PG yrlt [x0,x7] h fun v49 h=>Kn x0 x1 x2 x6 h) (Kn x0 x1 x2 x6 h)) h
def yaek (x0 x1 x2 x6 x7 x8:Value) (h:H) (Kn:K4) (Kr:K0) (Ke1:K4) (Ke0:K0):Prop :=
 y9lj x0 x1 x2 x6 x7 x8 h (fun y0 y1 y2 y6 y7 h=>y5i8 y0 y1 y2 y6 y7 h Kn Kr Ke1 Ke0) Kr Ke1 Ke0
def ybc9 (x0 x1 x2 x6:Value) (h:H) (Kn:K4) (Kr:K0) (Ke1:K4) (Ke0:K0):Prop :=
 y2x6 .u32 x6 fun v18=>u_bin PG .add ycpa x1 v18 fun v19=>yjdf PG yhnf [x0,v19] h fun v23 h=>yvu8 v23 0 fun v24=>yvu8 v23 1 fun v25=>yaek x0 x1 x2 x6 v19 v24 h Kn Kr Ke1 Ke0
def ydvt (x0 x1 x2 x6:Value) (h:H) (Kn:K4) (Kr Ke0:K0):Prop :=
 ybc9 x0 x1 x2 x6 h Kn Kr Kn Ke0
def yyzr (x0 x1 x2 x6:Value) (h:H) (Kn:K4) (Kr Ke0:K0):Prop :=
 u_bin PG .add T_int x6 (.int .i64 1) fun v15=>Kn x0 x1 x2 v15 h
def ycl7 (x0 x1 x2 x6:Value) (h:H) (Kn:K4) (Kr Ke0:K0):Prop :=
 ydvt x0 x1 x2 x6 h (fun y0 y1 y2 y6 h=>yyzr y0 y1 y2 y6 h Kn Kr Ke0) Kr Ke0
def ywx8 (x0 x1 x2 x6:Value) (h:H) (Kn:K4) (Kr Ke0:K0):Prop :=
 ywmm x2 fun v12=>u_bin PG .lss T_int x6 v12 fun v13=>u_if v13 (ycl7 x0 x1 x2 x6 h Kn Kr Ke0) (Ke0 h)
def yibv (x0 x1 x2 x6:Value) (h:H) (Kn Kr Ke0:K0):Prop :=
 sloop (S:=Value×Value×Value×Value) (fun s h K=>ywx8 s.1 s.2.1 s.2.2.1 s.2.2.2 h (fun y0 y1 y2 y6 h=>K (y0,y1,y2,y6) h) Kr Ke0) (x0,x1,x2,x6) h
def yckn (x0 x1 x2 x6:Value) (h:H) (Kn Kr:K0):Prop :=
 yibv x0 x1 x2 x6 h Kn Kr Kn
def ydvr (x0 x1 x2:Value) (h:H) (Kn Kr:K0):Prop :=
 yckn x0 x1 x2 (.int .i64 0) h Kn Kr
theorem yiy4 {Kn:K4} {Kr Ke0:K0} {t:T} {h:H} (H0:ydvt (t 0) (t 1) (t 2) (t 6) h Kn Kr Ke0):Wp PG 50 (seqL (rest 1 (lopC (blkC (rest 1 (ygjk Tryz.f223.body)))))) (mkQ (q4 Kn 0 1 2 6) (q0 Kr) (keAdd 0 (q0 Ke0) ke0)) t h :=
 (bkE 1 (toE E5_ok 2 H0 fun t h (H:yaek (t 0) (t 1) (t 2) (t 6) (t 7) (t 8) h Kn Kr Kn Ke0)=>(sqE (q5 (fun y0 y1 y2 y6 y7 h=>y5i8 y0 y1 y2 y6 y7 h Kn Kr Kn Ke0) 0 1 2 6 7) (drE E5_ok [0,1,2,3,4,5,6,7,8,9,10,11,12,13,14] H) fun t h H=>(wpE E5_ok H))))
theorem yy8n {Kn Kr:K0} {t:T} {h:H} (H0:ydvr (t 0) (t 1) (t 2) h Kn Kr):Wp PG 50 (ygjk Tryz.f223.body) (mkQ (q0 Kn) (q0 Kr) ke0) t h :=
 (toE E5_ok 1 H0 fun t h (H:yckn (t 0) (t 1) (t 2) (t 6) h Kn Kr)=>(bkE 0 (lpE (fun t=>(t 0,t 1,t 2,t 6)) H fun t h K H=>(toE E5_ok 1 H fun t h (H:ycl7 (t 0) (t 1) (t 2) (t 6) h (fun y0 y1 y2 y6 h=>K (y0,y1,y2,y6) h) Kr Kn)=>(sqE _ (yiy4 H) fun t h H=>(wpE E5_ok H))))))
def y0ld (x0 x1 x2:Value) (h:H) (Q:K1):Prop:=ydvr x0 x1 x2 h (fun h=>bif [].all boxV then Q (.tuple #[]) h else False) (fun h=>bif [].all boxV then Q (.tuple #[]) h else False)
theorem y9pf (x0 x1 x2:Value) (h:H) (Q:K1) (H0:y0ld x0 x1 x2 h Q):AM.Spec PG y4jv [x0,x1,x2] h Q :=
 spH mixed Tryz.func223 [] (yy8n H0)
def y5rf (x0 x1 x2:Value) (h:H) (Kn Kr:K1):Prop :=
 ywmm x2 fun v8=>u_bin PG .gtr T_int v8 (.int .i64 65536) fun v9=>u_if v9 (Kr (.int .i64 1) h) (ywmm x2 fun v13=>yjdf PG yy8p [x0,x1,v13,(.int .i64 0)] h fun v14 h=>u_un PG .not v14 fun v15=>u_if v15 (Kr (.int .i64 8) h) (yjdf PG y4jv [x0,x1,x2] h fun v19 h=>Kr (.int .i64 0) h))
def ybv8 (x0 x1 x2:Value) (h:H) (Q:K1):Prop:=y5rf x0 x1 x2 h Q Q
theorem y2cj (x0 x1 x2:Value) (h:H) (Q:K1) (H0:ybv8 x0 x1 x2 h Q):AM.Spec PG y3o4 [x0,x1,x2] h Q :=
 spE mixed E5_ok Tryz.func150 [6] H0
end Go.Proofs.YtnckimioabkheaaGreat
set_option linter.unusedSimpArgs false
set_option linter.unusedVariables false
set_option maxRecDepth 100000
namespace Go.Proofs.YtnckimioabkheaaGreat
open AM
section
variable {β:Type}
def atN:List (Int×β)→Int→Nat
 | [],_=>0
 | e::r,b=>if e.1<b then atN r b+1 else 0
def Srt (l:List (Int×β)):Prop:=l.Pairwise fun a b=>a.1<b.1
theorem ypas:∀(l:List (Int×β)) (b:Int),atN l b≤l.length
 | [],_=>Nat.le_refl _
 | e::r,b=>by
   have:=ypas r b
   simp only [atN,List.length_cons]
   split <;> omega
theorem y5ap:∀{l:List (Int×β)} {b:Int} {i:Nat} (hi:i<atN l b),(l[i]'(Nat.lt_of_lt_of_le hi (ypas l b))).1<b
 | [],_,i,hi=>by simp [atN] at hi
 | e::r,b,i,hi=>by
   by_cases hc:e.1<b
   ·cases i with
    | zero=>simpa using hc
    | succ i =>
      have h2:i<atN r b:=by simp only [atN,if_pos hc] at hi;omega
      simpa using y5ap h2
   ·simp [atN,hc] at hi
theorem yjnv:∀{l:List (Int×β)} {b:Int} (hi:atN l b<l.length),¬(l[atN l b]).1<b
 | [],_,hi=>by simp at hi
 | e::r,b,hi=>by
   by_cases hc:e.1<b
   ·have h2:atN r b<r.length:=by simp only [atN,if_pos hc,List.length_cons] at hi;omega
    have:=yjnv h2
    simp only [atN,if_pos hc]
    simpa using this
   ·simp only [atN,if_neg hc]
    simpa using hc
def atB (l:List (Int×β)) (b:Int):Bool:=match l[atN l b]? with | some e=>decide (e.1=b) | none=>false
theorem y64n:∀{l:List (Int×β)} {b:Int},Srt l→fnd b l=if atB l b then (l[atN l b]?).map (·.2) else none
 | [],_,_=>rfl
 | e::r,b,hs=>by
   have hs':=List.pairwise_cons.1 hs
   by_cases hc:e.1<b
   ·have hne:¬b=e.1:=by omega
    simp only [fnd,if_neg hne,atB,atN,if_pos hc,List.getElem?_cons_succ]
    exact y64n hs'.2
   ·simp only [fnd,atB,atN,if_neg hc,List.getElem?_cons_zero,Option.map_some]
    by_cases he:b=e.1
    ·simp [he]
    ·simp only [if_neg he,Ne.symm he,decide_false]
     simp
     exact yqwy fun x hx=>by have:=hs'.1 x hx;omega
theorem yj0o {l:List (Int×β)} {b:Int} (hs:Srt l):atB l b=true↔∃q,fnd b l=some q:=by
 rw [y64n hs]
 cases hb:atB l b with
 | false=>simp
 | true =>
   simp only [if_true,true_iff]
   unfold atB at hb
   cases h:l[atN l b]? with
   | none=>rw [h] at hb;cases hb
   | some e=>exact ⟨e.2,rfl⟩
theorem yiee {l:List (Int×β)} {b:Int} (hb:atB l b=true):∃h:atN l b<l.length,(l[atN l b]).1=b:=by
 unfold atB at hb
 cases h:l[atN l b]? with
 | none=>rw [h] at hb;cases hb
 | some e =>
   rw [h] at hb
   obtain ⟨h1,h2⟩:=List.getElem?_eq_some_iff.1 h
   exact ⟨h1,by rw [h2];simpa using hb⟩
def insP (l:List (Int×β)) (p:Int) (x:β):List (Int×β):=l.take (atN l p)++[(p,x)]++l.drop (atN l p)
theorem y9kz {e:Int×β} {r:List (Int×β)} {p:Int} {x:β}:insP (e::r) p x=if e.1<p then e::insP r p x else (p,x)::e::r:=by
 unfold insP
 by_cases hc:e.1<p
 ·simp [atN,hc]
 ·simp [atN,hc]
theorem yqs0 {p:Int} {x:β} {y:Int×β}:∀{l:List (Int×β)},y∈insP l p x↔y=(p,x)∨y∈l
 | []=>by simp [insP,atN]
 | e::r=>by
   rw [y9kz]
   split
   ·simp only [List.mem_cons,yqs0 (l:=r)]
    constructor
    ·rintro (h | h | h) <;> simp [h]
    ·rintro (h | h | h) <;> simp [h]
   ·simp
theorem y22m {p:Int} {x:β}:∀{l:List (Int×β)},Srt l→(∀ e∈l,e.1≠p)→Srt (insP l p x)
 | [],_,_=>by simp [insP,atN,Srt]
 | e::r,hs,hp=>by
   have hs':=List.pairwise_cons.1 hs
   rw [y9kz]
   split
   ·rename_i hc
    refine List.pairwise_cons.2 ⟨fun y hy=>?_,y22m hs'.2 fun z hz=>hp z (by simp [hz])⟩
    rcases yqs0.1 hy with rfl | hy
    ·exact hc
    ·exact hs'.1 y hy
   ·rename_i hc
    have h1:=hp e (by simp)
    refine List.pairwise_cons.2 ⟨fun y hy=>?_,hs⟩
    rcases List.mem_cons.1 hy with rfl | hy
    ·show p<y.1;omega
    ·have:=hs'.1 y hy;show p<y.1;omega
theorem ywfw {p:Int} {x:β}:∀{l:List (Int×β)},(insP l p x).Perm (l++[(p,x)])
 | []=>by simp [insP,atN]
 | e::r=>by
   rw [y9kz]
   split
   ·exact (ywfw (l:=r)).cons e
   ·exact (List.perm_append_singleton (p,x) (e::r)).symm
theorem yxna {b:Int} {l m:List (Int×β)} (h:l.Perm m) (hn:(l.map (·.1)).Nodup):fnd b l=fnd b m:=by
 have hm:(m.map (·.1)).Nodup:=(h.map _).nodup_iff.1 hn
 cases hq:fnd b m with
 | none =>
   refine yqwy fun e he hb=>?_
   have h1:=y0ms hm (h.mem_iff.1 he)
   rw [hb,hq] at h1
   cases h1
 | some q=>exact y0ms hn (h.mem_iff.2 (y5ut hq))
theorem Srt.nodup {l:List (Int×β)} (h:Srt l):(l.map (·.1)).Nodup:=by
 unfold List.Nodup
 rw [List.pairwise_map]
 exact h.imp fun h=>by omega
end
structure Same (μ ρ:MS):Prop where
 budget:μ.budget=ρ.budget
 pages:ρ.pages.Perm μ.pages
 gens:μ.gens=ρ.gens
 srt:Srt ρ.pages
theorem Same.fnd {μ ρ:MS} (h:Same μ ρ) {b:Int}:fnd b ρ.pages=fnd b μ.pages:=yxna h.pages h.srt.nodup
end Go.Proofs.YtnckimioabkheaaGreat
set_option linter.unusedSimpArgs false
set_option linter.unusedVariables false
set_option maxRecDepth 100000
namespace Go.Proofs.YtnckimioabkheaaGreat
open AM
theorem y0xk:∀{segs:List (Sg×List Int)} {μ:MS},MSok μ→MSz μ→(∀ s∈segs,(0≤s.1.2.1∧s.1.2.1<4294967296)∧∀x∈s.2,0≤x∧x<256)→MSok (layF μ segs).2∧MSz (layF μ segs).2
 | [],μ,hw,hz,_=>⟨hw,hz⟩
 | s::r,μ,hw,hz,hs=>by
   obtain ⟨h1,h2⟩:=hs s (by simp)
   rw [layF]
   split
   ·exact ⟨hw,hz⟩
   split
   ·exact ⟨hw.map,hz.map h1.1 h1.2⟩
   ·exact y0xk (hw.map.wr h2) (hz.map h1.1 h1.2).wr fun x hx=>hs x (by simp [hx])
theorem st1 {h:H} {b off:Nat} {cs cs':List Value} {E:TypeId} {m:AM.Own} {v:Value} (hb:h b=some (.cells cs E m)) (hm:m≠.ro) (hbx:boxV v=true) (hc:v.cells = #[v]) (ho:off<cs.length) (he:cs.set off v=cs') {K:H→Prop} {u:Dm K} :
 u_st 1 off (.pointer (some ⟨b,0,none⟩)) v h K u=K (upd h b (.cells cs' E m)):=by
 rw [s_st,ykdp,hb]
 simp only [hc]
 subst he
 have h1:off+1≤cs.length:=by omega
 simp [hm,hbx,h1]
theorem ypi4 {h:H} {b off:Nat} {cs cs':List Value} {E:TypeId} {m:AM.Own} {v:Value} (hb:h b=some (.cells cs E m)) (hm:m≠.ro) (hbx:boxV v=true) (hc:v.cells = #[v]) (ho:off<cs.length) (he:cs.set off v=cs') {K:H→Prop} {u:Dm K} :
 ylel 1 (.pointer (some ⟨b,off,none⟩)) v h K u=K (upd h b (.cells cs' E m)):=by
 rw [ykdp,hb]
 simp only [hc]
 subst he
 have h1:off+1≤cs.length:=by omega
 simp [hm,hbx,h1]
section
variable {h:H} {K:K1}
theorem ya15 {vs vb vd:Value} {p:Int} {bs data:List Int} (hv:Sl sgC 4 h vs [(4096,1024,p,vb),(65536,512,3,vd)]) (hp:p=5∨p=7) (hb:Sl u8V 1 h vb bs) (hd:Sl u8V 1 h vd data) (hvq:∃q,vs=.slice (some ⟨q,0,none⟩) 2 2) (hbl:bs.length≤1024) (hdl:data.length≤512) (hk:∀h',Sub h h'→K (.int .i64 0) h') :
 AM.Spec PG y4nn [.agg #[.int .u32 4096,vs],noPol,yh6o] h K:=by
 refine yljz _ _ _ _ _ ?_
 have hvb:=hv.box
 simp (config:={dsimp:=false}) [↓ywbb,↓yn0m,hvb]
 intro b3 _ hb3 b4 _ n1 n2 hb4 b5 _ n3 n4 n5 n6 hb5
 have s3:Sub h (upd (upd (upd h b3 (.cells [.int .u32 4096,vs] y33u .exact)) b4 (.cells [.bool false,nilV,nilV] y4pp .exact)) b5 (.cells [nilV,nilV,nilV,nilV,nilV,nilV] ylzr .exact)):=Sub.upd (Sub.upd (Sub.new hb3) hb4) hb5
 have c4:upd (upd (upd h b3 (.cells [.int .u32 4096,vs] y33u .exact)) b4 (.cells [.bool false,nilV,nilV] y4pp .exact)) b5 (.cells [nilV,nilV,nilV,nilV,nilV,nilV] ylzr .exact) b4=some (.cells [.bool false,nilV,nilV] y4pp .exact):=by rw [yrkk _ _ n4,yy0e]
 have c3:upd (upd (upd h b3 (.cells [.int .u32 4096,vs] y33u .exact)) b4 (.cells [.bool false,nilV,nilV] y4pp .exact)) b5 (.cells [nilV,nilV,nilV,nilV,nilV,nilV] ylzr .exact) b3=some (.cells [.int .u32 4096,vs] y33u .exact):=by rw [yrkk _ _ n6,yrkk _ _ n2,yy0e]
 have c5:=yy0e (upd (upd h b3 (.cells [.int .u32 4096,vs] y33u .exact)) b4 (.cells [.bool false,nilV,nilV] y4pp .exact)) b5 (.cells [nilV,nilV,nilV,nilV,nilV,nilV] ylzr .exact)
 generalize upd (upd (upd h b3 _) b4 _) b5 _=h1 at *
 simp (config:={dsimp:=false}) [yzql c3,n2,n6]
 refine ⟨rfl,y5xs (hv.mono s3) hp (hb.mono s3) (hd.mono s3) hvq hbl hdl ?_⟩
 simp (config:={dsimp:=false}) [yzql c4]
 refine ⟨rfl,ypmx fun v h2 s4 hvx=>?_⟩
 have c5':=s4 _ _ c5
 simp (config:={dsimp:=false}) [yzql c5']
 refine ⟨rfl,ynul ?_⟩
 simp (config:={dsimp:=false})
 exact hk _ (s3.trans s4)
theorem stk_b:(0≤stkSg.1.2.1∧stkSg.1.2.1<4294967296)∧∀x∈stkSg.2,0≤x∧x<256:=by
 unfold stkSg
 exact ⟨by simp,ynbh⟩
def zeros (n:Nat):List Int:=List.replicate n 0
def ys41 (p:Int) (vb vd:Value) (bs data:List Int):List (Sg×List Int):=[((4096,1024,p,vb),bs),((65536,512,3,vd),data)]
def mc0 (q s f:Value):MC:=⟨q,s,(zeros 32).set 2 2147479536,4096,0,zeros 128,f,false,nilV,nilV,66048,66048,nilV⟩
theorem mc_ok {q s f:Value} {x:List Int} {pc ret:Int} {pp:Bool} {s1 s2 al:Value} {b1 b2:Int} (hx:x.length=32):MC.Ok ⟨q,s,x,pc,ret,zeros 128,f,pp,s1,s2,b1,b2,al⟩:=⟨hx,List.length_replicate⟩
theorem y37b {vs vb vd:Value} {p pages dirty:Int} {bs data:List Int} (hv:Sl sgC 4 h vs [(4096,1024,p,vb),(65536,512,3,vd)]) (hp:p=5∨p=7) (hb:Sl u8V 1 h vb bs) (hd:Sl u8V 1 h vd data) (hvq:∃q,vs=.slice (some ⟨q,0,none⟩) 2 2) (hbl:bs.length≤1024) (hdl:data.length≤512)
 (hbb:∀x∈bs,0≤x∧x<256) (hdd:∀x∈data,0≤x∧x<256) (hpg:1≤pages∧pages≤4096) (hdi:0≤dirty∧dirty≤4096)
 (hk1:∀e h',e≠0→((layF ⟨pages,[],[]⟩ (ys41 p vb vd bs data)).1=0→(layF (layF ⟨pages,[],[]⟩ (ys41 p vb vd bs data)).2 [stkSg]).1=0→False)→Sub h h'→K (.tuple #[.pointer none,.int .i64 e]) h')
 (hk2:∀bm D sq sm f h' μ,μ=(layF (layF ⟨pages,[],[]⟩ (ys41 p vb vd bs data)).2 [stkSg]).2→(layF ⟨pages,[],[]⟩ (ys41 p vb vd bs data)).1=0→(layF (layF ⟨pages,[],[]⟩ (ys41 p vb vd bs data)).2 [stkSg]).1=0 →
   MemIn h D h' μ→MSok μ→MSz μ→Sub h h'→h bm=none→h' bm=some (.cells (mc0 (ptr D.q 0) (ptr sq 0) f).cells ynne .exact)→h' sq=some (.cells [.int .i64 dirty,.map (some sm)] y2um .exact)→h' sm=some (.map (.int .u32) [] 0) →
   (¬ MOwn D μ sm∧h sq=none∧h sm=none)→K (.tuple #[ptr bm 0,.int .i64 0]) h') :
 AM.Spec PG yuxz [.agg #[.int .u32 4096,vs],noPol,yh6o,.int .i64 pages,.int .i64 dirty] h K:=by
 refine y2up _ _ _ _ _ _ _ ?_
 have hvb:=hv.box
 simp (config:={dsimp:=false}) [↓y3x1,↓yw9r,hvb]
 intro b5 _ hb5 b6 _ n1 n2 hb6 b7 _ n3 n4 n5 n6 hb7
 have s3:Sub h (upd (upd (upd h b5 (.cells [.int .u32 4096,vs] y33u .exact)) b6 (.cells [.bool false,nilV,nilV] y4pp .exact)) b7 (.cells [nilV,nilV,nilV,nilV,nilV,nilV] ylzr .exact)):=Sub.upd (Sub.upd (Sub.new hb5) hb6) hb7
 have c6:upd (upd (upd h b5 (.cells [.int .u32 4096,vs] y33u .exact)) b6 (.cells [.bool false,nilV,nilV] y4pp .exact)) b7 (.cells [nilV,nilV,nilV,nilV,nilV,nilV] ylzr .exact) b6=some (.cells [.bool false,nilV,nilV] y4pp .exact):=by rw [yrkk _ _ n4,yy0e]
 have c5:upd (upd (upd h b5 (.cells [.int .u32 4096,vs] y33u .exact)) b6 (.cells [.bool false,nilV,nilV] y4pp .exact)) b7 (.cells [nilV,nilV,nilV,nilV,nilV,nilV] ylzr .exact) b5=some (.cells [.int .u32 4096,vs] y33u .exact):=by rw [yrkk _ _ n6,yrkk _ _ n2,yy0e]
 have c7:=yy0e (upd (upd h b5 (.cells [.int .u32 4096,vs] y33u .exact)) b6 (.cells [.bool false,nilV,nilV] y4pp .exact)) b7 (.cells [nilV,nilV,nilV,nilV,nilV,nilV] ylzr .exact)
 generalize upd (upd (upd h b5 _) b6 _) b7 _=h1 at *
 simp (config:={dsimp:=false}) [yzql c5,yzql c6,yzql c7,n2,n4,n6]
 refine ⟨rfl,ya15 (hv.mono s3) hp (hb.mono s3) (hd.mono s3) hvq hbl hdl fun h2 s4=>?_⟩
 replace c5:=s4 _ _ c5
 replace c6:=s4 _ _ c6
 replace c7:=s4 _ _ c7
 replace s3:=s3.trans s4
 clear s4
 simp (config:={dsimp:=false}) [↓yb6e,↓yhrb,yzql c5,yzql c6,yzql c7,hvb]
 refine ⟨rfl,y6tp fun h3 s4=>?_⟩
 replace c5:=s4 _ _ c5
 replace c7:=s4 _ _ c7
 replace s3:=s3.trans s4
 clear s4 c6
 simp (config:={dsimp:=false}) [yzql c5,yzql c7,hvb]
 refine ⟨rfl,y2a2 fun f q mo mu h4 s4 hf hq hmo hmu hnd e1 e2 e3 e4=>?_⟩
 replace c5:=s4 _ _ c5
 replace c7:=s4 _ _ c7
 replace s3:=s3.trans s4
 clear s4
 simp (config:={dsimp:=false}) [yzql c5,hvb]
 refine ⟨rfl,y8iy (hv.mono s3) ?_⟩
 simp (config:={dsimp:=false}) [yzql c5,hvb]
 refine ⟨rfl,y8iy (hv.mono s3) ?_⟩
 simp (config:={dsimp:=false})
 intro bm _ hbm
 have hbm0:=Sub.none s3 hbm
 obtain ⟨C,hC⟩:∃C:MC,C=⟨.pointer none,.pointer none,zeros 32,0,0,zeros 128,ptr f 0,false,nilV,nilV,66048,66048,nilV⟩:=⟨_,rfl⟩
 have hCc:C.cells=MC.cells ⟨.pointer none,.pointer none,zeros 32,0,0,zeros 128,ptr f 0,false,nilV,nilV,66048,66048,nilV⟩:=by rw [hC]
 have hCo:C.Ok:=by rw [hC];exact mc_ok List.length_replicate
 refine (show ∀cs,cs=C.cells→yrnp (.int .i64 pages) (.int .i64 dirty) (ptr b5 0) (ptr b7 0) (ptr bm 0) (upd h4 bm (.cells cs ynne .exact)) (fun y10 y11 h=>(boxV y10=true∧boxV y11=true)∧K (.tuple #[y10,y11]) h) (fun y10 y11 h=>(boxV y10=true∧boxV y11=true)∧K (.tuple #[y10,y11]) h) from ?_) _ (by rw [hCc];rfl)
 rintro _ rfl
 have m5:b5≠bm:=fun e=>by rw [e,hbm] at c5;cases c5
 have m7:b7≠bm:=fun e=>by rw [e,hbm] at c7;cases c7
 have s5:Sub h (upd h4 bm (.cells C.cells ynne .exact)):=Sub.upd s3 hbm0
 replace c5:=(yrkk _ (.cells C.cells ynne .exact) m5).trans c5
 replace c7:=(yrkk _ (.cells C.cells ynne .exact) m7).trans c7
 have cm:=yy0e h4 bm (.cells C.cells ynne .exact)
 generalize upd h4 bm _=h5 at *
 clear s3 e1 e2 e3 e4
 unfold yrnp
 refine ⟨rfl,ymf4 hpg.1 hpg.2 fun D h6 hm s6=>?_⟩
 replace hm:MemIn h D h6 ⟨pages,[],[]⟩:=⟨hm.at_,fun b hb=>Sub.none s5 (hm.new b hb),hm.ne,hm.inj,hm.nd⟩
 replace c5:=s6 _ _ c5
 replace c7:=s6 _ _ c7
 replace cm:=s6 _ _ cm
 replace s5:=s5.trans s6
 have nb:¬MOwn D ⟨pages,[],[]⟩ bm:=hm.at_.other cm (by decide) (by decide)
 have nb5:¬MOwn D ⟨pages,[],[]⟩ b5:=hm.at_.other c5 (by decide) (by decide)
 have nb7:¬MOwn D ⟨pages,[],[]⟩ b7:=hm.at_.other c7 (by decide) (by decide)
 have hlen:C.cells.length=171:=MC.len hCo
 simp (config:={dsimp:=false}) only [s_ex0,s_ex1,s_nil]
 rw [st1 (v:=ptr D.q 0) cm (by decide) rfl rfl (by omega) MC.set_q]
 simp (config:={dsimp:=false}) only [s_neq,s_if]
 simp (config:={dsimp:=false})
 replace hm:=hm.over (q:=.cells ({ C with q:=ptr D.q 0 }:MC).cells ynne .exact) nb
 replace c5:=(yrkk _ (.cells ({ C with q:=ptr D.q 0 }:MC).cells ynne .exact) m5).trans c5
 replace c7:=(yrkk _ (.cells ({ C with q:=ptr D.q 0 }:MC).cells ynne .exact) m7).trans c7
 replace s5:Sub h (upd h6 bm (.cells ({ C with q:=ptr D.q 0 }:MC).cells ynne .exact)):=Sub.upd s5 hbm0
 replace cm:=yy0e h6 bm (.cells ({ C with q:=ptr D.q 0 }:MC).cells ynne .exact)
 generalize upd h6 bm _=h7 at *
 refine ⟨rfl,yil7 hdi.1 hdi.2 fun sq sm h8 hsq hsm hss k1 k2 s8=>?_⟩
 have hsq7:=hsq
 have hqn:h sq=none∧h sm=none:=⟨Sub.none s5 hsq,Sub.none s5 hsm⟩
 have nsm:¬MOwn D ⟨pages,[],[]⟩ sm:=fun hc=>by
  rcases hc with rfl | rfl | rfl | ⟨e,he,rfl⟩
  ·have:=hm.at_.q;rw [hsm] at this;cases this
  ·obtain ⟨ck,this⟩:=hm.at_.pm;rw [hsm] at this;cases this
  ·obtain ⟨ck,this⟩:=hm.at_.gm;rw [hsm] at this;cases this
  ·simp at he
 have ms:sm≠bm:=fun e=>by rw [← e,hsm] at cm;cases cm
 have mq:sq≠bm:=fun e=>by rw [← e,hsq] at cm;cases cm
 replace hm:=hm.sub s8
 replace c5:=s8 _ _ c5
 replace c7:=s8 _ _ c7
 replace cm:=s8 _ _ cm
 replace s5:=s5.trans s8
 have hCo2:({ C with q:=ptr D.q 0 }:MC).Ok:=⟨hCo.x,hCo.t⟩
 have hlen2:=MC.len hCo2
 simp (config:={dsimp:=false}) only [s_ex0,s_ex1,s_nil]
 rw [st1 (v:=ptr sq 0) cm (by decide) rfl rfl (by omega) MC.set_s]
 simp (config:={dsimp:=false}) only [s_neq,s_if]
 simp (config:={dsimp:=false})
 obtain ⟨C2,hC2⟩:∃C2:MC,C2={ C with q:=ptr D.q 0,s:=ptr sq 0 }:=⟨_,rfl⟩
 have hCo3:C2.Ok:=by rw [hC2];exact ⟨hCo.x,hCo.t⟩
 rw [← hC2]
 replace hm:=hm.over (q:=.cells C2.cells ynne .exact) nb
 replace c5:=(yrkk _ (.cells C2.cells ynne .exact) m5).trans c5
 replace c7:=(yrkk _ (.cells C2.cells ynne .exact) m7).trans c7
 replace s5:Sub h (upd h8 bm (.cells C2.cells ynne .exact)):=Sub.upd s5 hbm0
 replace cm:=yy0e h8 bm (.cells C2.cells ynne .exact)
 replace k1:=(yrkk _ (.cells C2.cells ynne .exact) mq).trans k1
 replace k2:=(yrkk _ (.cells C2.cells ynne .exact) ms).trans k2
 generalize upd h8 bm _=h9 at *
 simp (config:={dsimp:=false}) [yb3e c5]
 have hq2:C2.q=ptr D.q 0:=by rw [hC2]
 have cm':h9 bm=some (.cells (ptr D.q 0::C2.cells.tail) ynne .exact):=by rw [cm];congr 2;rw [← hq2];rfl
 have hsegs:Sl sgC 4 h vs ((ys41 p vb vd bs data).map (·.1)):=hv
 have hw0:MSok ⟨pages,[],[]⟩:=⟨by simp,by simp,by simp⟩
 have hz0:MSz ⟨pages,[],[]⟩:=⟨by simp;omega,hpg.2⟩
 refine ⟨by simp [hvb],y5zb cm' hm hw0 hz0 s5 hsegs ?_ (by simp [ys41]) fun E2 h10 w1=>?_⟩
 ·intro sg hsg
  simp only [ys41,List.mem_cons,List.not_mem_nil,or_false] at hsg
  rcases hsg with rfl | rfl
  ·exact ⟨⟨by simp,by simp⟩,⟨by simp,by simp⟩,hb,hbb,by show bs.length<_;omega⟩
  ·exact ⟨⟨by simp,by simp⟩,⟨by simp,by simp⟩,hd,hdd,by show data.length<_;omega⟩
 have hkeep:=y0xk (segs:=ys41 p vb vd bs data) hw0 hz0 (by
  intro sg hsg
  simp only [ys41,List.mem_cons,List.not_mem_nil,or_false] at hsg
  rcases hsg with rfl | rfl
  ·exact ⟨⟨by simp,by simp⟩,hbb⟩
  ·exact ⟨⟨by simp,by simp⟩,hdd⟩)
 have s10:=w1.sub0 hm s5
 by_cases he:(layF ⟨pages,[],[]⟩ (ys41 p vb vd bs data)).1=0
 case neg =>
  simp (config:={dsimp:=false}) [he]
  exact hk1 _ h10 he (fun a _=>he a) s10
 replace hk2:=fun a b c d e f g h=>hk2 a b c d e f g h
 replace hk1:=fun a b c=>hk1 a b c
 generalize layF ⟨pages,[],[]⟩ (ys41 p vb vd bs data)=L1 at *
 obtain ⟨hw1,hz1⟩:=hkeep
 have c5':=w1.fr _ _ (hm.at_.other c5 (by decide) (by decide)) c5
 have c7':=w1.fr _ _ (hm.at_.other c7 (by decide) (by decide)) c7
 have cm1:=w1.fr _ _ (hm.at_.other cm (by decide) (by decide)) cm
 have k1':=w1.fr _ _ (hm.at_.other k1 (by decide) (by decide)) k1
 have k2':=w1.fr _ _ nsm k2
 have nsm1:¬MOwn E2 L1.2 sm:=fun hc=>(w1.own sm hc).elim nsm fun hn=>by rw [k2] at hn;cases hn
 have e7:h10 bm=some (.cells C2.cells ynne .exact):=cm1
 have l0:C2.cells[0]?=some (ptr D.q 0):=by rw [MC.at_0,hq2]
 simp (config:={dsimp:=false}) [he,↓y6nv,↓yd7u,yb3e cm1,yb3e c7',l0]
 have eqD:D.q=E2.q:=w1.q.symm
 refine ⟨rfl,?_⟩
 rw [eqD]
 refine yid5 w1.mem hw1 hz1 s10 fun E3 h11 w2=>?_
 have hkeep2:=y0xk (segs:=[stkSg]) hw1 hz1 (by
  intro sg hsg
  simp only [List.mem_singleton] at hsg
  subst hsg
  exact stk_b)
 have s11:=w2.sub0 w1.mem s10
 generalize layF L1.2 [stkSg]=L2 at *
 by_cases he2:L2.1=0
 case neg =>
  rw [if_neg he2]
  simp (config:={dsimp:=false}) [he2,↓yfc7]
  exact hk1 _ h11 he2 (fun _ b=>he2 b) s11
 obtain ⟨hw2,hz2⟩:=hkeep2
 have c5'':=w2.fr _ _ (w1.mem.at_.other c5' (by decide) (by decide)) c5'
 have cm2:=w2.fr _ _ (w1.mem.at_.other cm1 (by decide) (by decide)) cm1
 have k1'':=w2.fr _ _ (w1.mem.at_.other k1' (by decide) (by decide)) k1'
 have k2'':=w2.fr _ _ nsm1 k2'
 have nsm2:¬MOwn E3 L2.2 sm:=fun hc=>(w2.own sm hc).elim nsm1 fun hn=>by rw [k2'] at hn;cases hn
 have nbm2:¬MOwn E3 L2.2 bm:=w2.mem.at_.other cm2 (by decide) (by decide)
 have lsrc:C2.cells[166]?=some nilV:=by rw [MC.at_src hCo3,hC2,hC]
 rw [if_pos he2]
 generalize hsp:(2147479536:Int)=sp
 simp (config:={dsimp:=false}) only [yn1j,y39e,y2kc]
 simp (config:={dsimp:=false}) only [↓yfc7,s_neq,s_if,he2]
 simp (config:={dsimp:=false}) [↓ybf2,↓yzx9,↓yqgx,yb3e cm2,lsrc]
 unfold yw31
 refine yq9z fun K'=>?_
 have hlen3:=MC.len hCo3
 have stp:∀(K:H→Prop) (u:Dm K),u_st 1 32 (.pointer (some ⟨bm,2,none⟩)) (.int .u32 4096) h11 K u=K (upd h11 bm (.cells ({ C2 with pc:=4096 }:MC).cells ynne .exact)):=fun K u=>by
  rw [s_st];exact ypi4 cm2 (by decide) rfl rfl (by omega) (MC.set_pc hCo3)
 simp (config:={dsimp:=false}) [↓ybse,↓y4zr,yb3e c5'',stp]
 have cm3:=yy0e h11 bm (.cells ({ C2 with pc:=4096 }:MC).cells ynne .exact)
 have hCo4:({ C2 with pc:=4096 }:MC).Ok:=⟨hCo3.x,hCo3.t⟩
 have hlen4:=MC.len hCo4
 refine ⟨by omega,?_⟩
 rw [show ({ C2 with pc:=4096 }:MC).cells.set 4 (.int .u32 sp)=_ from MC.set_x hCo4 (i:=2) (by omega)]
 have hbq:sq≠bm:=mq
 refine hk2 bm E3 sq sm (ptr f 0) _ _ rfl he he2 (w2.mem.over nbm2) hw2 hz2 (Sub.upd s11 hbm0) hbm0 ?_ ((yrkk _ _ mq).trans k1'') ((yrkk _ _ ms).trans k2'') ⟨nsm2,hqn⟩
 have eC:({ C2 with pc:=4096,x:=C2.x.set 2 sp }:MC)=mc0 (ptr E3.q 0) (ptr sq 0) (ptr f 0):=by
  rw [w2.q,w1.q,hC2,hC,←hsp];rfl
 rw [yy0e,←eC]
end
end Go.Proofs.YtnckimioabkheaaGreat
set_option linter.unusedSimpArgs false
set_option linter.unusedVariables false
set_option maxRecDepth 100000
namespace Go.Proofs.YtnckimioabkheaaGreat
open AM
structure RD where
 q:Nat
 vl:Value
 bl:Option Nat
 vg:Value
 bg:Option Nat
def pgC (p:Int×Int×List Int):List Value:=.int .u32 p.1::.int .i64 p.2.1::p.2.2.map (.int .u8)
def gnC (g:Int×Int):List Value:=[.int .u32 g.1,.int .u32 g.2]
structure RAt (D:RD) (h:H) (ρ:MS):Prop where
 q:h D.q=some (.cells [.int .i64 ρ.budget,D.vl,D.vg] yxex .exact)
 l:OL pgC 258 yezi h D.vl ρ.pages D.bl
 g:OL gnC 2 yrli h D.vg ρ.gens D.bg
def ROwn (D:RD) (b:Nat):Prop:=b=D.q∨D.bl=some b∨D.bg=some b
structure RIn (h0:H) (D:RD) (h:H) (ρ:MS):Prop where
 at_:RAt D h ρ
 new:∀b,ROwn D b→h0 b=none
structure RWent (h0:H) (D:RD) (h:H) (D':RD) (ρ':MS) (h':H):Prop where
 mem:RIn h0 D' h' ρ'
 q:D'.q=D.q
 fr:Fr (ROwn D) h h'
 own:∀b,ROwn D' b→ROwn D b∨h b=none
section
variable {h0 h h':H} {D:RD} {ρ:MS} {K:K1}
theorem RAt.there (hr:RAt D h ρ) {b:Nat} (hb:ROwn D b):h b≠none:=by
 rcases hb with rfl | hb | hb
 ·rw [hr.q];simp
 ·exact hr.l.there hb
 ·exact hr.g.there hb
theorem RAt.keep (hr:RAt D h ρ) (hk:∀b,ROwn D b→h' b=h b):RAt D h' ρ :=
 ⟨by rw [hk _ (.inl rfl)];exact hr.q,hr.l.keep fun c hc=>hk c (.inr (.inl hc)),hr.g.keep fun c hc=>hk c (.inr (.inr hc))⟩
theorem RAt.sub (hr:RAt D h ρ) (hs:Sub h h'):RAt D h' ρ:=hr.keep fun b hb=>by
 cases hq:h b with
 | none=>exact absurd hq (hr.there hb)
 | some o=>exact hs _ _ hq
theorem RAt.lq (hr:RAt D h ρ):D.bl≠some D.q:=fun he=>by
 obtain ⟨_,⟨_,h1,_⟩ | ⟨c,m,h1,_,_,h4,_⟩⟩:=hr.l
 ·rw [h1] at he;cases he
 ·rw [h1] at he;cases he;rw [hr.q] at h4;simp only [Option.some.injEq,AObj.cells.injEq] at h4;exact absurd h4.2.1 (by decide)
theorem RAt.gq (hr:RAt D h ρ):D.bg≠some D.q:=fun he=>by
 obtain ⟨_,⟨_,h1,_⟩ | ⟨c,m,h1,_,_,h4,_⟩⟩:=hr.g
 ·rw [h1] at he;cases he
 ·rw [h1] at he;cases he;rw [hr.q] at h4;simp only [Option.some.injEq,AObj.cells.injEq] at h4;exact absurd h4.2.1 (by decide)
theorem RAt.lg (hr:RAt D h ρ) {c:Nat} (hl:D.bl=some c):D.bg≠some c:=fun he=>by
 obtain ⟨_,⟨_,h1,_⟩ | ⟨c',m,h1,_,_,h4,_⟩⟩:=hr.l
 ·rw [h1] at hl;cases hl
 ·rw [h1] at hl;cases hl
  obtain ⟨_,⟨_,h1,_⟩ | ⟨c',m,h1,_,_,h5,_⟩⟩:=hr.g
  ·rw [h1] at he;cases he
  ·rw [h1] at he;cases he;rw [h4] at h5;simp only [Option.some.injEq,AObj.cells.injEq] at h5;exact absurd h5.2.1 (by decide)
theorem RWent.refl (hm:RIn h0 D h ρ):RWent h0 D h D ρ h:=⟨hm,rfl,fun _ _ _ h=>h,fun _ h=>.inl h⟩
theorem RWent.trans {E1 E2:RD} {ρ1 ρ2:MS} {h1 h2:H} (a:RWent h0 D h E1 ρ1 h1) (b:RWent h0 E1 h1 E2 ρ2 h2):RWent h0 D h E2 ρ2 h2:=by
 have hfr:Fr (ROwn D) h h2:=fun x o hx ho=>b.fr x o (fun hc=>by
  rcases a.own x hc with h5 | h5
  ·exact hx h5
  ·rw [ho] at h5;cases h5) (a.fr x o hx ho)
 refine ⟨b.mem,b.q.trans a.q,hfr,fun x hx=>?_⟩
 rcases b.own x hx with h5 | h5
 ·exact a.own x h5
 ·by_cases hx2:ROwn D x
  ·exact .inl hx2
  ·refine .inr ?_
   cases hh:h x with
   | none=>rfl
   | some o=>have:=a.fr x o hx2 hh;rw [h5] at this;cases this
theorem RWent.sub0 {E1:RD} {ρ1:MS} {h1:H} (a:RWent h0 D h E1 ρ1 h1) (hm:RIn h0 D h ρ) (hs:Sub h0 h):Sub h0 h1:=a.fr.sub hs hm.new
theorem yvs7 {l:List (Int×Int×List Int)} {i:Nat} (hi:i<l.length):(pgC l[i])[0]?=some (.int .u32 l[i].1):=rfl
theorem ym94 {a:Int} (hr:RAt D h ρ) (hl:ρ.pages.length≤100000) (hk:K (.tuple #[.int .i64 (atN ρ.pages (yovn a)),.bool (atB ρ.pages (yovn a))]) h):AM.Spec PG yhnf [ptr D.q 0,.int .u32 a] h K:=by
 refine y1i7 _ _ _ _ ?_
 have e:IntKind.u32.wrap (a-a.tmod 256)=yovn a:=rfl
 simp (config:={dsimp:=false}) [↓y1e4,↓ykfg,↓ynky,↓ypgi,e]
 generalize yovn a=b at *
 have hle:=ypas ρ.pages b
 unfold yc0h
 refine yo1k (atN ρ.pages b) (fun i s h'=>h'=h∧s=(ptr D.q 0,.int .u32 b,.int .i64 i)) ⟨rfl,rfl⟩ ?_
 rintro i s h' K' hi ⟨rfl,rfl⟩ hk'
 have w1:IntKind.i64.wrap ((i:Int)+1)=((i+1:Nat):Int):=by rw [w_i64 (by omega) (by omega)];omega
 by_cases hlt:i<atN ρ.pages b
 ·have hil:i<ρ.pages.length:=by omega
  have hix:=fun (K:Value→Prop) (u:Dm K)=>hr.l.sl.ixf (k:=.i64) (off:=0) hil (yvs7 hil) (K:=K) (u:=u)
  have hb:=y5ap hlt
  simp (config:={dsimp:=false}) [↓y4ap,yb3e hr.q,hr.l.sl.ulen,hil,hix,hb,w1]
  exact hk' _ _ hlt ⟨rfl,by simp⟩
 ·have hie:i=atN ρ.pages b:=by omega
  subst hie
  by_cases hil:atN ρ.pages b<ρ.pages.length
  ·have hix:=fun (K:Value→Prop) (u:Dm K)=>hr.l.sl.ixf (k:=.i64) (off:=0) hil (yvs7 hil) (K:=K) (u:=u)
   have hb:=yjnv hil
   have hB:atB ρ.pages b=decide ((ρ.pages[atN ρ.pages b]).1=b):=by unfold atB;rw [List.getElem?_eq_getElem hil]
   rw [hB] at hk
   simp (config:={dsimp:=false}) [↓y4ap,↓yf7k,↓yekl,↓yzan,yb3e hr.q,hr.l.sl.ulen,hil,hix,hb]
   exact hk
  ·have hB:atB ρ.pages b=false:=by unfold atB;rw [List.getElem?_eq_none (by omega)]
   rw [hB] at hk
   simp (config:={dsimp:=false}) [↓y4ap,↓yf7k,↓yekl,↓yzan,yb3e hr.q,hr.l.sl.ulen,yiad]
   rw [if_neg hil,if_neg hil]
   exact hk
def rperm (ρ:MS) (b:Int):Int×Bool:=match fnd b ρ.pages with | some q=>(q.1,true) | none=>(0,false)
theorem y375 {a:Int} (hr:RAt D h ρ) (hs:Srt ρ.pages) (hl:ρ.pages.length≤100000) (hk:K (.tuple #[.int .i64 (rperm ρ (yovn a)).1,.bool (rperm ρ (yovn a)).2]) h):AM.Spec PG ycsm [ptr D.q 0,.int .u32 a] h K:=by
 refine ywrr _ _ _ _ ?_
 unfold ygos yyf5
 refine ⟨rfl,ym94 hr hl ?_⟩
 unfold rperm at hk
 rw [y64n hs] at hk
 cases hB:atB ρ.pages (yovn a) with
 | false =>
   rw [hB] at hk
   simp (config:={dsimp:=false})
   simpa using hk
 | true =>
   obtain ⟨hi,_⟩:=yiee hB
   have hix:=fun (K:Value→Prop) (u:Dm K)=>hr.l.sl.ixf (k:=.i64) (off:=1) hi (show (pgC ρ.pages[atN ρ.pages (yovn a)])[1]?=some (.int .i64 ρ.pages[atN ρ.pages (yovn a)].2.1) from rfl) (K:=K) (u:=u)
   rw [hB] at hk
   simp only [if_true,List.getElem?_eq_getElem hi,Option.map_some] at hk
   simp (config:={dsimp:=false}) [yb3e hr.q,hix]
   exact hk
theorem wi64 {x:Int} (h0 : -9223372036854775808≤x) (h1:x<9223372036854775808):IntKind.i64.wrap x=x:=w_i64 h0 h1
theorem y7i1 {a n need:Int} (hr:RAt D h ρ) (hs:Srt ρ.pages) (hl:ρ.pages.length≤100000) (ha:0≤a) (ha2:a<4294967296) (hn:0≤n) (hn2:n<1000000000) (hk:K (.bool (allF ρ a n need)) h) :
 AM.Spec PG yy8p [ptr D.q 0,.int .u32 a,.int .i64 n,.int .i64 need] h K:=by
 refine ylw4 _ _ _ _ _ _ ?_
 have wa:IntKind.i64.wrap a=a:=wi64 (by omega) (by omega)
 have wan:IntKind.i64.wrap (a+n)=a+n:=wi64 (by omega) (by omega)
 unfold allF at hk
 simp (config:={dsimp:=false}) [↓ytnd,↓y499,wa,wan]
 split
 ·rename_i c
  rw [if_pos (by omega)] at hk
  exact hk
 rename_i c0
 rw [if_neg (by omega)] at hk
 split
 ·rename_i c
  rw [if_pos c] at hk
  exact hk
 rename_i c1
 rw [if_neg c1] at hk
 have e:IntKind.u32.wrap (a-a.tmod 256)=yovn a:=rfl
 have hb0:=ydjw ha ha2
 have hb1:=ydjw (a:=a+n-1) (by omega) (by omega)
 have wb:IntKind.i64.wrap (yovn a)=yovn a:=wi64 (by omega) (by omega)
 simp (config:={dsimp:=false}) [↓ye8e,↓y954,↓y8dj,e,wb]
 unfold yhuv
 obtain ⟨m,hm⟩:∃m:Nat,yovn (a+n-1)=yovn a+256*m:=⟨((yovn (a+n-1)-yovn a) / 256).toNat,by omega⟩
 have hm2:((yovn (a+n-1)-yovn a) / 256).toNat=m:=by omega
 rw [hm2,hm] at hk
 generalize hR:allL ρ need (yovn a+256*m) (m+1) (yovn a)=R at *
 refine yo1k (m+1) (fun i s h'=>h'=h∧s=(ptr D.q 0,.int .u32 a,.int .i64 n,.int .i64 need,.int .i64 (yovn a+256*i))∧(i≤m→R=allL ρ need (yovn a+256*m) (m+1-i) (yovn a+256*i))∧(m<i→R=true)) ⟨rfl,by simp,by simp [hR],by omega⟩ ?_
 rintro i s h' K' hi ⟨rfl,rfl,q1,q2⟩ hk'
 have w1:IntKind.i64.wrap (yovn a+256*(i:Int)+256)=yovn a+256*((i+1:Nat):Int):=by rw [wi64 (by omega) (by omega)];omega
 by_cases hlt:i≤m
 ·have d1:yovn a+256*(i:Int)<a+n:=by omega
  have w2:IntKind.u32.wrap (yovn a+256*(i:Int))=yovn a+256*i:=w_u32 (by omega) (by omega)
  simp (config:={dsimp:=false}) [↓ygex,wa,wan,d1,w2]
  refine ⟨rfl,y375 hr hs hl ?_⟩
  have hbb:yovn (yovn a+256*(i:Int))=yovn a+256*i:=by rw [ydjw (by omega) (by omega)];omega
  rw [hbb]
  have q1:=q1 hlt
  obtain ⟨f,hf⟩:∃f,m+1-i=f+1:=⟨m-i,by omega⟩
  rw [hf,allL] at q1
  unfold rperm
  cases hq:fnd (yovn a+256*(i:Int)) ρ.pages with
  | none =>
    rw [hq] at q1
    simp only at q1
    rw [q1] at hk
    simp (config:={dsimp:=false}) [ysbf]
    exact hk
  | some q =>
    rw [hq] at q1
    simp only at q1
    simp (config:={dsimp:=false}) [w1,ysbf]
    by_cases hp:yxdd q.1 need
    ·rw [if_pos hp] at q1
     have hp':yxdd q.1 need:=hp
     unfold yxdd at hp'
     simp at hp'
     rw [if_pos (by simpa using hp')]
     refine hk' _ _ (by omega) ⟨rfl,rfl,fun hi1=>?_,fun hi1=>?_⟩
     ·rw [if_neg (by omega)] at q1
      have w3:IntKind.u32.wrap (yovn a+256*(i:Int)+256)=yovn a+256*((i+1:Nat):Int):=by rw [w_u32 (by omega) (by omega)];omega
      rw [w3] at q1
      rw [q1]
      congr 1
      omega
     ·rw [if_pos (by omega)] at q1
      exact q1
    ·rw [if_neg hp] at q1
     have hp':¬yxdd q.1 need:=hp
     unfold yxdd at hp'
     simp at hp'
     rw [if_neg (by simpa using hp')]
     rw [q1] at hk
     exact hk
 ·have d1:¬yovn a+256*(i:Int)<a+n:=by omega
  have q2:=q2 (by omega)
  rw [q2] at hk
  simp (config:={dsimp:=false}) [↓ygex,wa,wan,d1,↓y41e]
  exact hk
end
end Go.Proofs.YtnckimioabkheaaGreat
set_option linter.unusedSimpArgs false
set_option linter.unusedVariables false
set_option maxRecDepth 100000
namespace Go.Proofs.YtnckimioabkheaaGreat
open AM
theorem y667 {p g:Int}:∀{l:List (Int×Int)} {i:Nat} (hi:i<l.length),(∀ j (hj:j<l.length),j<i→l[j].1≠p)→l[i].1=p→gset l p g=l.set i (p,g)
 | [],i,hi,_,_=>by simp at hi
 | e::r,0,_,_,h=>by
   have:p=e.1:=h.symm
   simp [gset,this]
 | e::r,i+1,hi,hn,h=>by
   have h0:=hn 0 (by simp) (by omega)
   have:¬p=e.1:=fun he=>h0 (by simpa using he.symm)
   simp only [gset,if_neg this,List.set_cons_succ]
   rw [y667 (by simpa using hi) (fun j hj hji=>hn (j+1) (by simpa using hj) (by omega)) (by simpa using h)]
theorem ymhw {p g:Int}:∀{l:List (Int×Int)},(∀ e∈l,e.1≠p)→gset l p g=l++[(p,g)]
 | [],_=>rfl
 | e::r,h=>by
   have:¬p=e.1:=fun he=>h e (by simp) he.symm
   simp only [gset,if_neg this,List.cons_append]
   rw [ymhw fun x hx=>h x (by simp [hx])]
theorem yq1u {p:Int}:∀{l:List (Int×Int)} {i:Nat} (hi:i<l.length),(∀ j (hj:j<l.length),j<i→l[j].1≠p)→l[i].1=p→fnd p l=some l[i].2
 | [],i,hi,_,_=>by simp at hi
 | e::r,0,_,_,h=>by
   have:p=e.1:=h.symm
   simp [fnd,this]
 | e::r,i+1,hi,hn,h=>by
   have h0:=hn 0 (by simp) (by omega)
   have:¬p=e.1:=fun he=>h0 (by simpa using he.symm)
   simp only [fnd,if_neg this,List.getElem_cons_succ]
   exact yq1u (by simpa using hi) (fun j hj hji=>hn (j+1) (by simpa using hj) (by omega)) (by simpa using h)
theorem y1hv {p:Int} {o:Nat} {x:Int} {l:List (Int×Int×List Int)} (hs:Srt l) {k:Nat} (hk:k<l.length) (hp:l[k].1=p) :
 l.map (fun e=>if e.1=p then (e.1,e.2.1,e.2.2.set o x) else e)=l.set k (p,l[k].2.1,l[k].2.2.set o x):=by
 refine List.ext_getElem? fun i=>?_
 rw [List.getElem?_map,List.getElem?_set]
 by_cases hi:i<l.length
 ·rw [List.getElem?_eq_getElem hi]
  by_cases hik:k=i
  ·subst hik;simp [hp,hk]
  ·have hne:l[i].1≠p:=fun he=>by
    have hpw:=List.pairwise_iff_getElem.1 hs
    rcases Nat.lt_or_gt_of_ne hik with h1 | h1
    ·have:=hpw k i hk hi h1;omega
    ·have:=hpw i k hi hk h1;omega
   simp [hik,hne]
 ·have:¬k=i:=by omega
  simp [List.getElem?_eq_none (Nat.le_of_not_lt hi),this]
theorem yta6 {p:Int×Int×List Int} {o:Nat} {x:Int}:pgC (p.1,p.2.1,p.2.2.set o x)=setL (pgC p) (2+o) [.int .u8 x]:=by
 rw [yf16,ygug]
 unfold pgC
 rw [show 2+o=o+1+1 by omega]
 simp [List.map_set]
theorem Srt.keys {l m:List (Int×Int×List Int)} (hs:Srt l) (h:m.map (·.1)=l.map (·.1)):Srt m:=by
 have h1:(l.map (·.1)).Pairwise (· < ·):=by rw [List.pairwise_map];exact hs
 rw [← h,List.pairwise_map] at h1
 exact h1
theorem Srt.setB {ρ:MS} (hs:Srt ρ.pages) {p:Int} {o:Nat} {x:Int}:Srt (setB ρ p o x).pages:=hs.keys yhcc
section
variable {h0 h h':H} {D:RD} {ρ:MS} {K:K1}
theorem RIn.setB (hm:RIn h0 D h ρ) (hs:Srt ρ.pages) {k c:Nat} {p:Int} {o:Nat} {x:Int} {m:AM.Own} (hq:m≠.ro) (hk:k<ρ.pages.length) (hp:ρ.pages[k].1=p) (ho:o<256) (hc:D.bl=some c) :
 RWent h0 D h D (setB ρ p o x) (upd h c (.cells (setL (ρ.pages.flatMap pgC) (k*258+(2+o)) [.int .u8 x]) yezi m)):=by
 have ne:∀b,b=D.q∨D.bg=some b→b≠c:=fun b hb he=>by
  subst he
  rcases hb with rfl | hb
  ·exact hm.at_.lq hc
  ·exact hm.at_.lg hc hb
 have e:(AM.upd h c (.cells (setL (ρ.pages.flatMap pgC) (k*258+(2+o)) [.int .u8 x]) yezi m))=_:=rfl
 refine ⟨⟨⟨?_,?_,?_⟩,hm.new⟩,rfl,fun b o' hb hbo=>?_,fun b hb=>.inl hb⟩
 ·rw [yrkk _ _ (ne _ (.inl rfl))];exact hm.at_.q
 ·have:=hm.at_.l.set (w:=(p,ρ.pages[k].2.1,ρ.pages[k].2.2.set o x)) (vs:=[.int .u8 x]) (o:=2+o) hk (by simp;omega) (by rw [← yta6,←hp]) hc hq
  show OL pgC 258 yezi _ D.vl (ρ.pages.map fun e=>if e.1=p then (e.1,e.2.1,e.2.2.set o x) else e) D.bl
  rw [y1hv hs hk hp]
  exact this
 ·exact hm.at_.g.keep fun d hd=>yrkk _ _ (ne _ (.inr hd))
 ·rw [yrkk _ _ fun he=>hb (by subst he;exact .inr (.inl hc))];exact hbo
theorem gn_at {l:List (Int×Int)} {i:Nat} (hi:i<l.length):(gnC l[i])[0]?=some (.int .u32 l[i].1)∧(gnC l[i])[1]?=some (.int .u32 l[i].2):=⟨rfl,rfl⟩
theorem y0ro {a:Int} (hm:RIn h0 D h ρ) (hsub:Sub h0 h) (hl:ρ.gens.length≤100000) (hk:∀D' h',RWent h0 D h D' (bumpG ρ (yovn a)) h'→K (.tuple #[]) h'):AM.Spec PG yrlt [ptr D.q 0,.int .u32 a] h K:=by
 refine yoeu _ _ _ _ ?_
 have e:IntKind.u32.wrap (a-a.tmod 256)=yovn a:=rfl
 simp (config:={dsimp:=false}) [↓y78d,↓y6fl,↓ykm6,↓yw2b,↓y9al,e]
 generalize yovn a=b at *
 unfold ydqt
 refine yo1k ρ.gens.length (fun i s h'=>h'=h∧s=(ptr D.q 0,.int .u32 b,.int .i64 i)∧∀j (hj:j<ρ.gens.length),j<i→ρ.gens[j].1≠b) ⟨rfl,rfl,by omega⟩ ?_
 rintro i s h' K' hi ⟨rfl,rfl,hn⟩ hk'
 have hg:=hm.at_.g
 have hq:=hm.at_.q
 by_cases hlt:i<ρ.gens.length
 ·have i0:=fun (K:Value→Prop) (u:Dm K)=>hg.sl.ixf (k:=.i64) (off:=0) hlt (gn_at hlt).1 (K:=K) (u:=u)
  have i1:=fun (K:Value→Prop) (u:Dm K)=>hg.sl.ixf (k:=.i64) (off:=1) hlt (gn_at hlt).2 (K:=K) (u:=u)
  have w1:IntKind.i64.wrap ((i:Int)+1)=((i+1:Nat):Int):=by rw [w_i64 (by omega) (by omega)];omega
  by_cases hb:ρ.gens[i].1=b
  ·obtain ⟨c,m,hc,hc2,hv,hcc,hmr⟩:=hg.ia hlt
   have hfl:=yr37 (l:=ρ.gens) hg.1
   simp (config:={dsimp:=false}) [↓yrnw,yb3e hq,hg.sl.ulen,hlt,i0,i1,hb]
   rw [hv]
   rw [s_ia]
   refine ⟨by omega,by omega,?_⟩
   rw [Int.toNat_natCast,s_st,ykdp,hcc]
   refine ⟨hmr,rfl,rfl,by rw [hfl];omega,?_⟩
   have hgs:gset ρ.gens b (IntKind.u32.wrap ((fnd b ρ.gens).getD 0+1))=ρ.gens.set i (b,IntKind.u32.wrap (ρ.gens[i].2+1)):=by
    rw [yq1u hlt hn hb,Option.getD_some,y667 hlt hn hb]
   have hset:=hg.set (w:=(b,IntKind.u32.wrap (ρ.gens[i].2+1))) (vs:=[.int .u32 (IntKind.u32.wrap (ρ.gens[i].2+1))]) (o:=1) hlt (by simp) (by rw [yf16,ygug];simp [gnC,hb]) hc hmr
   have ne:∀d,d=D.q∨D.bl=some d→d≠c:=fun d hd he=>by
    subst he
    rcases hd with rfl | hd
    ·exact hm.at_.gq hc
    ·exact hm.at_.lg hd hc
   refine hk D _ ⟨⟨⟨?_,?_,?_⟩,hm.new⟩,rfl,fun d o' hd hdo=>?_,fun d hd=>.inl hd⟩
   ·rw [yrkk _ _ (ne _ (.inl rfl))];exact hq
   ·exact hm.at_.l.keep fun d hd=>yrkk _ _ (ne _ (.inr hd))
   ·show OL gnC 2 yrli _ D.vg (gset ρ.gens b _) D.bg
    rw [hgs]
    have e0:0+i*2+1=i*2+1:=by omega
    rw [e0]
    exact hset
   ·rw [yrkk _ _ fun he=>hd (by subst he;exact .inr (.inr hc))];exact hdo
  ·simp (config:={dsimp:=false}) [↓yrnw,yb3e hq,hg.sl.ulen,hlt,i0,i1,hb,w1]
   refine hk' _ _ hlt ⟨rfl,by simp,fun j hj hji=>?_⟩
   by_cases hj2:j<i
   ·exact hn j hj hj2
   ·have:j=i:=by omega
    subst this;exact hb
 ·have hie:i=ρ.gens.length:=by omega
  subst hie
  have hnew:gset ρ.gens b (IntKind.u32.wrap ((fnd b ρ.gens).getD 0+1))=ρ.gens++[(b,1)]:=by
   have hne:∀e∈ρ.gens,e.1≠b:=fun e he=>by
    obtain ⟨j,hj,rfl⟩:=List.getElem_of_mem he
    exact hn j hj hj
   rw [yqwy hne,ymhw hne];rfl
  simp (config:={dsimp:=false}) [↓yrnw,↓yq44,yb3e hq,hg.sl.ulen]
  intro c hc2 hcn
  have hcq:D.q≠c:=fun he=>by rw [he,hcn] at hq;cases hq
  have hq1:upd h' c (.cells [] yrli .exact) D.q=_:=(yrkk _ _ hcq).trans hq
  simp (config:={dsimp:=false}) [yb3e hq1,hcq]
  have s1:Sub h' (upd h' c (.cells [] yrli .exact)):=Sub.new hcn
  have hg1:=hg.sl.mono s1
  refine OL.app (OL.empty hc2 (by simp)) hg1 (by omega) (by simp;omega) (by simp;omega) fun v1 h2 b1 o1 c1 f1=>?_
  simp (config:={dsimp:=false})
  refine OL.push (m:=[(b,1)]) o1 (by simp [gnC]) (by omega) (by simp;omega) (by simp;omega) (fun v2 h3 b2 o2 c2=>?_) rfl rfl
  -- what has changed: fresh blocks alone
  have fresh1:∀d,b1=some d→h' d=none:=fun d hd=>by
   rcases c1.2 d hd with h5 | h5
   ·cases h5;exact hcn
   ·rw [ynej] at h5;exact h5.2.2
  have k1:∀d o,h' d=some o→h2 d=some o:=fun d o hd=>c1.1 d o (s1 d o hd) fun he=>by cases he;rw [hcn] at hd;cases hd
  have k2:∀d o,h' d=some o→h3 d=some o:=fun d o hd=>c2.1 d o (k1 d o hd) fun he=>by rw [fresh1 d he] at hd;cases hd
  have fresh2:∀d,b2=some d→h' d=none:=fun d hd=>by
   rcases c2.2 d hd with h5 | h5
   ·exact fresh1 d h5
   ·cases hq:h' d with
    | none=>rfl
    | some o=>rw [k1 d o hq] at h5;cases h5
  have hq3:=k2 _ _ hq
  have hlt3:RAt D h3 ρ:=hm.at_.sub k2
  simp (config:={dsimp:=false}) [hq3,o2.sl.box]
  have hcell:v2.cells = #[v2]:=by
   obtain ⟨_,⟨_,_,rfl⟩ | ⟨_,_,_,_,rfl,_⟩⟩:=o2 <;> rfl
  rw [hcell]
  refine ⟨rfl,?_⟩
  have hnq:b2≠some D.q:=fun he=>by rw [fresh2 _ he] at hq;cases hq
  have hx:OL gnC 2 yrli h3 v2 (ρ.gens++[(b,1)]) b2:=by simpa using o2
  refine hk ⟨D.q,D.vl,D.bl,v2,b2⟩ _ ⟨⟨⟨?_,?_,?_⟩,fun d hd=>?_⟩,rfl,fun d o hd hdo=>?_,fun d hd=>?_⟩
  ·show _=some (AObj.cells [.int .i64 (bumpG ρ b).budget,D.vl,v2] _ _)
   simp [bumpG]
  ·exact hlt3.l.keep fun d hd=>yrkk _ _ fun he=>hm.at_.lq (he▸hd)
  ·show OL gnC 2 yrli _ v2 (gset ρ.gens b _) b2
   rw [hnew]
   exact hx.keep fun d hd=>yrkk _ _ fun he=>hnq (he▸hd)
  ·rcases hd with hd | hd | hd
   ·exact hm.new d (.inl hd)
   ·exact hm.new d (.inr (.inl hd))
   ·exact Sub.none hsub (fresh2 d hd)
  ·rw [yrkk _ _ fun he=>hd (.inl he)];exact k2 d o hdo
  ·rcases hd with hd | hd | hd
   ·exact .inl (.inl hd)
   ·exact .inl (.inr (.inl hd))
   ·exact .inr (fresh2 d hd)
end
end Go.Proofs.YtnckimioabkheaaGreat
set_option linter.unusedSimpArgs false
set_option linter.unusedVariables false
set_option maxRecDepth 100000
namespace Go.Proofs.YtnckimioabkheaaGreat
open AM
theorem Srt.wrM {ρ:MS} (hs:Srt ρ.pages) {a:Int} {bs:List Int} (i:Nat):Srt (wrM ρ a bs i).pages:=hs.keys (ynn2 i)
theorem yf9x {p g:Int}:∀{l:List (Int×Int)},(gset l p g).length≤l.length+1
 | []=>by simp [gset]
 | e::r=>by
   rw [gset]
   split
   ·simp
   ·have:=yf9x (p:=p) (g:=g) (l:=r);simp;omega
theorem y214 {ρ:MS} {a:Int} {bs:List Int}:∀i,(wrM ρ a bs i).gens.length≤ρ.gens.length+i
 | 0=>by simp [Go.Proofs.YtnckimioabkheaaGreat.wrM]
 | i+1=>by
   have ih:=y214 (ρ:=ρ) (a:=a) (bs:=bs) i
   rw [Go.Proofs.YtnckimioabkheaaGreat.wrM]
   split
   ·have h1:=yf9x (p:=yovn (wrA a i)) (g:=IntKind.u32.wrap ((fnd (yovn (wrA a i)) (setB (Go.Proofs.YtnckimioabkheaaGreat.wrM ρ a bs i) (yovn (wrA a i)) ((wrA a i).tmod 256).toNat (bs.getD i 0)).gens).getD 0+1)) (l:=(setB (Go.Proofs.YtnckimioabkheaaGreat.wrM ρ a bs i) (yovn (wrA a i)) ((wrA a i).tmod 256).toNat (bs.getD i 0)).gens)
    simp only [bumpG,setB] at h1 ⊢
    omega
   ·simp only [setB];omega
theorem ybsz {ρ:MS} {a:Int} {bs:List Int} (i:Nat):(wrM ρ a bs i).pages.length=ρ.pages.length:=by
 have:=congrArg List.length (ynn2 (μ:=ρ) (a:=a) (bs:=bs) i)
 simpa [keysM] using this
section
variable {h0 h h':H} {D:RD} {ρ:MS} {K:K1}
theorem yy0k {a:Int} {v:Value} {bs:List Int} (hm:RIn h0 D h ρ) (hsub:Sub h0 h) (hs:Srt ρ.pages) (hl:ρ.pages.length≤100000) (hgl:ρ.gens.length+bs.length≤100000) (ha:0≤a) (ha2:a<4294967296)
 (hv:Sl u8V 1 h0 v bs) (hall:allF ρ a bs.length 0=true) (hk:∀D' h',RWent h0 D h D' (wrM ρ a bs bs.length) h'→K (.tuple #[]) h') :
 AM.Spec PG y4jv [ptr D.q 0,.int .u32 a,v] h K:=by
 refine y9pf _ _ _ _ _ ?_
 unfold y0ld ydvr yckn yibv
 refine yo1k bs.length (fun i s h'=>s=(ptr D.q 0,.int .u32 a,v,.int .i64 i)∧∃D',RWent h0 D h D' (wrM ρ a bs i) h') ⟨rfl,D,RWent.refl hm⟩ ?_
 rintro i s h' K' hi ⟨rfl,D',hw⟩ hk'
 have s1:=hw.sub0 hm hsub
 have hv1:=hv.mono s1
 by_cases hlt:i<bs.length
 ·obtain ⟨e1,e2,e3,e4⟩:=ysm4 ha ha2 hall (i:=i) (by omega)
  have hkeys:keysM (wrM ρ a bs i)=keysM ρ:=ynn2 i
  have hsi:=hs.wrM (a:=a) (bs:=bs) i
  have hli:=ybsz (ρ:=ρ) (a:=a) (bs:=bs) i
  have hgi:=y214 (ρ:=ρ) (a:=a) (bs:=bs) i
  rw [← hkeys] at e4
  obtain ⟨q,hq⟩:=yzro e4
  have hB:=(yj0o hsi).2 ⟨q,hq⟩
  obtain ⟨hat,hak⟩:=yiee hB
  have hix:=fun (K:Value→Prop) (u:Dm K)=>hv1.ix1 (k:=.i64) hlt (K:=K) (u:=u)
  have w0:IntKind.u32.wrap (a+IntKind.u32.wrap (i:Int))=wrA a i:=rfl
  have w1:IntKind.i64.wrap ((i:Int)+1)=((i+1:Nat):Int):=by rw [w_i64 (by omega) (by omega)];omega
  have hnext:wrM ρ a bs (i+1)=if i=0∨(wrA a i).tmod 256=0 then bumpG (setB (wrM ρ a bs i) (yovn (wrA a i)) ((wrA a i).tmod 256).toNat bs[i]) (yovn (wrA a i)) else setB (wrM ρ a bs i) (yovn (wrA a i)) ((wrA a i).tmod 256).toNat bs[i]:=by
   rw [wrM];simp [List.getD_eq_getElem?_getD,hlt]
  have hmod:0≤(wrA a i).tmod 256∧(wrA a i).tmod 256<256:=by
   rw [Int.tmod_eq_emod_of_nonneg e2];omega
  simp (config:={dsimp:=false}) [↓ywx8,↓ycl7,↓ydvt,↓ybc9,hv1.ulen,hlt,w0]
  have eq:D.q=D'.q:=hw.q.symm
  rw [eq]
  refine ⟨rfl,ym94 hw.mem.at_ (by omega) ?_⟩
  obtain ⟨c,m,hc,hc2,hvl,hcc,hmr⟩:=hw.mem.at_.l.ia hat
  have hfl:=yr37 (l:=(wrM ρ a bs i).pages) hw.mem.at_.l.1
  simp (config:={dsimp:=false}) [↓yaek,↓y9lj,yb3e hw.mem.at_.q,hix]
  generalize wrA a i=A at *
  generalize wrM ρ a bs i=ρi at *
  rw [hvl,s_ia]
  refine ⟨by omega,by omega,?_⟩
  rw [Int.toNat_natCast,s_fa,s_iaA,w0]
  refine ⟨hmod.1,hmod.2,?_⟩
  rw [ykdp,hcc]
  have hpos:0+atN ρi.pages (yovn A)*258+2+(A.tmod 256).toNat*1=atN ρi.pages (yovn A)*258+(2+(A.tmod 256).toNat):=by omega
  have hbound:atN ρi.pages (yovn A)*258+(2+(A.tmod 256).toNat)+1≤(ρi.pages.flatMap pgC).length:=by
   rw [hfl]
   have:(atN ρi.pages (yovn A)+1)*258≤ρi.pages.length*258:=Nat.mul_le_mul_right _ hat
   omega
  refine ⟨hmr,rfl,rfl,by rw [hpos];exact hbound,?_⟩
  rw [hpos]
  have hset:=hw.mem.setB hsi (x:=bs[i]) (o:=(A.tmod 256).toNat) hmr hat hak (by omega) hc
  have hw2:=hw.trans hset
  have s2:=hw2.sub0 hm hsub
  have eu:(Value.int IntKind.u8 bs[i]).cells.toList=[.int .u8 bs[i]]:=rfl
  rw [eu]
  generalize upd h' c _=h2 at *
  simp (config:={dsimp:=false}) [↓y5i8,ysbf]
  have hb2:(setB ρi (yovn A) (A.tmod 256).toNat bs[i]).gens.length≤100000:=by simp only [setB];omega
  have eq':D'.q=D.q:=hw.q
  have key:∀{E2:RD} {h3:H},RWent h0 D h E2 (wrM ρ a bs (i+1)) h3→yyzr (ptr D'.q 0) (.int .u32 a) v (.int .i64 i) h3 (fun y0 y1 y2 y6 h=>K' (y0,y1,y2,y6) h) (fun h=>K (.tuple #[]) h) (fun h=>K (.tuple #[]) h):=fun hw3=>by
   simp (config:={dsimp:=false}) [↓yyzr,w1]
   exact hk' _ _ hlt ⟨by simp [eq'],_,hw3⟩
  have bump:i=0∨A.tmod 256=0→AM.Spec PG yrlt [ptr D'.q 0,.int .u32 A] h2 fun v49 h=>yyzr (ptr D'.q 0) (.int .u32 a) v (.int .i64 i) h (fun y0 y1 y2 y6 h=>K' (y0,y1,y2,y6) h) (fun h=>K (.tuple #[]) h) (fun h=>K (.tuple #[]) h):=fun hc=>by
   rw [if_pos hc] at hnext
   exact y0ro hset.mem s2 hb2 fun E3 h3 hw3=>key (E2:=E3) (by rw [hnext];exact hw2.trans hw3)
  split
  ·rename_i hi0
   refine ⟨rfl,?_⟩
   simpa using bump (.inl hi0)
  ·rename_i hi0
   split
   ·rename_i hA0
    refine ⟨rfl,?_⟩
    simpa using bump (.inr hA0)
   ·rename_i hA0
    refine key (E2:=D') ?_
    rw [hnext,if_neg (by simp [hi0,hA0])]
    exact hw2
 ·have hie:i=bs.length:=by omega
  subst hie
  simp (config:={dsimp:=false}) [↓ywx8,hv1.ulen]
  exact hk D' h' hw
theorem ylyc {a:Int} {v:Value} {bs:List Int} (hm:RIn h0 D h ρ) (hsub:Sub h0 h) (hs:Srt ρ.pages) (hl:ρ.pages.length≤30000) (hgl:ρ.gens.length≤30000) (hbl:bs.length<1000000000) (ha:0≤a) (ha2:a<4294967296)
 (hv:Sl u8V 1 h0 v bs) (hk:∀D' h',RWent h0 D h D' (wrR ρ a 65536 0 bs) h'→K (.int .i64 (wrE ρ a 65536 0 bs)) h') :
 AM.Spec PG y3o4 [ptr D.q 0,.int .u32 a,v] h K:=by
 refine y2cj _ _ _ _ _ ?_
 have hv1:=hv.mono hsub
 unfold wrR wrE at hk
 simp (config:={dsimp:=false}) only [↓ybv8,↓y5rf,hv1.ulen,s_gtr,s_if,decide_eq_true_eq]
 split
 ·rename_i c'
  rw [if_pos c'] at hk
  exact hk D h (RWent.refl hm)
 rename_i c'
 rw [if_neg c'] at hk
 refine ⟨rfl,y7i1 hm.at_ hs (by omega) ha ha2 (by omega) (by omega) ?_⟩
 cases hall:allF ρ a bs.length 0 with
 | false =>
   rw [hall] at hk
   simp (config:={dsimp:=false})
   exact hk D h (RWent.refl hm)
 | true =>
   rw [hall] at hk
   simp (config:={dsimp:=false})
   refine ⟨by simp [hv1.box],yy0k hm hsub hs (by omega) (by omega) ha ha2 hv hall fun D' h' hw=>?_⟩
   exact hk D' h' hw
end
end Go.Proofs.YtnckimioabkheaaGreat
set_option linter.unusedSimpArgs false
set_option linter.unusedVariables false
set_option maxRecDepth 100000
namespace Go.Proofs.YtnckimioabkheaaGreat
open AM
def KB (ρ:MS):Prop:=∀p∈ρ.pages,0≤p.1∧p.1<4294967296
def raddP (ρ:MS) (a perm:Int):Nat→MS
 | 0=>ρ
 | i+1=>{ raddP ρ a perm i with pages:=insP (raddP ρ a perm i).pages (pgA a i) (perm,yr1e),gens:=gset (raddP ρ a perm i).gens (pgA a i) (IntKind.u32.wrap ((fnd (pgA a i) (raddP ρ a perm i).gens).getD 0+1)) }
def rmapM (ρ:MS) (a n perm:Int):MS:=if mapE ρ a n perm=0 then raddP ρ a perm (yte2 a n).toNat else ρ
theorem yo36 {a n:Int} (ha:0≤a) (ha2:a<4294967296) (h0:0≤n) (h1:n<4294967296):yht4 a n=if 0<n∧a%256=0∧a+(n+255) / 256*256≤4294967296 then (n+255) / 256 else -1:=by
 unfold yht4
 have e1:IntKind.i64.wrap n=n:=w_i64 (by omega) (by omega)
 have e2:IntKind.i64.wrap a=a:=w_i64 (by omega) (by omega)
 rw [e1,e2,w_i64 (x:=n+255) (by omega) (by omega),Int.tdiv_eq_ediv_of_nonneg (by omega),w_i64 (x:=(n+255) / 256) (by omega) (by omega),w_i64 (x:=(n+255) / 256*256) (by omega) (by omega),w_i64 (by omega) (by omega),Int.tmod_eq_emod_of_nonneg ha]
 by_cases hc:0<n∧a%256=0∧a+(n+255) / 256*256≤4294967296
 ·rw [if_pos hc,if_neg (by omega)]
 ·rw [if_neg hc,if_pos (by omega)]
theorem rin {a m p:Int} (ha:0≤a) (ha2:a<4294967296) (hm:0≤m) (hm2:m≤16777216) (hp:0≤p∧p<4294967296):yp6c p a m=true↔inR a m p:=by
 unfold yp6c inR
 have e1:IntKind.i64.wrap p=p:=w_i64 (by omega) (by omega)
 have e2:IntKind.i64.wrap a=a:=w_i64 (by omega) (by omega)
 have e3:IntKind.i64.wrap (m*256)=m*256:=w_i64 (by omega) (by omega)
 have e4:IntKind.i64.wrap (a+m*256)=a+m*256:=w_i64 (by omega) (by omega)
 have f1:IntKind.u64.wrap p=p:=w_u64 (by omega) (by omega)
 have f2:IntKind.u64.wrap a=a:=w_u64 (by omega) (by omega)
 have f3:IntKind.u64.wrap (m*256)=m*256:=w_u64 (by omega) (by omega)
 have f4:IntKind.u64.wrap (a+m*256)=a+m*256:=w_u64 (by omega) (by omega)
 rw [e1,e2,e3,e4,f1,f2,f3,f4]
 simp
def cntR (ρ:MS) (a m:Int) (i:Nat):Nat:=((ρ.pages.take i).filter fun p=>yp6c p.1 a m).length
theorem you2 {ρ:MS} {a perm:Int}:∀i,(raddP ρ a perm i).gens.length≤ρ.gens.length+i
 | 0=>by simp [raddP]
 | i+1=>by
   have ih:=you2 (ρ:=ρ) (a:=a) (perm:=perm) i
   have h1:=yf9x (p:=pgA a i) (g:=IntKind.u32.wrap ((fnd (pgA a i) (raddP ρ a perm i).gens).getD 0+1)) (l:=(raddP ρ a perm i).gens)
   simp only [raddP]
   omega
theorem ywmo {β:Type} {l:List (Int×β)} {p:Int} {x:β}:(insP l p x).length=l.length+1:=by
 have:=(ywfw (l:=l) (p:=p) (x:=x)).length_eq
 simpa using this
theorem y58f {ρ:MS} {a perm:Int}:∀i,(raddP ρ a perm i).pages.length=ρ.pages.length+i
 | 0=>by simp [raddP]
 | i+1=>by simp only [raddP,ywmo,y58f i];omega
section
variable {h0 h h':H} {D:RD} {ρ:MS} {K:K1}
theorem y6r5 {a m:Int} (hr:RAt D h ρ) (hl:ρ.pages.length≤100000) (hk:K (.int .i64 (cntR ρ a m ρ.pages.length)) h):AM.Spec PG y3y7 [ptr D.q 0,.int .u32 a,.int .i64 m] h K:=by
 refine y5iw _ _ _ _ _ ?_
 simp (config:={dsimp:=false}) [↓yrsc,↓yukl,↓ya01,↓yjpk,↓yygt]
 unfold yz03
 refine yo1k ρ.pages.length (fun i s h'=>h'=h∧s=(ptr D.q 0,.int .u32 a,.int .i64 m,.int .i64 (cntR ρ a m i),.int .i64 i)) ⟨rfl,rfl⟩ ?_
 rintro i s h' K' hi ⟨rfl,rfl⟩ hk'
 by_cases hlt:i<ρ.pages.length
 ·have hix:=fun (K:Value→Prop) (u:Dm K)=>hr.l.sl.ixf (k:=.i64) (off:=0) hlt (yvs7 hlt) (K:=K) (u:=u)
  have w1:IntKind.i64.wrap ((i:Int)+1)=((i+1:Nat):Int):=by rw [w_i64 (by omega) (by omega)];omega
  have hle:cntR ρ a m i≤i:=by
   unfold cntR
   have h1:=List.length_filter_le (fun p:Int×Int×List Int=>yp6c p.1 a m) (ρ.pages.take i)
   simp at h1;omega
  have hnext:cntR ρ a m (i+1)=cntR ρ a m i+if yp6c ρ.pages[i].1 a m=true then 1 else 0:=by
   unfold cntR
   rw [List.take_succ_eq_append_getElem hlt,List.filter_append,List.length_append,List.filter_cons]
   split <;> simp
  have w2:IntKind.i64.wrap ((cntR ρ a m i:Int)+1)=((cntR ρ a m i+1:Nat):Int):=by rw [w_i64 (by omega) (by omega)];omega
  simp (config:={dsimp:=false}) [↓y3zw,yb3e hr.q,hr.l.sl.ulen,hlt,hix,w1,w2]
  rw [hnext] at hk'
  split
  ·rename_i c
   rw [if_pos c] at hk'
   exact hk' _ _ hlt ⟨rfl,by simp⟩
  ·rename_i c
   rw [if_neg c] at hk'
   exact hk' _ _ hlt ⟨rfl,by simp⟩
 ·have hie:i=ρ.pages.length:=by omega
  subst hie
  simp (config:={dsimp:=false}) [↓y3zw,↓yd4u,yb3e hr.q,hr.l.sl.ulen]
  exact hk
theorem yem5 {p perm:Int} {K:Value→Prop} {u:Dm K}:ysnr PG yezi [(0,.int .u32 p),(1,.int .i64 perm)] K u=K (.agg (pgC (p,perm,yr1e)).toArray):=by kernel_rfl
theorem yeqz {p perm:Int} {h:H} {K:K1} {u:Dm K}:ynqb PG yoza 1 [(0,.agg (pgC (p,perm,yr1e)).toArray)] h K u=u_new (pgC (p,perm,yr1e)) yezi .exact h fun b h=>K (.slice (some ⟨b,0,none⟩) 1 1) h:=by kernel_rfl
theorem yqvg {h:H} {K:K1} {u:Dm K}:ynqb PG yoza 0 [] h K u=u_new [] yezi .exact h fun b h=>K (.slice (some ⟨b,0,none⟩) 0 0) h:=by kernel_rfl
theorem yeqe {x:Int×Int×List Int} (h:x.2.2.length=256):(pgC x).length=258:=by simp [pgC,h]
theorem ylbz:yr1e.length=256:=List.length_replicate
end
end Go.Proofs.YtnckimioabkheaaGreat
set_option linter.unusedSimpArgs false
set_option linter.unusedVariables false
set_option maxRecDepth 100000
namespace Go.Proofs.YtnckimioabkheaaGreat
open AM
section
variable {h0 h h':H} {D:RD} {ρ:MS} {K:K1}
theorem yd3z {p perm:Int} {k:Nat} {x1 x9 x10:Value} {Kn:K6} {Kr:K1} {Ke1:K5} {Ke0:K0} (hm:RIn h0 D h ρ) (hsub:Sub h0 h) (hkl:k≤ρ.pages.length) (hl:ρ.pages.length≤100000)
 (hk:∀D' h',RWent h0 D h D' { ρ with pages:=ρ.pages.take k++[(p,perm,yr1e)]++ρ.pages.drop k } h'→Kn (ptr D.q 0) x1 (.int .i64 perm) x9 x10 (.int .u32 p) h') :
 yuie (ptr D.q 0) x1 (.int .i64 perm) x9 x10 (.int .u32 p) (.int .i64 k) h Kn Kr Ke1 Ke0:=by
 have hr:=hm.at_
 have hq:=hr.q
 have hsl:=hr.l.sl
 have hcap:=hr.l.cap
 have hz:=hr.l.1
 unfold yuie
 simp (config:={dsimp:=false}) only [s_nil,s_fa,y1rg]
 simp (config:={dsimp:=false}) [yb3e hq]
 refine Sl.cut hsl hcap (.inl ⟨rfl,rfl⟩) (.inr ⟨_,rfl⟩) (Nat.zero_le _) hkl fun v67 s67 c67=>?_
 rw [yem5]
 simp (config:={dsimp:=false}) only [s_nil,s_fa,y1rg]
 simp (config:={dsimp:=false}) [yb3e hq]
 refine Sl.cut hsl hcap (.inr ⟨_,rfl⟩) (.inl ⟨rfl,rfl⟩) hkl (Nat.le_refl _) fun v79 s79 c79=>?_
 rw [List.take_of_length_le (Nat.le_refl _)] at s79
 simp only [List.drop_zero] at s67
 rw [yeqz]
 refine ⟨fun _ _ _=>trivial,?_⟩
 rw [yqvg]
 intro c hc2 hcn
 rw [yeqz]
 refine ⟨fun _ _ _=>trivial,?_⟩
 have s1:Sub h (upd h c (.cells [] yezi .exact)):=Sub.new hcn
 have hlen:yr1e.length=256:=ylbz
 refine OL.app (OL.empty hc2 (by simp)) (s67.mono s1) (by omega) (by simp;omega) (by simp;omega) fun v1 h2 b1 o1 c1 f1=>?_
 have k1:Sub h h2∧∀d,b1=some d→h d=none:=by
  refine ⟨fun d o hd=>c1.1 d o (s1 d o hd) (fun he=>by cases he;rw [hcn] at hd;cases hd),fun d hd=>?_⟩
  rcases c1.2 d hd with h5 | h5
  ·cases h5;exact hcn
  ·rw [ynej] at h5;exact h5.2.2
 rw [List.nil_append] at o1
 simp (config:={dsimp:=false}) [yb3e (k1.1 _ _ hq)]
 rw [yeqz]
 refine OL.push (m:=[(p,perm,yr1e)]) o1 (by intro x hx;simp only [List.mem_singleton] at hx;subst hx;exact yeqe hlen) (by omega) (by simp;omega) (by simp;omega) (fun v2 h3 b2 o2 c2=>?_) (by simp) rfl
 have k2:=c2.sub k1.1 k1.2
 simp (config:={dsimp:=false}) [yb3e (k2.1 _ _ hq)]
 refine OL.app o2 (s79.mono k2.1) (by omega) (by simp;omega) (by simp;omega) fun v3 h4 b3 o3 c3 f3=>?_
 have k3:=c3.sub k2.1 k2.2
 have hq4:=k3.1 _ _ hq
 have hcell:v3.cells = #[v3]:=by
  obtain ⟨_,⟨_,_,rfl⟩ | ⟨_,_,_,_,rfl,_⟩⟩:=o3 <;> rfl
 rw [s_nil,s_fa,ypi4 (off:=0+1) hq4 (by decide) o3.sl.box hcell (by simp) rfl]
 have hnq:b3≠some D.q:=fun he=>by rw [k3.2 _ he] at hq;cases hq
 have hr4:=hr.sub k3.1
 refine hk ⟨D.q,v3,b3,D.vg,D.bg⟩ _ ⟨⟨⟨?_,?_,?_⟩,fun d hd=>?_⟩,rfl,fun d o hd hdo=>?_,fun d hd=>?_⟩
 ·rw [yy0e];rfl
 ·exact o3.keep fun d hd=>yrkk _ _ fun he=>hnq (he▸hd)
 ·exact hr4.g.keep fun d hd=>yrkk _ _ fun he=>hr4.gq (he▸hd)
 ·rcases hd with hd | hd | hd
  ·exact hm.new d (.inl hd)
  ·exact Sub.none hsub (k3.2 d hd)
  ·exact hm.new d (.inr (.inr hd))
 ·rw [yrkk _ _ fun he=>hd (.inl he)];exact k3.1 d o hdo
 ·rcases hd with hd | hd | hd
  ·exact .inl (.inl hd)
  ·exact .inr (k3.2 d hd)
  ·exact .inl (.inr (.inr hd))
theorem yufg {a:Int} {i:Nat} (hi:i≤16777216):IntKind.u32.wrap (a+IntKind.u32.wrap (IntKind.i64.wrap (256*(i:Int))))=pgA a i:=by
 unfold pgA
 rw [w_i64 (by omega) (by omega)]
 congr 3
 omega
theorem y5ho {a:Int} {i:Nat} {m:Int} (ha:0≤a) (hal:a%256=0) (hm:a+m*256≤4294967296) (hi:(i:Int)<m):pgA a i=a+256*i∧yovn (pgA a i)=pgA a i:=by
 have h1:IntKind.u32.wrap ((i:Int)*256)=i*256:=w_u32 (by omega) (by omega)
 have e:pgA a i=a+256*i:=by
  unfold pgA
  rw [h1,w_u32 (by omega) (by omega)];omega
 refine ⟨e,?_⟩
 rw [e,ydjw (by omega) (by omega)]
 omega
theorem yqej {a n perm:Int} (hm:RIn h0 D h ρ) (hsub:Sub h0 h) (hkb:KB ρ) (hz:MSz ρ) (hgl:ρ.gens.length≤20000) (ha:0≤a) (ha2:a<4294967296) (hn:0≤n) (hn2:n<4294967296)
 (hk:∀D' h',RWent h0 D h D' (rmapM ρ a n perm) h'→K (.int .i64 (mapE ρ a n perm)) h') :
 AM.Spec PG y0iw [ptr D.q 0,.int .u32 a,.int .u32 n,.int .i64 perm] h K:=by
 refine yq2p _ _ _ _ _ _ ?_
 have hst:=yo36 ha ha2 hn hn2
 have hmany:=y56w (a:=a) hn hn2
 have hgood:=yb4q ha ha2 hn hn2
 obtain ⟨z1,z2⟩:=hz
 have refl:=RWent.refl hm
 simp (config:={dsimp:=false}) [↓ydgw,↓yf2f]
 by_cases hS:0<n∧a%256=0∧a+(n+255) / 256*256≤4294967296
 case neg =>
  have he:mapE ρ a n perm=1:=by unfold mapE;rw [if_pos (.inl fun hc=>hS (hgood.1 hc))]
  rw [if_neg hS] at hst
  have hM:rmapM ρ a n perm=ρ:=by simp [rmapM,he]
  rw [he,hM] at hk
  rw [if_pos (by simp [hst])]
  exact hk D h refl
 rw [if_pos hS] at hst
 obtain ⟨m,hmm⟩:∃m:Nat,(n+255) / 256=m:=⟨((n+255) / 256).toNat,by omega⟩
 rw [hmm] at hst hmany hS
 rw [hst]
 by_cases hP:perm<0∨7<perm
 case pos =>
  have he:mapE ρ a n perm=1:=by unfold mapE;rw [if_pos (.inr hP)]
  have hM:rmapM ρ a n perm=ρ:=by simp [rmapM,he]
  rw [he,hM] at hk
  rw [if_pos (by omega)]
  exact hk D h refl
 rw [if_neg (by omega)]
 have hE:mapE ρ a n perm=if ∃p∈ρ.pages,inR a m p.1 then 5 else if IntKind.u64.wrap (IntKind.i64.wrap (ρ.budget-ρ.pages.length))<m then 6 else 0:=by
  unfold mapE
  rw [if_neg (fun hc=>by
   rcases hc with hc | hc
   ·exact hc (hgood.2 (by rw [hmm];exact hS))
   ·exact hP hc),hmany]
 refine ⟨rfl,y6r5 hm.at_ (by omega) ?_⟩
 have hcnt:0<cntR ρ a m ρ.pages.length↔∃p∈ρ.pages,inR a m p.1:=by
  unfold cntR
  rw [List.take_length,List.length_pos_iff,ne_eq,List.filter_eq_nil_iff]
  simp only [Classical.not_forall,Classical.not_not]
  constructor
  ·rintro ⟨p,hp,hq⟩
   exact ⟨p,hp,(rin ha ha2 (by omega) (by omega) (hkb p hp)).1 hq⟩
  ·rintro ⟨p,hp,hq⟩
   exact ⟨p,hp,(rin ha ha2 (by omega) (by omega) (hkb p hp)).2 hq⟩
 by_cases hT:∃p∈ρ.pages,inR a m p.1
 case pos =>
  rw [if_pos hT] at hE
  have hM:rmapM ρ a n perm=ρ:=by simp [rmapM,hE]
  rw [hE,hM] at hk
  have:=hcnt.2 hT
  simp (config:={dsimp:=false}) [this]
  exact hk D h refl
 rw [if_neg hT] at hE
 have hc0:¬0<cntR ρ a m ρ.pages.length:=fun hc=>hT (hcnt.1 hc)
 have wb:IntKind.i64.wrap (ρ.budget-ρ.pages.length)=ρ.budget-ρ.pages.length:=w_i64 (by omega) (by omega)
 have wu:IntKind.u64.wrap (ρ.budget-ρ.pages.length)=ρ.budget-ρ.pages.length:=w_u64 (by omega) (by omega)
 rw [wb,wu] at hE
 simp (config:={dsimp:=false}) [hc0,↓yo03,↓ywd8,↓y4iv,↓ynev,yb3e hm.at_.q,hm.at_.l.sl.ulen,wb]
 by_cases hF:ρ.budget-ρ.pages.length<m
 case pos =>
  rw [if_pos hF] at hE
  have hM:rmapM ρ a n perm=ρ:=by simp [rmapM,hE]
  rw [hE,hM] at hk
  rw [if_pos hF]
  exact hk D h refl
 rw [if_neg hF] at hE
 rw [if_neg hF]
 have hM:rmapM ρ a n perm=raddP ρ a perm m:=by simp [rmapM,hE,hmany]
 rw [hE,hM] at hk
 simp (config:={dsimp:=false}) [↓y6vu,↓yptq,↓y1a7]
 unfold ysf2
 refine yo1k m (fun i s h'=>s=(ptr D.q 0,.int .u32 a,.int .i64 perm,.int .i64 m,.int .i64 i)∧∃D',RWent h0 D h D' (raddP ρ a perm i) h') ⟨rfl,D,refl⟩ ?_
 rintro i s h' K' hi ⟨rfl,D',hw⟩ hk'
 by_cases hlt:i<m
 ·have w1:IntKind.i64.wrap ((i:Int)+1)=((i+1:Nat):Int):=by rw [w_i64 (by omega) (by omega)];omega
  have hpa:=yufg (a:=a) (i:=i) (by omega)
  have hbp:=(y5ho (i:=i) ha hS.2.1 hS.2.2 (by omega)).2
  have hli:=y58f (ρ:=ρ) (a:=a) (perm:=perm) i
  have hgi:=you2 (ρ:=ρ) (a:=a) (perm:=perm) i
  have s1:=hw.sub0 hm hsub
  simp (config:={dsimp:=false}) [↓ya8w,↓yqng,↓y7xv,↓yz92,hlt,hpa]
  have eq:D.q=D'.q:=hw.q.symm
  rw [eq]
  refine ⟨rfl,ym94 hw.mem.at_ (by omega) ?_⟩
  rw [hbp]
  simp (config:={dsimp:=false}) [↓ykw3,hpa]
  refine yd3z hw.mem s1 (ypas _ _) (by omega) fun E2 h2 hw2=>?_
  have s2:=(hw.trans hw2).sub0 hm hsub
  simp (config:={dsimp:=false}) [↓yi78]
  have eq2:D'.q=E2.q:=hw2.q.symm
  rw [eq2]
  refine ⟨rfl,y0ro hw2.mem s2 (by show (raddP ρ a perm i).gens.length≤100000;omega) fun E3 h3 hw3=>?_⟩
  rw [hbp] at hw3
  simp (config:={dsimp:=false}) [↓ysya,w1]
  exact hk' _ _ hlt ⟨by simp [eq,eq2],E3,(hw.trans hw2).trans hw3⟩
 ·have hie:i=m:=by omega
  subst hie
  simp (config:={dsimp:=false}) [↓ya8w,↓yysk]
  exact hk D' h' hw
end
end Go.Proofs.YtnckimioabkheaaGreat
