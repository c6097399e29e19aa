/-
  Part of a proof: several texts put together, long names shortened.
-/
import Derived.Test.YtnckimioabkheaaGreatZ1
import Derived.Laws.StructEq
import Derived.KernelRfl
import Derived.Test.YtnckimioabkheaaGreatProg
set_option linter.unusedSimpArgs false
set_option linter.unusedVariables false
namespace Go.Proofs.YtnckimioabkheaaGreat.AM
section
variable {P:Program}
theorem y1ga {cs:List Value} {E:TypeId} {m:Own} {h:H} {K K':Nat→H→Prop} (hk:∀b h,K b h→K' b h) (ho:o_new cs E m h K):o_new cs E m h K':=fun b h1 h2=>hk _ _ (ho b h1 h2)
theorem yofo {o:AObj} {h:H} {K K':Nat→H→Prop} (hk:∀b h,K b h→K' b h) (ho:yp8q o h K):yp8q o h K':=fun b h1 h2=>hk _ _ (ho b h1 h2)
theorem yz33 {r:Option Value} {K K':Value→Prop} (hk:∀v,K v→K' v) (ho:yejp r K):yejp r K':=by
 unfold yejp at *
 cases r with
 | none=>exact ho
 | some v=>cases hs:selfV v <;> simp only [hs,cond_true,cond_false] at ho ⊢;exact hk _ ho
theorem YSpec.mono {r:Nat} {args:List Value} {h:H} {Q Q':Value→H→Prop} (hs:YSpec P r args h Q) (hq:∀v h,Q v h→Q' v h):YSpec P r args h Q':=by
 intro W ι w cargs l hr hl ha
 obtain ⟨L,h1,h2,h3⟩:=hs W ι w cargs l hr hl ha
 exact ⟨L,h1,h2,h3.mono fun _ _ ⟨v,cv,ι',h',h1,h2,h3,h4,h5⟩=>⟨v,cv,ι',h',h1,h2,h3,h4,hq _ _ h5⟩⟩
theorem y5hk {e size bytes:Nat} {s x:Value} {h:H} {K K':Value→H→Prop} (hk:∀v h,K v h→K' v h) (ho:yc1n e size bytes s x h K):yc1n e size bytes s x h K':=by
 unfold yc1n at *
 revert ho
 repeat' split
 all_goals intro ho
 all_goals first
  | exact ho
  | exact hk _ _ ho
  | exact ⟨ho.1,ho.2.1,ho.2.2.1,hk _ _ ho.2.2.2⟩
  | exact ⟨ho.1,hk _ _ ho.2⟩
  | exact ⟨ho.1,ho.2.1,ho.2.2.1,ho.2.2.2.1,ho.2.2.2.2.1,y1ga (fun _ _ h=>hk _ _ h) ho.2.2.2.2.2⟩
  | exact ⟨ho.1,ho.2.1,ho.2.2.1,ho.2.2.2.1,ho.2.2.2.2.1,ho.2.2.2.2.2.1,ho.2.2.2.2.2.2.1,ho.2.2.2.2.2.2.2.1,fun b h1 h2=>hk _ _ (ho.2.2.2.2.2.2.2.2 b h1 h2)⟩
  | exact ⟨ho.1,ho.2.1,ho.2.2.1,ho.2.2.2.1,ho.2.2.2.2⟩
theorem yfox {op:BinOp} {xt:TypeId} {x y:Value} {K K':Value→Prop} (hk:∀v,K v→K' v) (ho:o_bin P op xt x y K):o_bin P op xt x y K':=by
 unfold o_bin at *
 cases hb:(selfV x&&selfV y&&okEq P op xt x y) <;> simp only [hb,cond_true,cond_false] at ho ⊢
 ·revert ho
  split <;> intro ho <;> first | exact hk _ ho | exact ho
 ·exact yz33 hk ho
theorem yrwh {c:Call} {ρ:Operand→Value} {h:H} {K K':Value→H→Prop} (hk:∀v h,K v h→K' v h) (ho:aCall P c ρ h K):aCall P c ρ h K':=by
 have hspec:∀{f args},Spec P f args h K→Spec P f args h K':=fun hs=>hs.mono hk
 have hy:∀{r args},YSpec P r args h K→YSpec P r args h K':=fun hs=>hs.mono hk
 unfold aCall at *
 revert ho
 split
 ·repeat' split
  ·unfold ykwb;split <;> intro ho <;> first | exact hk _ _ ho | exact ho
  ·unfold yn0t;split <;> intro ho <;> first | exact hk _ _ ho | exact ho
  ·unfold y55i
   repeat' split
   all_goals intro ho
   all_goals first | exact hk _ _ ho | exact ho
  ·intro ho;exact hk _ _ ho
  ·intro ho;exact ho
 ·repeat' split
  all_goals first
   | (intro ho;exact ho)
   | (rename_i i z _ _
      cases hb:(z.cells.size==i.size)
      ·intro ho;exact ho
      ·intro ho;exact y5hk hk ho)
 ·unfold y1uk
  repeat' split
  all_goals intro ho
  all_goals first
   | exact ho
   | exact hk _ _ ho
   | exact ⟨ho.1,ho.2.1,ho.2.2.1,hk _ _ ho.2.2.2⟩
 ·unfold yypu
  repeat' split
  all_goals intro ho
  all_goals first
   | exact ho
   | exact ⟨ho.1,hk _ _ ho.2⟩
   | exact ⟨ho.1,ho.2.1,hk _ _ ho.2.2⟩
 ·unfold yzve
  cases (selfV _&&selfV _) <;> simp only [cond_true,cond_false] <;> intro ho
  ·exact ho
  ·exact yz33 (fun v=>hk v h) ho
 ·unfold yzve
  cases (selfV _&&selfV _) <;> simp only [cond_true,cond_false] <;> intro ho
  ·exact ho
  ·exact yz33 (fun v=>hk v h) ho
 ·rename_i f _
  cases yu9w P f <;> simp only [cond_true,cond_false] <;> intro ho
  ·exact ho
  ·exact ⟨ho.1,hspec ho.2⟩
 ·unfold o_dyn
  split <;> intro ho
  ·exact ⟨ho.1,ho.2.1,hspec ho.2.2⟩
  ·exact ⟨ho.1,ho.2.1,ho.2.2.1,hy ho.2.2.2⟩
  ·exact ho
 ·intro ho;exact ho
set_option maxHeartbeats 1000000 in
theorem yoh7 {op:Op} {ρ:Operand→Value} {h:H} {K K':Value→H→Prop} (hk:∀v h,K v h→K' v h) (ho:aop P op ρ h K):aop P op ρ h K':=by
 unfold aop at *
 revert ho
 split
 ·exact hk _ _
 ·exact hk _ _
 ·unfold yw1w;split <;> first | exact hk _ _ | exact id
 ·split <;> first | exact fun ho=>y1ga (fun _ _ h=>hk _ _ h) ho | exact id
 ·exact fun ho=>⟨ho.1,y1ga (fun _ _ h=>hk _ _ h) ho.2⟩
 ·unfold yiyd
  rename_i t ps
  cases (List.map (fun p:Nat×Operand=>(p.1,ρ p.2)) ps.toList).all (fun p=>boxV p.2) <;> simp only [cond_true,cond_false]
  ·exact id
  ·split <;> first | exact hk _ _ | exact id
 ·unfold yyll;split <;> first | exact fun ho=>y1ga (fun _ _ h=>hk _ _ h) ho | exact id
 ·split
  ·unfold ysm8
   split
   ·rename_i ag n _ _ _ _ _
    cases ag <;> simp only [cond_true,cond_false] <;> split <;> first | exact hk _ _ | exact id
   ·exact id
  ·exact id
 ·split
  ·unfold yxd5
   repeat' split
   all_goals intro ho
   all_goals first | exact ho | exact ⟨ho.1,ho.2.1,ho.2.2.1,ho.2.2.2.1,hk _ _ ho.2.2.2.2⟩
  ·exact id
 ·unfold yf21;split <;> first | exact hk _ _ | exact id
 ·exact yfox fun v=>hk v h
 ·rename_i op xt x
  unfold o_un
  cases selfV (ρ x) <;> simp only [cond_true,cond_false]
  ·exact id
  ·exact yz33 fun v=>hk v h
 ·split
  ·unfold ykic;split <;> first | exact hk _ _ | exact id
  ·unfold y1of;split <;> first | exact hk _ _ | exact id
  ·split
   ·unfold y9vs
    repeat' split
    all_goals first | exact hk _ _ | exact id
   ·exact id
  ·split
   ·rename_i i _ _
    cases Nat.beq i.size 1 <;> simp only [cond_true,cond_false]
    ·exact id
    ·unfold y0kx;split <;> first | exact fun ho=>y1ga (fun _ _ h=>hk _ _ h) ho | exact id
   ·exact id
  ·split
   ·generalize Nat.beq _ _=q
    cases q <;> simp only [cond_true,cond_false]
    ·exact id
    ·unfold yt5p
     repeat' split
     all_goals first | exact id | exact fun ho=>⟨ho.1,hk _ _ ho.2⟩
   ·exact id
  ·exact id
 ·split <;> first | exact id | exact fun ho=>⟨ho.1,hk _ _ ho.2⟩
 ·exact fun ho=>⟨ho.1,ho.2.1,hk _ _ ho.2.2⟩
 ·repeat' split
  all_goals first | exact id | exact fun ho=>yofo (fun _ _ h=>hk _ _ h) ho
 ·repeat' split
  all_goals first
   | exact id
   | (unfold ye0j
      split
      ·exact fun ho=>⟨ho.1,ho.2.1,ho.2.2.1,ho.2.2.2.1,ho.2.2.2.2.1,ho.2.2.2.2.2.1,y1ga (fun _ _ h=>hk _ _ h) ho.2.2.2.2.2.2⟩
      ·exact id)
 ·split
  ·split
   ·unfold ybsu
    repeat' split
    all_goals first
     | exact id
     | (rintro ⟨h1,l,u,h2,h3,h4,h5,h6⟩
        refine ⟨h1,l,u,h2,h3,h4,h5,?_⟩
        revert h6
        split <;> exact hk _ _)
   ·exact id
  ·split
   ·unfold ykvd
    split
    ·rintro ⟨l,u,h2,h3,h4,h5,h6⟩
     refine ⟨l,u,h2,h3,h4,h5,?_⟩
     revert h6
     repeat' split
     all_goals exact hk _ _
    ·exact fun ho=>⟨ho.1,ho.2.1,hk _ _ ho.2.2⟩
    ·exact fun ho=>⟨ho.1,ho.2.1,hk _ _ ho.2.2⟩
    ·exact fun ho=>⟨ho.1,ho.2.1,hk _ _ ho.2.2⟩
    ·exact id
   ·exact id
  ·split
   ·unfold y80g
    split
    ·rintro ⟨l,u,h2,h3,h4,h5,h6⟩;exact ⟨l,u,h2,h3,h4,h5,hk _ _ h6⟩
    ·exact id
   ·exact id
  ·exact id
 ·split
  ·rename_i off ft _
   cases Nat.beq (szOf P ft) 0 <;> simp only [cond_true,cond_false]
   ·unfold yokc;split <;> first | exact hk _ _ | exact id
   ·exact id
  ·exact id
 ·unfold ygzh
  repeat' split
  all_goals first | exact hk _ _ | exact id
 ·unfold ys75
  repeat' split
  all_goals first | exact id | exact fun ho=>⟨ho.1,ho.2.1,hk _ _ ho.2.2⟩
 ·unfold y7od
  repeat' split
  all_goals first
   | exact id
   | (rintro ⟨h1,h2,h3,h4⟩
      refine ⟨h1,h2,h3,?_⟩
      revert h4
      split <;> first | exact hk _ _ | exact id)
   | (rintro ⟨h1,h2,h3⟩
      refine ⟨h1,h2,?_⟩
      revert h3
      split <;> first | exact hk _ _ | exact id)
   | exact fun ho=>⟨ho.1,ho.2.1,ho.2.2.1,hk _ _ ho.2.2.2⟩
   | exact fun ho=>⟨ho.1,ho.2.1,hk _ _ ho.2.2⟩
 ·unfold ylze
  repeat' split
  all_goals first
   | exact id
   | exact fun ho=>⟨ho.1,hk _ _ ho.2⟩
   | exact fun ho=>⟨ho.1,ho.2.1,hk _ _ ho.2.2⟩
 ·unfold ynew
  repeat' split
  all_goals first
   | exact id
   | exact fun ho=>⟨ho.1,ho.2.1,ho.2.2.1,hk _ _ ho.2.2.2⟩
 ·unfold ynew
  repeat' split
  all_goals first
   | exact id
   | exact fun ho=>⟨ho.1,ho.2.1,ho.2.2.1,hk _ _ ho.2.2.2⟩
 ·unfold y4p4
  repeat' split
  all_goals first | exact id | exact fun ho=>yofo (fun _ _ h=>hk _ _ h) ho
 ·unfold y6k6
  repeat' split
  all_goals first
   | exact id
   | exact hk _ _
   | exact fun ho=>⟨ho.1,fun e he hl=>hk _ _ (ho.2.1 e he hl),fun hh=>hk _ _ (ho.2.2 hh)⟩
 ·unfold yxwg
  repeat' split
  all_goals first
   | exact id
   | exact fun ho=>ho.2.elim
   | exact fun ho=>⟨ho.1,hk _ _ ho.2⟩
 ·unfold ychn
  repeat' split
  all_goals first | exact id | exact hk _ _
 ·exact yrwh hk
 ·exact id
theorem y2br {ops:Array Oper} {i:Nat} {K K':T→H→Prop} {t:T} {h:H} (hk:∀t h,K t h→K' t h) (ho:aStep P ops i K t h):aStep P ops i K' t h:=by
 unfold aStep at *
 revert ho
 split
 ·exact hk _ _
 ·split
  ·exact yoh7 fun _ _=>hk _ _
  ·unfold yy7w
   split
   ·rename_i b _
    generalize (b==_)=q
    cases q <;> simp only [cond_true,cond_false]
    ·exact hk _ _
    ·exact yoh7 fun _ _=>hk _ _
   ·exact hk _ _
theorem y852 {ops:Array Oper} {K K':T→H→Prop} (hk:∀t h,K t h→K' t h):∀(is:List Nat) {t:T} {h:H},aOps P ops is K t h→aOps P ops is K' t h
 | [],_,_,ho=>hk _ _ ho
 | _::is,_,_,ho=>y2br (fun _ _ h=>y852 hk is h) ho
theorem ybkq {ops:Array Oper} {K K':T→H→Prop} (hk:∀t h,K t h→K' t h):∀(n:Nat) {l:Array Bool} {t:T} {h:H},aAny P ops K n l t h→aAny P ops K' n l t h
 | 0,_,_,_,ho=>⟨ho.1,hk _ _ ho.2⟩
 | n+1,_,_,_,ho=>⟨fun he=>hk _ _ (ho.1 he),fun i hi=>y2br (fun _ _ h=>ybkq hk n h) (ho.2 i hi)⟩
theorem y83t {S:Type} {b b':S→H→(S→H→Prop)→Prop} (hb:∀s h K,b s h K→b' s h K) {s:S} {h:H} (ho:sloop b s h):sloop b' s h:=by
 obtain ⟨I,hI,hr⟩:=ho
 exact ⟨I,hI,fun n s h hi=>hb _ _ _ (hr n s h hi)⟩
theorem ysn1 {S S':Type} (π:S'→S) {b:S→H→(S→H→Prop)→Prop} {b':S'→H→(S'→H→Prop)→Prop} (hb:∀t h K,b (π t) h K→b' t h fun t h=>K (π t) h) {t:S'} {h:H} (ho:sloop b (π t) h):sloop b' t h:=by
 obtain ⟨I,hI,hr⟩:=ho
 exact ⟨fun n t h=>I n (π t) h,hI,fun n t h hi=>hb _ _ _ (hr n (π t) h hi)⟩
theorem y3yz {K K':T→H→Prop} {Q Q':Exit→T→H→Prop} (hk:∀t h,K t h→K' t h) (hq:∀e t h,Q e t h→Q' e t h) (e:Exit) (t:T) (h:H) (ho:athen K Q e t h):athen K' Q' e t h:=by
 cases e <;> first | exact hk _ _ ho | exact hq _ _ _ ho
theorem ynkq {N:Nat}:∀(c:Code) {Q Q':Exit→T→H→Prop} {t:T} {h:H},(∀ e t h,Q e t h→Q' e t h)→awp P N c Q t h→awp P N c Q' t h:=by
 intro c
 induction c with
 | skip=>intro Q Q' t h hq ho;exact hq _ _ _ ho
 | label l=>intro Q Q' t h hq ho;exact hq _ _ _ ho
 | exit id=>intro Q Q' t h hq ho;exact hq _ _ _ ho
 | ret=>intro Q Q' t h hq ho;exact hq _ _ _ ho
 | goto l=>intro Q Q' t h hq ho;exact ho
 | refuse s=>intro Q Q' t h hq ho;exact ho
 | scope c ih=>intro Q Q' t h hq ho;exact ho
 | region id ops draw =>
   intro Q Q' t h hq ho
   cases draw with
   | false=>exact y852 (hq .normal) _ ho
   | true=>exact ybkq (hq .normal) _ ho
 | seq x y ihx ihy=>intro Q Q' t h hq ho;exact ihx (y3yz (fun _ _ h=>ihy hq h) hq) ho
 | cond c x y ihx ihy =>
   intro Q Q' t h hq ho
   have ho':o_if (aev t c) (awp P N x Q t h) (awp P N y Q t h):=ho
   show o_if (aev t c) (awp P N x Q' t h) (awp P N y Q' t h)
   unfold o_if at *
   revert ho'
   split
   ·rename_i b _
    cases b
    ·exact ihy hq
    ·exact ihx hq
   ·exact id
 | block id c ih =>
   intro Q Q' t h hq ho
   refine ih (fun e t h hx=>?_) ho
   cases e with
   | exit j =>
     simp only [yr2p] at *
     cases hj:Nat.beq j id <;> simp only [hj,cond_true,cond_false] at hx ⊢ <;> exact hq _ _ _ hx
   | _=>exact hq _ _ _ hx
 | loop c ih=>intro Q Q' t h hq ho;exact y83t (fun t h K hb=>ih (y3yz (fun _ _ h=>h) hq) hb) ho
 | rangeFunc g ps assign body =>
   intro Q Q' t h hq ho
   simp only [awp] at *
   intro l d h1 h2 h3 h4 h5
   have:=ho l d h1 h2 h3 h4 h5
   unfold yf8x at *
   revert this
   split
   ·refine fun hh=>⟨hh.1,hh.2.mono fun v h'=>?_⟩
    split <;> first | exact hq _ _ _ | exact id
   ·exact id
def seqL:Code→Code | .seq a _=>a | c=>c
def seqR:Code→Code | .seq _ b=>b | c=>c
def blkC:Code→Code | .block _ c=>c | c=>c
def blkId:Code→Nat | .block i _=>i | _=>0
def lopC:Code→Code | .loop c=>c | c=>c
def cndX:Code→Code | .cond _ x _=>x | c=>c
def cndY:Code→Code | .cond _ _ y=>y | c=>c
def cndV:Code→Operand | .cond c _ _=>c | _=>.const .nilIface
def isSeq:Code→Bool | .seq _ _=>true | _=>false
def isBlk:Code→Bool | .block _ _=>true | _=>false
def isLop:Code→Bool | .loop _=>true | _=>false
def isCnd:Code→Bool | .cond _ _ _=>true | _=>false
def ygjk (b:Option Code):Code:=b.getD .skip
def mkQ (kn kr:T→H→Prop) (ke:Nat→T→H→Prop):Exit→T→H→Prop
 | .normal=>kn
 | .ret=>kr
 | .exit i=>ke i
 | _=>fun _ _=>False
def ke0:Nat→T→H→Prop:=fun _ _ _=>False
def keAdd (id:Nat) (k:T→H→Prop) (ke:Nat→T→H→Prop):Nat→T→H→Prop:=fun i=>bif Nat.beq i id then k else ke i
def awpTo (P:Program) (N:Nat):Nat→Code→(T→H→Prop)→(Exit→T→H→Prop)→T→H→Prop
 | 0,_,K,_=>K
 | n+1,c,K,Q=>awp P N (seqL c) (athen (awpTo P N n (seqR c) K Q) Q)
def isRow:Nat→Code→Bool
 | 0,_=>true
 | n+1,c=>isSeq c&&isRow n (seqR c)
def rest:Nat→Code→Code
 | 0,c=>c
 | n+1,c=>rest n (seqR c)
structure Wp (P:Program) (N:Nat) (c:Code) (Q:Exit→T→H→Prop) (t:T) (h:H):Prop where
 ok:awp P N c Q t h
theorem yqb3 {N:Nat} {Q:Exit→T→H→Prop} {K:T→H→Prop}:∀(n:Nat) {c:Code} {t:T} {h:H},isRow n c=true→(∀ t h,K t h→Wp P N (rest n c) Q t h)→awpTo P N n c K Q t h→awp P N c Q t h
 | 0,_,_,_,_,hk,ho=>(hk _ _ ho).ok
 | n+1,c,t,h,hi,hk,ho=>by
   simp only [isRow,Bool.and_eq_true] at hi
   cases c <;> simp only [isSeq,Bool.false_eq_true,false_and] at hi
   rename_i a b
   exact ynkq a (y3yz (fun t h h2=>yqb3 n hi.2 hk h2) fun _ _ _ h=>h) ho
theorem y0st {N:Nat} {Q:Exit→T→H→Prop} {K:T→H→Prop} (n:Nat) {c:Code} {t:T} {h:H} {A:Prop} (h0:A) (hi:isRow n c=true) (hk:∀t h,K t h→Wp P N (rest n c) Q t h) (e:A=awpTo P N n c K Q t h):Wp P N c Q t h :=
 ⟨yqb3 n hi hk (e▸h0)⟩
theorem ykv2 {N:Nat} {kn kn' kr:T→H→Prop} {ke:Nat→T→H→Prop} {c:Code} {t:T} {h:H} (hi:isSeq c=true) (hy:∀t h,kn' t h→Wp P N (seqR c) (mkQ kn kr ke) t h) (hx:Wp P N (seqL c) (mkQ kn' kr ke) t h):Wp P N c (mkQ kn kr ke) t h:=by
 cases c <;> simp only [isSeq,Bool.false_eq_true] at hi
 rename_i a b
 refine ⟨ynkq a (fun e t h he=>?_) hx.ok⟩
 cases e <;> first | exact (hy _ _ he).ok | exact he
theorem y6tu {N:Nat} {kn kr:T→H→Prop} {ke:Nat→T→H→Prop} {c:Code} {t:T} {h:H} (k:Nat) (hi:isBlk c=true) (hid:blkId c=k) (hx:Wp P N (blkC c) (mkQ kn kr (keAdd k kn ke)) t h):Wp P N c (mkQ kn kr ke) t h:=by
 subst hid
 cases c <;> simp only [isBlk,Bool.false_eq_true] at hi
 rename_i id b
 refine ⟨ynkq b (fun e t h he=>?_) hx.ok⟩
 cases e with
 | exit j =>
   simp only [mkQ,keAdd,blkId] at he
   simp only [yr2p]
   cases hj:Nat.beq j id <;> simp only [hj,cond_true,cond_false] at he ⊢ <;> exact he
 | _=>exact he
theorem yv0a {N:Nat} {S:Type} (π:T→S) {kn kr:T→H→Prop} {ke:Nat→T→H→Prop} {c:Code} {b:S→H→(S→H→Prop)→Prop} {t:T} {h:H} (hi:isLop c=true)
 (hb:∀t h K,b (π t) h K→Wp P N (lopC c) (mkQ (fun t h=>K (π t) h) kr ke) t h) (hx:sloop b (π t) h):Wp P N c (mkQ kn kr ke) t h:=by
 cases c <;> simp only [isLop,Bool.false_eq_true] at hi
 rename_i b
 refine ⟨ysn1 π (fun t h K hk=>?_) hx⟩
 refine ynkq b (fun e t h he=>?_) (hb t h K hk).ok
 cases e <;> exact he
theorem yh47 {N:Nat} {kn kr:T→H→Prop} {ke:Nat→T→H→Prop} {c:Code} {t:T} {h:H} {X Y:Prop} {A:Prop} (h0:A) (hi:isCnd c=true) (hX:X→Wp P N (cndX c) (mkQ kn kr ke) t h) (hY:Y→Wp P N (cndY c) (mkQ kn kr ke) t h) (hx:A=o_if (aev t (cndV c)) X Y):Wp P N c (mkQ kn kr ke) t h:=by
 cases c <;> simp only [isCnd,Bool.false_eq_true] at hi
 rename_i v x y
 refine ⟨?_⟩
 show o_if (aev t v) (awp P N x (mkQ kn kr ke) t h) (awp P N y (mkQ kn kr ke) t h)
 have hx':o_if (aev t v) X Y:=hx▸h0
 unfold o_if at *
 revert hx'
 split
 ·rename_i b _
  cases b
  ·exact fun h=>(hY h).ok
  ·exact fun h=>(hX h).ok
 ·exact id
theorem yqxt (hm:P.follows .mixedOrders=true) {f:FuncId} {fn:Func} {c:Code} {rs:List Nat} {N:Nat} {args:List Value} {h:H} {Q:Value→H→Prop} {Q1:Exit→T→H→Prop} (hf:P.funcs[f]?=some fn) (hb:fn.body=some c)
 (hrs:fn.results=(rs.map ResultVar.tmp).toArray) (hn:fn.ntmps=N) (hok:yk69 N true c=true) (hrN:rs.all (fun r=>Nat.blt r N)=true) (hlen:args.length≤N) (hk:Wp P N c Q1 (tinit args) h) (he:Q1=mkQ (retV rs Q) (retV rs Q) ke0):Spec P f args h Q:=by
 subst he
 exact y4iz hm hf hb hrs hn hok hrN hlen (ynkq c (fun e t h he=>by cases e <;> exact he) hk.ok)
end
end Go.Proofs.YtnckimioabkheaaGreat.AM
set_option linter.unusedSimpArgs false
set_option linter.unusedVariables false
namespace Go.Proofs.YtnckimioabkheaaGreat.AM
section
variable {P:Program}
def yxdv (P:Program) (op:Op):Nat :=
 match op with
 | .move _ | .assign _ | .pick _ _ _ | .nilCheck _ | .binOp _ _ _ _ _ | .unOp _ _ _ | .fieldAddr _ _ _ | .field _ _ _ | .indexAddr _ _ _ | .index _ _ _ | .extract _ _=>0
 | .convert s d _=>match P.underlying d,P.underlying s with
   | some (.int _),some (.int _)=>0
   | _,_=>3
 | .call c=>(match c.callee,c.args.toList,c.argTypes.toList with
   | .builtin .len,[_],[t]=>(match P.underlying t with
     | some .string | some (.slice _)=>0
     | _=>3)
   | _,_,_=>3)
 | .load _ _=>1
 | .store _ _ _=>2
 | _=>3
def Det (r:(Value→H→Prop)→H→Prop) (k:Nat):Prop :=
 ∀K h,r K h→∃v h',K v h'∧(k<2→h'=h)∧(∀ K',K' v h'→r K' h)∧(k=0→∀h2 K',K' v h2→r K' h2)
theorem yda3 {r:(Value→Prop)→Prop} {k:Nat} (h:∀K,r K→∃v,K v∧∀K',K' v→r K'):Det (fun K h=>r fun v=>K v h) k:=by
 intro K hh hr
 obtain ⟨v,h1,h2⟩:=h _ hr
 exact ⟨v,hh,h1,fun _=>rfl,fun K' hk=>h2 (fun v=>K' v hh) hk,fun _ h' K' hk=>h2 (fun v=>K' v h') hk⟩
theorem yzsl {x:Option Value} (K:Value→Prop) (h:yejp x K):∃v,K v∧∀K':Value→Prop,K' v→yejp x K':=by
 unfold yejp at *
 cases x with
 | none=>exact absurd h id
 | some v=>cases hs:selfV v <;> simp only [hs,cond_true,cond_false] at h ⊢;exact ⟨v,h,fun _ h=>h⟩
theorem y8ti {op:BinOp} {xt:TypeId} {x y:Value} (K:Value→Prop) (h:o_bin P op xt x y K):∃v,K v∧∀K':Value→Prop,K' v→o_bin P op xt x y K':=by
 unfold o_bin at *
 cases hb:(selfV x&&selfV y&&okEq P op xt x y) <;> simp only [hb,cond_true,cond_false] at h ⊢
 ·revert h
  split <;> intro h <;> first | exact ⟨_,h,fun _ h=>h⟩ | exact absurd h id
 ·exact yzsl K h
theorem y3ye {op:Op} {ρ:Operand→Value} (hk:yxdv P op<3):Det (fun K h=>aop P op ρ h K) (yxdv P op):=by
 cases op <;> simp only [yxdv] at hk <;> try exact absurd hk (by decide)
 case move=>exact yda3 fun K h=>⟨_,h,fun _ h=>h⟩
 case assign=>exact yda3 fun K h=>⟨_,h,fun _ h=>h⟩
 case pick c a b =>
  refine yda3 (r:=fun K=>yw1w (ρ c) (ρ a) (ρ b) K) fun K h=>?_
  revert h;unfold yw1w;split <;> intro h <;> first | exact ⟨_,h,fun _ h=>h⟩ | exact absurd h id
 case nilCheck x =>
  refine yda3 (r:=fun K=>yf21 (ρ x) K) fun K h=>?_
  revert h;unfold yf21;split <;> intro h <;> first | exact ⟨_,h,fun _ h=>h⟩ | exact absurd h id
 case binOp op xt x y p=>exact yda3 (r:=fun K=>o_bin P op xt (ρ x) (ρ y) K) fun K h=>y8ti K h
 case unOp op xt x =>
  refine yda3 (r:=fun K=>o_un P op (ρ x) K) fun K h=>?_
  unfold o_un at *
  cases hs:selfV (ρ x) <;> simp only [hs,cond_true,cond_false] at h ⊢
  exact yzsl K h
 case extract x i =>
  refine yda3 (r:=fun K=>ychn (ρ x) i K) fun K h=>?_
  revert h;unfold ychn;repeat' split
  all_goals intro h
  all_goals first | exact ⟨_,h,fun _ h=>h⟩ | exact absurd h id
 case fieldAddr s x f =>
  refine yda3 (r:=fun K=>match yw2z P s f with
   | some (off,ft)=>bif Nat.beq (szOf P ft) 0 then False else yokc off (ρ x) K
   | none=>False) fun K h=>?_
  revert h;unfold yokc;split
  ·rename_i off ft _
   cases Nat.beq (szOf P ft) 0 <;> simp only [cond_true,cond_false]
   ·split <;> intro h <;> first | exact ⟨_,h,fun _ h=>h⟩ | exact absurd h id
   ·intro h;exact absurd h id
  ·intro h;exact absurd h id
 case field s x f =>
  refine yda3 (r:=fun K=>match yw2z P s f with
   | some (off,ft)=>(match y8c6 P ft with | some (ag,n)=>ygzh ag n off (ρ x) K | none=>False)
   | none=>False) fun K h=>?_
  revert h;unfold ygzh;repeat' split
  all_goals intro h
  all_goals first | exact ⟨_,h,fun _ h=>h⟩ | exact absurd h id
 case indexAddr t x i =>
  refine yda3 (r:=fun K=>match P.underlying t with
   | some (.array n e)=>(match P.info? e with | some inf=>ys75 (some n) inf.size (ρ x) (ρ i) K | none=>False)
   | some (.slice e)=>(match P.info? e with | some inf=>ys75 none inf.size (ρ x) (ρ i) K | none=>False)
   | _=>False) fun K h=>?_
  revert h;unfold ys75;repeat' split
  all_goals intro h
  all_goals first | exact ⟨_,h.2.2,fun _ h'=>⟨h.1,h.2.1,h'⟩⟩ | exact absurd h id
 case index t x i =>
  refine yda3 (r:=fun K=>match P.underlying t with
   | some (.array n e)=>(match y8c6 P e with | some (ag,sz)=>y7od false n ag sz (ρ x) (ρ i) K | none=>False)
   | some .string=>y7od true 0 false 0 (ρ x) (ρ i) K
   | _=>False) fun K h=>?_
  revert h;unfold y7od;repeat' split
  all_goals intro h
  all_goals first | exact ⟨_,h.2.2.2,fun _ h'=>⟨h.1,h.2.1,h.2.2.1,h'⟩⟩ | exact ⟨_,h.2.2,fun _ h'=>⟨h.1,h.2.1,h'⟩⟩ | exact absurd h id | exact absurd h.2.2 id | exact absurd h.2.2.2 id
 case convert s d x =>
  revert hk
  split
  ·rename_i k k' h1 h2
   intro _
   have hkk:yxdv P (.convert s d x)=0:=by simp only [yxdv,h1,h2]
   rw [hkk]
   simp only [aop,h1,h2]
   refine yda3 (r:=fun K=>ykic k (ρ x) K) fun K h=>?_
   revert h;unfold ykic;split <;> intro h <;> first | exact ⟨_,h,fun _ h=>h⟩ | exact absurd h id
  ·intro h;exact absurd h (by decide)
 case call c =>
  revert hk
  unfold yxdv
  simp only
  split
  ·rename_i x ty hc ha hy
   split
   ·rename_i hu
    intro _
    simp only [aop,aCall,hc,ha,hy,hu]
    refine yda3 (r:=fun K=>ykwb (ρ x) K) fun K h=>?_
    revert h;unfold ykwb;split <;> intro h <;> first | exact ⟨_,h,fun _ h=>h⟩ | exact absurd h id
   ·rename_i e hu
    intro _
    simp only [aop,aCall,hc,ha,hy,hu]
    refine yda3 (r:=fun K=>yn0t (ρ x) K) fun K h=>?_
    revert h;unfold yn0t;split <;> intro h <;> first | exact ⟨_,h,fun _ h=>h⟩ | exact absurd h id
   ·intro h;exact absurd h (by decide)
  ·intro h;exact absurd h (by decide)
 case load t a =>
  intro K h hr
  simp only [aop] at hr ⊢
  revert hr
  split
  ·rename_i ag n _
   unfold ysm8
   split
   ·cases ag <;> simp only [cond_true,cond_false] <;> split <;> intro hr <;> first | exact ⟨_,_,hr,fun _=>rfl,fun _ h=>h,fun h=>absurd h (by simp [yxdv])⟩ | exact absurd hr id
   ·intro hr;exact absurd hr id
  ·intro hr;exact absurd hr id
 case store t a x =>
  intro K h hr
  simp only [aop] at hr ⊢
  revert hr
  split
  ·unfold yxd5
   split
   ·split
    ·intro hr
     exact ⟨_,_,hr.2.2.2.2,fun h=>absurd h (by simp [yxdv]),fun _ h=>⟨hr.1,hr.2.1,hr.2.2.1,hr.2.2.2.1,h⟩,fun h=>absurd h (by simp [yxdv])⟩
    ·intro hr;exact absurd hr id
   ·intro hr;exact absurd hr id
  ·intro hr;exact absurd hr id
theorem yi7n {ops:Array Oper} {o:Oper} {j:Nat} {w:Bool} {t t2:T} (hg:o.guard=some (j,w)) (ht:∀d∈o.looksAt ops,t d=t2 d):yreo ops j t=yreo ops j t2:=by
 unfold yreo
 cases hj:(ops[j]?).bind (·.dst) with
 | none=>rfl
 | some d =>
   refine ht d ?_
   unfold Oper.looksAt
   refine List.mem_append_right _ ?_
   simp only [hg,hj]
   simp
theorem yig2 {ops:Array Oper} {o:Oper} {t t2:T} (ht:∀d∈o.looksAt ops,t d=t2 d):∀x∈o.op.operands.toList,aev t x=aev t2 x:=by
 intro x hx
 cases x with
 | tmp i=>exact ht i (List.mem_append_left _ (List.mem_filterMap.2 ⟨.tmp i,hx,rfl⟩))
 | _=>rfl
theorem yjcn {t:T} {dst:Option Tmp} {v:Value} {d:Nat} (h:dst≠some d):tput t dst v d=t d:=by
 cases dst with
 | none=>rfl
 | some e =>
   have:Nat.beq d e=false:=by
    cases hq:Nat.beq d e with
    | false=>rfl
    | true=>exact absurd (congrArg some (Nat.eq_of_beq_eq_true hq)) (fun he=>h he.symm)
   simp [tput,tset,this]
theorem y7cf {t:T} {a b:Option Tmp} {v u:Value} (h:∀d,a=some d→b≠some d):tput (tput t a v) b u=tput (tput t b u) a v:=by
 funext d
 by_cases ha:a=some d
 ·rw [yjcn (h d ha),ha]
  simp [tput,tset]
 ·rw [yjcn ha (t:=tput t b u)]
  by_cases hb:b=some d
  ·rw [hb];simp [tput,tset]
  ·rw [yjcn hb,yjcn hb,yjcn ha]
def yral:Code→Array Oper | .region _ ops _=>ops | _ => #[]
def y6qa:Code→Bool | .region _ _ d=>d | _=>false
end
end Go.Proofs.YtnckimioabkheaaGreat.AM
set_option linter.unusedSimpArgs false
set_option linter.unusedVariables false
namespace Go.Proofs.YtnckimioabkheaaGreat.AM
def yr9x {α:Type} (u:α) (c:Value) (want:Bool) (op:(α→H→Prop)→Prop) (K:α→H→Prop) (h:H):Prop :=
 match c with
 | .bool b=>bif (b==want) then op K else K u h
 | _=>K u h
inductive FT where
 | nil
 | op (i:Nat) (r:FT)
 | grp (g:Nat) (w:Bool) (s r:FT)
def FT.flat:FT→List Nat
 | .nil=>[]
 | .op i r=>i::r.flat
 | .grp _ _ s r=>s.flat++r.flat
def dstAt (ops:Array Oper) (i:Nat):Option Tmp:=(ops[i]?).bind (·.dst)
def yfp8 (ops:Array Oper):List Nat→T→T
 | [],t=>t
 | i::r,t=>yfp8 ops r (match ops[i]? with | some o=>tput t o.dst undef | none=>t)
def fsem (P:Program) (ops:Array Oper):FT→(T→H→Prop)→T→H→Prop
 | .nil,K,t,h=>K t h
 | .op i r,K,t,h=>match ops[i]? with
   | some o=>aop P o.op (aev t) h fun v h=>fsem P ops r K (tput t o.dst v) h
   | none=>False
 | .grp g w s r,K,t,h=>match yreo ops g t with
   | .bool b=>bif b==w then fsem P ops s (fsem P ops r K) t h else fsem P ops r K (yfp8 ops s.flat t) h
   | _=>fsem P ops r K (yfp8 ops s.flat t) h
abbrev Acts:=List (Nat×Bool)
def fok (ops:Array Oper):Acts→List Nat→FT→Bool
 | _,_,.nil=>true
 | acts,seen,.op i r=>(match ops[i]? with
   | some o=>(match acts,o.guard with
      | [],none=>true
      | (g,w)::_,some (g',w')=>Nat.beq g g'&&w==w'
      | _,_=>false)&&acts.all (fun a=>match o.dst with | none=>true | some d=>match dstAt ops a.1 with | none=>true | some e=>!Nat.beq d e)
   | none=>false)&&fok ops acts (i::seen) r
 | acts,seen,.grp g w s r=>(match acts with | []=>true | _::_=>seen.any (Nat.beq g))&&fok ops ((g,w)::acts) [] s&&fok ops acts (s.flat++seen) r
def yfna (ops:Array Oper) (t:T) (a:Nat×Bool):Prop:=yreo ops a.1 t=.bool a.2
def idleA (ops:Array Oper) (t:T) (a:Nat×Bool):Prop:=∀b,yreo ops a.1 t=.bool b→(b==a.2)=false
section
variable {P:Program} {ops:Array Oper}
theorem ydd0 {K:T→H→Prop}:∀(a b:List Nat) (t:T) (h:H),aOps P ops (a++b) K t h=aOps P ops a (aOps P ops b K) t h
 | [],_,_,_=>rfl
 | i::a,b,t,h=>by
   show aStep P ops i (aOps P ops (a++b) K) t h=aStep P ops i (aOps P ops a (aOps P ops b K)) t h
   congr 1
   funext t h
   exact ydd0 a b t h
theorem ybrc {j:Nat} {t:T} {d:Option Tmp} {v:Value} (hd:∀x,d=some x→dstAt ops j≠some x):yreo ops j (tput t d v)=yreo ops j t:=by
 unfold yreo
 unfold dstAt at hd
 cases hj:(ops[j]?).bind (·.dst) with
 | none=>rfl
 | some e=>exact yjcn fun he=>hd e he hj
theorem yflr {j:Nat} {t:T} {d:Option Tmp}:yreo ops j (tput t d undef)=undef∨yreo ops j (tput t d undef)=yreo ops j t:=by
 unfold yreo
 cases hj:(ops[j]?).bind (·.dst) with
 | none=>exact .inl rfl
 | some e =>
   by_cases he:d=some e
   ·subst he;exact .inl (by simp [tput,tset])
   ·exact .inr (yjcn he)
theorem yemb {t:T} {d:Option Tmp} {a:Nat×Bool} (hi:idleA ops t a):idleA ops (tput t d undef) a:=by
 intro b hb
 rcases yflr (ops:=ops) (j:=a.1) (t:=t) (d:=d) with h | h
 ·rw [h] at hb;simp [undef] at hb
 ·rw [h] at hb;exact hi b hb
theorem yylk:∀(a b:List Nat) (t:T),yfp8 ops (a++b) t=yfp8 ops b (yfp8 ops a t)
 | [],_,_=>rfl
 | _::a,b,_=>yylk a b _
theorem yf2e {j:Nat}:∀(l:List Nat) (t:T),yreo ops j (yfp8 ops l t)=undef∨yreo ops j (yfp8 ops l t)=yreo ops j t
 | [],_=>.inr rfl
 | i::l,t=>by
   unfold yfp8
   cases ho:ops[i]? with
   | none=>exact yf2e l t
   | some o =>
     rcases yf2e (j:=j) l (tput t o.dst undef) with h | h
     ·exact .inl h
     ·rcases yflr (ops:=ops) (j:=j) (t:=t) (d:=o.dst) with h2 | h2
      ·exact .inl (by simp only [h,h2])
      ·exact .inr (by simp only [h,h2])
theorem y9sy {j:Nat} {t:T} {o:Oper} (ho:ops[j]?=some o):yreo ops j (tput t o.dst undef)=undef:=by
 unfold yreo
 simp only [ho,Option.bind_some]
 cases hd:o.dst with
 | none=>rfl
 | some d=>simp [tput,tset]
theorem ypuc {j:Nat}:∀(l:List Nat) (t:T),j∈l→yreo ops j (yfp8 ops l t)=undef
 | [],_,h=>by cases h
 | i::l,t,hm=>by
   unfold yfp8
   by_cases hl:j∈l
   ·exact ypuc l _ hl
   ·have hji:j=i:=(List.mem_cons.1 hm).resolve_right hl
    subst hji
    cases ho:ops[j]? with
    | none =>
      have:∀t,yreo ops j t=undef:=fun t=>by simp [yreo,ho]
      exact this _
    | some o =>
      rcases yf2e (ops:=ops) (j:=j) l (tput t o.dst undef) with h | h
      ·exact h
      ·simp only [h];exact y9sy ho
theorem ycx2 {K:T→H→Prop}:∀(s:FT) (a:Nat×Bool) (acts:Acts) (seen:List Nat) {t:T} {h:H},fok ops (a::acts) seen s=true→idleA ops t a→(∀ j∈seen,yreo ops j t=undef) →
 K (yfp8 ops s.flat t) h→aOps P ops s.flat K t h:=by
 intro s
 induction s generalizing K with
 | nil=>intro a acts seen t h _ _ _ hk;exact hk
 | op i r ih =>
   intro a acts seen t h hf hi hs hk
   simp only [fok,Bool.and_eq_true] at hf
   cases ho:ops[i]? with
   | none=>rw [ho] at hf;cases hf.1
   | some o =>
     rw [ho] at hf
     simp only [Bool.and_eq_true] at hf
     obtain ⟨⟨h1,_⟩,h3⟩:=hf
     show aStep P ops i (aOps P ops r.flat K) t h
     unfold aStep
     simp only [ho]
     cases hg:o.guard with
     | none=>rw [hg] at h1;cases h1
     | some g =>
       obtain ⟨g,w⟩:=g
       rw [hg] at h1
       obtain ⟨ag,aw⟩:=a
       simp only [Bool.and_eq_true,beq_iff_eq] at h1
       have e1:=Nat.eq_of_beq_eq_true h1.1
       have e2:=h1.2
       subst e1;subst e2
       have hk2:aOps P ops r.flat K (tput t o.dst undef) h:=by
        refine ih (ag,aw) acts (i::seen) h3 (yemb hi) ?_ ?_
        ·intro j hj
         rcases List.mem_cons.1 hj with rfl | hj
         ·exact y9sy ho
         ·rcases yflr (ops:=ops) (j:=j) (t:=t) (d:=o.dst) with h | h
          ·exact h
          ·rw [h];exact hs j hj
        ·have:yfp8 ops (FT.op i r).flat t=yfp8 ops r.flat (tput t o.dst undef):=by
          show yfp8 ops (i::r.flat) t=_
          simp [yfp8,ho]
         rw [this] at hk;exact hk
       show yy7w (yreo ops ag t) aw _ (fun v h=>aOps P ops r.flat K (tput t o.dst v) h) h
       unfold yy7w
       split
       ·rename_i b hb
        rw [hi b hb,cond_false];exact hk2
       ·exact hk2
 | grp g w s r ihs ihr =>
   intro a acts seen t h hf hi hs hk
   simp only [fok,Bool.and_eq_true] at hf
   obtain ⟨⟨h1,h2⟩,h3⟩:=hf
   show aOps P ops (s.flat++r.flat) K t h
   rw [ydd0]
   have hgm:g∈seen:=by
    obtain ⟨x,hx,he⟩:=List.any_eq_true.1 h1
    rw [Nat.eq_of_beq_eq_true he];exact hx
   refine ihs (g,w) (a::acts) [] h2 ?_ (fun _ hj=>absurd hj (by simp)) ?_
   ·intro b hb
    rw [hs g hgm] at hb;simp [undef] at hb
   ·refine ihr a acts (s.flat++seen) h3 ?_ ?_ ?_
    ·intro b hb
     rcases yf2e (ops:=ops) (j:=a.1) s.flat t with h | h
     ·rw [h] at hb;simp [undef] at hb
     ·rw [h] at hb;exact hi b hb
    ·intro j hj
     rcases List.mem_append.1 hj with hj | hj
     ·exact ypuc _ _ hj
     ·rcases yf2e (ops:=ops) (j:=j) s.flat t with h | h
      ·exact h
      ·rw [h];exact hs j hj
    ·rw [← yylk];exact hk
theorem yod8 {a:Nat×Bool}:∀(s:FT) (acts:Acts) (seen:List Nat),fok ops acts seen s=true→a∈acts→∀i∈s.flat,∀o,ops[i]?=some o→∀d,o.dst=some d→dstAt ops a.1≠some d:=by
 intro s
 induction s with
 | nil=>intro acts seen _ _ i hi;cases hi
 | op j r ih =>
   intro acts seen hf ha i hi o ho d hd
   simp only [fok,Bool.and_eq_true] at hf
   rcases List.mem_cons.1 hi with rfl | hi
   ·rw [ho] at hf
    simp only [Bool.and_eq_true] at hf
    have:=List.all_eq_true.1 hf.1.2 a ha
    rw [hd] at this
    intro he
    rw [he] at this
    simp at this
   ·exact ih acts _ hf.2 ha i hi o ho d hd
 | grp g w s r ihs ihr =>
   intro acts seen hf ha i hi o ho d hd
   simp only [fok,Bool.and_eq_true] at hf
   rcases List.mem_append.1 hi with hi | hi
   ·exact ihs _ _ hf.1.2 (List.mem_cons_of_mem _ ha) i hi o ho d hd
   ·exact ihr _ _ hf.2 ha i hi o ho d hd
theorem y3zk {a:Nat×Bool}:∀(l:List Nat) {t:T},(∀ i∈l,∀o,ops[i]?=some o→∀d,o.dst=some d→dstAt ops a.1≠some d)→yfna ops t a→yfna ops (yfp8 ops l t) a
 | [],_,_,hw=>hw
 | i::l,t,hd,hw=>by
   unfold yfp8
   refine y3zk l (fun j hj=>hd j (List.mem_cons_of_mem _ hj)) ?_
   cases ho:ops[i]? with
   | none=>exact hw
   | some o =>
     show yreo ops a.1 (tput t o.dst undef)=_
     rw [ybrc fun x hx=>hd i (List.mem_cons_self ..) o ho x hx];exact hw
theorem yz4d:∀(s:FT) (acts:Acts) (seen:List Nat) {K1 K2:T→H→Prop} {t:T} {h:H},fok ops acts seen s=true→(∀ a∈acts,yfna ops t a) →
 (∀ t h,(∀ a∈acts,yfna ops t a)→K1 t h→K2 t h)→fsem P ops s K1 t h→aOps P ops s.flat K2 t h:=by
 intro s
 induction s with
 | nil=>intro acts seen K1 K2 t h _ hw hk hs;exact hk _ _ hw hs
 | op i r ih =>
   intro acts seen K1 K2 t h hf hw hk hs
   have hf':=hf
   simp only [fok,Bool.and_eq_true] at hf
   unfold fsem at hs
   cases ho:ops[i]? with
   | none=>rw [ho] at hs;exact absurd hs id
   | some o =>
     rw [ho] at hs hf
     simp only [Bool.and_eq_true] at hf hs
     obtain ⟨⟨h1,h2⟩,h3⟩:=hf
     show aStep P ops i (aOps P ops r.flat K2) t h
     have hop:aop P o.op (aev t) h fun v h=>aOps P ops r.flat K2 (tput t o.dst v) h:=by
      refine yoh7 (fun v h hh=>ih acts (i::seen) h3 (fun a ha=>?_) hk hh) hs
      show yreo ops a.1 (tput t o.dst v)=_
      rw [ybrc fun x hx=>yod8 (.op i r) acts seen hf' ha i (List.mem_cons_self ..) o ho x hx]
      exact hw a ha
     unfold aStep
     simp only [ho]
     cases hg:o.guard with
     | none=>exact hop
     | some g =>
       obtain ⟨g,w⟩:=g
       cases acts with
       | nil=>rw [hg] at h1;cases h1
       | cons a acts =>
         obtain ⟨ag,aw⟩:=a
         rw [hg] at h1
         simp only [Bool.and_eq_true,beq_iff_eq] at h1
         have e1:=Nat.eq_of_beq_eq_true h1.1
         have e2:=h1.2
         subst e1;subst e2
         have hwa:=hw (ag,aw) (List.mem_cons_self ..)
         unfold yfna at hwa
         simp only at hwa ⊢
         show yy7w (yreo ops ag t) aw _ (fun v h=>aOps P ops r.flat K2 (tput t o.dst v) h) h
         unfold yy7w
         rw [hwa]
         simp only [beq_self_eq_true,cond_true]
         exact hop
 | grp g w s r ihs ihr =>
   intro acts seen K1 K2 t h hf hw hk hs
   simp only [fok,Bool.and_eq_true] at hf
   obtain ⟨⟨h1,h2⟩,h3⟩:=hf
   show aOps P ops (s.flat++r.flat) K2 t h
   rw [ydd0]
   unfold fsem at hs
   have helse:idleA ops t (g,w)→fsem P ops r K1 (yfp8 ops s.flat t) h→aOps P ops s.flat (aOps P ops r.flat K2) t h:=by
    intro hi hs
    have hr:aOps P ops r.flat K2 (yfp8 ops s.flat t) h:=ihr acts _ h3 (fun a ha=>y3zk _ (yod8 s _ _ h2 (List.mem_cons_of_mem _ ha)) (hw a ha)) hk hs
    exact ycx2 s (g,w) acts [] h2 hi (fun _ hj=>absurd hj (by simp)) hr
   split at hs
   ·rename_i b hb
    cases hbw:(b==w) with
    | true =>
      rw [hbw,cond_true] at hs
      refine ihs ((g,w)::acts) [] h2 ?_ ?_ hs
      ·intro a ha
       rcases List.mem_cons.1 ha with rfl | ha
       ·unfold yfna;rw [hb,eq_of_beq hbw]
       ·exact hw a ha
      ·intro t h hw' hh
       exact ihr acts _ h3 (fun a ha=>hw' a (List.mem_cons_of_mem _ ha)) hk hh
    | false =>
      rw [hbw,cond_false] at hs
      exact helse (fun b' hb'=>by rw [hb] at hb';cases hb';exact hbw) hs
   ·rename_i hnb
    exact helse (fun b' hb'=>absurd hb' (hnb b')) hs
def yx90 (ops:Array Oper) (g:Nat) (w:Bool):List Nat→List Nat→Nat
 | _,[]=>0
 | seen,j::r=>match (ops[j]?).bind (·.guard) with
   | none=>0
   | some (g',w')=>bif (Nat.beq g g'&&(w==w'))||seen.any (Nat.beq g') then yx90 ops g w (j::seen) r+1 else 0
def mkF (ops:Array Oper):Nat→Option (Nat×Bool)→List Nat→FT
 | 0,_,_=>.nil
 | _,_,[]=>.nil
 | n+1,act,i::r=>match (ops[i]?).bind (·.guard) with
   | none=>.op i (mkF ops n act r)
   | some (g,w)=>bif (match act with | some (g',w')=>Nat.beq g g'&&(w==w') | none=>false) then .op i (mkF ops n act r)
     else .grp g w (mkF ops n (some (g,w)) ((i::r).take (yx90 ops g w [] (i::r)))) (mkF ops n act ((i::r).drop (yx90 ops g w [] (i::r))))
def yopl (ops:Array Oper):FT:=mkF ops (2*ops.size+2) none (List.range ops.size)
def eqL:List Nat→List Nat→Bool
 | [],[]=>true
 | a::l,b::m=>Nat.beq a b&&eqL l m
 | _,_=>false
theorem ympc:∀{l m:List Nat},eqL l m=true→l=m
 | [],[],_=>rfl
 | a::l,b::m,h=>by
   simp only [eqL,Bool.and_eq_true] at h
   rw [Nat.eq_of_beq_eq_true h.1,ympc h.2]
 | [],_::_,h=>by cases h
 | _::_,[],h=>by cases h
def fReg (P:Program) (ops:Array Oper) (K:T→H→Prop) (t:T) (h:H):Prop :=
 bif fok ops [] [] (yopl ops)&&eqL (yopl ops).flat (List.range ops.size) then fsem P ops (yopl ops) K t h else aOps P ops (List.range ops.size) K t h
theorem yf6n {K:T→H→Prop} {t:T} {h:H} (hr:fReg P ops K t h):aOps P ops (List.range ops.size) K t h:=by
 unfold fReg at hr
 cases hq:(fok ops [] [] (yopl ops)&&eqL (yopl ops).flat (List.range ops.size)) with
 | false=>rw [hq,cond_false] at hr;exact hr
 | true =>
   rw [hq,cond_true] at hr
   simp only [Bool.and_eq_true] at hq
   rw [← ympc hq.2]
   exact yz4d _ [] [] hq.1 (fun _ ha=>absurd ha (by simp)) (fun _ _ _ h=>h) hr
end
def fwp (P:Program) (N:Nat):Code→(Exit→T→H→Prop)→T→H→Prop
 | .skip,Q,t,h=>Q .normal t h
 | .region id ops draw,Q,t,h=>bif draw then awp P N (.region id ops draw) Q t h else fReg P ops (Q .normal) t h
 | .seq a b,Q,t,h=>fwp P N a (athen (fwp P N b Q) Q) t h
 | .cond c x y,Q,t,h=>o_if (aev t c) (fwp P N x Q t h) (fwp P N y Q t h)
 | .block id c,Q,t,h=>fwp P N c (yr2p id Q) t h
 | .loop c,Q,t,h=>sloop (fun t h K=>fwp P N c (athen K Q) t h) t h
 | .exit id,Q,t,h=>Q (.exit id) t h
 | .ret,Q,t,h=>Q .ret t h
 | .label _,Q,t,h=>Q .normal t h
 | .rangeFunc g ps assign body,Q,t,h=>awp P N (.rangeFunc g ps assign body) Q t h
 | _,_,_,_=>False
theorem yj1x {P:Program} {N:Nat}:∀(c:Code) {Q:Exit→T→H→Prop} {t:T} {h:H},fwp P N c Q t h→awp P N c Q t h:=by
 intro c
 induction c with
 | skip=>intro Q t h ho;exact ho
 | label l=>intro Q t h ho;exact ho
 | exit id=>intro Q t h ho;exact ho
 | ret=>intro Q t h ho;exact ho
 | goto l=>intro Q t h ho;exact ho
 | refuse s=>intro Q t h ho;exact ho
 | scope c ih=>intro Q t h ho;exact ho
 | region id ops draw =>
   intro Q t h ho
   cases draw with
   | false=>exact yf6n ho
   | true=>exact ho
 | seq a b iha ihb =>
   intro Q t h ho
   exact ynkq a (y3yz (fun t h hh=>ihb hh) fun _ _ _ h=>h) (iha ho)
 | cond c x y ihx ihy =>
   intro Q t h ho
   show o_if (aev t c) (awp P N x Q t h) (awp P N y Q t h)
   have ho':o_if (aev t c) (fwp P N x Q t h) (fwp P N y Q t h):=ho
   unfold o_if at *
   revert ho'
   split
   ·rename_i b _
    cases b
    ·exact ihy
    ·exact ihx
   ·exact id
 | block id c ih=>intro Q t h ho;exact ih ho
 | loop c ih=>intro Q t h ho;exact y83t (fun t h K hh=>ih hh) ho
 | rangeFunc g ps assign body=>intro Q t h ho;exact ho
section
variable {P:Program}
theorem wpEqF {N:Nat} {Q:Exit→T→H→Prop} {c:Code} {t:T} {h:H} {A:Prop} (h0:A) (e:A=fwp P N c Q t h):Wp P N c Q t h:=⟨yj1x c (e▸h0)⟩
def fwpTo (P:Program) (N:Nat):Nat→Code→(T→H→Prop)→(Exit→T→H→Prop)→T→H→Prop
 | 0,_,K,_=>K
 | n+1,c,K,Q=>fwp P N (seqL c) (athen (fwpTo P N n (seqR c) K Q) Q)
theorem y792 {N:Nat} {Q:Exit→T→H→Prop} {K:T→H→Prop}:∀(n:Nat) {c:Code} {t:T} {h:H},fwpTo P N n c K Q t h→awpTo P N n c K Q t h
 | 0,_,_,_,ho=>ho
 | n+1,c,_,_,ho=>ynkq (seqL c) (y3yz (fun _ _ hh=>y792 n hh) fun _ _ _ h=>h) (yj1x _ ho)
theorem y3i4 {N:Nat} {Q:Exit→T→H→Prop} {K:T→H→Prop} (n:Nat) {c:Code} {t:T} {h:H} {A:Prop} (h0:A) (hi:isRow n c=true) (hk:∀t h,K t h→Wp P N (rest n c) Q t h) (e:A=fwpTo P N n c K Q t h):Wp P N c Q t h :=
 y0st n (A:=awpTo P N n c K Q t h) (y792 n (e▸h0)) hi hk rfl
end
end Go.Proofs.YtnckimioabkheaaGreat.AM
set_option linter.unusedSimpArgs false
set_option linter.unusedVariables false
namespace Go.Proofs.YtnckimioabkheaaGreat.AM
section
variable {P:Program}
theorem yhp2 {op:BinOp} {t:TypeId} {x y v:Value} {K:Value→Prop} (h:(selfV x&&selfV y&&okEq P op t x y)=true) (hr:binOp op t x y=pure v) (hs:selfV v=true):o_bin P op t x y K=K v:=by
 unfold o_bin yejp
 rw [h,hr]
 show (bif selfV v then K v else False)=K v
 rw [hs,cond_true]
theorem un_of {op:UnOp} {x v:Value} {K:Value→Prop} (h:selfV x=true) (hr:Op.unary op x=pure v) (hs:selfV v=true):o_un P op x K=K v:=by
 unfold o_un yejp
 rw [h,hr]
 show (bif selfV v then K v else False)=K v
 rw [hs,cond_true]
theorem yc02 {t:TypeId} {k:IntKind} {a b:Int} {K:Value→Prop}:o_bin P .eql t (.int k a) (.int k b) K=K (.bool (decide (a=b))) :=
 yhp2 rfl (by simp [binOp,Op.intCmp];rfl) rfl
theorem ym6s {t:TypeId} {k:IntKind} {a b:Int} {K:Value→Prop}:o_bin P .neq t (.int k a) (.int k b) K=K (.bool (!decide (a=b))) :=
 yhp2 rfl (by simp [binOp,Op.intCmp];rfl) rfl
theorem y5aw {t:TypeId} {k:IntKind} {a b:Int} {K:Value→Prop}:o_bin P .lss t (.int k a) (.int k b) K=K (.bool (decide (a<b))) :=
 yhp2 rfl (by simp [binOp,Op.intCmp]) rfl
theorem y3lr {t:TypeId} {k:IntKind} {a b:Int} {K:Value→Prop}:o_bin P .leq t (.int k a) (.int k b) K=K (.bool (decide (a≤b))) :=
 yhp2 rfl (by simp [binOp,Op.intCmp]) rfl
theorem ypzw {t:TypeId} {k:IntKind} {a b:Int} {K:Value→Prop}:o_bin P .gtr t (.int k a) (.int k b) K=K (.bool (decide (b<a))) :=
 yhp2 rfl (by simp [binOp,Op.intCmp]) rfl
theorem y3pi {t:TypeId} {k:IntKind} {a b:Int} {K:Value→Prop}:o_bin P .geq t (.int k a) (.int k b) K=K (.bool (decide (b≤a))) :=
 yhp2 rfl (by simp [binOp,Op.intCmp]) rfl
theorem y642 {t:TypeId} {k:IntKind} {a b:Int} {K:Value→Prop}:o_bin P .add t (.int k a) (.int k b) K=K (.int k (k.wrap (a+b))) :=
 yhp2 rfl (by simp [binOp,Op.intArith]) rfl
theorem yy2q {t:TypeId} {k:IntKind} {a b:Int} {K:Value→Prop}:o_bin P .sub t (.int k a) (.int k b) K=K (.int k (k.wrap (a-b))) :=
 yhp2 rfl (by simp [binOp,Op.intArith]) rfl
theorem y05p {t:TypeId} {k:IntKind} {a b:Int} {K:Value→Prop}:o_bin P .mul t (.int k a) (.int k b) K=K (.int k (k.wrap (a*b))) :=
 yhp2 rfl (by simp [binOp,Op.intArith]) rfl
theorem ysv1 {t:TypeId} {k:IntKind} {a b:Int} {K:Value→Prop} (hb:b≠0):o_bin P .quo t (.int k a) (.int k b) K=K (.int k (k.wrap (a.tdiv b))) :=
 yhp2 rfl (by simp [binOp,Op.intDiv,hb]) rfl
theorem yaat {t:TypeId} {k:IntKind} {a b:Int} {K:Value→Prop} (hb:b≠0):o_bin P .rem t (.int k a) (.int k b) K=K (.int k (a.tmod b)) :=
 yhp2 rfl (by simp [binOp,Op.intDiv,hb]) rfl
theorem yckh {t:TypeId} {k:IntKind} {a b:Int} {K:Value→Prop}:o_bin P .and t (.int k a) (.int k b) K=K (.int k (k.wrap (BitVec.ofInt k.bits a &&& BitVec.ofInt k.bits b).toNat)) :=
 yhp2 rfl (by simp [binOp,Op.intBits]) rfl
theorem y3hr {t:TypeId} {k:IntKind} {a b:Int} {K:Value→Prop}:o_bin P .or t (.int k a) (.int k b) K=K (.int k (k.wrap (BitVec.ofInt k.bits a ||| BitVec.ofInt k.bits b).toNat)) :=
 yhp2 rfl (by simp [binOp,Op.intBits]) rfl
theorem y9yr {t:TypeId} {k:IntKind} {a b:Int} {K:Value→Prop}:o_bin P .xor t (.int k a) (.int k b) K=K (.int k (k.wrap (BitVec.ofInt k.bits a ^^^ BitVec.ofInt k.bits b).toNat)) :=
 yhp2 rfl (by simp [binOp,Op.intBits]) rfl
theorem ylo4 {t:TypeId} {k:IntKind} {a b:Int} {K:Value→Prop}:o_bin P .andNot t (.int k a) (.int k b) K=K (.int k (k.wrap (BitVec.ofInt k.bits a &&& ~~~(BitVec.ofInt k.bits b)).toNat)) :=
 yhp2 rfl (by simp [binOp,Op.intBits]) rfl
theorem yxv9 {t:TypeId} {k k':IntKind} {a b:Int} {K:Value→Prop} (hb:0≤b):o_bin P .shl t (.int k a) (.int k' b) K=K (.int k (k.wrap (a*2^(min b.toNat k.bits)))) :=
 yhp2 rfl (by simp [binOp,Op.shift,show ¬b<0 by omega]) rfl
theorem y0c1 {t:TypeId} {k k':IntKind} {a b:Int} {K:Value→Prop} (hb:0≤b):o_bin P .shr t (.int k a) (.int k' b) K=K (.int k (a.fdiv (2^(min b.toNat k.bits)))) :=
 yhp2 rfl (by simp [binOp,Op.shift,show ¬b<0 by omega]) rfl
theorem yvbp {b:Bool} {K:Value→Prop}:o_un P .not (.bool b) K=K (.bool (!b)):=un_of rfl rfl rfl
theorem yx6p {k:IntKind} {n:Int} {K:Value→Prop}:o_un P .neg (.int k n) K=K (.int k (k.wrap (0-n))):=un_of rfl rfl rfl
theorem ykm3 {b:Bool} {A B:Prop}:o_if (.bool b) A B=if b=true then A else B:=by cases b <;> rfl
theorem y9b4 {b:Bool} {x y:Value} {K:Value→Prop}:yw1w (.bool b) x y K=K (bif b then x else y):=rfl
def o_and (c:Value) (op:(Value→H→Prop)→Prop) (K:Value→H→Prop) (h:H):Prop :=
 match c with
 | .bool b=>bif b then op K else K (.bool false) h
 | _=>False
def o_or (c:Value) (op:(Value→H→Prop)→Prop) (K:Value→H→Prop) (h:H):Prop :=
 match c with
 | .bool b=>bif b then K (.bool true) h else op K
 | _=>False
theorem yu2d {a:Bool} {op:(Value→H→Prop)→Prop} {K:Value→H→Prop} {h:H}:yy7w (.bool a) true op (fun v h=>yw1w (.bool a) v (.bool false) fun y=>K y h) h=o_and (.bool a) op K h:=by
 cases a <;> rfl
theorem yku0 {a:Bool} {op:(Value→H→Prop)→Prop} {K:Value→H→Prop} {h:H}:yy7w (.bool a) false op (fun v h=>yw1w (.bool a) (.bool true) v fun y=>K y h) h=o_or (.bool a) op K h:=by
 cases a <;> rfl
theorem ynyz {a b:Bool} {K:Value→H→Prop} {h:H}:o_and (.bool a) (fun k=>k (.bool b) h) K h=K (.bool (a&&b)) h:=by cases a <;> rfl
theorem y4yh {a b:Bool} {K:Value→H→Prop} {h:H}:o_or (.bool a) (fun k=>k (.bool b) h) K h=K (.bool (a||b)) h:=by cases a <;> rfl
theorem yigx {a b:Bool} {op:(Value→H→Prop)→Prop} {K:Value→H→Prop} {h:H} (hop:a=true→∀K:Value→H→Prop,K (.bool b) h→op K) (hk:K (.bool (a&&b)) h):o_and (.bool a) op K h:=by
 cases a
 ·exact hk
 ·exact hop rfl K hk
theorem or_op {a b:Bool} {op:(Value→H→Prop)→Prop} {K:Value→H→Prop} {h:H} (hop:a=false→∀K:Value→H→Prop,K (.bool b) h→op K) (hk:K (.bool (a||b)) h):o_or (.bool a) op K h:=by
 cases a
 ·exact hop rfl K hk
 ·exact hk
theorem if_or {a b:Bool} {f:Value→H→Prop} {h:H}:o_if (.bool a) (f (.bool a) h) (f (.bool b) h)=f (.bool (a||b)) h:=by cases a <;> rfl
theorem y4j6 {k k':IntKind} {n:Int} {K:Value→Prop}:ykic k (.int k' n) K=K (.int k (k.wrap n)):=rfl
theorem yicc {b:Option Addr} {n c:Nat} {K:Value→Prop}:yn0t (.slice b n c) K=K (.int .i64 n):=rfl
theorem ex0 {a b:Value} {K:Value→Prop}:ychn (.tuple #[a,b]) 0 K=K a:=rfl
theorem ex1 {a b:Value} {K:Value→Prop}:ychn (.tuple #[a,b]) 1 K=K b:=rfl
theorem ex0' {a b c:Value} {K:Value→Prop}:ychn (.tuple #[a,b,c]) 0 K=K a:=rfl
theorem ex1' {a b c:Value} {K:Value→Prop}:ychn (.tuple #[a,b,c]) 1 K=K b:=rfl
theorem ex2' {a b c:Value} {K:Value→Prop}:ychn (.tuple #[a,b,c]) 2 K=K c:=rfl
theorem y2i1 {off b o:Nat} {K:Value→Prop}:yokc off (.pointer (some ⟨b,o,none⟩)) K=K (.pointer (some ⟨b,o+off,none⟩)):=rfl
theorem y5x9 {size b o n c:Nat} {i:Int} {k:IntKind} {K:Value→Prop} (h0:0≤i) (h1:i<n):ys75 none size (.slice (some ⟨b,o,none⟩) n c) (.int k i) K=K (.pointer (some ⟨b,o+i.toNat*size,none⟩)):=by
 simp [ys75,h0,h1]
theorem yeaw {size b o n:Nat} {i:Int} {k:IntKind} {K:Value→Prop} (h0:0≤i) (h1:i<n):ys75 (some n) size (.pointer (some ⟨b,o,none⟩)) (.int k i) K=K (.pointer (some ⟨b,o+i.toNat*size,none⟩)):=by
 simp [ys75,h0,h1]
theorem ycro {n b o:Nat} {h:H} {v:Value} {K:Value→Prop} (hc:cellAt h b o=some v):ysm8 false n (.pointer (some ⟨b,o,none⟩)) h K=K v:=by
 simp [ysm8,hc]
theorem yw71 {n b o:Nat} {h:H} {l:List Value} {K:Value→Prop} (hc:cellsAt h b o n=some l):ysm8 true n (.pointer (some ⟨b,o,none⟩)) h K=K (.agg l.toArray):=by
 simp [ysm8,hc]
theorem yv4b {n b o:Nat} {h:H} {v:Value} {cs:List Value} {E:TypeId} {m:Own} {K:H→Prop} (hb:h b=some (.cells cs E m)) (hm:m≠.ro) (hv:boxV v=true) (hs:v.cells.size=n) (hl:o+n≤cs.length) :
 yxd5 n (.pointer (some ⟨b,o,none⟩)) v h K=K (upd h b (.cells (setL cs o v.cells.toList) E m)):=by
 simp [yxd5,hb,hm,hv,hs,hl]
theorem y525 {n b o:Nat} {h:H} {cs:List Value} {E:TypeId} {m:Own} {K:Value→Prop}:ysm8 false n (.pointer (some ⟨b,o,none⟩)) (upd h b (.cells cs E m)) K=(match cs[o]? with | some v=>K v | none=>False):=by
 have e:AM.cellAt (upd h b (.cells cs E m)) b o=cs[o]?:=by simp [AM.cellAt,upd]
 show (match AM.cellAt (upd h b (.cells cs E m)) b o with | some v=>K v | none=>False)=_
 rw [e]
theorem y8ge {ag:Bool} {n b c o:Nat} {h:H} {q:AObj} {K:Value→Prop} (hc:c≠b):ysm8 ag n (.pointer (some ⟨c,o,none⟩)) (upd h b q) K=ysm8 ag n (.pointer (some ⟨c,o,none⟩)) h K:=by
 simp [ysm8,AM.cellAt,AM.cellsAt,upd,hc]
theorem y2pr {n b:Nat} {h:H} {cs:List Value} {E:TypeId} {m:Own} {K:Value→Prop} (hn:cs.length=n):ysm8 true n (.pointer (some ⟨b,0,none⟩)) (upd h b (.cells cs E m)) K=K (.agg cs.toArray):=by
 subst hn
 simp [ysm8,AM.cellsAt,upd]
theorem y7yb {b:Bool}:boxV (.bool b)=true:=rfl
theorem yhlb {k:IntKind} {n:Int}:boxV (.int k n)=true:=rfl
theorem y5i6 {a:Array Value}:boxV (.agg a)=true:=rfl
theorem bx_sl {a:Option Addr} {n c:Nat}:boxV (.slice a n c)=true:=rfl
theorem yn96 {a:Option Addr}:boxV (.pointer a)=true:=rfl
theorem y45v {a:Option Nat}:boxV (.map a)=true:=rfl
theorem ypw1 {s:ByteArray}:boxV (.string s)=true:=rfl
theorem y3av {f:Fn} {a b:Array Value}:boxV (.func f a b)=true:=rfl
theorem y76g {k:IntKind} {n:Int} (h1:k.min≤n) (h2:n≤k.max):k.wrap n=n:=by
 cases k <;> simp [IntKind.min,IntKind.max,IntKind.wrap,IntKind.signed,IntKind.bits] at * <;> first | (split <;> omega) | omega
theorem ynux {n:Int} (h1 : -9223372036854775808≤n) (h2:n<9223372036854775808):IntKind.wrap .i64 n=n:=by
 refine y76g ?_ ?_ <;> simp [IntKind.min,IntKind.max,IntKind.signed,IntKind.bits] <;> omega
def Sub (h h':H):Prop:=∀b o,h b=some o→h' b=some o
theorem Sub.refl (h:H):Sub h h:=fun _ _ h=>h
theorem Sub.trans {a b c:H} (h1:Sub a b) (h2:Sub b c):Sub a c:=fun x o h=>h2 _ _ (h1 _ _ h)
theorem Sub.new {h:H} {b:Nat} {o:AObj} (hb:h b=Option.none):Sub h (AM.upd h b o):=by
 intro c q hc
 have:c≠b:=fun e=>by rw [e,hb] at hc;cases hc
 rw [yrkk _ _ this];exact hc
theorem Sub.none {h h':H} (hs:Sub h h') {b:Nat} (hb:h' b=none):h b=none:=by
 cases hq:h b with
 | none=>rfl
 | some o=>rw [hs _ _ hq] at hb;cases hb
theorem Sub.upd {h h':H} (hs:Sub h h') {b:Nat} {o:AObj} (hb:h b=Option.none):Sub h (upd h' b o):=by
 intro c q hc
 have:c≠b:=fun e=>by rw [e,hb] at hc;cases hc
 rw [yrkk _ _ this];exact hs _ _ hc
theorem Sub.cellsAt {h h':H} (hs:Sub h h') {b o n:Nat} {l:List Value} (hc:cellsAt h b o n=some l):cellsAt h' b o n=some l:=by
 unfold AM.cellsAt at *
 cases hq:h b with
 | none=>rw [hq] at hc;cases hc
 | some q=>rw [hs _ _ hq];rw [hq] at hc;exact hc
theorem Sub.cellAt {h h':H} (hs:Sub h h') {b o:Nat} {v:Value} (hc:cellAt h b o=some v):cellAt h' b o=some v:=by
 unfold AM.cellAt at *
 cases hq:h b with
 | none=>rw [hq] at hc;cases hc
 | some q=>rw [hs _ _ hq];rw [hq] at hc;exact hc
theorem Spec.forget {f:FuncId} {args:List Value} {h:H} {Q:Value→H→Prop} (hs:Spec P f args h fun v h'=>∃h'',Sub h'' h'∧Q v h''):Spec P f args h Q:=Spec.drop hs
theorem yz7m {f:FuncId} {args:List Value} {h:H} {v:Value} (hs:∀Q':Value→H→Prop,(∀ h',Sub h h'→Q' v h')→Spec P f args h Q') {Q:Value→H→Prop} (hq:Q v h):Spec P f args h Q :=
 Spec.forget (hs _ fun _ hs=>⟨h,hs,hq⟩)
theorem yow8 {h:H} {b o:Nat} {cs:List Value} {E:TypeId} {m:Own} (hb:h b=some (.cells cs E m)):cellAt h b o=cs[o]?:=by simp [AM.cellAt,hb]
theorem y08p {h:H} {b o n:Nat} {cs:List Value} {E:TypeId} {m:Own} (hb:h b=some (.cells cs E m)) (hl:o+n≤cs.length):cellsAt h b o n=some ((cs.drop o).take n):=by simp [AM.cellsAt,hb,hl]
theorem ydo0:∀(vs cs:List Value) (o:Nat),(setL cs o vs).length=cs.length
 | [],_,_=>rfl
 | v::vs,cs,o=>by rw [setL,ydo0 vs];simp
end
end Go.Proofs.YtnckimioabkheaaGreat.AM
set_option linter.unusedSimpArgs false
set_option linter.unusedVariables false
namespace Go.Proofs.YtnckimioabkheaaGreat.AM
section
variable {P:Program} {α:Type} {enc:α→List Value} {sz:Nat}
def Sl (enc:α→List Value) (sz:Nat) (h:H) (v:Value) (l:List α):Prop :=
 (∀ x∈l,(enc x).length=sz)∧((l=[]∧v=.slice none 0 0)∨∃b o c,v=.slice (some ⟨b,o,none⟩) l.length c∧(l≠[]→cellsAt h b o (l.length*sz)=some (l.flatMap enc)))
theorem Sl.mono {h h':H} {v:Value} {l:List α} (hs:Sub h h') (hl:Sl enc sz h v l):Sl enc sz h' v l:=by
 obtain ⟨hz,⟨h1,h2⟩ | ⟨b,o,c,h1,h2⟩⟩:=hl
 ·exact ⟨hz,.inl ⟨h1,h2⟩⟩
 ·exact ⟨hz,.inr ⟨b,o,c,h1,fun hn=>hs.cellsAt (h2 hn)⟩⟩
theorem Sl.len {h:H} {v:Value} {l:List α} (hl:Sl enc sz h v l) {K:Value→Prop}:yn0t v K=K (.int .i64 l.length):=by
 obtain ⟨_,⟨rfl,rfl⟩ | ⟨b,o,c,rfl,_⟩⟩:=hl <;> rfl
theorem Sl.box {h:H} {v:Value} {l:List α} (hl:Sl enc sz h v l):boxV v=true:=by
 obtain ⟨_,⟨rfl,rfl⟩ | ⟨b,o,c,rfl,_⟩⟩:=hl <;> rfl
theorem Sl.srcLen {h:H} {v:Value} {l:List α} (hl:Sl enc sz h v l):srcLen v=some l.length:=by
 obtain ⟨_,⟨rfl,rfl⟩ | ⟨b,o,c,rfl,_⟩⟩:=hl <;> rfl
theorem yr37:∀{l:List α},(∀ x∈l,(enc x).length=sz)→(l.flatMap enc).length=l.length*sz
 | [],_=>by simp
 | x::l,h=>by
   rw [List.flatMap_cons,List.length_append,h x (List.mem_cons_self ..),yr37 fun y hy=>h y (List.mem_cons_of_mem _ hy)]
   simp [Nat.add_mul,Nat.add_comm]
theorem youw:∀{l:List α} (i:Nat) (hi:i<l.length),(∀ x∈l,(enc x).length=sz)→((l.flatMap enc).drop (i*sz)).take sz=enc l[i]
 | x::l,0,_,h=>by
   have:=h x (List.mem_cons_self ..)
   simp [List.flatMap_cons,←this]
 | x::l,i+1,hi,h=>by
   have hx:=h x (List.mem_cons_self ..)
   rw [List.flatMap_cons,Nat.add_mul,Nat.one_mul,Nat.add_comm,←List.drop_drop,List.drop_left' hx]
   exact youw i (by simpa using hi) fun y hy=>h y (List.mem_cons_of_mem _ hy)
theorem yt82 {h:H} {b o n m k:Nat} {cs:List Value} (hc:cellsAt h b o n=some cs) (hk:m+k≤n):cellsAt h b (o+m) k=some ((cs.drop m).take k):=by
 unfold AM.cellsAt at *
 cases hb:h b with
 | none=>rw [hb] at hc;cases hc
 | some q =>
   rw [hb] at hc
   cases q <;> try (cases hc)
   rename_i cs' E m'
   simp only at hc ⊢
   by_cases hl:o+n≤cs'.length
   ·simp only [hl,if_true] at hc
    have:o+m+k≤cs'.length:=by omega
    simp only [this,if_true]
    cases hc
    rw [List.drop_take,List.drop_drop,List.take_take]
    congr 2
    omega
   ·simp [hl] at hc
theorem yg2r {h:H} {b o n m:Nat} {cs:List Value} (hc:cellsAt h b o n=some cs) (hk:m<n):cellAt h b (o+m)=cs[m]?:=by
 unfold AM.cellsAt at hc
 unfold AM.cellAt
 cases hb:h b with
 | none=>rw [hb] at hc;cases hc
 | some q =>
   rw [hb] at hc
   cases q <;> try (cases hc)
   rename_i cs' E m'
   simp only at hc ⊢
   by_cases hl:o+n≤cs'.length
   ·simp only [hl,if_true] at hc
    cases hc
    rw [List.getElem?_take_of_lt hk,List.getElem?_drop]
   ·simp [hl] at hc
theorem Sl.src {h:H} {v:Value} {l:List α} (hl:Sl enc sz h v l):yc23 sz h v l.length=some (l.flatMap enc):=by
 obtain ⟨_,⟨rfl,rfl⟩ | ⟨b,o,c,rfl,hb⟩⟩:=hl
 ·rfl
 ·unfold yc23
  by_cases hn:l=[]
  ·subst hn;rfl
  ·have:l.length≠0:=by cases l <;> simp at hn ⊢
   simp only [this,if_false]
   exact hb hn
theorem Sl.at {h:H} {v:Value} {l:List α} (hl:Sl enc sz h v l) {i:Nat} (hi:i<l.length):∃b o,(∀ (k:IntKind) (K:Value→Prop),ys75 none sz v (.int k i) K=K (.pointer (some ⟨b,o,none⟩)))∧cellsAt h b o sz=some (enc l[i]):=by
 obtain ⟨hz,⟨rfl,_⟩ | ⟨b,o,c,rfl,hb⟩⟩:=hl
 ·exact absurd hi (by simp)
 have hc:=hb (fun he=>by rw [he] at hi;simp at hi)
 refine ⟨b,o+i*sz,fun k K=>?_,?_⟩
 ·rw [y5x9 (by omega) (by omega)];simp
 ·rw [yt82 hc (m:=i*sz) (k:=sz)]
  ·rw [youw i hi hz]
  ·have:(i+1)*sz≤l.length*sz:=Nat.mul_le_mul_right _ hi
   rw [Nat.add_mul] at this;omega
theorem Sl.nil {h:H}:Sl enc sz h (.slice none 0 0) ([]:List α):=⟨fun _ h=>by simp at h,.inl ⟨rfl,rfl⟩⟩
theorem Sl.nil' {h:H} {b o c:Nat}:Sl enc sz h (.slice (some ⟨b,o,none⟩) 0 c) ([]:List α):=⟨fun _ h=>by simp at h,.inr ⟨b,o,c,rfl,fun h=>absurd rfl h⟩⟩
theorem Sl.of_block {h:H} {b o c:Nat} {l:List α} {cs:List Value} {E:TypeId} {m:Own} (hz:∀x∈l,(enc x).length=sz) (hb:h b=some (.cells cs E m)) (hc:(cs.drop o).take (l.length*sz)=l.flatMap enc) (hl:o+l.length*sz≤cs.length):Sl enc sz h (.slice (some ⟨b,o,none⟩) l.length c) l :=
 ⟨hz,.inr ⟨b,o,c,rfl,fun _=>by rw [y08p hb hl,hc]⟩⟩
def yc20:Value→Option Nat
 | .slice (some a) _ _=>some a.block
 | _=>none
def Gr (enc:α→List Value) (sz:Nat) (e:TypeId) (h0 h:H) (v:Value) (l:List α):Prop :=
 (∀ x∈l,(enc x).length=sz)∧((l=[]∧v=.slice none 0 0)∨∃b,l≠[]∧2≤b∧v=.slice (some ⟨b,0,none⟩) l.length l.length∧h b=some (.cells (l.flatMap enc) e .open)∧h0 b=none)
theorem Gr.sl {e:TypeId} {h0 h:H} {v:Value} {l:List α} (hg:Gr enc sz e h0 h v l):Sl enc sz h v l:=by
 obtain ⟨hz,⟨rfl,rfl⟩ | ⟨b,_,_,rfl,hb,_⟩⟩:=hg
 ·exact Sl.nil
 ·refine Sl.of_block hz hb ?_ ?_
  ·rw [List.drop_zero,←yr37 hz,List.take_length]
  ·rw [yr37 hz];omega
theorem Gr.empty {e:TypeId} {h0 h:H}:Gr enc sz e h0 h (.slice none 0 0) ([]:List α):=⟨fun _ h=>by simp at h,.inl ⟨rfl,rfl⟩⟩
theorem Gr.there {e:TypeId} {h0 h:H} {v:Value} {l:List α} (hg:Gr enc sz e h0 h v l) {c:Nat} (hc:yc20 v=some c):h c≠Option.none:=by
 obtain ⟨_,⟨_,rfl⟩ | ⟨b,_,_,rfl,hb,_⟩⟩:=hg
 ·cases hc
 ·cases hc;rw [hb];simp
theorem Gr.keep {e:TypeId} {h0 h h':H} {v:Value} {l:List α} (hg:Gr enc sz e h0 h v l) (hk:∀b,yc20 v=some b→h' b=h b):Gr enc sz e h0 h' v l:=by
 obtain ⟨hz,⟨h1,h2⟩ | ⟨b,h1,hb2,rfl,h3,h4⟩⟩:=hg
 ·exact ⟨hz,.inl ⟨h1,h2⟩⟩
 ·exact ⟨hz,.inr ⟨b,h1,hb2,rfl,by rw [hk b rfl];exact h3,h4⟩⟩
theorem Gr.isOpen {e:TypeId} {h0 h:H} {v:Value} {l:List α} (hg:Gr enc sz e h0 h v l) {c:Nat} (hc:yc20 v=some c):h c=some (.cells (l.flatMap enc) e .open):=by
 obtain ⟨_,⟨_,rfl⟩ | ⟨b,_,_,rfl,hb,_⟩⟩:=hg
 ·cases hc
 ·cases hc;exact hb
theorem Gr.over {e:TypeId} {h0 h:H} {v:Value} {l:List α} (hg:Gr enc sz e h0 h v l) {c:Nat} {q q':AObj} (hc:h c=some q) (hq:∀cs,q≠.cells cs e .open):Gr enc sz e h0 (upd h c q') v l:=by
 refine hg.keep fun b hb=>?_
 refine yrkk _ _ fun he=>?_
 subst he
 have:=Gr.isOpen hg hb
 rw [hc] at this
 cases this
 exact hq _ rfl
theorem Gr.append {e:TypeId} {bytes:Nat} {h0 h:H} {v x:Value} {l m:List α} {K:Value→H→Prop} (hg:Gr enc sz e h0 h v l) (hx:Sl enc sz h x m) (hm:m≠[]) (hsz:0<sz)
 (hb:(l.length+m.length)*bytes≤140737488355328) (hn:l.length+m.length<9223372036854775808) (hsub:Sub h0 h)
 (hk:∀v' h',Gr enc sz e h0 h' v' (l++m)→Sub h0 h'→(∀ c o,h c=some o→yc20 v≠some c→h' c=some o)→(∀ c,yc20 v'=some c→h c=none)→K v' h'):yc1n e sz bytes v x h K:=by
 have hm0:0<m.length:=by cases m <;> simp at hm ⊢
 have hsl:=hx.srcLen
 have hsrc:=hx.src
 have hzm:=hx.1
 have hlen:=yr37 (l:=m) hzm
 have hz:∀x∈l++m,(enc x).length=sz:=fun y hy=>(List.mem_append.1 hy).elim (hg.1 y) (hzm y)
 unfold yc1n
 obtain ⟨hzl,⟨rfl,rfl⟩ | ⟨b,hl0,hb2,rfl,hbb,hb0⟩⟩:=hg
 ·simp only [hsl,hsrc]
  have hno:¬(0+m.length≤0):=by omega
  simp only [hno,if_false]
  simp only [List.length_nil,Nat.zero_add] at hb hn ⊢
  refine ⟨hb,hn,hlen,hm0,trivial,fun b' hb2 hbn=>?_⟩
  refine hk _ _ ⟨hz,.inr ⟨b',by simpa using hm,hb2,by simp,by simp [upd],?_⟩⟩ ?_ ?_ ?_
  ·exact hsub.none hbn
  ·exact hsub.upd (hsub.none hbn)
  ·intro c' o hc _
   have:c'≠b':=fun he=>by rw [he,hbn] at hc;cases hc
   rw [yrkk _ _ this];exact hc
  ·intro c' hc;cases hc;exact hbn
 ·simp only [hsl,hsrc]
  have hno:¬(l.length+m.length≤l.length):=by omega
  simp only [hno,if_false]
  have hll:=yr37 (l:=l) hzl
  have hbz:¬b=0:=by omega
  ·refine ⟨hb,hn,hlen,hm0,?_⟩
   simp only [hbz,if_false,hbb]
   refine ⟨by omega,trivial,by omega,hsz,fun b' hb2' hbn=>?_⟩
   have hbb':b'≠b:=fun he=>by rw [he,hbb] at hbn;cases hbn
   have hdel:∀c,c≠b→del h b c=h c:=fun c hc=>ybsf h hc
   refine hk _ _ ⟨hz,.inr ⟨b',by simp [hl0],hb2',by simp,?_,hsub.none hbn⟩⟩ ?_ ?_ ?_
   ·rw [yy0e,List.drop_zero,←hll,List.take_length,List.flatMap_append]
   ·intro c' o hc
    have h1:c'≠b:=fun he=>by rw [he,hb0] at hc;cases hc
    have h2:c'≠b':=fun he=>by rw [he,hsub.none hbn] at hc;cases hc
    rw [yrkk _ _ h2,hdel _ h1];exact hsub _ _ hc
   ·intro c' o hc hne
    have h1:c'≠b:=fun he=>hne (by rw [he];rfl)
    have h2:c'≠b':=fun he=>by rw [he,hbn] at hc;cases hc
    rw [yrkk _ _ h2,hdel _ h1];exact hc
   ·intro c' hc;cases hc;exact hbn
end
end Go.Proofs.YtnckimioabkheaaGreat.AM
set_option linter.unusedSimpArgs false
set_option linter.unusedVariables false
namespace Go.Proofs.YtnckimioabkheaaGreat.AM
section
variable {P:Program}
def o_ret (m:Value) (h:H) (K:H→Prop):Prop :=
 match marks m with
 | []=>K h
 | ds=>ds.Nodup∧(∀ d∈ds,h d=some .defer)∧K (fun b=>if b∈ds then none else h b)
end
end Go.Proofs.YtnckimioabkheaaGreat.AM
set_option linter.unusedSimpArgs false
set_option linter.unusedVariables false
namespace Go.Proofs.YtnckimioabkheaaGreat.AM
open Go.RowKit
def resOf (P:Program) (t:T) (h:H):ResultVar→Option Value
 | .tmp r=>some (t r)
 | .cell a ty=>match y8c6 P ty,t a with
   | some (ag,n),.pointer (some ⟨b,o,none⟩)=>bif ag then (match cellsAt h b o n with | some l=>some (.agg l.toArray) | none=>none) else cellAt h b o
   | _,_=>none
def yvhk (P:Program) (t:T) (h:H):List ResultVar→Option (List Value)
 | []=>some []
 | r::rs=>match resOf P t h r with
   | some v=>(match yvhk P t h rs with | some l=>some (v::l) | none=>none)
   | none=>none
def retC (P:Program) (rs:List ResultVar) (Q:Value→H→Prop) (t:T) (h:H):Prop :=
 match yvhk P t h rs with
 | some [v]=>Q v h
 | some vs=>vs.all boxV=true∧Q (.tuple vs.toArray) h
 | none=>False
def okRes (N:Nat):ResultVar→Bool
 | .tmp r=>Nat.blt r N
 | .cell a _=>Nat.blt a N
def retCQ (P:Program) (N:Nat) (rs:List ResultVar) (Q:Value→H→Prop) (t:T) (h:H):Prop :=
 match marks (t N) with
 | []=>retC P rs Q t h
 | ds=>ds.Nodup∧(∀ d∈ds,h d=some .defer)∧retC P rs Q t (fun b=>if b∈ds then none else h b)
def yzdl (P:Program) (N:Nat) (rs:List ResultVar) (Q:Value→H→Prop):Exit→T→H→Prop
 | .normal,t,h | .ret,t,h=>retCQ P N rs Q t h
 | _,_,_=>False
section
variable {P:Program} {W:World}
abbrev y85u (tmps:Array Value):ResultVar→Sem Value:=fun
 | .tmp t=>pure (tmps.getD t undef)
 | .cell a t=>do loadVar t (← asAddr (tmps.getD a undef))
theorem ygeh {ι:Env} {N:Nat} {t:T} {h:H} {tmps:Array Value} {w:World} (hr:HRel P W ι h w) (ht:TRel ι N t tmps) {r:ResultVar} {v:Value} (hok:okRes N r=true) (he:resOf P t h r=some v) :
 ∃cv,(y85u tmps r).run P w=.ok cv w∧VRel ι v cv:=by
 cases r with
 | tmp r=>cases he;exact ⟨_,rfl,ht.2 r (y7ee hok)⟩
 | cell a ty =>
   simp only [resOf] at he
   split at he
   ·rename_i ag n b o hty hta
    have ha:=ht.2 a (y7ee hok)
    rw [hta] at ha
    obtain ⟨l,hl,hca⟩:=ha.ptr
    obtain ⟨i,hi,hn,hag⟩:=yo3g hty
    cases ag with
    | true =>
      simp only [cond_true] at he
      split at he
      ·rename_i vs hvs
       cases he
       obtain ⟨vs',h1,h2,h3⟩:=yvqe hr hvs hl
       refine ⟨.agg vs'.toArray,?_,.a (.agg h1)⟩
       have:=run_loadCells_list (P:=P) w ⟨l.b,l.o+o,none⟩ vs' h3
       rw [← h1.length,h2] at this
       simp [y85u,asAddr,hca,loadVar,hag,y8gf hi,hn,this]
      ·cases he
    | false =>
      simp only [cond_false] at he
      obtain ⟨v',h1,h2⟩:=yn5v hr he hl
      refine ⟨v',?_,.a (.c h2)⟩
      simp [y85u,asAddr,hca,loadVar,hag,h1]
   ·cases he
theorem ya9l {ι:Env} {N:Nat} {t:T} {h:H} {tmps:Array Value} {w:World} (hr:HRel P W ι h w) (ht:TRel ι N t tmps):∀{rs:List ResultVar} {vs:List Value},rs.all (okRes N)=true→yvhk P t h rs=some vs →
 ∃cvs,(rs.mapM (y85u tmps)).run P w=.ok cvs w∧All2 (VRel ι) vs cvs
 | [],vs,_,he=>by cases he;exact ⟨[],rfl,.nil⟩
 | r::rs,vs,hok,he=>by
   simp only [List.all_cons,Bool.and_eq_true] at hok
   simp only [yvhk] at he
   split at he
   ·rename_i v hv
    split at he
    ·rename_i l hl
     cases he
     obtain ⟨cv,h1,h2⟩:=ygeh hr ht hok.1 hv
     obtain ⟨cvs,h3,h4⟩:=ya9l hr ht hok.2 hl
     refine ⟨cv::cvs,?_,.cons h2 h4⟩
     rw [List.mapM_cons,Sem.run_bind]
     refine (congrArg (fun q=>Result.andThen q _) h1).trans ?_
     simp only [Result.andThen_ok,Sem.run_bind]
     refine (congrArg (fun q=>Result.andThen q _) h3).trans ?_
     simp only [Result.andThen_ok,Sem.run_pure]
    ·cases he
   ·cases he
theorem yi8c {ι:Env}:∀{vs cvs:List Value},All2 (VRel ι) vs cvs→vs.all boxV=true→All2 (ARel ι) vs cvs
 | _,_,.nil,_=>.nil
 | _,_,.cons h t,hb=>by
   simp only [List.all_cons,Bool.and_eq_true] at hb
   exact .cons (h.toA hb.1) (yi8c t hb.2)
theorem yw8m {fn:Func} {ι ι':Env} {N:Nat} {Q:Value→H→Prop} {t:T} {h:H} {tmps:Array Value} {w:World} (hle:Env.le ι ι') (hr:HRel P W ι' h w) (ht:TRel ι' N t tmps) (hN:fn.results.toList.all (okRes N)=true) (hk:retC P fn.results.toList Q t h) :
 ∃cv,(results fn tmps).run P w=.ok cv w∧Post P W ι Q (.returned cv) w:=by
 unfold retC at hk
 cases hv:yvhk P t h fn.results.toList with
 | none=>rw [hv] at hk;exact hk.elim
 | some vs =>
   rw [hv] at hk
   obtain ⟨cvs,h1,h2⟩:=ya9l hr ht hN hv
   have hrun:(results fn tmps).run P w=.ok (if hh:cvs.toArray.size=1 then cvs.toArray[0] else .tuple cvs.toArray) w:=by
    unfold results
    rw [Sem.run_bind]
    have h3:(Array.mapM (y85u tmps) fn.results).run P w=Result.ok cvs.toArray w:=by
     rw [Array.mapM_eq_mapM_toList]
     simp [h1]
    refine (congrArg (fun q=>Result.andThen q _) h3).trans ?_
    simp only [Result.andThen_ok,Sem.run_pure]
   refine ⟨_,hrun,?_⟩
   cases h2 with
   | nil=>exact ⟨.tuple #[],_,ι',h,rfl,hle,hr,.tuple .nil,hk.2⟩
   | cons h2 h2s=>cases h2s with
     | nil=>exact ⟨_,_,ι',h,rfl,hle,hr,by simpa using h2,hk⟩
     | cons h3 h3s =>
       refine ⟨_,_,ι',h,rfl,hle,hr,?_,hk.2⟩
       exact .tuple (by simpa using yi8c (.cons h2 (.cons h3 h3s)) hk.1)
theorem yhpk (hm:P.follows .mixedOrders=true) {f:FuncId} {fn:Func} {c:Code} {N:Nat} {args:List Value} {h:H} {Q:Value→H→Prop} (hf:P.funcs[f]?=some fn) (hb:fn.body=some c)
 (hn:fn.ntmps=N) (hok:yk69 N false c=true) (hrN:fn.results.toList.all (okRes N)=true) (hlen:args.length≤N) (hk:awp P N c (yzdl P N fn.results.toList Q) (tinit args) h):Spec P f args h Q:=by
 intro W ι w cargs hr ha
 subst hn
 refine (callsIn_wide (n:=0)).1 (callsIn_of_wp_marks hf hb trivial ?_)
 have h0:tinit args fn.ntmps=undef:=by simp [tinit,hlen]
 have hmk:marks undef=[]:=rfl
 refine wpIn_mono (yx7j (D:=none) hm (.inl rfl) false (fun _=>⟨rfl,rfl⟩) c hok hr (ymoi ha hlen) (by rw [h0];exact .nil) hk) ?_
 intro e a' w' hc
 have fin:∀t' h' ι',Env.le ι ι'→HRel P W ι' h' w'→TRel ι' fn.ntmps t' a'.tmps→DRel ι' (t' fn.ntmps) a'.defers→retCQ P fn.ntmps fn.results.toList Q t' h'→LeavesInM Fence.wide 0 P fn a'.tmps (Post P W ι Q) a'.defers .returning w':=by
  intro t' h' ι' k1 k2 k3 k4 k5
  unfold retCQ at k5
  split at k5
  ·rename_i hmk'
   unfold DRel at k4
   rw [hmk'] at k4
   generalize a'.defers=dfs at *
   cases k4
   exact yw8m k1 k2 k3 hrN k5
  ·obtain ⟨k6,k7,k8⟩:=k5
   exact y7hh _ _ k4 k2 k7 k6 fun w'' hw''=>yw8m k1 hw'' k3 hrN k8
 cases e with
 | normal=>obtain ⟨ι',t',h',k1,k2,k3,k4,k5⟩:=hc;exact fin t' h' ι' k1 k2 k3 k4 k5
 | ret=>obtain ⟨ι',t',h',k1,k2,k3,k4,k5⟩:=hc;exact fin t' h' ι' k1 k2 k3 k4 k5
 | exit id=>obtain ⟨_,_,_,_,_,_,_,k5⟩:=hc;exact k5.elim
 | goto l=>obtain ⟨_,_,_,_,_,_,_,k5⟩:=hc;exact k5.elim
 | panic ch=>obtain ⟨_,_,_,_,_,_,_,k5⟩:=hc;exact k5.elim
 | outgrown=>obtain ⟨_,_,_,_,_,_,_,k5⟩:=hc;exact k5.elim
end
end Go.Proofs.YtnckimioabkheaaGreat.AM
set_option linter.unusedSimpArgs false
set_option linter.unusedVariables false
namespace Go.Proofs.YtnckimioabkheaaGreat.AM
section
variable {P:Program}
theorem ysgf (hm:P.follows .mixedOrders=true) {f:FuncId} {fn:Func} {c:Code} {a:Nat} {ty:TypeId} {ag:Bool} {n N:Nat} {args:List Value} {h:H} {Q:Value→H→Prop} {Q1:Exit→T→H→Prop} (hf:P.funcs[f]?=some fn) (hb:fn.body=some c)
 (hrs:fn.results = #[.cell a ty]) (hty:y8c6 P ty=some (ag,n)) (hn:fn.ntmps=N) (hok:yk69 N false c=true) (hrN:Nat.blt a N=true) (hlen:args.length≤N) (hk:Wp P N c Q1 (tinit args) h)
 (he:Q1=mkQ (fun t h=>o_ret (t N) h fun h=>ysm8 ag n (t a) h fun v=>Q v h) (fun t h=>o_ret (t N) h fun h=>ysm8 ag n (t a) h fun v=>Q v h) ke0):Spec P f args h Q:=by
 subst he
 have fin:∀t h,ysm8 ag n (t a) h (fun v=>Q v h)→retC P [.cell a ty] Q t h:=by
  intro t h ho
  unfold retC
  simp only [yvhk,resOf,hty]
  unfold ysm8 at ho
  split at ho
  ·rename_i b o heq
   rw [heq]
   cases ag with
   | true =>
     simp only [cond_true] at ho ⊢
     split at ho
     ·rename_i l hl
      rw [hl];exact ho
     ·exact ho.elim
   | false =>
     simp only [cond_false] at ho ⊢
     split at ho
     ·rename_i v hv
      rw [hv];exact ho
     ·exact ho.elim
  ·exact ho.elim
 have fin2:∀t h,(o_ret (t N) h fun h=>ysm8 ag n (t a) h fun v=>Q v h)→retCQ P N [.cell a ty] Q t h:=by
  intro t h ho
  unfold retCQ
  unfold o_ret at ho
  cases hds:marks (t N) with
  | nil=>rw [hds] at ho;exact fin t h ho
  | cons d r =>
    rw [hds] at ho
    exact ⟨ho.1,ho.2.1,fin t _ ho.2.2⟩
 refine yhpk hm hf hb hn hok (by rw [hrs];simpa [okRes] using hrN) hlen ?_
 rw [hrs]
 exact ynkq c (fun e t h he=>by cases e <;> first | exact fin2 t h he | exact he) hk.ok
theorem ydx1 {h:H} {b:Nat} {q q':AObj}:upd (upd h b q) b q'=upd h b q':=by funext c;unfold upd;split <;> rfl
theorem y7nk {ops:Array Oper} {l:Array Bool} {i:Nat} (hl:l.size=ops.size) (hi:i∈Region.ready .any ops l):i<ops.size∧l.getD i true=false∧∀y,ops[i]?=some y→∀e∈y.after,Region.binds .any e=true→l.getD e.on false=true:=by
 simp only [Region.ready,List.mem_filter,Bool.and_eq_true] at hi
 refine ⟨List.mem_range.1 hi.1,by simpa using hi.2.1,fun y hy e hem hb=>?_⟩
 have h2:=hi.2.2
 rw [hy] at h2
 simp only [Option.map_some,Option.getD_some] at h2
 have h3:=Array.all_eq_true_iff_forall_mem.1 h2 e hem
 simp only [hb,Bool.not_true,Bool.false_or] at h3
 exact h3
def depL (ops:Array Oper) (i:Nat):List Nat:=match ops[i]? with
 | some y=>(y.after.toList.filter fun e=>Region.binds .any e).map (·.on)
 | none=>[]
theorem y939 {ops:Array Oper} {l:Array Bool} {i:Nat} (hl:l.size=ops.size) (hi:i∈Region.ready .any ops l):i<ops.size∧l.getD i true=false∧∀j∈depL ops i,l.getD j false=true:=by
 obtain ⟨h1,h2,h3⟩:=y7nk hl hi
 refine ⟨h1,h2,fun j hj=>?_⟩
 unfold depL at hj
 have hy:ops[i]?=some ops[i]:=by simp [h1]
 rw [hy] at hj
 obtain ⟨e,he,rfl⟩:=List.mem_map.1 hj
 obtain ⟨he1,he2⟩:=List.mem_filter.1 he
 exact h3 _ hy e (by simpa using he1) he2
theorem ypjs {l:Array Bool} {i j:Nat} {d:Bool}:(l.setIfInBounds i true).getD j d=if j=i∧i<l.size then true else l.getD j d:=by
 simp only [Array.getD_eq_getD_getElem?,Array.getElem?_setIfInBounds]
 by_cases h:i=j
 ·subst h
  by_cases h2:i<l.size
  ·simp [h2]
  ·simp [h2]
 ·have:¬j=i:=fun e=>h e.symm
  simp [h,this]
structure Tb (ps:List (Nat×Value)) (tab:List (Nat×Nat)) (vals:Nat→Value) (l:Array Bool) (t:T):Prop where
 p:∀x∈ps,t x.1=x.2
 v:∀e∈tab,l.getD e.1 false=true→t e.2=vals e.1
def okTab (ps:List (Nat×Value)) (tab:List (Nat×Nat)) (i d:Nat):Bool:=ps.all (fun x=>!Nat.beq x.1 d)&&tab.all fun e=>(Nat.beq e.1 i&&Nat.beq e.2 d)||(!Nat.beq e.1 i&&!Nat.beq e.2 d)
theorem yan1 {a b:Nat} (h:(!Nat.beq a b)=true):a≠b:=by
 rintro rfl
 have:Nat.beq a a=true:=Nat.beq_refl a
 rw [this] at h;cases h
theorem Tb.set {ps:List (Nat×Value)} {tab:List (Nat×Nat)} {vals:Nat→Value} {l:Array Bool} {t:T} (hb:Tb ps tab vals l t) (i d:Nat) (ho:okTab ps tab i d=true):Tb ps tab vals (l.setIfInBounds i true) (tset t d (vals i)):=by
 simp only [okTab,Bool.and_eq_true,List.all_eq_true,Bool.or_eq_true] at ho
 refine ⟨fun x hx=>?_,fun e he hl=>?_⟩
 ·have:=yan1 (ho.1 x hx)
  unfold tset
  have e:Nat.beq x.1 d=false:=by
   cases hq:Nat.beq x.1 d with
   | false=>rfl
   | true=>exact absurd (Nat.eq_of_beq_eq_true hq) this
  rw [e];exact hb.p x hx
 ·unfold tset
  rcases ho.2 e he with ⟨h1,h2⟩ | ⟨h1,h2⟩
  ·rw [h2,cond_true,Nat.eq_of_beq_eq_true h1]
  ·have h1:=yan1 h1
   have h2:=yan1 h2
   have e2:Nat.beq e.2 d=false:=by
    cases hq:Nat.beq e.2 d with
    | false=>rfl
    | true=>exact absurd (Nat.eq_of_beq_eq_true hq) h2
   rw [e2,cond_false]
   rw [ypjs,if_neg (fun h=>h1 h.1)] at hl
   exact hb.v e he hl
theorem Tb.skip {ps:List (Nat×Value)} {tab:List (Nat×Nat)} {vals:Nat→Value} {l:Array Bool} {t:T} (hb:Tb ps tab vals l t) (i:Nat) (ho:(tab.all fun e=>!Nat.beq e.1 i)=true):Tb ps tab vals (l.setIfInBounds i true) t:=by
 refine ⟨hb.p,fun e he hl=>hb.v e he ?_⟩
 have h1:=yan1 (List.all_eq_true.1 ho e he)
 rw [ypjs,if_neg (fun h=>h1 h.1)] at hl
 exact hl
def yefu (ops:Array Oper) (l:Array Bool):Prop:=∀j,l.getD j false=true→∀d∈depL ops j,l.getD d false=true
theorem yefu.set {ops:Array Oper} {l:Array Bool} {i:Nat} (hl:l.size=ops.size) (hc:yefu ops l) (hi:i∈Region.ready .any ops l):yefu ops (l.setIfInBounds i true):=by
 obtain ⟨h1,h2,h3⟩:=y939 hl hi
 have up:∀d,l.getD d false=true→(l.setIfInBounds i true).getD d false=true:=fun d hd=>by
  rw [ypjs];split
  ·rfl
  ·exact hd
 intro j hj d hd
 rw [ypjs] at hj
 split at hj
 ·rename_i hji
  rw [hji.1] at hd
  exact up d (h3 d hd)
 ·exact up d (hc j hj d hd)
theorem Tb.none {ps:List (Nat×Value)} {tab:List (Nat×Nat)} {vals:Nat→Value} {n:Nat} {t:T} (hp:∀x∈ps,t x.1=x.2):Tb ps tab vals (Array.replicate n false) t :=
 ⟨hp,fun e _ hl=>by exfalso;simp [Array.getD] at hl⟩
end
end Go.Proofs.YtnckimioabkheaaGreat.AM
set_option linter.unusedSimpArgs false
set_option linter.unusedVariables false
namespace Go.Proofs.YtnckimioabkheaaGreat.AM
inductive CE where
 | val (g:List Value→Option Value)
 | read (g:List Value→H→Option Value) (u:∀args h h' v,Sub h h'→g args h=some v→g args h'=some v)
 | grow (Pre:List Value→H→Prop) (R:List Value→H→Value→Prop) (u1:∀args h h',Sub h h'→Pre args h→Pre args h') (u2:∀args v h h',Sub h h'→R args h v→R args h' v)
 | full (C:List Value→H→(Value→H→Prop)→Prop) (m:∀args h K K',(∀ v h,K v h→K' v h)→C args h K→C args h K')
abbrev CT:=FuncId→Option CE
def o_opt (r:Option Value) (K:Value→Prop):Prop:=match r with | some v=>K v | none=>False
def CE.run:CE→List Value→H→(Value→H→Prop)→Prop
 | .val g,args,h,K=>o_opt (g args) fun v=>K v h
 | .read g _,args,h,K=>o_opt (g args h) fun v=>K v h
 | .grow Pre R _ _,args,h,K=>Pre args h∧∀v h',Sub h h'→R args h' v→K v h'
 | .full C _,args,h,K=>C args h K
theorem yr12 {r:Option Value} {K K':Value→Prop} (hk:∀v,K v→K' v) (h:o_opt r K):o_opt r K':=by
 cases r with
 | none=>exact h
 | some v=>exact hk _ h
theorem CE.mono {C:CE} {args:List Value} {h:H} {K K':Value→H→Prop} (hk:∀v h,K v h→K' v h) (hr:C.run args h K):C.run args h K':=by
 cases C with
 | val g=>exact yr12 (fun v=>hk v h) hr
 | read g _=>exact yr12 (fun v=>hk v h) hr
 | grow Pre R _ _=>exact ⟨hr.1,fun v h' hs hv=>hk _ _ (hr.2 v h' hs hv)⟩
 | full C m=>exact m _ _ _ _ hk hr
def CTOk (P:Program) (D:CT):Prop:=∀f C,D f=some C→∀args h K,C.run args h K→Spec P f args h K
def o_ct (C:CE) (args:List Value) (h:H) (K:Value→H→Prop):Prop:=args.all boxV=true∧C.run args h K
def ctOf:List (Nat×CE)→CT→CT
 | [],D=>D
 | (g,C)::l,D=>fun f=>bif Nat.beq g f then some C else ctOf l D f
def ct0:CT:=fun _=>none
theorem ct0_ok {P:Program}:CTOk P ct0:=fun _ _ h=>by cases h
theorem yko4 {P:Program} {D:CT} (hD:CTOk P D):∀{l:List (Nat×CE)},(∀ x∈l,∀args h K,x.2.run args h K→Spec P x.1 args h K)→CTOk P (ctOf l D)
 | [],_=>hD
 | (g,C)::l,hl=>by
   intro f C' h
   simp only [ctOf] at h
   cases hb:Nat.beq g f
   ·rw [hb,cond_false] at h
    exact yko4 hD (fun x hx=>hl x (List.mem_cons_of_mem _ hx)) f C' h
   ·rw [hb,cond_true] at h
    cases h
    have:=Nat.eq_of_beq_eq_true hb
    subst this
    exact hl (g,C) (List.mem_cons_self ..)
section
variable {P:Program} {D:CT}
def cop (P:Program) (D:CT) (op:Op) (ρ:Operand→Value) (h:H) (K:Value→H→Prop):Prop :=
 match op with
 | .call c=>(match c.callee with
   | .value (.func f)=>bif yu9w P f then (match D f with
     | some C=>o_ct C (c.args.toList.map ρ) h K
     | none=>ywv3 P f (c.args.toList.map ρ) h K) else False
   | _=>aCall P c ρ h K)
 | _=>aop P op ρ h K
def kindC (P:Program) (D:CT) (op:Op):Nat :=
 match op with
 | .call c=>(match c.callee with
   | .value (.func f)=>(match D f with
     | some (.val _)=>0
     | some (.read _ _)=>1
     | some (.grow _ _ _ _)=>5
     | _=>3)
   | _=>yxdv P (.call c))
 | .build _ _=>0
 | .alloc _ | .box _ _ | .buildSlice _ _ _ | .makeMap _ _=>4
 | .lookup _ _ _ _=>1
 | .mapUpdate _ _ _ _ | .insert _ _ _ _=>2
 | .makeInterface t x=>yxdv P (.makeInterface t x)
 | .slice t _ _ _ _=>match P.underlying t with
   | some (.slice _)=>0
   | _=>3
 | op=>yxdv P op
def ybsl:Op→Bool
 | .call _ | .lookup _ _ _ _ | .mapUpdate _ _ _ _ | .insert _ _ _ _ | .build _ _ | .alloc _ | .box _ _ | .buildSlice _ _ _ | .makeMap _ _ | .slice _ _ _ _ _=>true
 | _=>false
theorem y2es {op:Op} (h:ybsl op=false):kindC P D op=yxdv P op:=by
 cases op <;> first | (simp [ybsl] at h;done) | rfl
theorem y4nf {op:Op} (h:ybsl op=false):cop P D op=aop P op:=by
 cases op <;> first | (simp [ybsl] at h;done) | rfl
theorem yhww (hD:CTOk P D) {op:Op} {ρ:Operand→Value} {h:H} {K:Value→H→Prop} (ho:cop P D op ρ h K):aop P op ρ h K:=by
 cases hs:ybsl op
 ·rw [y4nf hs] at ho;exact ho
 cases op <;> first | (simp [ybsl] at hs;done) | exact ho | skip
 rename_i c
 unfold cop at ho
 simp only at ho
 split at ho
 ·rename_i f hc
  simp only [aop,aCall,hc]
  cases hb:yu9w P f
  ·rw [hb] at ho;exact ho
  ·rw [hb,cond_true] at ho
   split at ho
   ·rename_i C hv
    exact ⟨ho.1,hD _ _ hv _ _ _ ho.2⟩
   ·exact ho
 ·exact ho
theorem ybom {op:Op} {ρ:Operand→Value} {h:H} {K K':Value→H→Prop} (hk:∀v h,K v h→K' v h) (ho:cop P D op ρ h K):cop P D op ρ h K':=by
 cases hs:ybsl op
 ·rw [y4nf hs] at ho ⊢;exact yoh7 hk ho
 cases op <;> first | (simp [ybsl] at hs;done) | skip
 case lookup=>exact yoh7 (P:=P) (op:=.lookup ..) (ρ:=ρ) hk ho
 case mapUpdate=>exact yoh7 (P:=P) (op:=.mapUpdate ..) (ρ:=ρ) hk ho
 case insert=>exact yoh7 (P:=P) (op:=.insert ..) (ρ:=ρ) hk ho
 case build=>exact yoh7 (P:=P) (op:=.build ..) (ρ:=ρ) hk ho
 case alloc=>exact yoh7 (P:=P) (op:=.alloc ..) (ρ:=ρ) hk ho
 case box=>exact yoh7 (P:=P) (op:=.box ..) (ρ:=ρ) hk ho
 case buildSlice=>exact yoh7 (P:=P) (op:=.buildSlice ..) (ρ:=ρ) hk ho
 case makeMap=>exact yoh7 (P:=P) (op:=.makeMap ..) (ρ:=ρ) hk ho
 case slice=>exact yoh7 (P:=P) (op:=.slice ..) (ρ:=ρ) hk ho
 rename_i c
 unfold cop at ho ⊢
 simp only at ho ⊢
 revert ho
 split
 ·rename_i f hc
  cases hb:yu9w P f
  ·exact id
  ·simp only [cond_true]
   split
   ·exact fun ho=>⟨ho.1,CE.mono hk ho.2⟩
   ·exact fun ho=>⟨ho.1,Spec.mono ho.2 hk⟩
 ·exact yrwh hk
theorem y339 {op:Op} {ρ:Operand→Value} (hk:kindC P D op<3):Det (fun K h=>cop P D op ρ h K) (kindC P D op):=by
 cases hs:ybsl op
 ·rw [y2es hs] at hk ⊢;rw [y4nf hs];exact y3ye hk
 cases op <;> try (simp [ybsl] at hs;done)
 case call c =>
  unfold kindC at hk ⊢
  unfold cop
  simp only at hk ⊢
  revert hk
  split
  ·rename_i f hc
   cases hb:yu9w P f
   ·intro _ K h hr;exact absurd hr id
   simp only [cond_true]
   cases hd:D f with
   | none=>intro hk;exact absurd hk (by decide)
   | some C =>
     cases C with
     | val g =>
       intro _
       refine yda3 (r:=fun K=>(c.args.toList.map ρ).all boxV=true∧o_opt (g (c.args.toList.map ρ)) K) fun K h=>?_
       obtain ⟨h1,h2⟩:=h
       unfold o_opt at *
       split at h2
       ·rename_i v hv
        exact ⟨v,h2,fun K' hk=>⟨h1,hk⟩⟩
       ·exact h2.elim
     | read g _ =>
       intro _ K h hr
       obtain ⟨h1,h2⟩:=hr
       simp only [o_ct,CE.run] at h2 ⊢
       unfold o_opt at *
       split at h2
       ·rename_i v hv
        refine ⟨v,h,h2,fun _=>rfl,fun K' hk=>⟨h1,?_⟩,fun h=>absurd h (by decide)⟩
        simp only [hv];exact hk
       ·exact h2.elim
     | grow Pre R _ _=>intro hk;exact absurd (show 5<3 from hk) (by omega)
     | full C m=>intro hk;exact absurd hk (Nat.lt_irrefl 3)
  ·intro hk;exact y3ye (op:=.call c) hk
 case alloc=>exact absurd (show 4<3 from hk) (by omega)
 case box=>exact absurd (show 4<3 from hk) (by omega)
 case buildSlice=>exact absurd (show 4<3 from hk) (by omega)
 case makeMap=>exact absurd (show 4<3 from hk) (by omega)
 case slice t x lo hi mx =>
  unfold kindC at hk ⊢
  simp only at hk ⊢
  intro K h hr
  unfold cop at hr ⊢
  simp only [aop] at hr ⊢
  revert hk hr
  split
  ·rename_i e hu
   simp only [hu]
   cases P.info? e with
   | none=>intro _ hr;exact hr.elim
   | some i =>
     intro _ hr
     have key:∀{K:Value→Prop},ykvd i.size (ρ x) (lo.map ρ) (hi.map ρ) (mx.map ρ) K→∃v,K v∧∀K':Value→Prop,K' v→ykvd i.size (ρ x) (lo.map ρ) (hi.map ρ) (mx.map ρ) K':=by
      intro K hs
      unfold ykvd at hs ⊢
      revert hs
      split
      ·rintro ⟨l,u,h1,h2,h3,h4,h5⟩
       by_cases c1:l=0
       ·rw [if_pos c1] at h5
        exact ⟨_,h5,fun K' hk'=>⟨l,u,h1,h2,h3,h4,by rw [if_pos c1];exact hk'⟩⟩
       ·rw [if_neg c1] at h5
        rename_i cc _ _
        by_cases c2:l<cc
        ·rw [if_pos c2] at h5
         exact ⟨_,h5,fun K' hk'=>⟨l,u,h1,h2,h3,h4,by rw [if_neg c1,if_pos c2];exact hk'⟩⟩
        ·rw [if_neg c2] at h5
         exact ⟨_,h5,fun K' hk'=>⟨l,u,h1,h2,h3,h4,by rw [if_neg c1,if_neg c2];exact hk'⟩⟩
      ·rintro ⟨h1,h2,h3⟩;exact ⟨_,h3,fun K' hk'=>⟨h1,h2,hk'⟩⟩
      ·rintro ⟨h1,h2,h3⟩;exact ⟨_,h3,fun K' hk'=>⟨h1,h2,hk'⟩⟩
      ·rintro ⟨h1,h2,h3⟩;exact ⟨_,h3,fun K' hk'=>⟨h1,h2,hk'⟩⟩
      ·intro hs;exact hs.elim
     obtain ⟨v,h1,h2⟩:=key hr
     exact ⟨v,h,h1,fun _=>rfl,fun K' hk'=>h2 (fun v=>K' v h) hk',fun _ h2' K' hk'=>h2 (fun v=>K' v h2') hk'⟩
  ·intro hk _;exact absurd hk (by omega)
 case build t ps =>
  refine yda3 (r:=fun K=>yiyd P t (ps.toList.map fun p=>(p.1,ρ p.2)) K) fun K h=>?_
  unfold yiyd at *
  cases hq:((ps.toList.map fun p=>(p.1,ρ p.2)).all fun p=>boxV p.2) <;> simp only [hq,cond_true,cond_false] at h ⊢
  revert h
  split
  ·intro h;exact ⟨_,h,fun _ h=>h⟩
  ·intro h;exact h.elim
 case lookup t x k ok =>
  intro K h hr
  unfold cop at hr ⊢
  simp only [aop] at hr ⊢
  revert hr
  split
  ·split
   ·unfold ylze
    rintro ⟨h0,hr⟩
    revert hr
    repeat' split
    all_goals intro hr
    all_goals first | exact ⟨_,_,hr,fun _=>rfl,fun _ hh=>⟨h0,hh⟩,fun h=>absurd h (by simp [kindC])⟩ | exact ⟨_,_,hr.2,fun _=>rfl,fun _ hh=>⟨h0,hr.1,hh⟩,fun h=>absurd h (by simp [kindC])⟩ | exact absurd hr id
   ·intro hr;exact absurd hr id
  ·intro hr;exact absurd hr id
 case mapUpdate t m k x =>
  intro K h hr
  unfold cop at hr ⊢
  simp only [aop] at hr ⊢
  revert hr
  split
  ·split
   ·unfold ynew
    rintro ⟨h0,h1,hr⟩
    revert hr
    repeat' split
    all_goals intro hr
    all_goals first | exact ⟨_,_,hr.2,fun h=>absurd h (by simp [kindC]),fun _ hh=>⟨h0,h1,hr.1,hh⟩,fun h=>absurd h (by simp [kindC])⟩ | exact absurd hr id
   ·intro hr;exact absurd hr id
  ·intro hr;exact absurd hr id
 case insert t m k x =>
  intro K h hr
  unfold cop at hr ⊢
  simp only [aop] at hr ⊢
  revert hr
  split
  ·split
   ·unfold ynew
    rintro ⟨h0,h1,hr⟩
    revert hr
    repeat' split
    all_goals intro hr
    all_goals first | exact ⟨_,_,hr.2,fun h=>absurd h (by simp [kindC]),fun _ hh=>⟨h0,h1,hr.1,hh⟩,fun h=>absurd h (by simp [kindC])⟩ | exact absurd hr id
   ·intro hr;exact absurd hr id
  ·intro hr;exact absurd hr id
theorem ylcr {op:Op} {ρ ρ':Operand→Value} (hρ:∀x∈op.operands.toList,ρ x=ρ' x):aop P op ρ=aop P op ρ':=by
 funext h K
 have hm:∀(a:Array Operand),(∀ x∈a.toList,ρ x=ρ' x)→a.toList.map ρ=a.toList.map ρ':=fun a ha=>List.map_congr_left ha
 have hma:∀(a:Array Operand),(∀ x∈a.toList,ρ x=ρ' x)→a.map ρ=a.map ρ':=fun a ha=>Array.toList_inj.1 (by simpa using List.map_congr_left ha)
 have hp:∀(a:Array (Nat×Operand)),(∀ x∈a.toList,ρ x.2=ρ' x.2)→(a.toList.map fun p=>(p.1,ρ p.2))=a.toList.map fun p=>(p.1,ρ' p.2):=fun a ha=>List.map_congr_left fun x hx=>by rw [ha x hx]
 have ho:∀(a:Option Operand),(∀ x∈a.toArray.toList,ρ x=ρ' x)→a.map ρ=a.map ρ':=fun a ha=>by
  cases a with
  | none=>rfl
  | some x=>simp only [Option.map_some];rw [ha x (by simp)]
 cases op
 case call c =>
  have h1:c.args.toList.map ρ=c.args.toList.map ρ':=hm _ fun x hx=>hρ x (by simp [Op.operands,Call.operands];exact .inr (by simpa using hx))
  have h2:∀i,c.callee=.value (.tmp i)→ρ (.tmp i)=ρ' (.tmp i):=fun i hi=>hρ _ (by simp [Op.operands,Call.operands,hi])
  have h3:∀x∈c.args.toList,ρ x=ρ' x:=fun x hx=>hρ x (by simp [Op.operands,Call.operands];exact .inr (by simpa using hx))
  simp only [aop,aCall]
  split
  case _ x t hc ha hy=>rw [ha] at h3;rw [h3 x (by simp)]
  case _ s x t u hc ha hy=>rw [ha] at h3;rw [h3 x (by simp),h3 s (by simp)]
  case _ s x t u hc ha hy=>rw [ha] at h3;rw [h3 x (by simp),h3 s (by simp)]
  case _ s x t u hc ha hy=>rw [ha] at h3;rw [h3 x (by simp),h3 s (by simp)]
  case _ u s x hc ha=>rw [ha] at h3;rw [h3 x (by simp),h3 s (by simp)]
  case _ u s x hc ha=>rw [ha] at h3;rw [h3 x (by simp),h3 s (by simp)]
  case _ u f hc=>rw [h1]
  case _ u i hc=>rw [h1,h2 i hc]
  case _=>rfl
 case build t ps=>simp only [aop];rw [hp ps fun x hx=>hρ _ (by simp [Op.operands];exact ⟨_,by simpa using hx⟩)]
 case buildSlice t n ps=>simp only [aop];rw [hp ps fun x hx=>hρ _ (by simp [Op.operands];exact ⟨_,by simpa using hx⟩)]
 case makeFunc f a b =>
  have ha:∀x∈a.toList,ρ x=ρ' x:=fun x hx=>hρ x (by simp [Op.operands];exact .inl (by simpa using hx))
  have hb:∀x∈b.toList,ρ x=ρ' x:=fun x hx=>hρ x (by simp [Op.operands];exact .inr (by simpa using hx))
  cases f <;> simp only [aop,hm a ha,hm b hb,hma a ha,hma b hb]
 case makeMap t r=>simp only [aop,ho r fun x hx=>hρ x (by simpa [Op.operands] using hx)]
 case slice t x lo hi mx =>
  simp only [Op.operands] at hρ
  have h1:ρ x=ρ' x:=hρ x (by simp)
  have h2:=ho lo fun y hy=>hρ y (by simp at hy ⊢;exact .inr (.inl hy))
  have h3:=ho hi fun y hy=>hρ y (by simp at hy ⊢;exact .inr (.inr (.inl hy)))
  have h4:=ho mx fun y hy=>hρ y (by simp at hy ⊢;exact .inr (.inr (.inr hy)))
  simp only [aop,h1,h2,h3,h4]
 case next it b =>
  have h1:ρ it=ρ' it:=hρ it (by simp [Op.operands])
  cases b <;> simp only [aop,h1]
 all_goals
  simp only [Op.operands] at hρ
  simp only [aop]
  try (simp at hρ;simp [hρ])
theorem ywsc {op:Op} {ρ ρ':Operand→Value} (hρ:∀x∈op.operands.toList,ρ x=ρ' x):cop P D op ρ=cop P D op ρ':=by
 cases hs:ybsl op
 ·rw [y4nf hs];exact ylcr hρ
 cases op <;> try (simp [ybsl] at hs;done)
 case call c =>
  have hm:c.args.toList.map ρ=c.args.toList.map ρ':=List.map_congr_left fun x hx=>hρ x (by simp [Op.operands,Call.operands];exact .inr (by simpa using hx))
  unfold cop
  simp only
  split
  ·rw [hm]
  ·exact ylcr (op:=.call c) hρ
 all_goals exact ylcr (P:=P) hρ
def cStep (P:Program) (D:CT) (ops:Array Oper) (i:Nat) (K:T→H→Prop) (t:T) (h:H):Prop :=
 match ops[i]? with
 | none=>K t h
 | some o =>
   match o.guard with
   | none=>cop P D o.op (aev t) h fun v h=>K (tput t o.dst v) h
   | some (j,want)=>yy7w (yreo ops j t) want (cop P D o.op (aev t) h) (fun v h=>K (tput t o.dst v) h) h
def cOps (P:Program) (D:CT) (ops:Array Oper):List Nat→(T→H→Prop)→T→H→Prop
 | [],K,t,h=>K t h
 | i::is,K,t,h=>cStep P D ops i (cOps P D ops is K) t h
def cAny (P:Program) (D:CT) (ops:Array Oper) (K:T→H→Prop):Nat→Array Bool→T→H→Prop
 | 0,listed,t,h=>Region.ready .any ops listed=[]∧K t h
 | fuel+1,listed,t,h=>(Region.ready .any ops listed=[]→K t h) ∧
    ∀i∈Region.ready .any ops listed,cStep P D ops i (cAny P D ops K fuel (listed.setIfInBounds i true)) t h
theorem ycg0 {ops:Array Oper} {i:Nat} {K K':T→H→Prop} {t:T} {h:H} (hk:∀t h,K t h→K' t h) (hs:cStep P D ops i K t h):cStep P D ops i K' t h:=by
 unfold cStep at *
 revert hs
 split
 ·exact hk _ _
 ·split
  ·exact ybom fun _ _=>hk _ _
  ·unfold yy7w
   split
   ·rename_i j want _ _ b _
    cases (b==want)
    ·exact hk _ _
    ·exact ybom fun _ _=>hk _ _
   ·exact hk _ _
theorem y5d1 (hD:CTOk P D) {ops:Array Oper} {i:Nat} {K:T→H→Prop} {t:T} {h:H} (hs:cStep P D ops i K t h):aStep P ops i K t h:=by
 unfold cStep at hs
 unfold aStep
 cases ho:ops[i]? with
 | none=>rw [ho] at hs;exact hs
 | some o =>
   rw [ho] at hs
   simp only at hs ⊢
   cases hg:o.guard with
   | none=>rw [hg] at hs;exact yhww hD hs
   | some g =>
     obtain ⟨j,want⟩:=g
     rw [hg] at hs
     simp only at hs ⊢
     unfold yy7w at *
     cases hv:yreo ops j t with
     | bool b =>
       rw [hv] at hs
       simp only at hs ⊢
       cases hb:(b==want)
       ·rw [hb] at hs;exact hs
       ·rw [hb] at hs;exact yhww hD hs
     | _=>rw [hv] at hs;exact hs
theorem y6ot (hD:CTOk P D) {ops:Array Oper} {K:T→H→Prop}:∀(fuel:Nat) (l:Array Bool) {t h},cAny P D ops K fuel l t h→aAny P ops K fuel l t h
 | 0,_,_,_,ho=>ho
 | fuel+1,l,t,h,ho=>⟨ho.1,fun i hi=>y5d1 hD (ycg0 (fun t h=>y6ot hD fuel _) (ho.2 i hi))⟩
theorem yz9e {ops:Array Oper} {i:Nat} {K:T→H→Prop} {t:T} {h:H} {o:Oper} (ho:ops[i]?=some o) (hk:kindC P D o.op<3) (hs:cStep P D ops i K t h) :
 ∃v h',K (tput t o.dst v) h'∧(kindC P D o.op<2→h'=h)∧(∀ (t2:T),(∀ d∈o.looksAt ops,t d=t2 d)→(∀ K':T→H→Prop,K' (tput t2 o.dst v) h'→cStep P D ops i K' t2 h) ∧
  (kindC P D o.op=0→∀h2 (K':T→H→Prop),K' (tput t2 o.dst v) h2→cStep P D ops i K' t2 h2)):=by
 unfold cStep at hs ⊢
 simp only [ho] at hs ⊢
 cases hg:o.guard with
 | none =>
   simp only [hg] at hs ⊢
   obtain ⟨v,h',h1,h2,h3,h4⟩:=y339 hk _ _ hs
   refine ⟨v,h',h1,h2,fun t2 ht=>?_⟩
   have e:cop P D o.op (aev t2)=cop P D o.op (aev t):=(ywsc (yig2 ht)).symm
   rw [e]
   exact ⟨fun K' hk'=>h3 (fun v h=>K' (tput t2 o.dst v) h) hk',fun h0 hh K' hk'=>h4 h0 hh (fun v h=>K' (tput t2 o.dst v) h) hk'⟩
 | some g =>
   obtain ⟨j,want⟩:=g
   simp only [hg] at hs ⊢
   unfold yy7w at hs ⊢
   cases hq:yreo ops j t with
   | bool b =>
     simp only [hq] at hs
     cases hb:(b==want) with
     | true =>
       simp only [hb,cond_true] at hs
       obtain ⟨v,h',h1,h2,h3,h4⟩:=y339 hk _ _ hs
       refine ⟨v,h',h1,h2,fun t2 ht=>?_⟩
       have e:cop P D o.op (aev t2)=cop P D o.op (aev t):=(ywsc (yig2 ht)).symm
       simp only [← yi7n hg ht,hq,hb,cond_true]
       rw [e]
       exact ⟨fun K' hk'=>h3 (fun v h=>K' (tput t2 o.dst v) h) hk',fun h0 hh K' hk'=>h4 h0 hh (fun v h=>K' (tput t2 o.dst v) h) hk'⟩
     | false =>
       simp only [hb,cond_false] at hs
       refine ⟨undef,h,hs,fun _=>rfl,fun t2 ht=>?_⟩
       simp only [← yi7n hg ht,hq,hb,cond_false]
       exact ⟨fun _ h=>h,fun _ _ _ h=>h⟩
   | _ =>
     simp only [hq] at hs
     refine ⟨undef,h,hs,fun _=>rfl,fun t2 ht=>?_⟩
     simp only [← yi7n hg ht,hq]
     exact ⟨fun _ h=>h,fun _ _ _ h=>h⟩
theorem ye63 {ops:Array Oper} {i:Nat} {K K':T→H→Prop} {t t2:T} {h:H} {o:Oper} (ho:ops[i]?=some o) (ht:∀d∈o.looksAt ops,t d=t2 d) (hk:∀v h,K (tput t o.dst v) h→K' (tput t2 o.dst v) h)
 (hs:cStep P D ops i K t h):cStep P D ops i K' t2 h:=by
 unfold cStep at hs ⊢
 simp only [ho] at hs ⊢
 have e:cop P D o.op (aev t2)=cop P D o.op (aev t):=(ywsc (yig2 ht)).symm
 cases hg:o.guard with
 | none =>
   simp only [hg] at hs ⊢
   rw [e];exact ybom hk hs
 | some g =>
   obtain ⟨j,want⟩:=g
   simp only [hg] at hs ⊢
   rw [← yi7n hg ht,e]
   unfold yy7w at hs ⊢
   split at hs
   ·rename_i b _
    simp only
    cases hb:(b==want)
    ·rw [hb] at hs;exact hk _ _ hs
    ·rw [hb] at hs;exact ybom hk hs
   ·exact hk _ _ hs
theorem yezu {op:Op} {ρ:Operand→Value} (hk:kindC P D op<2) {K:Value→H→Prop} {h:H} (ho:cop P D op ρ h K):∃v,K v h∧∀h2,Sub h h2→∀K':Value→H→Prop,K' v h2→cop P D op ρ h2 K':=by
 by_cases h0:kindC P D op=0
 ·obtain ⟨v,h',h1,h2,h3,h4⟩:=y339 (by omega) _ _ ho
  have:=h2 (by omega)
  subst this
  exact ⟨v,h1,fun h2 _ K' hk'=>h4 h0 h2 K' hk'⟩
 ·cases op <;> simp only [kindC,yxdv] at hk h0 <;> try (exact absurd hk (by decide)) <;> try (exact absurd rfl h0)
  case load t a =>
   unfold cop at ho ⊢
   simp only [aop] at ho ⊢
   split at ho
   ·rename_i ag n _
    unfold ysm8 at ho ⊢
    split at ho
    ·rename_i b o
     cases ag with
     | true =>
       simp only [cond_true] at ho ⊢
       split at ho
       ·rename_i l hl
        exact ⟨_,ho,fun h2 hs K' hk'=>by rw [hs.cellsAt hl];exact hk'⟩
       ·exact ho.elim
     | false =>
       simp only [cond_false] at ho ⊢
       split at ho
       ·rename_i v hv
        exact ⟨_,ho,fun h2 hs K' hk'=>by rw [hs.cellAt hv];exact hk'⟩
       ·exact ho.elim
    ·exact ho.elim
   ·exact ho.elim
  case lookup t x k ok =>
   unfold cop at ho ⊢
   simp only [aop] at ho ⊢
   split at ho
   ·split at ho
    ·rename_i z kk _ _
     unfold ylze at ho ⊢
     obtain ⟨hkk,ho⟩:=ho
     split at ho
     ·exact ⟨_,ho,fun h2 hs K' hk'=>⟨hkk,hk'⟩⟩
     ·split at ho
      ·rename_i m _ kk' es ck hm
       obtain ⟨hke,ho⟩:=ho
       split at ho
       ·rename_i v hv
        exact ⟨_,ho,fun h2 hs K' hk'=>⟨hkk,by simp only [hs _ _ hm,hv];exact ⟨hke,hk'⟩⟩⟩
       ·rename_i hv
        exact ⟨_,ho,fun h2 hs K' hk'=>⟨hkk,by simp only [hs _ _ hm,hv];exact ⟨hke,hk'⟩⟩⟩
      ·exact ho.elim
     ·exact ho.elim
    ·exact ho.elim
   ·exact ho.elim
  case call c =>
   unfold cop at ho ⊢
   simp only at ho ⊢
   revert hk h0 ho
   split
   ·rename_i f hc
    intro hk ho h0
    cases hb:yu9w P f
    ·rw [hb] at ho;exact ho.elim
    rw [hb,cond_true] at ho
    simp only [cond_true]
    cases hd:D f with
    | none=>rw [hd] at hk;exact absurd hk (by decide)
    | some C =>
      rw [hd] at ho hk h0
      cases C with
      | val g=>exact absurd rfl h0
      | grow Pre R _ _=>exact absurd (show 5<2 from hk) (by omega)
      | full C m=>exact absurd (show 3<2 from hk) (by omega)
      | read g u =>
        obtain ⟨h1,h2⟩:=ho
        simp only [CE.run] at h2
        unfold o_opt at h2
        split at h2
        ·rename_i v hv
         exact ⟨v,h2,fun h3 hs K' hk'=>⟨h1,by simp only [CE.run,u _ _ _ _ hs hv];exact hk'⟩⟩
        ·exact h2.elim
   ·intro hk ho h0
    exfalso
    revert hk h0
    repeat' split
    all_goals (intro hk h0;first | omega | simp_all)
  all_goals
   exfalso
   revert hk h0
   repeat' split
   all_goals (intro hk h0;first | omega | simp_all)
theorem yrnt {op:Op} {ρ:Operand→Value} (hk:kindC P D op=4):(∀ h K,¬cop P D op ρ h K)∨∃(f:Nat→Value) (q:AObj),∀h K,cop P D op ρ h K↔∀b,2≤b→h b=none→K (f b) (upd h b q):=by
 cases op <;> simp only [kindC,yxdv] at hk <;> try (exact absurd hk (by decide))
 case alloc E =>
  unfold cop
  simp only [aop]
  cases y7rv P E with
  | none=>exact .inl fun _ _ h=>h
  | some z=>exact .inr ⟨_,_,fun _ _=>Iff.rfl⟩
 case box E x =>
  unfold cop
  simp only [aop]
  by_cases hb:boxV (ρ x)=true
  ·exact .inr ⟨fun b=>.pointer (some ⟨b,0,none⟩),.cells (ρ x).cells.toList E .exact,fun _ _=>by simp only [hb,true_and];exact Iff.rfl⟩
  ·exact .inl fun _ _ h=>hb h.1
 case buildSlice t n ps =>
  unfold cop
  simp only [aop,yyll]
  cases yrjn P t n (ps.toList.map fun p=>(p.1,ρ p.2)) with
  | none=>exact .inl fun _ _ h=>h
  | some ce=>exact .inr ⟨_,_,fun _ _=>Iff.rfl⟩
 case makeMap t r =>
  unfold cop
  simp only [aop]
  split
  ·cases kkOf P _ with
   | none=>exact .inl fun _ _ h=>h
   | some kk=>exact .inr ⟨_,_,fun _ _=>Iff.rfl⟩
  ·cases kkOf P _ with
   | none=>exact .inl fun _ _ h=>h
   | some kk=>exact .inr ⟨_,_,fun _ _=>Iff.rfl⟩
  ·exact .inl fun _ _ h=>h
 all_goals
  exfalso
  revert hk
  repeat' split
  all_goals (intro hk;first | omega | simp_all)
theorem ytzp {op:Op} {ρ:Operand→Value} (hk:kindC P D op=5):(∀ h K,¬cop P D op ρ h K)∨∃(p:H→Prop) (R:H→Value→Prop),(∀ h h',Sub h h'→p h→p h')∧(∀ v h h',Sub h h'→R h v→R h' v)∧∀h K,cop P D op ρ h K↔p h∧∀v h',Sub h h'→R h' v→K v h':=by
 cases op <;> simp only [kindC,yxdv] at hk <;> try (exact absurd hk (by decide))
 case call c =>
  unfold cop
  simp only
  revert hk
  split
  ·rename_i f hc
   intro hk
   cases hb:yu9w P f
   ·exact .inl fun _ _ h=>h
   simp only [cond_true]
   cases hd:D f with
   | none=>rw [hd] at hk;exact absurd hk (by decide)
   | some C =>
     rw [hd] at hk
     cases C with
     | val g=>exact absurd (show (0:Nat)=5 from hk) (by omega)
     | read g u=>exact absurd (show (1:Nat)=5 from hk) (by omega)
     | full C m=>exact absurd (show (3:Nat)=5 from hk) (by omega)
     | grow Pre R u1 u2 =>
       by_cases hx:(c.args.toList.map ρ).all boxV=true
       ·exact .inr ⟨Pre (c.args.toList.map ρ),R (c.args.toList.map ρ),u1 _,u2 _,fun h K=>by simp only [o_ct,CE.run,hx,true_and]⟩
       ·exact .inl fun _ _ h=>hx h.1
  ·intro hk
   exfalso
   revert hk
   repeat' split
   all_goals (intro hk;first | omega | simp_all)
 all_goals
  exfalso
  revert hk
  repeat' split
  all_goals (intro hk;first | omega | simp_all)
theorem yjff {op:Op} {ρ:Operand→Value} (hk:kindC P D op=4∨kindC P D op=5) {K:Value→H→Prop} {h:H} (ho:cop P D op ρ h K):cop P D op ρ h fun v h'=>Sub h h'∧K v h':=by
 rcases hk with hk | hk
 ·rcases yrnt (ρ:=ρ) hk with hf | ⟨f,q,hf⟩
  ·exact absurd ho (hf _ _)
  ·rw [hf] at ho ⊢
   exact fun b h2 hb=>⟨Sub.new hb,ho b h2 hb⟩
 ·rcases ytzp (ρ:=ρ) hk with hf | ⟨p,R,_,_,hf⟩
  ·exact absurd ho (hf _ _)
  ·rw [hf] at ho ⊢
   exact ⟨ho.1,fun v h' hs hv=>⟨hs,ho.2 v h' hs hv⟩⟩
def yys9 (ops:Array Oper) (o:Oper) (t:T):Bool:=match o.guard with
 | none=>true
 | some (j,w)=>match yreo ops j t with
   | .bool b=>b==w
   | _=>false
theorem yg7j {ops:Array Oper} {i:Nat} {t:T} {o:Oper} (ho:ops[i]?=some o) {K:T→H→Prop} {h:H}:cStep P D ops i K t h=bif yys9 ops o t then cop P D o.op (aev t) h (fun v h=>K (tput t o.dst v) h) else K (tput t o.dst undef) h:=by
 unfold cStep yys9
 simp only [ho]
 cases o.guard with
 | none=>rfl
 | some g =>
   obtain ⟨j,w⟩:=g
   simp only
   unfold yy7w
   split <;> simp_all
theorem yp5a {ops:Array Oper} {t t2:T} {o:Oper} (ht:∀d∈o.looksAt ops,t d=t2 d):yys9 ops o t2=yys9 ops o t:=by
 unfold yys9
 cases hg:o.guard with
 | none=>rfl
 | some g=>simp only [yi7n hg ht]
def statA (P:Program):Op→Bool
 | .alloc E=>(y7rv P E).isSome
 | .makeMap t none=>match P.underlying t with
   | some (.map kt _)=>(kkOf P kt).isSome
   | _=>false
 | _=>false
theorem y9on {op:Op} {ρ:Operand→Value} (hk:statA P op=true):∃(f:Nat→Value) (q:AObj),∀h K,cop P D op ρ h K↔∀b,2≤b→h b=none→K (f b) (upd h b q):=by
 unfold statA at hk
 split at hk
 ·rename_i E
  unfold cop
  simp only [aop]
  cases hz:y7rv P E with
  | none=>rw [hz] at hk;cases hk
  | some z=>exact ⟨_,_,fun _ _=>Iff.rfl⟩
 ·rename_i t
  split at hk
  ·rename_i kt e hu
   unfold cop
   simp only [aop,hu,Option.map_none]
   cases hz:kkOf P kt with
   | none=>rw [hz] at hk;cases hk
   | some z=>exact ⟨_,_,fun _ _=>Iff.rfl⟩
  ·cases hk
 ·cases hk
def freeC (P:Program) (D:CT) (ops:Array Oper) (x y:Oper):Bool :=
 x.apart ops y&&(Nat.beq (kindC P D x.op) 0||(Nat.beq (kindC P D y.op) 0&&Nat.blt (kindC P D x.op) 3)||(Nat.blt (kindC P D x.op) 2&&(Nat.blt (kindC P D y.op) 2||Nat.blt 3 (kindC P D y.op)&&Nat.blt (kindC P D y.op) 6))||(Nat.beq (kindC P D x.op) 4&&statA P y.op))
theorem yh7l {ops:Array Oper} {i j:Nat} {K:T→H→Prop} {t:T} {h:H} {x y:Oper} (hj:ops[j]?=some x) (hi:ops[i]?=some y) (hf:freeC P D ops x y=true)
 (hs:cStep P D ops j (cStep P D ops i K) t h):cStep P D ops i (cStep P D ops j K) t h:=by
 simp only [freeC,Bool.and_eq_true] at hf
 obtain ⟨f1,f2,f3⟩:=Oper.apart_spec hf.1
 have hf2:=hf.2
 have ec:∀vj vi,tput (tput t x.dst vj) y.dst vi=tput (tput t y.dst vi) x.dst vj:=fun vj vi=>y7cf f2
 have ei:∀vj,∀d∈y.looksAt ops,tput t x.dst vj d=t d:=fun vj d hd=>yjcn fun he=>f1 d he hd
 have ej:∀vi,∀d∈x.looksAt ops,t d=tput t y.dst vi d:=fun vi d hd=>(yjcn fun he=>f3 d he hd).symm
 by_cases hx0:kindC P D x.op=0
 ·obtain ⟨vj,hj',a1,a2,a3⟩:=yz9e hj (by omega) hs
  have e1:=a2 (by omega)
  subst e1
  refine ye63 hi (ei vj) (fun v h2 hk=>?_) a1
  rw [ec] at hk
  exact (a3 _ (ej v)).2 hx0 _ _ hk
 by_cases hxi:yys9 ops x t=false
 ·-- x is idle
  rw [yg7j hj,hxi,cond_false] at hs
  refine ye63 hi (ei undef) (fun v h2 hk=>?_) hs
  rw [yg7j hj,yp5a (ej v),hxi,cond_false,←ec];exact hk
 have hxa:yys9 ops x t=true:=by simpa using hxi
 by_cases hyi:yys9 ops y t=false
 ·-- y is idle
  rw [yg7j hi,hyi,cond_false,yg7j hj,yp5a (ej undef),hxa,cond_true]
  rw [yg7j hj,hxa,cond_true] at hs
  have e:cop P D x.op (aev (tput t y.dst undef))=cop P D x.op (aev t):=(ywsc (yig2 (ej undef))).symm
  rw [e]
  refine ybom (fun v h2 hk=>?_) hs
  rw [yg7j hi,yp5a (t2:=tput t x.dst v) (fun d hd=>(ei v d hd).symm),hyi,cond_false,ec] at hk
  exact hk
 have hya:yys9 ops y t=true:=by simpa using hyi
 simp only [Bool.or_eq_true,Bool.and_eq_true,Nat.blt_eq] at hf2
 rcases hf2 with ((q | q) | q) | q
 ·exact absurd (Nat.eq_of_beq_eq_true q) hx0
 ·have hy0:=Nat.eq_of_beq_eq_true q.1
  have hx:=q.2
  obtain ⟨vj,hj',a1,a2,a3⟩:=yz9e hj hx hs
  obtain ⟨vi,hi',b1,b2,b3⟩:=yz9e hi (by omega) a1
  rw [ec] at b1
  have B:=b3 t (ei vj)
  have A:=a3 _ (ej vi)
  have e2:=b2 (by omega)
  subst e2
  exact B.2 hy0 _ _ (A.1 _ b1)
 ·obtain ⟨qx,qy⟩:=q
  -- x reads
  rw [yg7j hj,hxa,cond_true] at hs
  obtain ⟨vj,a1,a2⟩:=yezu qx hs
  rcases qy with qy | qy
  ·rw [yg7j hi,yp5a (t2:=tput t x.dst vj) (fun d hd=>(ei vj d hd).symm),hya,cond_true] at a1
   have e:cop P D y.op (aev (tput t x.dst vj))=cop P D y.op (aev t):=ywsc (yig2 (ei vj))
   rw [e] at a1
   obtain ⟨vi,h',b1,b2,b3,_⟩:=y339 (by omega) _ _ a1
   have:=b2 qy
   subst this
   rw [yg7j hi,hya,cond_true]
   refine b3 _ ?_
   rw [yg7j hj,yp5a (ej vi),hxa,cond_true]
   have e:cop P D x.op (aev (tput t y.dst vi))=cop P D x.op (aev t):=(ywsc (yig2 (ej vi))).symm
   rw [e]
   refine a2 _ (Sub.refl _) _ ?_
   rw [← ec];exact b1
  ·rw [yg7j hi,yp5a (t2:=tput t x.dst vj) (fun d hd=>(ei vj d hd).symm),hya,cond_true] at a1
   have e:cop P D y.op (aev (tput t x.dst vj))=cop P D y.op (aev t):=ywsc (yig2 (ei vj))
   rw [e] at a1
   rw [yg7j hi,hya,cond_true]
   refine ybom (fun vi h' hk=>?_) (yjff (by omega) a1)
   rw [yg7j hj,yp5a (ej vi),hxa,cond_true]
   have e:cop P D x.op (aev (tput t y.dst vi))=cop P D x.op (aev t):=(ywsc (yig2 (ej vi))).symm
   rw [e]
   refine a2 _ hk.1 _ ?_
   rw [← ec];exact hk.2
 ·-- both make a block
  have qx:=Nat.eq_of_beq_eq_true q.1
  rw [yg7j hj,hxa,cond_true] at hs
  rw [yg7j hi,hya,cond_true]
  rcases yrnt (P:=P) (D:=D) (ρ:=aev t) qx with hfx | ⟨fx,ox,hfx⟩
  ·exact absurd hs (hfx _ _)
  rw [hfx] at hs
  have hin:∀v h2,cStep P D ops i K (tput t x.dst v) h2=cop P D y.op (aev t) h2 fun w h3=>K (tput (tput t x.dst v) y.dst w) h3:=fun v h2=>by
   rw [yg7j hi,yp5a (t2:=tput t x.dst v) (fun d hd=>(ei v d hd).symm),hya,cond_true,ywsc (yig2 (ei v))]
  simp only [hin] at hs
  have hout:∀w h2,cStep P D ops j K (tput t y.dst w) h2=cop P D x.op (aev t) h2 fun v h3=>K (tput (tput t y.dst w) x.dst v) h3:=fun w h2=>by
   rw [yg7j hj,yp5a (ej w),hxa,cond_true,←ywsc (yig2 (ej w))]
  simp only [hout]
  obtain ⟨fy,oy,hfy⟩:=y9on (D:=D) (ρ:=aev t) q.2
  rw [hfy]
  intro b2 h22 hb2
  rw [hfx]
  intro b1 h21 hb1
  have hne:b1≠b2:=by rintro rfl;rw [yy0e] at hb1;cases hb1
  rw [yrkk _ _ hne] at hb1
  have:=hs b1 h21 hb1
  rw [hfy] at this
  have:=this b2 h22 (by rw [yrkk _ _ (Ne.symm hne)];exact hb2)
  rw [ec] at this
  have eu:upd (upd h b1 ox) b2 oy=upd (upd h b2 oy) b1 ox:=by
   funext c
   unfold upd
   by_cases h1:c=b1 <;> by_cases h2:c=b2 <;> simp_all
  rw [eu] at this
  exact this
inductive Anc (ops:Array Oper):Nat→Nat→Prop
 | one {i j:Nat} (h:j∈depL ops i):Anc ops i j
 | two {i d j:Nat} (h:d∈depL ops i) (k:Anc ops d j):Anc ops i j
theorem Anc.listed {ops:Array Oper} {l:Array Bool} (hc:yefu ops l) {i j:Nat} (h:Anc ops i j):(∀ d∈depL ops i,l.getD d false=true)→l.getD j false=true:=by
 induction h with
 | one h=>exact fun hd=>hd _ h
 | two h _ ih=>exact fun hd=>ih (hc _ (hd _ h))
def y33n:List (Nat×Nat)→Nat→Nat
 | [],_=>0
 | (k,m)::r,i=>bif Nat.beq k i then m else y33n r i
def y5z3 (tb:List (Nat×Nat)):List Nat→Nat
 | []=>0
 | d::r=>(2^d ||| y33n tb d) ||| y5z3 tb r
def y1qz (ops:Array Oper):List Nat→List (Nat×Nat)→List (Nat×Nat)
 | [],tb=>tb
 | i::r,tb=>y1qz ops r ((i,y5z3 tb (depL ops i))::tb)
theorem yms1 {ops:Array Oper}:∀(l:List Nat) (tb:List (Nat×Nat)),(∀ i j,(y33n tb i).testBit j=true→Anc ops i j)→∀i j,(y33n (y1qz ops l tb) i).testBit j=true→Anc ops i j
 | [],_,h=>h
 | k::r,tb,h=>by
   refine yms1 r _ fun i j hb=>?_
   simp only [y33n] at hb
   cases hk:Nat.beq k i
   ·rw [hk,cond_false] at hb;exact h i j hb
   ·rw [hk,cond_true] at hb
    have:=Nat.eq_of_beq_eq_true hk
    subst this
    have go:∀ds:List Nat,(y5z3 tb ds).testBit j=true→∃d∈ds,d=j∨Anc ops d j:=by
     intro ds
     induction ds with
     | nil=>intro hb;simp [y5z3] at hb
     | cons d ds ih =>
       intro hb
       simp only [y5z3,Nat.testBit_or,Bool.or_eq_true] at hb
       rcases hb with (hb | hb) | hb
       ·refine ⟨d,List.mem_cons_self ..,.inl ?_⟩
        rw [Nat.testBit_two_pow] at hb
        simpa using hb
       ·exact ⟨d,List.mem_cons_self ..,.inr (h d j hb)⟩
       ·obtain ⟨e,he,hh⟩:=ih hb
        exact ⟨e,List.mem_cons_of_mem _ he,hh⟩
    obtain ⟨d,hd,rfl | ha⟩:=go _ hb
    ·exact .one hd
    ·exact .two hd ha
def ydjj (ops:Array Oper) (ord:List Nat):Nat→Nat→Bool:=fun i j=>(y33n (y1qz ops ord []) i).testBit j
theorem yqkk {ops:Array Oper} {ord:List Nat} {i j:Nat} (h:ydjj ops ord i j=true):Anc ops i j:=yms1 ord [] (fun i j hb=>by simp [y33n] at hb) i j h
def memB (j:Nat):List Nat→Bool
 | []=>false
 | i::r=>Nat.beq i j||memB j r
def ykug:List Nat→Bool
 | []=>true
 | j::r=>!memB j r&&ykug r
theorem ye6g {j:Nat}:∀{l:List Nat},memB j l=true↔j∈l
 | []=>by simp [memB]
 | i::r=>by
   simp only [memB,Bool.or_eq_true,List.mem_cons,ye6g]
   constructor
   ·rintro (h | h)
    ·exact .inl (Nat.eq_of_beq_eq_true h).symm
    ·exact .inr h
   ·rintro (rfl | h)
    ·exact .inl (Nat.beq_refl _)
    ·exact .inr h
theorem y7f1:∀{l:List Nat},ykug l=true→l.Nodup
 | [],_=>.nil
 | j::r,h=>by
   simp only [ykug,Bool.and_eq_true,Bool.not_eq_true'] at h
   refine List.nodup_cons.2 ⟨fun hm=>?_,y7f1 h.2⟩
   rw [ye6g.2 hm] at h;exact absurd h.1 (by decide)
def okO (P:Program) (D:CT) (ops:Array Oper) (w:Nat→Nat→Bool):List Nat→Bool
 | []=>true
 | j::r=>(match ops[j]? with
   | some x=>x.after.all (fun e=>!Region.binds .any e||(Nat.blt e.on ops.size&&!memB e.on (j::r)))&&r.all (fun i=>match ops[i]? with
     | some y=>freeC P D ops x y||w i j
     | none=>false)
   | none=>false)&&okO P D ops w r
def ordOk (P:Program) (D:CT) (ops:Array Oper) (ord:List Nat):Bool :=
 okO P D ops (ydjj ops ord) ord&&ykug ord&&(List.range ops.size).all fun i=>memB i ord
section
variable {w:Nat→Nat→Bool}
theorem ye1d {ops:Array Oper} {q:Nat→Bool}:∀{l:List Nat},okO P D ops w l=true→okO P D ops w (l.filter q)=true
 | [],_=>rfl
 | j::r,h=>by
   simp only [okO,Bool.and_eq_true] at h
   have ih:=ye1d (q:=q) h.2
   rw [List.filter_cons]
   split
   ·simp only [okO,Bool.and_eq_true,ih,and_true]
    cases hx:ops[j]? with
    | none=>rw [hx] at h;exact absurd h.1 Bool.false_ne_true
    | some x =>
      rw [hx] at h
      simp only [Bool.and_eq_true] at h ⊢
      refine ⟨Array.all_eq_true_iff_forall_mem.2 fun e he=>?_,List.all_eq_true.2 fun k hk=>List.all_eq_true.1 h.1.2 k (List.mem_filter.1 hk).1⟩
      have:=Array.all_eq_true_iff_forall_mem.1 h.1.1 e he
      simp only [Bool.or_eq_true,Bool.and_eq_true,Bool.not_eq_true'] at this ⊢
      refine this.imp id fun h=>⟨h.1,?_⟩
      cases hm:memB e.on (j::r.filter q) with
      | false=>rfl
      | true =>
        have h1:=ye6g.1 hm
        have h2:memB e.on (j::r)=true:=ye6g.2 (by
         rcases List.mem_cons.1 h1 with h1 | h1
         ·rw [h1];exact List.mem_cons_self ..
         ·exact List.mem_cons_of_mem _ (List.mem_filter.1 h1).1)
        rw [h2] at h
        exact absurd h.2 (by decide)
   ·exact ih
theorem yapr {ops:Array Oper} {i:Nat} {post:List Nat}:∀{pre:List Nat},okO P D ops w (pre++i::post)=true→∀j∈pre,∃x y,ops[j]?=some x∧ops[i]?=some y∧(freeC P D ops x y=true∨w i j=true)
 | [],_,j,hj=>by cases hj
 | a::pre,h,j,hj=>by
   simp only [List.cons_append,okO,Bool.and_eq_true] at h
   rcases List.mem_cons.1 hj with rfl | hj
   ·cases hx:ops[j]? with
    | none=>rw [hx] at h;exact absurd h.1 Bool.false_ne_true
    | some x =>
      rw [hx] at h
      simp only [Bool.and_eq_true] at h
      have:=List.all_eq_true.1 h.1.2 i (by simp)
      cases hy:ops[i]? with
      | none=>rw [hy] at this;exact absurd this Bool.false_ne_true
      | some y =>
        rw [hy] at this
        simp only [Bool.or_eq_true] at this
        exact ⟨x,y,rfl,rfl,this⟩
   ·exact yapr h.2 j hj
theorem yyuq {ops:Array Oper} {i:Nat} {r:List Nat} (h:okO P D ops w (i::r)=true):∃y,ops[i]?=some y∧∀e∈y.after,Region.binds .any e=true→e.on<ops.size∧e.on∉i::r:=by
 simp only [okO,Bool.and_eq_true] at h
 cases hx:ops[i]? with
 | none=>rw [hx] at h;exact absurd h.1 Bool.false_ne_true
 | some x =>
   rw [hx] at h
   simp only [Bool.and_eq_true] at h
   refine ⟨x,rfl,fun e he hb=>?_⟩
   have:=Array.all_eq_true_iff_forall_mem.1 h.1.1 e he
   rw [hb] at this
   simp only [Bool.not_true,Bool.false_or,Bool.and_eq_true,Nat.blt_eq,Bool.not_eq_true'] at this
   refine ⟨this.1,fun hm=>?_⟩
   rw [ye6g.2 hm] at this
   exact absurd this.2 (by decide)
end
theorem yavw {ops:Array Oper} {i:Nat} {K:T→H→Prop} {y:Oper} (hi:ops[i]?=some y):∀(pre post:List Nat),(∀ j∈pre,∃x,ops[j]?=some x∧freeC P D ops x y=true) →
 ∀{t h},cOps P D ops (pre++i::post) K t h→cStep P D ops i (cOps P D ops (pre++post) K) t h
 | [],_,_,_,_,ho=>ho
 | j::pre,post,hp,t,h,ho=>by
   obtain ⟨x,h1,h3⟩:=hp j (List.mem_cons_self ..)
   have ho':cStep P D ops j (cStep P D ops i (cOps P D ops (pre++post) K)) t h:=ycg0 (fun t h hh=>yavw hi pre post (fun j hj=>hp j (List.mem_cons_of_mem _ hj)) hh) ho
   exact yh7l h1 hi h3 ho'
def restO (ord:List Nat) (l:Array Bool):List Nat:=ord.filter fun i=>!l.getD i true
theorem yfd6 {ord:List Nat} {l:Array Bool} {i:Nat} (hi:i<l.size):restO ord (l.setIfInBounds i true)=(restO ord l).filter (fun j=>!Nat.beq j i):=by
 unfold restO
 rw [List.filter_filter]
 congr 1
 funext j
 by_cases hj:j=i
 ·subst hj
  simp [hi]
 ·have:Nat.beq j i=false:=by
   cases hq:Nat.beq j i with
   | false=>rfl
   | true=>exact absurd (Nat.eq_of_beq_eq_true hq) hj
  simp only [this,Bool.not_false,Bool.true_and]
  congr 1
  by_cases h5:j<l.size
  ·simp [Array.getD,h5,Ne.symm hj]
  ·simp [Array.getD,h5]
theorem y2va {ops:Array Oper} {ord:List Nat} (hall:∀i,i<ops.size→i∈ord) (l:Array Bool):∀i∈Region.ready .any ops l,i∈restO ord l:=by
 intro i hi
 simp only [Region.ready,List.mem_filter,Bool.and_eq_true] at hi
 exact List.mem_filter.2 ⟨hall i (List.mem_range.1 hi.1),hi.2.1⟩
theorem ynxr {ops:Array Oper} {ord:List Nat} (hall:∀i,i<ops.size→i∈ord) {l:Array Bool} (hl:l.size=ops.size) {i:Nat} {r:List Nat} (hq:restO ord l=i::r) {y:Oper} (hy:ops[i]?=some y) (h1:∀e∈y.after,Region.binds .any e=true→e.on<ops.size∧e.on∉i::r):i∈Region.ready .any ops l:=by
 have him:i∈restO ord l:=by rw [hq];exact List.mem_cons_self ..
 have hil:=List.mem_filter.1 him
 have hin:i<ops.size:=(Array.getElem?_eq_some_iff.1 hy).1
 simp only [Region.ready,List.mem_filter,Bool.and_eq_true]
 refine ⟨List.mem_range.2 hin,hil.2,?_⟩
 simp only [hy,Option.map_some,Option.getD_some]
 refine Array.all_eq_true_iff_forall_mem.2 fun e hem=>?_
 cases hb:Region.binds .any e with
 | false=>rfl
 | true =>
   obtain ⟨h4,h2⟩:=h1 e hem hb
   simp only [Bool.not_true,Bool.false_or]
   have h6:e.on<l.size:=by omega
   have h5:l.getD e.on true≠false:=by
    intro hf
    have h3:e.on∈restO ord l:=List.mem_filter.2 ⟨hall _ h4,by simp [hf]⟩
    rw [hq] at h3
    exact h2 h3
   simp only [Array.getD,h6,dif_pos] at h5 ⊢
   simpa using h5
theorem y5db {ops:Array Oper} {ord:List Nat} {l:Array Bool} {w:Nat→Nat→Bool} (hw:∀i j,w i j=true→Anc ops i j) (hc:yefu ops l) (hl:l.size=ops.size) {i j:Nat} (hi:i∈Region.ready .any ops l) (hj:j∈restO ord l):w i j=false:=by
 cases hb:w i j with
 | false=>rfl
 | true =>
   exfalso
   have h1:=(hw i j hb).listed hc (y939 hl hi).2.2
   have h4:=(List.mem_filter.1 hj).2
   have h5:j<l.size:=by
    rcases Nat.lt_or_ge j l.size with h | h
    ·exact h
    ·simp [Array.getD,Nat.not_lt.2 h] at h4
   simp only [Array.getD,h5,dif_pos] at h1 h4
   rw [h1] at h4
   cases h4
theorem y4gr {ops:Array Oper} {ord:List Nat} (hnd:ord.Nodup) {l:Array Bool} (hl:l.size=ops.size) {i:Nat} (hin:i<ops.size) {pre post:List Nat} (hpp:restO ord l=pre++i::post):restO ord (l.setIfInBounds i true)=pre++post:=by
 have hs:(restO ord l).Nodup:=hnd.filter _
 rw [hpp] at hs
 have hs1:=List.nodup_append.1 hs
 have hpre:∀j∈pre,j≠i:=fun j hj=>hs1.2.2 j hj i (List.mem_cons_self ..)
 have hpost:∀j∈post,j≠i:=fun j hj he=>(List.nodup_cons.1 hs1.2.1).1 (he▸hj)
 rw [yfd6 (by omega),hpp,List.filter_append,List.filter_cons]
 have e1:pre.filter (fun j=>!Nat.beq j i)=pre:=List.filter_eq_self.2 fun j hj=>by
  have:=hpre j hj
  cases hq:Nat.beq j i with
  | false=>rfl
  | true=>exact absurd (Nat.eq_of_beq_eq_true hq) this
 have e2:post.filter (fun j=>!Nat.beq j i)=post:=List.filter_eq_self.2 fun j hj=>by
  have:=hpost j hj
  cases hq:Nat.beq j i with
  | false=>rfl
  | true=>exact absurd (Nat.eq_of_beq_eq_true hq) this
 rw [e1,e2]
 simp
theorem y6o2 {ops:Array Oper} {l:Array Bool} {i:Nat} (hi:i∈Region.ready .any ops l):i<ops.size:=by
 simp only [Region.ready,List.mem_filter] at hi
 exact List.mem_range.1 hi.1
theorem y9mb {ops:Array Oper} {ord:List Nat} {w:Nat→Nat→Bool} (hw:∀i j,w i j=true→Anc ops i j) (hnd:ord.Nodup) (hall:∀i,i<ops.size→i∈ord) {K:T→H→Prop}:∀(fuel:Nat) (l:Array Bool),l.size=ops.size→yefu ops l→okO P D ops w (restO ord l)=true→(restO ord l).length=fuel→∀{t h},cOps P D ops (restO ord l) K t h→cAny P D ops K fuel l t h:=by
 intro fuel
 induction fuel with
 | zero =>
   intro l hl hcl hko hn t h ho
   have he:=List.length_eq_zero_iff.1 hn
   rw [he] at ho
   refine ⟨?_,ho⟩
   cases hr:Region.ready .any ops l with
   | nil=>rfl
   | cons a r =>
     have:=y2va hall l a (by rw [hr];exact List.mem_cons_self ..)
     rw [he] at this
     cases this
 | succ fuel ih =>
   intro l hl hcl hko hn t h ho
   refine ⟨fun he=>?_,fun i hi=>?_⟩
   ·exfalso
    cases hq:restO ord l with
    | nil=>rw [hq] at hn;cases hn
    | cons i r =>
      rw [hq] at hko
      obtain ⟨y,hy,h1⟩:=yyuq hko
      have:=ynxr hall hl hq hy h1
      rw [he] at this
      cases this
   ·have him:=y2va hall l i hi
    have hin:=y6o2 hi
    obtain ⟨pre,post,hpp⟩:=List.append_of_mem him
    have hrest:=y4gr hnd hl hin hpp
    obtain ⟨y,hy⟩:∃y,ops[i]?=some y:=⟨_,Array.getElem?_eq_getElem hin⟩
    have hko':okO P D ops w (restO ord (l.setIfInBounds i true))=true:=by rw [yfd6 (by omega)];exact ye1d hko
    have hf:=fun j (hj:j∈pre)=>y5db (ord:=ord) hw hcl hl hi (show j∈restO ord l by rw [hpp];exact List.mem_append_left _ hj)
    rw [hpp] at ho hn hko
    refine ycg0 (fun t h hh=>ih (l.setIfInBounds i true) (by simpa using hl) (hcl.set hl hi) hko' (by rw [hrest];simp at hn ⊢;omega) (by rw [hrest];exact hh)) (yavw hy pre post (fun j hj=>?_) ho)
    obtain ⟨x,y',hx,hy',hor⟩:=yapr hko j hj
    rw [hy] at hy'
    cases hy'
    exact ⟨x,hx,hor.resolve_right fun hb=>by rw [hf j hj] at hb;cases hb⟩
def waits (w:Nat→Nat→Bool) (seen:List Nat):List Nat→Bool
 | []=>true
 | k::r=>(seen.any fun j=>w k j)&&waits w (k::seen) r
theorem yaem {w:Nat→Nat→Bool} {i:Nat}:∀{l seen:List Nat},waits w seen l=true→i∈l→∃j,w i j=true∧(j∈seen∨j∈l)
 | [],_,_,hi=>by cases hi
 | k::r,seen,hw,hi=>by
   simp only [waits,Bool.and_eq_true] at hw
   rcases List.mem_cons.1 hi with rfl | hi
   ·obtain ⟨j,h1,h2⟩:=List.any_eq_true.1 hw.1
    exact ⟨j,h2,.inl h1⟩
   ·obtain ⟨j,h2,h3⟩:=yaem hw.2 hi
    refine ⟨j,h2,?_⟩
    rcases h3 with h3 | h3
    ·rcases List.mem_cons.1 h3 with rfl | h3
     ·exact .inr (List.mem_cons_self ..)
     ·exact .inl h3
    ·exact .inr (List.mem_cons_of_mem _ h3)
theorem ys8b {ops:Array Oper} {K:T→H→Prop}:∀(a b:List Nat) (t:T) (h:H),cOps P D ops (a++b) K t h=cOps P D ops a (cOps P D ops b K) t h
 | [],_,_,_=>rfl
 | i::a,b,t,h=>by
   show cStep P D ops i (cOps P D ops (a++b) K) t h=cStep P D ops i (cOps P D ops a (cOps P D ops b K)) t h
   congr 1
   funext t h
   exact ys8b a b t h
theorem y770 {ops:Array Oper} {K K':T→H→Prop} (hk:∀t h,K t h→K' t h):∀(l:List Nat) {t:T} {h:H},cOps P D ops l K t h→cOps P D ops l K' t h
 | [],_,_,ho=>hk _ _ ho
 | _::l,_,_,ho=>ycg0 (fun _ _ hh=>y770 hk l hh) ho
def yo7e (P:Program) (D:CT) (ops:Array Oper) (pre:List Nat) (a b:Nat) (post:List Nat):Bool :=
 okO P D ops (ydjj ops (pre++a::b::post)) (pre++a::post)&&okO P D ops (ydjj ops (pre++a::b::post)) (pre++b::post)&&ykug (pre++a::b::post)&&((List.range ops.size).all fun i=>memB i (pre++a::b::post))&&waits (ydjj ops (pre++a::b::post)) [a,b] post &&
  pre.all (fun i=>!memB a (depL ops i)&&!memB b (depL ops i))&&!memB b (depL ops a)&&!memB a (depL ops b)
theorem yime {ops:Array Oper} {pre post:List Nat} {a b:Nat} (hok:yo7e P D ops pre a b post=true) {K:T→H→Prop}:∀(fuel:Nat) (l:Array Bool),l.size=ops.size→yefu ops l→(∀ i∈a::b::post,l.getD i true=false)→(restO pre l).length+2+post.length=fuel →
 ∀{t h},cOps P D ops (restO pre l) (fun t h=>cOps P D ops (a::b::post) K t h∧cOps P D ops (b::a::post) K t h) t h→cAny P D ops K fuel l t h:=by
 simp only [yo7e,Bool.and_eq_true] at hok
 obtain ⟨⟨⟨⟨⟨⟨⟨ok1,ok2⟩,nd⟩,cov⟩,wt⟩,pab⟩,ab⟩,ba⟩:=hok
 have hw:∀i j,ydjj ops (pre++a::b::post) i j=true→Anc ops i j:=fun i j h=>yqkk h
 generalize ydjj ops (pre++a::b::post)=w at *
 have hnd:=y7f1 nd
 have hall:∀i,i<ops.size→i∈pre++a::b::post:=fun i hi=>ye6g.1 (List.all_eq_true.1 cov i (List.mem_range.2 hi))
 have hpm:(pre++b::a::post).Perm (pre++a::b::post):=List.Perm.append_left pre (List.Perm.swap a b post)
 have hnd2:(pre++b::a::post).Nodup:=hpm.nodup_iff.2 hnd
 have hall2:∀i,i<ops.size→i∈pre++b::a::post:=fun i hi=>hpm.mem_iff.2 (hall i hi)
 have hnp:pre.Nodup:=(List.nodup_append.1 hnd).1
 have hdis:∀i∈pre,∀k∈a::b::post,i≠k:=(List.nodup_append.1 hnd).2.2
 intro fuel
 induction fuel with
 | zero=>intro l hl hcl hu hn;omega
 | succ fuel ih =>
   intro l hl hcl hu hn t h ho
   have hself:∀m:List Nat,(∀ i∈m,l.getD i true=false)→restO m l=m:=fun m hm=>List.filter_eq_self.2 fun i hi=>by rw [hm i hi];rfl
   have happ:∀m n:List Nat,restO (m++n) l=restO m l++restO n l:=fun m n=>List.filter_append ..
   have hr1:restO (pre++a::b::post) l=restO pre l++a::b::post:=by rw [happ,hself _ hu]
   have hu2:∀i∈b::a::post,l.getD i true=false:=fun i hi=>hu i ((List.Perm.swap a b post).mem_iff.1 hi)
   have hr2:restO (pre++b::a::post) l=restO pre l++b::a::post:=by rw [happ,hself _ hu2]
   have k1:okO P D ops w (restO pre l++a::post)=true:=by
    have:=ye1d (q:=fun i=>!l.getD i true) ok1
    have e:restO (pre++a::post) l=restO pre l++a::post:=by rw [happ,hself (a::post) fun i hi=>hu i (by rcases List.mem_cons.1 hi with rfl | hi <;> simp_all)]
    rw [← e];exact this
   have k2:okO P D ops w (restO pre l++b::post)=true:=by
    have:=ye1d (q:=fun i=>!l.getD i true) ok2
    have e:restO (pre++b::post) l=restO pre l++b::post:=by rw [happ,hself (b::post) fun i hi=>hu i (by rcases List.mem_cons.1 hi with rfl | hi <;> simp_all)]
    rw [← e];exact this
   refine ⟨fun he=>?_,fun i hi=>?_⟩
   ·exfalso
    cases hq:restO pre l with
    | nil =>
      rw [hq] at k1 hr1
      obtain ⟨y,hy,h1⟩:=yyuq k1
      have:=ynxr hall hl (i:=a) (r:=b::post) hr1 hy fun e he hb=>by
       obtain ⟨q1,q2⟩:=h1 e he hb
       refine ⟨q1,fun hm=>?_⟩
       rcases List.mem_cons.1 hm with hm | hm
       ·exact q2 (by rw [hm];exact List.mem_cons_self ..)
       ·rcases List.mem_cons.1 hm with hm | hm
        ·have:e.on∈depL ops a:=by
          unfold depL
          rw [hy]
          exact List.mem_map.2 ⟨e,List.mem_filter.2 ⟨by simpa using he,hb⟩,rfl⟩
         rw [hm] at this
         rw [ye6g.2 this] at ab
         exact absurd ab (by decide)
        ·exact q2 (List.mem_cons_of_mem _ hm)
      rw [he] at this
      cases this
    | cons i r =>
      rw [hq] at k1 k2 hr1
      obtain ⟨y,hy,h1⟩:=yyuq (show okO P D ops w (i::(r++a::post))=true from k1)
      obtain ⟨y',hy',h3⟩:=yyuq (show okO P D ops w (i::(r++b::post))=true from k2)
      rw [hy] at hy'
      cases hy'
      have:=ynxr hall hl (i:=i) (r:=r++a::b::post) hr1 hy fun e he hb=>by
       obtain ⟨q1,q2⟩:=h1 e he hb
       obtain ⟨_,q3⟩:=h3 e he hb
       refine ⟨q1,fun hk=>?_⟩
       simp only [List.mem_cons,List.mem_append,not_or] at hk q2 q3
       rcases hk with hk | hk | hk | hk | hk
       ·exact q2.1 hk
       ·exact q2.2.1 hk
       ·exact q2.2.2.1 hk
       ·exact q3.2.2.1 hk
       ·exact q2.2.2.2 hk
      rw [he] at this
      cases this
   ·have him:=y2va hall l i hi
    have hin:=y6o2 hi
    obtain ⟨y,hy⟩:∃y,ops[i]?=some y:=⟨_,Array.getElem?_eq_getElem hin⟩
    have hl':(l.setIfInBounds i true).size=ops.size:=by simpa using hl
    have hfree:∀j∈restO (pre++a::b::post) l,w i j=false:=fun j hj=>y5db hw hcl hl hi hj
    rw [hr1] at him hfree
    rcases List.mem_append.1 him with hip | hip
    ·-- ahead of both
     obtain ⟨p1,p2,hpp⟩:=List.append_of_mem hip
     have hrest:=y4gr hnp hl hin hpp
     have hmem:i∈pre:=(List.mem_filter.1 hip).1
     rw [hpp] at ho hn k1
     refine ycg0 (fun t h hh=>ih (l.setIfInBounds i true) hl' (hcl.set hl hi) (fun k hk=>?_) (by rw [hrest];simp at hn ⊢;omega) (by rw [hrest];exact hh)) (yavw hy p1 p2 (fun j hj=>?_) ho)
     ·have hne:=hdis i hmem k hk
      have:=hu k hk
      simp only [Array.getD,Array.size_setIfInBounds] at this ⊢
      split at this
      ·rename_i hk2
       rw [dif_pos hk2]
       exact (Array.getElem_setIfInBounds_ne (xs:=l) (i:=i) (j:=k) hk2 hne).trans this
      ·cases this
     ·obtain ⟨x,y',hx,hy',hor⟩:=yapr (post:=p2++a::post) (by simpa using k1) j hj
      rw [hy] at hy'
      cases hy'
      refine ⟨x,hx,hor.resolve_right fun hb=>?_⟩
      rw [hfree j (by rw [hpp];simp [hj])] at hb
      cases hb
    ·rcases List.mem_cons.1 hip with rfl | hip
     ·have h1:cOps P D ops (restO pre l++i::(b::post)) K t h:=by
       rw [ys8b];exact y770 (fun _ _ hh=>hh.1) _ ho
      have hrest:=y4gr hnd hl hin hr1
      refine ycg0 (fun t h hh=>y9mb hw hnd hall fuel _ hl' (hcl.set hl hi) (by rw [hrest];exact k2) (by rw [hrest];simp at hn ⊢;omega) (by rw [hrest];exact hh)) (yavw hy _ _ (fun j hj=>?_) h1)
      obtain ⟨x,y',hx,hy',hor⟩:=yapr k1 j hj
      rw [hy] at hy'
      cases hy'
      refine ⟨x,hx,hor.resolve_right fun hb=>?_⟩
      rw [hfree j (List.mem_append_left _ hj)] at hb
      cases hb
     ·rcases List.mem_cons.1 hip with rfl | hip
      ·have h1:cOps P D ops (restO pre l++i::(a::post)) K t h:=by
        rw [ys8b];exact y770 (fun _ _ hh=>hh.2) _ ho
       have hrest:=y4gr hnd2 hl hin hr2
       refine ycg0 (fun t h hh=>y9mb hw hnd2 hall2 fuel _ hl' (hcl.set hl hi) (by rw [hrest];exact k1) (by rw [hrest];simp at hn ⊢;omega) (by rw [hrest];exact hh)) (yavw hy _ _ (fun j hj=>?_) h1)
       obtain ⟨x,y',hx,hy',hor⟩:=yapr k2 j hj
       rw [hy] at hy'
       cases hy'
       refine ⟨x,hx,hor.resolve_right fun hb=>?_⟩
       rw [hfree j (List.mem_append_left _ hj)] at hb
       cases hb
      ·exfalso
       obtain ⟨j,h2,h3⟩:=yaem wt hip
       have hjm:j∈restO pre l++a::b::post:=by
        simp only [List.mem_append,List.mem_cons,List.not_mem_nil,or_false] at h3 ⊢
        rcases h3 with (h3 | h3) | h3
        ·exact .inr (.inl h3)
        ·exact .inr (.inr (.inl h3))
        ·exact .inr (.inr (.inr h3))
       rw [hfree j hjm] at h2
       cases h2
theorem yhch {ops:Array Oper} {ord:List Nat} (hok:ordOk P D ops ord=true) {K:T→H→Prop}:∀(fuel:Nat) (l:Array Bool),l.size=ops.size→yefu ops l→(restO ord l).length=fuel→∀{t h},cOps P D ops (restO ord l) K t h→cAny P D ops K fuel l t h:=by
 simp only [ordOk,Bool.and_eq_true] at hok
 exact fun fuel l hl hcl hn t h ho=>y9mb (fun i j h=>yqkk h) (y7f1 hok.1.2) (fun i hi=>ye6g.1 (List.all_eq_true.1 hok.2 i (List.mem_range.2 hi))) fuel l hl hcl (ye1d hok.1.1) hn ho
end
def csem (P:Program) (D:CT) (ops:Array Oper):FT→(T→H→Prop)→T→H→Prop
 | .nil,K,t,h=>K t h
 | .op i r,K,t,h=>match ops[i]? with
   | some o=>cop P D o.op (aev t) h fun v h=>csem P D ops r K (tput t o.dst v) h
   | none=>False
 | .grp g w s r,K,t,h=>match yreo ops g t with
   | .bool b=>bif b==w then csem P D ops s (csem P D ops r K) t h else csem P D ops r K (yfp8 ops s.flat t) h
   | _=>csem P D ops r K (yfp8 ops s.flat t) h
section
variable {P:Program} {D:CT} {ops:Array Oper}
theorem yfnn {K:T→H→Prop}:∀(a b:List Nat) (t:T) (h:H),cOps P D ops (a++b) K t h=cOps P D ops a (cOps P D ops b K) t h
 | [],_,_,_=>rfl
 | i::a,b,t,h=>by
   show cStep P D ops i (cOps P D ops (a++b) K) t h=cStep P D ops i (cOps P D ops a (cOps P D ops b K)) t h
   congr 1
   funext t h
   exact yfnn a b t h
theorem y35k {K:T→H→Prop}:∀(s:FT) (a:Nat×Bool) (acts:Acts) (seen:List Nat) {t:T} {h:H},fok ops (a::acts) seen s=true→idleA ops t a→(∀ j∈seen,yreo ops j t=undef) →
 K (yfp8 ops s.flat t) h→cOps P D ops s.flat K t h:=by
 intro s
 induction s generalizing K with
 | nil=>intro a acts seen t h _ _ _ hk;exact hk
 | op i r ih =>
   intro a acts seen t h hf hi hs hk
   simp only [fok,Bool.and_eq_true] at hf
   cases ho:ops[i]? with
   | none=>rw [ho] at hf;cases hf.1
   | some o =>
     rw [ho] at hf
     simp only [Bool.and_eq_true] at hf
     obtain ⟨⟨h1,_⟩,h3⟩:=hf
     show cStep P D ops i (cOps P D ops r.flat K) t h
     unfold cStep
     simp only [ho]
     cases hg:o.guard with
     | none=>rw [hg] at h1;cases h1
     | some g =>
       obtain ⟨g,w⟩:=g
       rw [hg] at h1
       obtain ⟨ag,aw⟩:=a
       simp only [Bool.and_eq_true,beq_iff_eq] at h1
       have e1:=Nat.eq_of_beq_eq_true h1.1
       have e2:=h1.2
       subst e1;subst e2
       have hk2:cOps P D ops r.flat K (tput t o.dst undef) h:=by
        refine ih (ag,aw) acts (i::seen) h3 (yemb hi) ?_ ?_
        ·intro j hj
         rcases List.mem_cons.1 hj with rfl | hj
         ·exact y9sy ho
         ·rcases yflr (ops:=ops) (j:=j) (t:=t) (d:=o.dst) with h | h
          ·exact h
          ·rw [h];exact hs j hj
        ·have:yfp8 ops (FT.op i r).flat t=yfp8 ops r.flat (tput t o.dst undef):=by
          show yfp8 ops (i::r.flat) t=_
          simp [yfp8,ho]
         rw [this] at hk;exact hk
       show yy7w (yreo ops ag t) aw _ (fun v h=>cOps P D ops r.flat K (tput t o.dst v) h) h
       unfold yy7w
       split
       ·rename_i b hb
        rw [hi b hb,cond_false];exact hk2
       ·exact hk2
 | grp g w s r ihs ihr =>
   intro a acts seen t h hf hi hs hk
   simp only [fok,Bool.and_eq_true] at hf
   obtain ⟨⟨h1,h2⟩,h3⟩:=hf
   show cOps P D ops (s.flat++r.flat) K t h
   rw [yfnn]
   have hgm:g∈seen:=by
    obtain ⟨x,hx,he⟩:=List.any_eq_true.1 h1
    rw [Nat.eq_of_beq_eq_true he];exact hx
   refine ihs (g,w) (a::acts) [] h2 ?_ (fun _ hj=>absurd hj (by simp)) ?_
   ·intro b hb
    rw [hs g hgm] at hb;simp [undef] at hb
   ·refine ihr a acts (s.flat++seen) h3 ?_ ?_ ?_
    ·intro b hb
     rcases yf2e (ops:=ops) (j:=a.1) s.flat t with h | h
     ·rw [h] at hb;simp [undef] at hb
     ·rw [h] at hb;exact hi b hb
    ·intro j hj
     rcases List.mem_append.1 hj with hj | hj
     ·exact ypuc _ _ hj
     ·rcases yf2e (ops:=ops) (j:=j) s.flat t with h | h
      ·exact h
      ·rw [h];exact hs j hj
    ·rw [← yylk];exact hk
theorem yne2:∀(s:FT) (acts:Acts) (seen:List Nat) {K1 K2:T→H→Prop} {t:T} {h:H},fok ops acts seen s=true→(∀ a∈acts,yfna ops t a) →
 (∀ t h,(∀ a∈acts,yfna ops t a)→K1 t h→K2 t h)→csem P D ops s K1 t h→cOps P D ops s.flat K2 t h:=by
 intro s
 induction s with
 | nil=>intro acts seen K1 K2 t h _ hw hk hs;exact hk _ _ hw hs
 | op i r ih =>
   intro acts seen K1 K2 t h hf hw hk hs
   have hf':=hf
   simp only [fok,Bool.and_eq_true] at hf
   unfold csem at hs
   cases ho:ops[i]? with
   | none=>rw [ho] at hs;exact absurd hs id
   | some o =>
     rw [ho] at hs hf
     simp only [Bool.and_eq_true] at hf hs
     obtain ⟨⟨h1,h2⟩,h3⟩:=hf
     show cStep P D ops i (cOps P D ops r.flat K2) t h
     have hop:cop P D o.op (aev t) h fun v h=>cOps P D ops r.flat K2 (tput t o.dst v) h:=by
      refine ybom (fun v h hh=>ih acts (i::seen) h3 (fun a ha=>?_) hk hh) hs
      show yreo ops a.1 (tput t o.dst v)=_
      rw [ybrc fun x hx=>yod8 (.op i r) acts seen hf' ha i (List.mem_cons_self ..) o ho x hx]
      exact hw a ha
     unfold cStep
     simp only [ho]
     cases hg:o.guard with
     | none=>exact hop
     | some g =>
       obtain ⟨g,w⟩:=g
       cases acts with
       | nil=>rw [hg] at h1;cases h1
       | cons a acts =>
         obtain ⟨ag,aw⟩:=a
         rw [hg] at h1
         simp only [Bool.and_eq_true,beq_iff_eq] at h1
         have e1:=Nat.eq_of_beq_eq_true h1.1
         have e2:=h1.2
         subst e1;subst e2
         have hwa:=hw (ag,aw) (List.mem_cons_self ..)
         unfold yfna at hwa
         simp only at hwa ⊢
         show yy7w (yreo ops ag t) aw _ (fun v h=>cOps P D ops r.flat K2 (tput t o.dst v) h) h
         unfold yy7w
         rw [hwa]
         simp only [beq_self_eq_true,cond_true]
         exact hop
 | grp g w s r ihs ihr =>
   intro acts seen K1 K2 t h hf hw hk hs
   simp only [fok,Bool.and_eq_true] at hf
   obtain ⟨⟨h1,h2⟩,h3⟩:=hf
   show cOps P D ops (s.flat++r.flat) K2 t h
   rw [yfnn]
   unfold csem at hs
   have helse:idleA ops t (g,w)→csem P D ops r K1 (yfp8 ops s.flat t) h→cOps P D ops s.flat (cOps P D ops r.flat K2) t h:=by
    intro hi hs
    have hr:cOps P D ops r.flat K2 (yfp8 ops s.flat t) h:=ihr acts _ h3 (fun a ha=>y3zk _ (yod8 s _ _ h2 (List.mem_cons_of_mem _ ha)) (hw a ha)) hk hs
    exact y35k s (g,w) acts [] h2 hi (fun _ hj=>absurd hj (by simp)) hr
   split at hs
   ·rename_i b hb
    cases hbw:(b==w) with
    | true =>
      rw [hbw,cond_true] at hs
      refine ihs ((g,w)::acts) [] h2 ?_ ?_ hs
      ·intro a ha
       rcases List.mem_cons.1 ha with rfl | ha
       ·unfold yfna;rw [hb,eq_of_beq hbw]
       ·exact hw a ha
      ·intro t h hw' hh
       exact ihr acts _ h3 (fun a ha=>hw' a (List.mem_cons_of_mem _ ha)) hk hh
    | false =>
      rw [hbw,cond_false] at hs
      exact helse (fun b' hb'=>by rw [hb] at hb';cases hb';exact hbw) hs
   ·rename_i hnb
    exact helse (fun b' hb'=>absurd hb' (hnb b')) hs
def planC (ops:Array Oper) (ord:List Nat):FT:=mkF ops (2*ops.size+2) none ord
def cReg (P:Program) (D:CT) (ops:Array Oper) (ord:List Nat) (K:T→H→Prop) (t:T) (h:H):Prop :=
 bif fok ops [] [] (planC ops ord)&&eqL (planC ops ord).flat ord then csem P D ops (planC ops ord) K t h else cOps P D ops ord K t h
theorem yk2i {ord:List Nat} {K:T→H→Prop} {t:T} {h:H} (hr:cReg P D ops ord K t h):cOps P D ops ord K t h:=by
 unfold cReg at hr
 cases hq:(fok ops [] [] (planC ops ord)&&eqL (planC ops ord).flat ord) with
 | false=>rw [hq,cond_false] at hr;exact hr
 | true =>
   rw [hq,cond_true] at hr
   simp only [Bool.and_eq_true] at hq
   rw [← ympc hq.2]
   exact yne2 _ [] [] hq.1 (fun _ ha=>absurd ha (by simp)) (fun _ _ _ h=>h) hr
theorem yrk1 (hD:CTOk P D) {K:T→H→Prop}:∀(l:List Nat) {t:T} {h:H},cOps P D ops l K t h→aOps P ops l K t h
 | [],_,_,ho=>ho
 | _::l,_,_,ho=>y5d1 hD (ycg0 (fun _ _ hh=>yrk1 hD l hh) ho)
end
def cwp (P:Program) (D:CT) (N:Nat):Code→(Exit→T→H→Prop)→T→H→Prop
 | .skip,Q,t,h=>Q .normal t h
 | .region id ops draw,Q,t,h=>bif draw then awp P N (.region id ops draw) Q t h else cReg P D ops (List.range ops.size) (Q .normal) t h
 | .seq a b,Q,t,h=>cwp P D N a (athen (cwp P D N b Q) Q) t h
 | .cond c x y,Q,t,h=>o_if (aev t c) (cwp P D N x Q t h) (cwp P D N y Q t h)
 | .block id c,Q,t,h=>cwp P D N c (yr2p id Q) t h
 | .loop c,Q,t,h=>sloop (fun t h K=>cwp P D N c (athen K Q) t h) t h
 | .exit id,Q,t,h=>Q (.exit id) t h
 | .ret,Q,t,h=>Q .ret t h
 | .label _,Q,t,h=>Q .normal t h
 | .rangeFunc g ps assign body,Q,t,h=>awp P N (.rangeFunc g ps assign body) Q t h
 | _,_,_,_=>False
theorem ydyj {P:Program} {D:CT} (hD:CTOk P D) {N:Nat}:∀(c:Code) {Q:Exit→T→H→Prop} {t:T} {h:H},cwp P D N c Q t h→awp P N c Q t h:=by
 intro c
 induction c with
 | skip=>intro Q t h ho;exact ho
 | label l=>intro Q t h ho;exact ho
 | exit id=>intro Q t h ho;exact ho
 | ret=>intro Q t h ho;exact ho
 | goto l=>intro Q t h ho;exact ho
 | refuse s=>intro Q t h ho;exact ho
 | scope c ih=>intro Q t h ho;exact ho
 | region id ops draw =>
   intro Q t h ho
   cases draw with
   | false=>exact yrk1 hD _ (yk2i ho)
   | true=>exact ho
 | seq a b iha ihb =>
   intro Q t h ho
   exact ynkq a (y3yz (fun t h hh=>ihb hh) fun _ _ _ h=>h) (iha ho)
 | cond c x y ihx ihy =>
   intro Q t h ho
   show o_if (aev t c) (awp P N x Q t h) (awp P N y Q t h)
   have ho':o_if (aev t c) (cwp P D N x Q t h) (cwp P D N y Q t h):=ho
   unfold o_if at *
   revert ho'
   split
   ·rename_i b _
    cases b
    ·exact ihy
    ·exact ihx
   ·exact id
 | block id c ih=>intro Q t h ho;exact ih ho
 | loop c ih=>intro Q t h ho;exact y83t (fun t h K hh=>ih hh) ho
 | rangeFunc g ps assign body=>intro Q t h ho;exact ho
section
variable {P:Program} {D:CT}
theorem wpEqC (hD:CTOk P D) {N:Nat} {Q:Exit→T→H→Prop} {c:Code} {t:T} {h:H} {A:Prop} (h0:A) (e:A=cwp P D N c Q t h):Wp P N c Q t h:=⟨ydyj hD c (e▸h0)⟩
def cwpTo (P:Program) (D:CT) (N:Nat):Nat→Code→(T→H→Prop)→(Exit→T→H→Prop)→T→H→Prop
 | 0,_,K,_=>K
 | n+1,c,K,Q=>cwp P D N (seqL c) (athen (cwpTo P D N n (seqR c) K Q) Q)
theorem ycf9 (hD:CTOk P D) {N:Nat} {Q:Exit→T→H→Prop} {K:T→H→Prop}:∀(n:Nat) {c:Code} {t:T} {h:H},cwpTo P D N n c K Q t h→awpTo P N n c K Q t h
 | 0,_,_,_,ho=>ho
 | n+1,c,_,_,ho=>ynkq (seqL c) (y3yz (fun _ _ hh=>ycf9 hD n hh) fun _ _ _ h=>h) (ydyj hD _ ho)
theorem yvnp (hD:CTOk P D) {N:Nat} {Q:Exit→T→H→Prop} {K:T→H→Prop} (n:Nat) {c:Code} {t:T} {h:H} {A:Prop} (h0:A) (hi:isRow n c=true) (hk:∀t h,K t h→Wp P N (rest n c) Q t h) (e:A=cwpTo P D N n c K Q t h):Wp P N c Q t h :=
 y0st n (A:=awpTo P N n c K Q t h) (ycf9 hD n (e▸h0)) hi hk rfl
theorem ybop (hD:CTOk P D) (ord:List Nat) {N:Nat} {Q:Exit→T→H→Prop} {c:Code} {t:T} {h:H} (hi:y6qa c=true) (hd:ordOk P D (yral c) ord=true) {A:Prop} (h0:A) (e:A=cReg P D (yral c) ord (Q .normal) t h):Wp P N c Q t h:=by
 have hx:=e▸h0
 cases c <;> simp only [y6qa,Bool.false_eq_true] at hi
 rename_i id ops d
 subst hi
 refine ⟨?_⟩
 show aAny P ops (Q .normal) ops.size (Array.replicate ops.size false) t h
 have hcl:yefu ops (Array.replicate ops.size false):=fun j hj=>by
  exfalso
  by_cases hjs:j<ops.size <;> simp [Array.getD,hjs] at hj
 have hd':ordOk P D ops ord=true:=hd
 have hall:∀j∈ord,j<ops.size:=by
  simp only [ordOk,Bool.and_eq_true] at hd'
  have:∀{w:Nat→Nat→Bool} {l:List Nat},okO P D ops w l=true→∀j∈l,j<ops.size:=by
   intro w l
   induction l with
   | nil=>intro _ j hj;cases hj
   | cons a r ih =>
     intro h j hj
     rcases List.mem_cons.1 hj with rfl | hj
     ·obtain ⟨y,hy,_⟩:=yyuq h
      exact (Array.getElem?_eq_some_iff.1 hy).1
     ·simp only [okO,Bool.and_eq_true] at h
      exact ih h.2 j hj
  exact this hd'.1.1
 have hr:restO ord (Array.replicate ops.size false)=ord:=by
  unfold restO
  refine List.filter_eq_self.2 fun j hj=>?_
  have:=hall j hj
  simp [Array.getD,this]
 have hlen:ord.length=ops.size:=by
  simp only [ordOk,Bool.and_eq_true] at hd'
  have h1:ord.Nodup:=y7f1 hd'.1.2
  have h2:(List.range ops.size).Perm ord:=(List.perm_ext_iff_of_nodup List.nodup_range h1).2 fun a=>⟨fun ha=>ye6g.1 (List.all_eq_true.1 hd'.2 a ha),fun ha=>List.mem_range.2 (hall a ha)⟩
  have:=h2.length_eq
  simpa using this.symm
 exact y6ot hD _ _ (yhch (D:=D) (ops:=ops) hd' _ _ (by simp) hcl (by rw [hr];exact hlen) (by rw [hr];exact yk2i hx))
theorem ya9i (hD:CTOk P D) (pre:List Nat) (a b:Nat) (post:List Nat) {N:Nat} {Q:Exit→T→H→Prop} {c:Code} {t:T} {h:H} (hi:y6qa c=true) (hd:yo7e P D (yral c) pre a b post=true) {A:Prop} (h0:A)
 (e:A=cReg P D (yral c) pre (fun t h=>cReg P D (yral c) (a::b::post) (Q .normal) t h∧cReg P D (yral c) (b::a::post) (Q .normal) t h) t h):Wp P N c Q t h:=by
 have hx:=e▸h0
 cases c <;> simp only [y6qa,Bool.false_eq_true] at hi
 rename_i id ops d
 subst hi
 refine ⟨?_⟩
 show aAny P ops (Q .normal) ops.size (Array.replicate ops.size false) t h
 have hcl:yefu ops (Array.replicate ops.size false):=fun j hj=>by
  exfalso
  by_cases hjs:j<ops.size <;> simp [Array.getD,hjs] at hj
 have hd':yo7e P D ops pre a b post=true:=hd
 have hd2:=hd'
 simp only [yo7e,Bool.and_eq_true] at hd2
 obtain ⟨⟨⟨⟨⟨⟨⟨ok1,ok2⟩,nd⟩,cov⟩,wt⟩,pab⟩,ab⟩,ba⟩:=hd2
 have hlt:∀{w:Nat→Nat→Bool} {l:List Nat},okO P D ops w l=true→∀j∈l,j<ops.size:=by
  intro w l
  induction l with
  | nil=>intro _ j hj;cases hj
  | cons a r ih =>
    intro h j hj
    rcases List.mem_cons.1 hj with rfl | hj
    ·obtain ⟨y,hy,_⟩:=yyuq h
     exact (Array.getElem?_eq_some_iff.1 hy).1
    ·simp only [okO,Bool.and_eq_true] at h
     exact ih h.2 j hj
 have hall:∀j∈pre++a::b::post,j<ops.size:=by
  intro j hj
  rcases List.mem_append.1 hj with hj | hj
  ·exact hlt ok1 j (List.mem_append_left _ hj)
  ·rcases List.mem_cons.1 hj with rfl | hj
   ·exact hlt ok1 j (by simp)
   ·rcases List.mem_cons.1 hj with rfl | hj
    ·exact hlt ok2 j (by simp)
    ·exact hlt ok1 j (by simp [hj])
 have hu:∀j∈pre++a::b::post,(Array.replicate ops.size false).getD j true=false:=fun j hj=>by
  have:=hall j hj
  simp [Array.getD,this]
 have hr:restO pre (Array.replicate ops.size false)=pre:=List.filter_eq_self.2 fun j hj=>by rw [hu j (List.mem_append_left _ hj)];rfl
 have hlen:(pre++a::b::post).length=ops.size:=by
  have h1:=y7f1 nd
  have h2:(List.range ops.size).Perm (pre++a::b::post):=(List.perm_ext_iff_of_nodup List.nodup_range h1).2 fun i=>⟨fun hi=>ye6g.1 (List.all_eq_true.1 cov i hi),fun hi=>List.mem_range.2 (hall i hi)⟩
  have:=h2.length_eq
  simpa using this.symm
 refine y6ot hD _ _ (yime (D:=D) (ops:=ops) hd' _ _ (by simp) hcl (fun i hi=>hu i (List.mem_append_right _ hi)) (by rw [hr];simp at hlen;omega) ?_)
 rw [hr]
 exact y770 (fun _ _ hh=>⟨yk2i hh.1,yk2i hh.2⟩) _ (yk2i hx)
end
abbrev K0:=H→Prop
abbrev K1:=Value→K0
abbrev K2:=Value→K1
abbrev K3:=Value→K2
abbrev K4:=Value→K3
abbrev K5:=Value→K4
abbrev K6:=Value→K5
abbrev K7:=Value→K6
abbrev K8:=Value→K7
def q0 (K:K0):T→H→Prop:=fun _ h=>K h
def q1 (K:K1) (a:Nat):T→H→Prop:=fun t h=>K (t a) h
def q2 (K:K2) (a b:Nat):T→H→Prop:=fun t h=>K (t a) (t b) h
def q3 (K:K3) (a b c:Nat):T→H→Prop:=fun t h=>K (t a) (t b) (t c) h
def q4 (K:K4) (a b c d:Nat):T→H→Prop:=fun t h=>K (t a) (t b) (t c) (t d) h
def q5 (K:K5) (a b c d e:Nat):T→H→Prop:=fun t h=>K (t a) (t b) (t c) (t d) (t e) h
def q6 (K:K6) (a b c d e f:Nat):T→H→Prop:=fun t h=>K (t a) (t b) (t c) (t d) (t e) (t f) h
def o_pf (ag:Bool) (n off:Nat) (x:Value) (h:H) (K:Value→Prop):Prop:=yf21 x fun p=>yokc off p fun a=>ysm8 ag n a h K
def o_bf (ag:Bool) (n off:Nat) (x:Value) (h:H) (K:Value→Prop):Prop:=yokc off x fun a=>ysm8 ag n a h K
def o_ix (ag:Bool) (n:Nat) (len:Option Nat) (x i:Value) (h:H) (K:Value→Prop):Prop:=ys75 len n x i fun a=>ysm8 ag n a h K
def o_ixf (ag:Bool) (n off:Nat) (len:Option Nat) (sz:Nat) (x i:Value) (h:H) (K:Value→Prop):Prop:=ys75 len sz x i fun a=>yokc off a fun a=>ysm8 ag n a h K
def o_st (n off:Nat) (x v:Value) (h:H) (K:H→Prop):Prop:=yokc off x fun a=>yxd5 n a v h K
def uloop {S:Type} (body:S→H→(S→H→Prop)→Prop):Nat→S→H→Prop
 | 0,_,_=>False
 | n+1,s,h=>body s h (uloop body n)
section
variable {P:Program}
theorem y9em {N:Nat} {S:Type} (m:Nat) (π:T→S) {kn kr:T→H→Prop} {ke:Nat→T→H→Prop} {c:Code} {b:S→H→(S→H→Prop)→Prop} {t:T} {h:H} (hi:isLop c=true)
 (hb:∀t h K,b (π t) h K→Wp P N (lopC c) (mkQ (fun t h=>K (π t) h) kr ke) t h) (hx:uloop b m (π t) h):Wp P N c (mkQ kn kr ke) t h:=by
 cases c <;> simp only [isLop,Bool.false_eq_true] at hi
 rename_i c
 refine ⟨⟨fun n t h=>uloop b n (π t) h,⟨m,hx⟩,fun n t h hh=>?_⟩⟩
 cases n with
 | zero=>exact hh.elim
 | succ n =>
   refine ynkq c (fun e t h he=>?_) (hb t h _ hh).ok
   cases e with
   | normal=>exact ⟨n,Nat.lt_succ_self n,he⟩
   | _=>exact he
theorem yo1k {S:Type} {body:S→H→(S→H→Prop)→Prop} {s:S} {h:H} (N:Nat) (I:Nat→S→H→Prop) (h0:I 0 s h)
 (step:∀i s h (K:S→H→Prop),i≤N→I i s h→(∀ s' h',i<N→I (i+1) s' h'→K s' h')→body s h K):sloop body s h:=by
 refine ⟨fun n s h=>∃i,i≤N∧n=N-i∧I i s h,⟨N,0,Nat.zero_le N,rfl,h0⟩,?_⟩
 rintro n s h ⟨i,hi,rfl,hI⟩
 exact step i s h _ hi hI fun s' h' hl hI'=>⟨N-(i+1),by omega,i+1,hl,rfl,hI'⟩
end
def ygkm (P:Program) (t:TypeId) (x:Value):List Value→(Value→Prop)→Prop
 | [],_=>False
 | [c],K=>o_bin P .eql t x c K
 | c::l,K=>o_bin P .eql t x c fun v=>o_if v (K v) (ygkm P t x l K)
inductive Dm {α:Sort _} (k:α):Type where
 | mk
def u_bin (P:Program) (op:BinOp) (t:TypeId) (x y:Value) (K:Value→Prop) (u:Dm K:=.mk):Prop:=o_bin P op t x y K
def u_un (P:Program) (op:UnOp) (x:Value) (K:Value→Prop) (u:Dm K:=.mk):Prop:=o_un P op x K
def y9rg (c a b:Value) (K:Value→Prop) (u:Dm K:=.mk):Prop:=yw1w c a b K
def y2x6 (k:IntKind) (x:Value) (K:Value→Prop) (u:Dm K:=.mk):Prop:=ykic k x K
def y0pc (x:Value) (K:Value→Prop) (u:Dm K:=.mk):Prop:=y1of x K
def ybqh (ag:Bool) (n:Nat) (a:Value) (h:H) (K:Value→Prop) (u:Dm K:=.mk):Prop:=ysm8 ag n a h K
def u_bf (ag:Bool) (n off:Nat) (a:Value) (h:H) (K:Value→Prop) (u:Dm K:=.mk):Prop:=o_bf ag n off a h K
def u_pf (ag:Bool) (n off:Nat) (a:Value) (h:H) (K:Value→Prop) (u:Dm K:=.mk):Prop:=o_pf ag n off a h K
def u_ix (ag:Bool) (n:Nat) (len:Option Nat) (x i:Value) (h:H) (K:Value→Prop) (u:Dm K:=.mk):Prop:=o_ix ag n len x i h K
def u_ixf (ag:Bool) (n off:Nat) (len:Option Nat) (sz:Nat) (x i:Value) (h:H) (K:Value→Prop) (u:Dm K:=.mk):Prop:=o_ixf ag n off len sz x i h K
def yji6 (len:Option Nat) (n:Nat) (x i:Value) (K:Value→Prop) (u:Dm K:=.mk):Prop:=ys75 len n x i K
def y0wt (off:Nat) (x:Value) (K:Value→Prop) (u:Dm K:=.mk):Prop:=yokc off x K
def y394 (x:Value) (K:Value→Prop) (u:Dm K:=.mk):Prop:=yf21 x K
def ywq9 (str:Bool) (len:Nat) (ag:Bool) (size:Nat) (x i:Value) (K:Value→Prop) (u:Dm K:=.mk):Prop:=y7od str len ag size x i K
def yn5k (ag:Bool) (n off:Nat) (x:Value) (K:Value→Prop) (u:Dm K:=.mk):Prop:=ygzh ag n off x K
def yvu8 (x:Value) (i:Nat) (K:Value→Prop) (u:Dm K:=.mk):Prop:=ychn x i K
def ywmm (x:Value) (K:Value→Prop) (u:Dm K:=.mk):Prop:=yn0t x K
def y5hj (x:Value) (K:Value→Prop) (u:Dm K:=.mk):Prop:=ykwb x K
def y9gb (x:Value) (h:H) (K:Value→Prop) (u:Dm K:=.mk):Prop:=y55i x h K
def ylel (n:Nat) (a v:Value) (h:H) (K:H→Prop) (u:Dm K:=.mk):Prop:=yxd5 n a v h K
def u_st (n off:Nat) (a v:Value) (h:H) (K:H→Prop) (u:Dm K:=.mk):Prop:=o_st n off a v h K
def yjdf (P:Program) (f:FuncId) (args:List Value) (h:H) (K:Value→H→Prop) (u:Dm K:=.mk):Prop:=ywv3 P f args h K
def u_ct (C:CE) (args:List Value) (h:H) (K:Value→H→Prop) (u:Dm K:=.mk):Prop:=o_ct C args h K
def u_dyn (P:Program) (f:Value) (args:List Value) (h:H) (K:Value→H→Prop) (u:Dm K:=.mk):Prop:=o_dyn P f args h K
def ynco (P:Program) (f:Value→Value→Sem Value) (x y:Value) (K:Value→Prop) (u:Dm K:=.mk):Prop:=yzve P f x y K
def ylsp (kk:KK) (z x k:Value) (ok:Bool) (h:H) (K:Value→Prop) (u:Dm K:=.mk):Prop:=ylze kk z x k ok h K
def yw4g (kk:KK) (m k v:Value) (h:H) (K:H→Prop) (u:Dm K:=.mk):Prop:=ynew kk m k v h K
def ysnr (P:Program) (t:TypeId) (ps:List (Nat×Value)) (K:Value→Prop) (u:Dm K:=.mk):Prop:=yiyd P t ps K
def ynqb (P:Program) (t:TypeId) (n:Nat) (ps:List (Nat×Value)) (h:H) (K:Value→H→Prop) (u:Dm K:=.mk):Prop:=yyll P t n ps h K
def u_new (cs:List Value) (E:TypeId) (m:Own) (h:H) (K:Nat→H→Prop) (u:Dm K:=.mk):Prop:=o_new cs E m h K
def yaj8 (q:AObj) (h:H) (K:Nat→H→Prop) (u:Dm K:=.mk):Prop:=yp8q q h K
def yx4h (e:TypeId) (size bytes:Nat) (s x:Value) (h:H) (K:Value→H→Prop) (u:Dm K:=.mk):Prop:=yc1n e size bytes s x h K
def yplo (x:Value) (h:H) (K:Value→Prop) (u:Dm K:=.mk):Prop:=yt5p x h K
def yyhb (size:Nat) (d s:Value) (h:H) (K:Value→H→Prop) (u:Dm K:=.mk):Prop:=y1uk size d s h K
def y9kb (z:List Value) (size bytes:Nat) (e:TypeId) (l c:Value) (h:H) (K:Value→H→Prop) (u:Dm K:=.mk):Prop:=ye0j z size bytes e l c h K
def y4a7 (size:Nat) (x:Value) (lo hi mx:Option Value) (K:Value→Prop) (u:Dm K:=.mk):Prop:=ykvd size x lo hi mx K
def y4fz (x:Value) (h:H) (K:Value→H→Prop) (u:Dm K:=.mk):Prop:=y4p4 x h K
def y70k (it:Value) (h:H) (K:Value→H→Prop) (u:Dm K:=.mk):Prop:=y6k6 it h K
def ynu1 (it:Value) (h:H) (K:Value→Prop) (u:Dm K:=.mk):Prop:=yxwg it h K
def u_opt (r:Option Value) (K:Value→Prop) (u:Dm K:=.mk):Prop:=o_opt r K
def yi4e (P:Program) (t:TypeId) (x:Value) (l:List Value) (K:Value→Prop) (u:Dm K:=.mk):Prop:=ygkm P t x l K
def u_if (c:Value) (A B:Prop) (u:Dm (A,B):=.mk):Prop:=o_if c A B
def ydv6 (c:Value) (w:Bool) (op:(Value→H→Prop)→Prop) (K:Value→H→Prop) (h:H) (u:Dm (c,op,K):=.mk):Prop:=yy7w c w op K h
def y498 {α:Type} (z:α) (c:Value) (w:Bool) (op:(α→H→Prop)→Prop) (K:α→H→Prop) (h:H) (u:Dm (c,op,K):=.mk):Prop:=yr9x z c w op K h
def u_and (c:Value) (op:(Value→H→Prop)→Prop) (K:Value→H→Prop) (h:H) (u:Dm (c,K):=.mk):Prop:=o_and c op K h
def u_or (c:Value) (op:(Value→H→Prop)→Prop) (K:Value→H→Prop) (h:H) (u:Dm (c,K):=.mk):Prop:=o_or c op K h
end Go.Proofs.YtnckimioabkheaaGreat.AM
set_option linter.unusedSimpArgs false
set_option linter.unusedVariables false
namespace Go.Proofs.YtnckimioabkheaaGreat.AM
inductive RD where
 | tmp (r:Nat)
 | cell (a:Nat) (ty:TypeId) (ag:Bool) (n:Nat)
def RD.rv:RD→ResultVar
 | .tmp r=>.tmp r
 | .cell a ty _ _=>.cell a ty
def o_res (t:T) (h:H):List RD→(List Value→Prop)→Prop
 | [],K=>K []
 | .tmp r::l,K=>o_res t h l fun vs=>K (t r::vs)
 | .cell a _ ag n::l,K=>ysm8 ag n (t a) h fun v=>o_res t h l fun vs=>K (v::vs)
def okRD (P:Program):RD→Bool
 | .tmp _=>true
 | .cell _ ty ag n=>match y8c6 P ty with
   | some (ag',n')=>(ag==ag')&&Nat.beq n n'
   | none=>false
section
variable {P:Program}
theorem y9k6 {t:T} {h:H}:∀{ds:List RD} {K:List Value→Prop},ds.all (okRD P)=true→o_res t h ds K→∃vs,yvhk P t h (ds.map RD.rv)=some vs∧K vs
 | [],K,_,ho=>⟨[],rfl,ho⟩
 | .tmp r::ds,K,hd,ho=>by
   simp only [List.all_cons,Bool.and_eq_true] at hd
   obtain ⟨vs,h1,h2⟩:=y9k6 hd.2 ho
   exact ⟨t r::vs,by simp only [List.map_cons,RD.rv,yvhk,resOf,h1],h2⟩
 | .cell a ty ag n::ds,K,hd,ho=>by
   simp only [List.all_cons,Bool.and_eq_true] at hd
   have hty:y8c6 P ty=some (ag,n):=by
    have h0:=hd.1
    simp only [okRD] at h0
    cases hq:y8c6 P ty with
    | none=>rw [hq] at h0;exact absurd h0 Bool.false_ne_true
    | some p =>
      obtain ⟨ag',n'⟩:=p
      rw [hq] at h0
      simp only [Bool.and_eq_true,beq_iff_eq] at h0
      rw [h0.1,Nat.eq_of_beq_eq_true h0.2]
   have ho':ysm8 ag n (t a) h (fun v=>o_res t h ds fun vs=>K (v::vs)):=ho
   unfold ysm8 at ho'
   split at ho'
   ·rename_i b o heq
    cases ag with
    | true =>
      simp only [cond_true] at ho'
      split at ho'
      ·rename_i l hl
       obtain ⟨vs,h1,h2⟩:=y9k6 hd.2 ho'
       exact ⟨_,by simp only [List.map_cons,RD.rv,yvhk,resOf,hty,heq,cond_true,hl,h1],h2⟩
      ·exact ho'.elim
    | false =>
      simp only [cond_false] at ho'
      split at ho'
      ·rename_i v hv
       obtain ⟨vs,h1,h2⟩:=y9k6 hd.2 ho'
       exact ⟨_,by simp only [List.map_cons,RD.rv,yvhk,resOf,hty,heq,cond_false,hv,h1],h2⟩
      ·exact ho'.elim
   ·exact ho'.elim
theorem yjpg {t:T} {h:H}:∀{ds:List RD} {K:List Value→Prop},o_res t h ds K→o_res t h ds fun vs=>vs.length=ds.length∧K vs
 | [],K,ho=>⟨rfl,ho⟩
 | .tmp r::ds,K,ho=>by
   have:=yjpg (ds:=ds) ho
   show o_res t h ds _
   refine cast ?_ this
   congr 1
   funext vs
   simp
 | .cell a ty ag n::ds,K,ho=>by
   have ho':ysm8 ag n (t a) h (fun v=>o_res t h ds fun vs=>K (v::vs)):=ho
   show ysm8 ag n (t a) h _
   unfold ysm8 at ho' ⊢
   revert ho'
   split
   ·cases ag <;> simp only [cond_true,cond_false] <;> split <;> intro ho <;> first | exact ho.elim | (have:=yjpg ho;refine cast ?_ this;congr 1;funext vs;simp)
   ·exact id
theorem ytyr (hm:P.follows .mixedOrders=true) {f:FuncId} {fn:Func} {c:Code} {ds:List RD} {N:Nat} {args:List Value} {h:H} {Q:Value→H→Prop} {Q1:Exit→T→H→Prop} (hf:P.funcs[f]?=some fn) (hb:fn.body=some c)
 (hrs:fn.results=(ds.map RD.rv).toArray) (hd:ds.all (okRD P)=true) (h2:Nat.ble 2 ds.length=true) (hn:fn.ntmps=N) (hok:yk69 N false c=true) (hrN:(ds.map RD.rv).all (okRes N)=true) (hlen:args.length≤N) (hk:Wp P N c Q1 (tinit args) h)
 (he:Q1=mkQ (fun t h=>o_ret (t N) h fun h=>o_res t h ds fun vs=>vs.all boxV=true∧Q (.tuple vs.toArray) h) (fun t h=>o_ret (t N) h fun h=>o_res t h ds fun vs=>vs.all boxV=true∧Q (.tuple vs.toArray) h) ke0):Spec P f args h Q:=by
 subst he
 have fin:∀t h,(o_res t h ds fun vs=>vs.all boxV=true∧Q (.tuple vs.toArray) h)→retC P (ds.map RD.rv) Q t h:=by
  intro t h ho
  obtain ⟨vs,h1,h3,h4⟩:=y9k6 hd (yjpg ho)
  unfold retC
  rw [h1]
  match vs,h3,h4 with
  | [],h3,_=>simp at h2;rw [← h3] at h2;simp at h2
  | [v],h3,_=>simp at h2;rw [← h3] at h2;simp at h2
  | v::w::l,_,h4=>exact h4
 have fin2:∀t h,(o_ret (t N) h fun h=>o_res t h ds fun vs=>vs.all boxV=true∧Q (.tuple vs.toArray) h)→retCQ P N (ds.map RD.rv) Q t h:=by
  intro t h ho
  unfold retCQ
  unfold o_ret at ho
  cases hds:marks (t N) with
  | nil=>rw [hds] at ho;exact fin t h ho
  | cons d r =>
    rw [hds] at ho
    exact ⟨ho.1,ho.2.1,fin t _ ho.2.2⟩
 refine yhpk hm hf hb hn hok (by rw [hrs];simpa using hrN) hlen ?_
 rw [hrs]
 exact ynkq c (fun e t h he=>by cases e <;> first | exact fin2 t h he | exact he) hk.ok
end
end Go.Proofs.YtnckimioabkheaaGreat.AM
set_option linter.unusedSimpArgs false
set_option linter.unusedVariables false
namespace Go.Proofs.YtnckimioabkheaaGreat.AM
abbrev ptr (b o:Nat):Value:=.pointer (some ⟨b,o,none⟩)
abbrev sli (b o n c:Nat):Value:=.slice (some ⟨b,o,none⟩) n c
section
variable {P:Program} {h:H} {b c o n off:Nat} {k k':IntKind} {x y:Int} {K:Value→Prop} {t:TypeId}
variable {u:Dm K} {v w v1 v2 v3:Value} {h1:H} {Q:K1}
attribute [simp] y7yb yhlb y5i6 bx_sl yn96 y45v ypw1 y3av yy0e cond_true cond_false
@[simp] theorem s_opt:u_opt (some v) K u=K v:=rfl
@[simp] theorem yium:u_opt none K u=False:=rfl
@[simp] theorem s_eql:u_bin P .eql t (.int k x) (.int k y) K u=K (.bool (decide (x=y))):=yc02
@[simp] theorem s_neq:u_bin P .neq t (.int k x) (.int k y) K u=K (.bool (!decide (x=y))):=ym6s
@[simp] theorem s_lss:u_bin P .lss t (.int k x) (.int k y) K u=K (.bool (decide (x<y))):=y5aw
@[simp] theorem s_leq:u_bin P .leq t (.int k x) (.int k y) K u=K (.bool (decide (x≤y))):=y3lr
@[simp] theorem s_gtr:u_bin P .gtr t (.int k x) (.int k y) K u=K (.bool (decide (y<x))):=ypzw
@[simp] theorem s_geq:u_bin P .geq t (.int k x) (.int k y) K u=K (.bool (decide (y≤x))):=y3pi
@[simp] theorem s_add:u_bin P .add t (.int k x) (.int k y) K u=K (.int k (k.wrap (x+y))):=y642
@[simp] theorem s_sub:u_bin P .sub t (.int k x) (.int k y) K u=K (.int k (k.wrap (x-y))):=yy2q
@[simp] theorem s_mul:u_bin P .mul t (.int k x) (.int k y) K u=K (.int k (k.wrap (x*y))):=y05p
@[simp] theorem s_quo (hb:y≠0):u_bin P .quo t (.int k x) (.int k y) K u=K (.int k (k.wrap (x.tdiv y))):=ysv1 hb
@[simp] theorem s_rem (hb:y≠0):u_bin P .rem t (.int k x) (.int k y) K u=K (.int k (x.tmod y)):=yaat hb
@[simp] theorem ye5u:u_bin P .and t (.int k x) (.int k y) K u=K (.int k (k.wrap (BitVec.ofInt k.bits x &&& BitVec.ofInt k.bits y).toNat)):=yckh
@[simp] theorem s_bor:u_bin P .or t (.int k x) (.int k y) K u=K (.int k (k.wrap (BitVec.ofInt k.bits x ||| BitVec.ofInt k.bits y).toNat)):=y3hr
@[simp] theorem s_xor:u_bin P .xor t (.int k x) (.int k y) K u=K (.int k (k.wrap (BitVec.ofInt k.bits x ^^^ BitVec.ofInt k.bits y).toNat)):=y9yr
@[simp] theorem ychk:u_bin P .andNot t (.int k x) (.int k y) K u=K (.int k (k.wrap (BitVec.ofInt k.bits x &&& ~~~(BitVec.ofInt k.bits y)).toNat)):=ylo4
@[simp] theorem s_shl (hb:0≤y):u_bin P .shl t (.int k x) (.int k' y) K u=K (.int k (k.wrap (x*2^(min y.toNat k.bits)))):=yxv9 hb
@[simp] theorem s_shr (hb:0≤y):u_bin P .shr t (.int k x) (.int k' y) K u=K (.int k (x.fdiv (2^(min y.toNat k.bits)))):=y0c1 hb
@[simp] theorem s_not {p:Bool}:u_un P .not (.bool p) K u=K (.bool (!p)):=yvbp
@[simp] theorem s_neg:u_un P .neg (.int k x) K u=K (.int k (k.wrap (0-x))):=yx6p
@[simp] theorem ywjn {p:Bool}:y9rg (.bool p) v w K u=K (bif p then v else w):=y9b4
@[simp] theorem s_if {p:Bool} {A B:Prop} {u:Dm (A,B)}:u_if (.bool p) A B u=if p=true then A else B:=ykm3
@[simp] theorem ym88:y2x6 k (.int k' x) K u=K (.int k (k.wrap x)):=rfl
@[simp] theorem yoh5 {s:ByteArray}:y0pc (.string s) K u=K (.string s):=rfl
@[simp] theorem s_len {a:Option Addr} {l q:Nat}:ywmm (.slice a l q) K u=K (.int .i64 l):=rfl
@[simp] theorem y6nd {s:ByteArray}:y5hj (.string s) K u=K (.int .i64 s.size):=rfl
@[simp] theorem s_ex0:yvu8 (.tuple #[v1,v2]) 0 K u=K v1:=rfl
@[simp] theorem s_ex1:yvu8 (.tuple #[v1,v2]) 1 K u=K v2:=rfl
@[simp] theorem yn1j:yvu8 (.tuple #[v1,v2,v3]) 0 K u=K v1:=rfl
@[simp] theorem y39e:yvu8 (.tuple #[v1,v2,v3]) 1 K u=K v2:=rfl
@[simp] theorem y2kc:yvu8 (.tuple #[v1,v2,v3]) 2 K u=K v3:=rfl
@[simp] theorem yec8 {v4:Value}:yvu8 (.tuple #[v1,v2,v3,v4]) 0 K u=K v1:=rfl
@[simp] theorem ykd4 {v4:Value}:yvu8 (.tuple #[v1,v2,v3,v4]) 1 K u=K v2:=rfl
@[simp] theorem y2zs {v4:Value}:yvu8 (.tuple #[v1,v2,v3,v4]) 2 K u=K v3:=rfl
@[simp] theorem ym3t {v4:Value}:yvu8 (.tuple #[v1,v2,v3,v4]) 3 K u=K v4:=rfl
@[simp] theorem y1rg:ybqh false n (ptr b o) h K u=u_opt (cellAt h b o) K:=rfl
@[simp] theorem yqb5:ybqh true n (ptr b o) h K u=u_opt ((cellsAt h b o n).map fun l=>.agg l.toArray) K:=by
  show (match cellsAt h b o n with | some l=>K (.agg l.toArray) | none=>False)=u_opt ((cellsAt h b o n).map fun l=>.agg l.toArray) K
  cases cellsAt h b o n <;> rfl
@[simp] theorem s_bf {ag:Bool}:u_bf ag n off (ptr b o) h K u=ybqh ag n (ptr b (o+off)) h K:=rfl
@[simp] theorem s_pf {ag:Bool}:u_pf ag n off (ptr b o) h K u=ybqh ag n (ptr b (o+off)) h K:=rfl
@[simp] theorem s_fa:y0wt off (ptr b o) K u=K (ptr b (o+off)):=rfl
@[simp] theorem s_nil {a:Addr}:y394 (.pointer (some a)) K u=K (.pointer (some a)):=rfl
@[simp] theorem s_ix {ag:Bool} {l q:Nat}:u_ix ag n none (sli b o l q) (.int k x) h K u=(0≤x∧x<l∧ybqh ag n (ptr b (o+x.toNat*n)) h K):=rfl
@[simp] theorem s_ixA {ag:Bool} {l:Nat}:u_ix ag n (some l) (ptr b o) (.int k x) h K u=(0≤x∧x<l∧ybqh ag n (ptr b (o+x.toNat*n)) h K):=rfl
@[simp] theorem s_ixf {ag:Bool} {l q z:Nat}:u_ixf ag n off none z (sli b o l q) (.int k x) h K u=(0≤x∧x<l∧ybqh ag n (ptr b (o+x.toNat*z+off)) h K):=rfl
@[simp] theorem y72b {ag:Bool} {l z:Nat}:u_ixf ag n off (some l) z (ptr b o) (.int k x) h K u=(0≤x∧x<l∧ybqh ag n (ptr b (o+x.toNat*z+off)) h K):=rfl
@[simp] theorem s_ia {l q:Nat}:yji6 none n (sli b o l q) (.int k x) K u=(0≤x∧x<l∧K (ptr b (o+x.toNat*n))):=rfl
@[simp] theorem s_iaA {l:Nat}:yji6 (some l) n (ptr b o) (.int k x) K u=(0≤x∧x<l∧K (ptr b (o+x.toNat*n))):=rfl
@[simp] theorem s_new {cs:List Value} {E:TypeId} {m:Own} {K:Nat→H→Prop} {u:Dm K}:u_new cs E m h K u=∀b,2≤b→h b=none→K b (upd h b (.cells cs E m)):=rfl
@[simp] theorem yjvy {q:AObj} {K:Nat→H→Prop} {u:Dm K}:yaj8 q h K u=∀b,2≤b→h b=none→K b (upd h b q):=rfl
@[simp] theorem s_ct {C:CE} {args:List Value} {u:Dm Q}:u_ct C args h Q u=(args.all boxV=true∧C.run args h Q):=rfl
@[simp] theorem ykdp {v:Value} {K:H→Prop} {u:Dm K}:ylel n (ptr b o) v h K u=(match h b with
 | some (.cells cs E m)=>m≠.ro∧boxV v=true∧v.cells.size=n∧o+n≤cs.length∧K (upd h b (.cells (setL cs o v.cells.toList) E m))
 | _=>False):=rfl
@[simp] theorem ypbm {l q:Nat}:yplo (sli b o l q) h K u=(match h b with
 | some (.cells _ _ m)=>m≠.ro∧K (sli b o l q)
 | _=>False):=rfl
@[simp] theorem s_st {v:Value} {K:H→Prop} {u:Dm K}:u_st n off (ptr b o) v h K u=ylel n (ptr b (o+off)) v h K:=rfl
theorem yjeg {cs:Array Value} {l:Nat}:ywq9 false l false 1 (.agg cs) (.int k x) K u=(0≤x∧x<l∧u_opt cs[x.toNat]? K):=by
 show (false=false∧0≤x∧x<l∧(match y042 false 1 (x.toNat*1) cs with | some v=>K v | none=>False))=_
 simp only [y042,cond_false,Nat.mul_one,true_and]
 rfl
@[simp] theorem y9wj {cs:Array Value}:yn5k false n off (.agg cs) K u=u_opt cs[off]? K:=rfl
@[simp] theorem yby2 {cs:Array Value}:yn5k true n off (.agg cs) K u=u_opt (if off+n≤cs.size then some (.agg (cs.extract off (off+n))) else none) K:=by
  show (match (if off+n≤cs.size then some (Value.agg (cs.extract off (off+n))) else none) with | some v=>K v | none=>False)=_
  rfl
@[simp] theorem s_max:ynco P Builtin.max2 (.int k x) (.int k y) K u=K (.int k (max x y)):=by
  show (bif true&&true then yejp (yl1l P (Builtin.max2 (.int k x) (.int k y))) K else False)=_
  have:yl1l P (Builtin.max2 (.int k x) (.int k y))=some (.int k (max x y)):=by
   show yl1l P (Builtin.max2 (.int k x) (.int k y))=_
   unfold Builtin.max2
   simp only
   first
    | (split <;> (simp only [yl1l,pure];congr 2;omega))
    | rfl
  rw [this];rfl
@[simp] theorem s_min:ynco P Builtin.min2 (.int k x) (.int k y) K u=K (.int k (min x y)):=by
  show (bif true&&true then yejp (yl1l P (Builtin.min2 (.int k x) (.int k y))) K else False)=_
  have:yl1l P (Builtin.min2 (.int k x) (.int k y))=some (.int k (min x y)):=by
   show yl1l P (Builtin.min2 (.int k x) (.int k y))=_
   unfold Builtin.min2
   simp only
   first
    | (split <;> (simp only [yl1l,pure];congr 2;omega))
    | rfl
  rw [this];rfl
@[simp] theorem y2xs {a0 a1:Int}:yi4e P t (.int k x) [.int k a0,.int k a1] K u=K (.bool (decide (x=a0)||decide (x=a1))):=by
  simp only [yi4e,ygkm,yc02,ykm3]
  cases decide (x=a0) <;> cases decide (x=a1) <;> rfl
@[simp] theorem yji2 {a0 a1 a2:Int}:yi4e P t (.int k x) [.int k a0,.int k a1,.int k a2] K u=K (.bool (decide (x=a0)||decide (x=a1)||decide (x=a2))):=by
  simp only [yi4e,ygkm,yc02,ykm3]
  cases decide (x=a0) <;> cases decide (x=a1) <;> cases decide (x=a2) <;> rfl
@[simp] theorem y9jj {a0 a1 a2 a3:Int}:yi4e P t (.int k x) [.int k a0,.int k a1,.int k a2,.int k a3] K u=K (.bool (decide (x=a0)||decide (x=a1)||decide (x=a2)||decide (x=a3))):=by
  simp only [yi4e,ygkm,yc02,ykm3]
  cases decide (x=a0) <;> cases decide (x=a1) <;> cases decide (x=a2) <;> cases decide (x=a3) <;> rfl
@[simp] theorem yh72 {a0 a1 a2 a3 a4:Int}:yi4e P t (.int k x) [.int k a0,.int k a1,.int k a2,.int k a3,.int k a4] K u=K (.bool (decide (x=a0)||decide (x=a1)||decide (x=a2)||decide (x=a3)||decide (x=a4))):=by
  simp only [yi4e,ygkm,yc02,ykm3]
  cases decide (x=a0) <;> cases decide (x=a1) <;> cases decide (x=a2) <;> cases decide (x=a3) <;> cases decide (x=a4) <;> rfl
@[simp] theorem y4vn {a0 a1 a2 a3 a4 a5:Int}:yi4e P t (.int k x) [.int k a0,.int k a1,.int k a2,.int k a3,.int k a4,.int k a5] K u=K (.bool (decide (x=a0)||decide (x=a1)||decide (x=a2)||decide (x=a3)||decide (x=a4)||decide (x=a5))):=by
  simp only [yi4e,ygkm,yc02,ykm3]
  cases decide (x=a0) <;> cases decide (x=a1) <;> cases decide (x=a2) <;> cases decide (x=a3) <;> cases decide (x=a4) <;> cases decide (x=a5) <;> rfl
@[simp] theorem yve1 {a0 a1 a2 a3 a4 a5 a6:Int}:yi4e P t (.int k x) [.int k a0,.int k a1,.int k a2,.int k a3,.int k a4,.int k a5,.int k a6] K u=K (.bool (decide (x=a0)||decide (x=a1)||decide (x=a2)||decide (x=a3)||decide (x=a4)||decide (x=a5)||decide (x=a6))):=by
  simp only [yi4e,ygkm,yc02,ykm3]
  cases decide (x=a0) <;> cases decide (x=a1) <;> cases decide (x=a2) <;> cases decide (x=a3) <;> cases decide (x=a4) <;> cases decide (x=a5) <;> cases decide (x=a6) <;> rfl
@[simp] theorem yxgj {a0 a1 a2 a3 a4 a5 a6 a7:Int}:yi4e P t (.int k x) [.int k a0,.int k a1,.int k a2,.int k a3,.int k a4,.int k a5,.int k a6,.int k a7] K u=K (.bool (decide (x=a0)||decide (x=a1)||decide (x=a2)||decide (x=a3)||decide (x=a4)||decide (x=a5)||decide (x=a6)||decide (x=a7))):=by
  simp only [yi4e,ygkm,yc02,ykm3]
  cases decide (x=a0) <;> cases decide (x=a1) <;> cases decide (x=a2) <;> cases decide (x=a3) <;> cases decide (x=a4) <;> cases decide (x=a5) <;> cases decide (x=a6) <;> cases decide (x=a7) <;> rfl
@[simp] theorem s_ret {J:H→Prop}:o_ret undef h J=J h:=rfl
theorem y88o {S:Type} {body:S→H→(S→H→Prop)→Prop} {m:Nat} {s:S}:uloop body (m+1) s h=body s h (uloop body m):=rfl
section
variable {a p:Bool} {op:(Value→H→Prop)→Prop}
@[simp] theorem ytuo {u:Dm (Value.bool a,(op,fun v h=>y9rg (.bool a) v (.bool false) fun y=>Q y h))}:ydv6 (.bool a) true op (fun v h=>y9rg (.bool a) v (.bool false) fun y=>Q y h) h u=u_and (.bool a) op Q h:=yu2d (K:=Q)
@[simp] theorem s_gor {u:Dm (Value.bool a,(op,fun v h=>y9rg (.bool a) (.bool true) v fun y=>Q y h))}:ydv6 (.bool a) false op (fun v h=>y9rg (.bool a) (.bool true) v fun y=>Q y h) h u=u_or (.bool a) op Q h:=yku0 (K:=Q)
@[simp] theorem s_and {u:Dm (Value.bool a,Q)}:u_and (.bool a) (fun k=>k (.bool p) h1) Q h1 u=Q (.bool (a&&p)) h1:=ynyz
@[simp] theorem s_or {u:Dm (Value.bool a,Q)}:u_or (.bool a) (fun k=>k (.bool p) h1) Q h1 u=Q (.bool (a||p)) h1:=y4yh
theorem yiad {u:Dm (Value.bool a,Q)}:u_and (.bool a) op Q h u=if a=true then op Q else Q (.bool false) h:=by cases a <;> rfl
theorem ysbf {u:Dm (Value.bool a,Q)}:u_or (.bool a) op Q h u=if a=true then Q (.bool true) h else op Q:=by cases a <;> rfl
@[simp] theorem s_gtt {u:Dm (Value.bool true,(op,Q))}:ydv6 (.bool true) true op Q h u=op Q:=rfl
@[simp] theorem s_gff {u:Dm (Value.bool false,(op,Q))}:ydv6 (.bool false) false op Q h u=op Q:=rfl
@[simp] theorem s_gtf {u:Dm (Value.bool true,(op,Q))}:ydv6 (.bool true) false op Q h u=Q undef h:=rfl
@[simp] theorem s_gft {u:Dm (Value.bool false,(op,Q))}:ydv6 (.bool false) true op Q h u=Q undef h:=rfl
@[simp] theorem s_gu {w:Bool} {u:Dm (undef,(op,Q))}:ydv6 undef w op Q h u=Q undef h:=rfl
end
@[simp] theorem yv9j {cs:Array Value}:Value.cells (.agg cs)=cs:=rfl
@[simp] theorem ygcv:Value.cells (.int k x) = #[.int k x]:=rfl
@[simp] theorem y0cy {p:Bool}:Value.cells (.bool p) = #[.bool p]:=rfl
@[simp] theorem ydho {a:Option Addr}:Value.cells (.pointer a) = #[.pointer a]:=rfl
@[simp] theorem y5aq {a:Option Addr} {l q:Nat}:Value.cells (.slice a l q) = #[.slice a l q]:=rfl
@[simp] theorem yspx {a:Option Nat}:Value.cells (.map a) = #[.map a]:=rfl
@[simp] theorem y2bs {cs:List Value} {E:TypeId} {m:Own}:cellAt (upd h b (.cells cs E m)) b o=cs[o]?:=by simp [cellAt,upd]
@[simp] theorem yyst {cs:List Value} {E:TypeId} {m:Own}:cellsAt (upd h b (.cells cs E m)) b o n=if o+n≤cs.length then some ((cs.drop o).take n) else none:=by simp [cellsAt,upd]
@[simp] theorem yh86 {q:AObj} (hb:h b=none) (hc:(cellAt h c o).isSome=true):cellAt (upd h b q) c o=cellAt h c o:=by
  have:c≠b:=by rintro rfl;simp [cellAt,hb] at hc
  simp [cellAt,upd,this]
@[simp] theorem y2ty {q:AObj} (hb:h b=none) (hc:(cellsAt h c o n).isSome=true):cellsAt (upd h b q) c o n=cellsAt h c o n:=by
  have:c≠b:=by rintro rfl;simp [cellsAt,hb] at hc
  simp [cellsAt,upd,this]
@[simp] theorem yfu1 {q:AObj} (hb:h b=none) (hc:(h c).isSome=true):upd h b q c=h c:=by
  have:c≠b:=by rintro rfl;simp [hb] at hc
  simp [upd,this]
@[simp] theorem ynej {q:AObj}:(upd h b q c=none)=(c≠b∧b≠c∧h c=none):=by
  refine propext ⟨fun he=>?_,fun he=>by simp [upd,he.1,he.2.2]⟩
  by_cases hc:c=b
  ·subst hc;simp [upd] at he
  ·exact ⟨hc,Ne.symm hc,by simpa [upd,hc] using he⟩
@[simp] theorem yfqb {q:AObj} (hn:c≠b):cellAt (upd h b q) c o=cellAt h c o:=by simp [cellAt,upd,hn]
@[simp] theorem ycoa {q:AObj} (hn:c≠b):cellsAt (upd h b q) c o n=cellsAt h c o n:=by simp [cellsAt,upd,hn]
@[simp] theorem yovj {q:AObj} (hn:c≠b):upd h b q c=h c:=by simp [upd,hn]
@[simp] theorem yre8 {q q':AObj}:upd (upd h b q) b q'=upd h b q':=by funext c;unfold upd;split <;> rfl
@[simp] theorem ygug {cs:List Value}:setL cs o []=cs:=by cases cs <;> rfl
@[simp] theorem yf16 {cs l:List Value} {v:Value}:setL cs o (v::l)=setL (cs.set o v) (o+1) l:=by cases cs <;> rfl
@[simp] theorem w_u8 (h1:0≤x) (h2:x<256):IntKind.wrap .u8 x=x:=by
  refine y76g ?_ ?_ <;> simp [IntKind.min,IntKind.max,IntKind.signed,IntKind.bits] <;> omega
@[simp] theorem wn_u8:0≤IntKind.wrap .u8 x:=by
  simp only [IntKind.wrap,IntKind.signed,IntKind.bits]
  simp
  omega
@[simp] theorem wl_u8:IntKind.wrap .u8 x<256:=by
  simp only [IntKind.wrap,IntKind.signed,IntKind.bits]
  simp
  omega
@[simp] theorem w_u16 (h1:0≤x) (h2:x<65536):IntKind.wrap .u16 x=x:=by
  refine y76g ?_ ?_ <;> simp [IntKind.min,IntKind.max,IntKind.signed,IntKind.bits] <;> omega
@[simp] theorem yhxo:0≤IntKind.wrap .u16 x:=by
  simp only [IntKind.wrap,IntKind.signed,IntKind.bits]
  simp
  omega
@[simp] theorem y2jd:IntKind.wrap .u16 x<65536:=by
  simp only [IntKind.wrap,IntKind.signed,IntKind.bits]
  simp
  omega
@[simp] theorem w_u32 (h1:0≤x) (h2:x<4294967296):IntKind.wrap .u32 x=x:=by
  refine y76g ?_ ?_ <;> simp [IntKind.min,IntKind.max,IntKind.signed,IntKind.bits] <;> omega
@[simp] theorem yd12:0≤IntKind.wrap .u32 x:=by
  simp only [IntKind.wrap,IntKind.signed,IntKind.bits]
  simp
  omega
@[simp] theorem yina:IntKind.wrap .u32 x<4294967296:=by
  simp only [IntKind.wrap,IntKind.signed,IntKind.bits]
  simp
  omega
@[simp] theorem w_u64 (h1:0≤x) (h2:x<18446744073709551616):IntKind.wrap .u64 x=x:=by
  refine y76g ?_ ?_ <;> simp [IntKind.min,IntKind.max,IntKind.signed,IntKind.bits] <;> omega
@[simp] theorem yddd:0≤IntKind.wrap .u64 x:=by
  simp only [IntKind.wrap,IntKind.signed,IntKind.bits]
  simp
  omega
@[simp] theorem yd2s:IntKind.wrap .u64 x<18446744073709551616:=by
  simp only [IntKind.wrap,IntKind.signed,IntKind.bits]
  simp
  omega
@[simp] theorem w_i32 (h1:(-2147483648)≤x) (h2:x<2147483648):IntKind.wrap .i32 x=x:=by
  refine y76g ?_ ?_ <;> simp [IntKind.min,IntKind.max,IntKind.signed,IntKind.bits] <;> omega
@[simp] theorem w_i64 (h1:(-9223372036854775808)≤x) (h2:x<9223372036854775808):IntKind.wrap .i64 x=x:=by
  refine y76g ?_ ?_ <;> simp [IntKind.min,IntKind.max,IntKind.signed,IntKind.bits] <;> omega
@[simp] theorem w_i8 (h1:(-128)≤x) (h2:x<128):IntKind.wrap .i8 x=x:=by
  refine y76g ?_ ?_ <;> simp [IntKind.min,IntKind.max,IntKind.signed,IntKind.bits] <;> omega
@[simp] theorem w_i16 (h1:(-32768)≤x) (h2:x<32768):IntKind.wrap .i16 x=x:=by
  refine y76g ?_ ?_ <;> simp [IntKind.min,IntKind.max,IntKind.signed,IntKind.bits] <;> omega
def tab (x:Int) (l:List Int):Int:=l.getD x.toNat 0
@[simp] theorem yvph {a0 a1:Int}:ywq9 false 2 false 1 (.agg #[.int k a0,.int k a1]) (.int k' x) K u=(0≤x∧x<2∧K (.int k (tab x [a0,a1]))):=by
  rw [yjeg]
  refine propext ⟨fun ⟨h1,h2,h3⟩=>⟨h1,h2,?_⟩,fun ⟨h1,h2,h3⟩=>⟨h1,h2,?_⟩⟩
  all_goals
   revert h3
   rcases (by omega:x=0∨x=1) with rfl | rfl <;> exact id
@[simp] theorem yp9i {a0 a1 a2:Int}:ywq9 false 3 false 1 (.agg #[.int k a0,.int k a1,.int k a2]) (.int k' x) K u=(0≤x∧x<3∧K (.int k (tab x [a0,a1,a2]))):=by
  rw [yjeg]
  refine propext ⟨fun ⟨h1,h2,h3⟩=>⟨h1,h2,?_⟩,fun ⟨h1,h2,h3⟩=>⟨h1,h2,?_⟩⟩
  all_goals
   revert h3
   rcases (by omega:x=0∨x=1∨x=2) with rfl | rfl | rfl <;> exact id
@[simp] theorem y7x3 {a0 a1 a2 a3 a4 a5:Int}:ywq9 false 6 false 1 (.agg #[.int k a0,.int k a1,.int k a2,.int k a3,.int k a4,.int k a5]) (.int k' x) K u=(0≤x∧x<6∧K (.int k (tab x [a0,a1,a2,a3,a4,a5]))):=by
  rw [yjeg]
  refine propext ⟨fun ⟨h1,h2,h3⟩=>⟨h1,h2,?_⟩,fun ⟨h1,h2,h3⟩=>⟨h1,h2,?_⟩⟩
  all_goals
   revert h3
   rcases (by omega:x=0∨x=1∨x=2∨x=3∨x=4∨x=5) with rfl | rfl | rfl | rfl | rfl | rfl <;> exact id
@[simp] theorem yxkl {a0 a1 a2 a3 a4 a5 a6 a7:Int}:ywq9 false 8 false 1 (.agg #[.int k a0,.int k a1,.int k a2,.int k a3,.int k a4,.int k a5,.int k a6,.int k a7]) (.int k' x) K u=(0≤x∧x<8∧K (.int k (tab x [a0,a1,a2,a3,a4,a5,a6,a7]))):=by
  rw [yjeg]
  refine propext ⟨fun ⟨h1,h2,h3⟩=>⟨h1,h2,?_⟩,fun ⟨h1,h2,h3⟩=>⟨h1,h2,?_⟩⟩
  all_goals
   revert h3
   rcases (by omega:x=0∨x=1∨x=2∨x=3∨x=4∨x=5∨x=6∨x=7) with rfl | rfl | rfl | rfl | rfl | rfl | rfl | rfl <;> exact id
@[simp] theorem ygoy {a0 a1 a2 a3 a4 a5 a6 a7 a8:Int}:ywq9 false 9 false 1 (.agg #[.int k a0,.int k a1,.int k a2,.int k a3,.int k a4,.int k a5,.int k a6,.int k a7,.int k a8]) (.int k' x) K u=(0≤x∧x<9∧K (.int k (tab x [a0,a1,a2,a3,a4,a5,a6,a7,a8]))):=by
  rw [yjeg]
  refine propext ⟨fun ⟨h1,h2,h3⟩=>⟨h1,h2,?_⟩,fun ⟨h1,h2,h3⟩=>⟨h1,h2,?_⟩⟩
  all_goals
   revert h3
   rcases (by omega:x=0∨x=1∨x=2∨x=3∨x=4∨x=5∨x=6∨x=7∨x=8) with rfl | rfl | rfl | rfl | rfl | rfl | rfl | rfl | rfl <;> exact id
@[simp] theorem ycv5 {a0 a1 a2 a3 a4 a5 a6 a7 a8 a9:Int}:ywq9 false 10 false 1 (.agg #[.int k a0,.int k a1,.int k a2,.int k a3,.int k a4,.int k a5,.int k a6,.int k a7,.int k a8,.int k a9]) (.int k' x) K u=(0≤x∧x<10∧K (.int k (tab x [a0,a1,a2,a3,a4,a5,a6,a7,a8,a9]))):=by
  rw [yjeg]
  refine propext ⟨fun ⟨h1,h2,h3⟩=>⟨h1,h2,?_⟩,fun ⟨h1,h2,h3⟩=>⟨h1,h2,?_⟩⟩
  all_goals
   revert h3
   rcases (by omega:x=0∨x=1∨x=2∨x=3∨x=4∨x=5∨x=6∨x=7∨x=8∨x=9) with rfl | rfl | rfl | rfl | rfl | rfl | rfl | rfl | rfl | rfl <;> exact id
theorem ite_i {c:Prop} [Decidable c] {A B:Prop} (h1:c→A) (h2:¬c→B):if c then A else B:=by
 by_cases hc:c
 ·rw [if_pos hc];exact h1 hc
 ·rw [if_neg hc];exact h2 hc
theorem Sub.newer {h h':H} {q:AObj} (hs:Sub h h') (hb:h' b=Option.none):Sub h (AM.upd h' b q):=Sub.upd hs (Sub.none hs hb)
theorem fin {h h1:H} {v v1:Value} {K:K1} (hk:∀h',Sub h h'→K v h') (hs:Sub h h1) (e:v1=v):K v1 h1:=e▸hk _ hs
end
end Go.Proofs.YtnckimioabkheaaGreat.AM
set_option linter.unusedSimpArgs false
set_option linter.unusedVariables false
namespace Go.Proofs.YtnckimioabkheaaGreat.AM
section
variable {P:Program} {D:CT}
def reOne (P:Program) (D:CT) (ops:Array Oper) (r:Nat) (t:T) (h:H):Prop :=
 match (ops[r]?).bind (·.dst) with
 | some d=>cStep P D ops r (fun t2 _=>t2 d=t d) t h
 | none=>False
def reAll (P:Program) (D:CT) (ops:Array Oper):List Nat→(T→H→Prop)→T→H→Prop
 | [],K,t,h=>K t h
 | r::rs,K,t,h=>reOne P D ops r t h∧reAll P D ops rs K t h
theorem y6xd {ops:Array Oper} {K:T→H→Prop} {t:T} {h:H}:∀{rs:List Nat},reAll P D ops rs K t h↔(∀ r∈rs,reOne P D ops r t h)∧K t h
 | []=>by simp [reAll]
 | r::rs=>by simp [reAll,y6xd (rs:=rs),and_assoc]
def ymqp (ops:Array Oper) (z x:Oper):Bool:=match x.dst with
 | none=>true
 | some d=>!memB d (z.looksAt ops)&&(match z.dst with | some e=>!Nat.beq e d | none=>true)
theorem yoe7 {ops:Array Oper} {z x:Oper} (h:ymqp ops z x=true):∀d,x.dst=some d→d∉z.looksAt ops∧z.dst≠some d:=by
 intro d hd
 unfold ymqp at h
 rw [hd] at h
 simp only [Bool.and_eq_true,Bool.not_eq_true'] at h
 refine ⟨fun hm=>?_,fun he=>?_⟩
 ·rw [ye6g.2 hm] at h;exact absurd h.1 (by decide)
 ·rw [he] at h
  simp only [Nat.beq_refl] at h
  exact absurd h.2 (by decide)
def asOne (P:Program) (D:CT) (ops:Array Oper) (k:Nat) (t:T) (h:H):Prop:=cStep P D ops k (fun _ _=>True) t h
def asAll (P:Program) (D:CT) (ops:Array Oper):List Nat→(T→H→Prop)→T→H→Prop
 | [],K,t,h=>K t h
 | k::ks,K,t,h=>asOne P D ops k t h∧asAll P D ops ks K t h
theorem y1sc {ops:Array Oper} {K:T→H→Prop} {t:T} {h:H}:∀{ks:List Nat},asAll P D ops ks K t h↔(∀ k∈ks,asOne P D ops k t h)∧K t h
 | []=>by simp [asAll]
 | k::ks=>by simp [asAll,y1sc (ks:=ks),and_assoc]
abbrev OE:=Nat×List Nat×List Nat
def cOpsR (P:Program) (D:CT) (ops:Array Oper):List OE→(T→H→Prop)→T→H→Prop
 | [],K,t,h=>K t h
 | (i,rs,az)::l,K,t,h=>asAll P D ops az (cStep P D ops i (reAll P D ops rs (cOpsR P D ops l K))) t h
def aftB:List Nat→Nat→Nat→Bool
 | [],_,_=>false
 | a::l,j,r=>bif Nat.beq a j then memB r l else aftB l j r
def posOk (full:List Nat):List Nat→Bool
 | []=>true
 | a::l=>l.all (fun b=>!aftB full b a)&&posOk full l
theorem yt4n {full:List Nat} {q:Nat→Bool}:∀{l:List Nat},posOk full l=true→posOk full (l.filter q)=true
 | [],_=>rfl
 | a::l,h=>by
   simp only [posOk,Bool.and_eq_true] at h
   have ih:=yt4n (q:=q) h.2
   rw [List.filter_cons]
   split
   ·simp only [posOk,Bool.and_eq_true,ih,and_true]
    exact List.all_eq_true.2 fun b hb=>List.all_eq_true.1 h.1 b (List.mem_filter.1 hb).1
   ·exact ih
def condO (full:List Nat) (P:Program) (D:CT) (ops:Array Oper) (j:Nat) (x:Oper) (rsj:List Nat) (y:Oper) (rsi:List Nat):Bool :=
 rsj.isEmpty&&(bif memB j rsi then Nat.beq (kindC P D x.op) 1&&x.apart ops y&&(match x.dst with | some d=>!memB d (x.looksAt ops) | none=>false)
  else freeC P D ops x y&&(rsi.isEmpty||Nat.beq (kindC P D x.op) 0)) &&
  rsi.all fun r=>Nat.beq r j||aftB full j r||match ops[r]? with | some z=>ymqp ops z x | none=>false
theorem yffn {ops:Array Oper} {r:Nat} {z:Oper} (hz:ops[r]?=some z) {t2 t3:T} {h:H} (h1:∀d∈z.looksAt ops,t2 d=t3 d) (h2:∀d,z.dst=some d→t2 d=t3 d) (hr:reOne P D ops r t2 h):reOne P D ops r t3 h:=by
 unfold reOne at hr ⊢
 simp only [hz,Option.bind_some] at hr ⊢
 cases hd:z.dst with
 | none=>rw [hd] at hr;exact hr
 | some d =>
   rw [hd] at hr
   simp only at hr ⊢
   refine ye63 hz h1 (fun v h' hk=>?_) hr
   rw [hd] at hk ⊢
   simp only [tput,tset,Nat.beq_refl,cond_true] at hk ⊢
   rw [hk,h2 d hd]
theorem swapO {ops:Array Oper} {i j:Nat} {K:T→H→Prop} {t:T} {h:H} {x y:Oper} (hj:ops[j]?=some x) (hi:ops[i]?=some y) {rsi A:List Nat} {full:List Nat} (hA:∀r∈A,r∈rsi∧r≠j∧aftB full j r=false) (hc:condO full P D ops j x [] y rsi=true)
 (hs:cStep P D ops j (cStep P D ops i (reAll P D ops (bif memB j rsi then j::A else A) K)) t h):cStep P D ops i (reAll P D ops A (cStep P D ops j K)) t h:=by
 simp only [condO,Bool.and_eq_true,List.isEmpty_nil,true_and] at hc
 obtain ⟨hc1,hc2⟩:=hc
 have hot:∀r∈A,∃z,ops[r]?=some z∧ymqp ops z x=true:=fun r hr=>by
  obtain ⟨a1,a2,a3⟩:=hA r hr
  have:=List.all_eq_true.1 hc2 r a1
  simp only [a3,Bool.or_false,Bool.or_eq_true] at this
  rcases this with h5 | h5
  ·exact absurd (Nat.eq_of_beq_eq_true h5) a2
  ·cases hz:ops[r]? with
   | none=>rw [hz] at h5;exact absurd h5 Bool.false_ne_true
   | some z=>rw [hz] at h5;exact ⟨z,rfl,h5⟩
 by_cases hemp:memB j rsi=false∧A=[]
 ·obtain ⟨e1,e2⟩:=hemp
  rw [e1,cond_false] at hc1 hs
  subst e2
  simp only [Bool.and_eq_true] at hc1
  exact yh7l hj hi hc1.1 hs
 have hap:x.apart ops y=true∧kindC P D x.op<2:=by
  cases hm:memB j rsi with
  | true =>
    rw [hm,cond_true] at hc1
    simp only [Bool.and_eq_true] at hc1
    exact ⟨hc1.1.2,by have:=Nat.eq_of_beq_eq_true hc1.1.1;omega⟩
  | false =>
    rw [hm,cond_false] at hc1
    simp only [Bool.and_eq_true,Bool.or_eq_true] at hc1
    refine ⟨?_,?_⟩
    ·have:=hc1.1
     simp only [freeC,Bool.and_eq_true] at this
     exact this.1
    ·rcases hc1.2 with h5 | h5
     ·exfalso
      rw [List.isEmpty_iff] at h5
      refine hemp ⟨hm,?_⟩
      cases A with
      | nil=>rfl
      | cons a r=>have:=(hA a (List.mem_cons_self ..)).1;rw [h5] at this;cases this
     ·have:=Nat.eq_of_beq_eq_true h5;omega
 obtain ⟨f1,f2,f3⟩:=Oper.apart_spec hap.1
 have ec:∀vj vi,tput (tput t x.dst vj) y.dst vi=tput (tput t y.dst vi) x.dst vj:=fun vj vi=>y7cf f2
 have ei:∀vj,∀d∈y.looksAt ops,tput t x.dst vj d=t d:=fun vj d hd=>yjcn fun he=>f1 d he hd
 have ej:∀vi,∀d∈x.looksAt ops,t d=tput t y.dst vi d:=fun vi d hd=>(yjcn fun he=>f3 d he hd).symm
 obtain ⟨vj,h',a1,a2,a3⟩:=yz9e hj (by omega) hs
 have e1:=a2 hap.2
 subst e1
 refine ye63 hi (ei vj) (fun w h2 hk=>?_) a1
 rw [ec] at hk
 have hold:∀d,x.dst≠some d→tput (tput t y.dst w) x.dst vj d=tput t y.dst w d:=fun d hd=>yjcn hd
 have hre:∀r∈A,reOne P D ops r (tput (tput t y.dst w) x.dst vj) h2→reOne P D ops r (tput t y.dst w) h2:=fun r hr hh=>by
  obtain ⟨z,hz,hzx⟩:=hot r hr
  have hsp:=yoe7 hzx
  refine yffn hz (fun d hd=>hold d fun he=>(hsp d he).1 hd) (fun d hd=>hold d fun he=>(hsp d he).2 hd) hh
 cases hm:memB j rsi with
 | false =>
   rw [hm,cond_false] at hk hc1
   simp only [Bool.and_eq_true,Bool.or_eq_true] at hc1
   obtain ⟨k1,k2⟩:=y6xd.1 hk
   refine y6xd.2 ⟨fun r hr=>hre r hr (k1 r hr),?_⟩
   have hk0:kindC P D x.op=0:=by
    rcases hc1.2 with h5 | h5
    ·exfalso
     rw [List.isEmpty_iff] at h5
     refine hemp ⟨hm,?_⟩
     cases A with
     | nil=>rfl
     | cons a r=>have:=(hA a (List.mem_cons_self ..)).1;rw [h5] at this;cases this
    ·exact Nat.eq_of_beq_eq_true h5
   exact (a3 _ (ej w)).2 hk0 _ _ k2
 | true =>
   rw [hm,cond_true] at hk hc1
   simp only [Bool.and_eq_true] at hc1
   obtain ⟨k1,k2⟩:=y6xd.1 hk
   refine y6xd.2 ⟨fun r hr=>hre r hr (k1 r (List.mem_cons_of_mem _ hr)),?_⟩
   have hx1:=Nat.eq_of_beq_eq_true hc1.1.1
   have k0:=k1 j (List.mem_cons_self ..)
   unfold reOne at k0
   simp only [hj,Option.bind_some] at k0
   cases hd:x.dst with
   | none=>rw [hd] at k0;exact k0.elim
   | some d =>
     have hself:d∉x.looksAt ops:=fun hm2=>by
      have:=hc1.2
      rw [hd] at this
      simp only [ye6g.2 hm2] at this
      exact absurd this (by decide)
     rw [hd] at k0
     simp only at k0
     have ev:tput (tput t y.dst w) (some d) vj d=vj:=by simp [tput,tset]
     rw [ev] at k0
     have k3:cStep P D ops j (fun ta _=>ta d=vj) (tput t y.dst w) h2:=by
      refine ye63 hj (fun q hq=>yjcn fun he=>hself (by injection he with he;rw [he];exact hq)) (fun v' h' hk=>?_) k0
      rw [hd] at hk ⊢
      simp only [tput,tset,Nat.beq_refl,cond_true] at hk ⊢
      exact hk
     obtain ⟨v',h3,b1,b2,b3⟩:=yz9e hj (by omega) k3
     have e2:=b2 (by omega)
     subst e2
     rw [hd] at b1
     simp only [tput,tset,Nat.beq_refl,cond_true] at b1
     subst b1
     exact (b3 _ (fun _ _=>rfl)).1 _ k2
theorem ybwa {size:Nat} {h h2:H} {x:Value} {n:Nat} {l:List Value} (hs:Sub h h2) (h1:yc23 size h x n=some l):yc23 size h2 x n=some l:=by
 unfold yc23 at h1 ⊢
 split at h1
 ·exact h1
 ·rename_i n' b o _ _
  by_cases hn:n=0
  ·rw [if_pos hn] at h1;simp only [if_pos hn];exact h1
  ·rw [if_neg hn] at h1
   simp only [if_neg hn]
   exact hs.cellsAt h1
 ·exact h1
 ·cases h1
theorem y524 {h:H} {b c:Nat} {o o':AObj} (hn:b≠c):upd (upd h b o) c o'=upd (upd h c o') b o:=by
 funext d
 unfold upd
 by_cases h1:d=b <;> by_cases h2:d=c <;> simp_all
theorem yj13 {h:H} {b c:Nat} {o:AObj} (hn:b≠c):del (upd h b o) c=upd (del h c) b o:=by
 funext d
 unfold upd del
 by_cases h1:d=b <;> by_cases h2:d=c <;> simp_all
theorem yx26 {e:TypeId} {size bytes:Nat} {s x:Value} {h:H} {K:Value→H→Prop} {b:Nat} {o:AObj} (hb:h b=none) (ha:yc1n e size bytes s x h K) :
 yc1n e size bytes s x (upd h b o) fun v h2=>∃h1,h2=upd h1 b o∧h1 b=none∧K v h1:=by
 have hs:Sub h (upd h b o):=Sub.new hb
 have hne:∀{c:Nat} {q:AObj},h c=some q→b≠c:=fun hc he=>by rw [← he,hb] at hc;cases hc
 have new:∀{cs:List Value} {E:TypeId} {m:Own} {K':Value→H→Prop} {f:Nat→Value},o_new cs E m h (fun b h=>K' (f b) h)→o_new cs E m (upd h b o) fun c h2=>∃h1,h2=upd h1 b o∧h1 b=none∧K' (f c) h1:=by
  intro cs E m K' f ho c hc2 hcn
  rw [ynej] at hcn
  exact ⟨_,y524 hcn.2.1,by rw [yrkk _ _ hcn.2.1];exact hb,ho c hc2 hcn.2.2⟩
 unfold yc1n at ha ⊢
 revert ha
 split
 ·rename_i base len cap n hn
  cases hsrc:yc23 size h x n with
  | none=>exact fun hf=>hf.elim
  | some new' =>
    simp only [ybwa hs hsrc]
    by_cases hc:len+n≤cap
    ·simp only [if_pos hc]
     split
     ·rename_i c p
      by_cases hn0:n=0
      ·simp only [if_pos hn0];exact fun hk=>⟨h,rfl,hb,hk⟩
      ·simp only [if_neg hn0]
       cases hcc:h c with
       | none=>exact fun hf=>hf.elim
       | some q =>
         simp only [hs _ _ hcc]
         cases q with
         | cells cs E m =>
           simp only
           rintro ⟨h1,h2,h3,h4⟩
           exact ⟨h1,h2,h3,_,y524 (hne hcc),by rw [yrkk _ _ (hne hcc)];exact hb,h4⟩
         | _=>exact fun hf=>hf.elim
     ·rintro ⟨h1,h2⟩;exact ⟨h1,h,rfl,hb,h2⟩
     ·exact fun hf=>hf.elim
    ·simp only [if_neg hc]
     rintro ⟨h1,h2,h3,h4,h5⟩
     refine ⟨h1,h2,h3,h4,?_⟩
     revert h5
     split
     ·rintro ⟨h6,h7⟩;exact ⟨h6,new (f:=fun c=>.slice (some ⟨c,0,Option.none⟩) n n) h7⟩
     ·rename_i c p
      by_cases hc0:c=0
      ·simp only [if_pos hc0]
       rintro ⟨h6,h7⟩;exact ⟨h6,new (f:=fun c=>.slice (some ⟨c,0,Option.none⟩) n n) h7⟩
      ·simp only [if_neg hc0]
       cases hcc:h c with
       | none=>exact fun hf=>hf.elim
       | some q =>
         simp only [hs _ _ hcc]
         cases q with
         | cells cs E m =>
           cases m with
           | «open» =>
             simp only
             rintro ⟨h6,h7,h8,h9,h10⟩
             refine ⟨h6,h7,h8,h9,fun d hd2 hdn=>?_⟩
             rw [ynej] at hdn
             refine ⟨_,?_,?_,h10 d hd2 hdn.2.2⟩
             ·rw [yj13 (hne hcc),y524 hdn.2.1]
             ·rw [yrkk _ _ hdn.2.1,ybsf _ (hne hcc)];exact hb
           | ro=>simp only;rintro ⟨h6,h7⟩;exact ⟨h6,new (f:=fun c=>.slice (some ⟨c,0,Option.none⟩) (len+n) (len+n)) h7⟩
           | exact=>simp only;rintro ⟨h6,h7⟩;exact ⟨h6,new (f:=fun c=>.slice (some ⟨c,0,Option.none⟩) (len+n) (len+n)) h7⟩
         | _=>exact fun hf=>hf.elim
     ·exact fun hf=>hf.elim
 ·exact fun hf=>hf.elim
def isApp:Op→Bool
 | .call c=>match c.callee with
   | .builtin .append=>true
   | _=>false
 | _=>false
theorem yegs {op:Op} {ρ:Operand→Value} (hx:isApp op=true) {h:H} {K:Value→H→Prop} {b:Nat} {o:AObj} (hb:h b=none) (ha:cop P D op ρ h K) :
 cop P D op ρ (upd h b o) fun v h2=>∃h1,h2=upd h1 b o∧h1 b=none∧K v h1:=by
 cases op <;> simp only [isApp,Bool.false_eq_true] at hx
 rename_i c
 have hcal:c.callee=.builtin .append:=by
  revert hx
  split
  ·rename_i h;exact fun _=>h
  ·exact fun hf=>by cases hf
 unfold cop at ha ⊢
 simp only [hcal] at ha ⊢
 unfold aCall at ha ⊢
 simp only [hcal] at ha ⊢
 generalize c.args.toList=az at *
 generalize c.argTypes.toList=ts at *
 rcases az with _ | ⟨s,_ | ⟨x,_ | ⟨y,az⟩⟩⟩
 ·exact ha.elim
 ·exact ha.elim
 ·rcases ts with _ | ⟨t,_ | ⟨v,_ | ⟨w,ts⟩⟩⟩
  ·exact ha.elim
  ·exact ha.elim
  ·simp only at ha ⊢
   have key:∀e,(match P.info? e,y7rv P e with
    | some i,some z=>bif z.cells.size==i.size then yc1n e i.size i.bytes (ρ s) (ρ x) h K else False
    | _,_=>False)→(match P.info? e,y7rv P e with
    | some i,some z=>bif z.cells.size==i.size then yc1n e i.size i.bytes (ρ s) (ρ x) (upd h b o) (fun v h2=>∃h1,h2=upd h1 b o∧h1 b=none∧K v h1) else False
    | _,_=>False):=by
    intro e
    cases P.info? e with
    | none=>exact id
    | some i =>
      cases y7rv P e with
      | none=>exact id
      | some z =>
        simp only
        cases (z.cells.size==i.size)
        ·exact id
        ·exact yx26 hb
   revert ha
   split
   ·exact key _
   ·exact key _
   ·exact fun hf=>hf.elim
  ·exact ha.elim
 ·exact ha.elim
def condA (P:Program) (D:CT) (ops:Array Oper) (x:Oper) (rsj:List Nat) (y:Oper) (rsi:List Nat):Bool :=
 rsi.isEmpty&&x.apart ops y&&x.guard.isNone&&y.guard.isNone &&
  ((Nat.beq (kindC P D y.op) 4&&isApp x.op&&rsj.all fun r=>match ops[r]? with | some z=>ymqp ops z y&&Nat.blt (kindC P D z.op) 2 | none=>false) ||
    (rsj.isEmpty&&Nat.beq (kindC P D x.op) 4&&(Nat.beq (kindC P D y.op) 4||Nat.beq (kindC P D y.op) 5)))
def keepA (P:Program) (D:CT) (ops:Array Oper) (y:Oper) (k:Nat):Bool :=
 match ops[k]? with
 | some z=>apartL ops z y&&(Nat.beq (kindC P D z.op) 4||(Nat.beq (kindC P D z.op) 5&&(Nat.blt (kindC P D y.op) 2||Nat.beq (kindC P D y.op) 4||Nat.beq (kindC P D y.op) 5)))
 | none=>false
where apartL (ops:Array Oper) (z y:Oper):Bool:=match y.dst with
 | none=>true
 | some d=>!memB d (z.looksAt ops)
def condR (full:List Nat) (P:Program) (D:CT) (ops:Array Oper) (j:Nat) (x:Oper) (rsj asj:List Nat) (i:Nat) (y:Oper) (rsi:List Nat):Bool :=
 (bif memB i asj then condA P D ops x rsj y rsi else condO full P D ops j x rsj y rsi)&&asj.all (keepA P D ops y)
theorem yn6n {ops:Array Oper} {i:Nat} {y:Oper} (hi:ops[i]?=some y) {Z:T→H→Prop} {t:T} {h:H} (hs:cStep P D ops i Z t h) :
 cStep P D ops i (fun t' h'=>Z t' h'∧(∃ w,t'=tput t y.dst w)∧(kindC P D y.op<2∨kindC P D y.op=4∨kindC P D y.op=5→Sub h h')) t h:=by
 rw [yg7j hi] at hs ⊢
 cases hact:yys9 ops y t with
 | false =>
   rw [hact,cond_false] at hs
   simp only [cond_false]
   exact ⟨hs,⟨_,rfl⟩,fun _=>Sub.refl _⟩
 | true =>
   rw [hact,cond_true] at hs
   simp only [cond_true]
   by_cases h2:kindC P D y.op<2
   ·obtain ⟨v,h',a1,a2,a3,_⟩:=y339 (by omega) _ _ hs
    have:=a2 h2
    subst this
    exact a3 _ ⟨a1,⟨_,rfl⟩,fun _=>Sub.refl _⟩
   ·by_cases h4:kindC P D y.op=4∨kindC P D y.op=5
    ·exact ybom (fun v h' hk=>⟨hk.2,⟨_,rfl⟩,fun _=>hk.1⟩) (yjff h4 hs)
    ·exact ybom (fun v h' hk=>⟨hk,⟨_,rfl⟩,fun hh=>absurd hh (by omega)⟩) hs
theorem y5em {ops:Array Oper} {k:Nat} {y:Oper} (hk:keepA P D ops y k=true) {t:T} {h:H} (ha:asOne P D ops k t h) {w:Value} {h':H} (hs:kindC P D y.op<2∨kindC P D y.op=4∨kindC P D y.op=5→Sub h h'):asOne P D ops k (tput t y.dst w) h':=by
 unfold keepA at hk
 cases hz:ops[k]? with
 | none=>rw [hz] at hk;cases hk
 | some z =>
   rw [hz] at hk
   simp only [Bool.and_eq_true,Bool.or_eq_true] at hk
   obtain ⟨k1,k2⟩:=hk
   have hl:∀d∈z.looksAt ops,t d=tput t y.dst w d:=fun d hd=>(yjcn fun he=>by
    unfold keepA.apartL at k1
    rw [he] at k1
    simp only [ye6g.2 hd] at k1
    exact absurd k1 (by decide)).symm
   unfold asOne at ha ⊢
   rw [yg7j hz] at ha ⊢
   rw [yp5a hl]
   cases hact:yys9 ops z t with
   | false=>trivial
   | true =>
     rw [hact,cond_true] at ha
     simp only [cond_true]
     have e:cop P D z.op (aev (tput t y.dst w))=cop P D z.op (aev t):=(ywsc (yig2 hl)).symm
     rw [e]
     rcases k2 with k2 | k2
     ·rcases yrnt (P:=P) (D:=D) (ρ:=aev t) (Nat.eq_of_beq_eq_true k2) with hf | ⟨f,q,hf⟩
      ·exact absurd ha (hf _ _)
      ·rw [hf];exact fun _ _ _=>trivial
     ·have h5:=Nat.eq_of_beq_eq_true k2.1
      have hsub:Sub h h':=hs (by
       rcases k2.2 with (q | q) | q
       ·exact .inl (by simpa using q)
       ·exact .inr (.inl (Nat.eq_of_beq_eq_true q))
       ·exact .inr (.inr (Nat.eq_of_beq_eq_true q)))
      rcases ytzp (P:=P) (D:=D) (ρ:=aev t) h5 with hf | ⟨p,R,u1,u2,hf⟩
      ·exact absurd ha (hf _ _)
      ·rw [hf] at ha ⊢
       exact ⟨u1 _ _ hsub ha.1,fun _ _ _ _=>trivial⟩
theorem ykt1 {ops:Array Oper} {r:Nat} {z:Oper} (hz:ops[r]?=some z) (hk:kindC P D z.op<2) {t:T} {h h2:H} (hs:Sub h h2) (hr:reOne P D ops r t h):reOne P D ops r t h2:=by
 unfold reOne at hr ⊢
 simp only [hz,Option.bind_some] at hr ⊢
 cases hd:z.dst with
 | none=>rw [hd] at hr;exact hr
 | some d =>
   rw [hd] at hr
   simp only at hr ⊢
   rw [yg7j hz] at hr ⊢
   cases hact:yys9 ops z t with
   | false=>rw [hact,cond_false] at hr;exact hr
   | true =>
     rw [hact,cond_true] at hr
     simp only [cond_true]
     obtain ⟨v,a1,a2⟩:=yezu hk hr
     exact a2 _ hs _ a1
theorem swapA {ops:Array Oper} {i j:Nat} {K:T→H→Prop} {t:T} {h:H} {x y:Oper} (hj:ops[j]?=some x) (hi:ops[i]?=some y) {rsj rsi:List Nat} (hc:condA P D ops x rsj y rsi=true) (ha:asOne P D ops i t h)
 (hs:cStep P D ops j (reAll P D ops rsj (cStep P D ops i K)) t h):cStep P D ops i (cStep P D ops j (reAll P D ops rsj K)) t h:=by
 simp only [condA,Bool.and_eq_true] at hc
 obtain ⟨⟨⟨⟨_,c2⟩,c3⟩,c4⟩,c5⟩:=hc
 obtain ⟨f1,f2,f3⟩:=Oper.apart_spec c2
 have ec:∀vj vi,tput (tput t x.dst vj) y.dst vi=tput (tput t y.dst vi) x.dst vj:=fun vj vi=>y7cf f2
 have ei:∀vj,∀d∈y.looksAt ops,tput t x.dst vj d=t d:=fun vj d hd=>yjcn fun he=>f1 d he hd
 have ej:∀vi,∀d∈x.looksAt ops,t d=tput t y.dst vi d:=fun vi d hd=>(yjcn fun he=>f3 d he hd).symm
 have acty:∀t,yys9 ops y t=true:=fun t=>by
  unfold yys9
  cases hg:y.guard with
  | none=>rfl
  | some g=>rw [hg] at c4;cases c4
 have actx:∀t,yys9 ops x t=true:=fun t=>by
  unfold yys9
  cases hg:x.guard with
  | none=>rfl
  | some g=>rw [hg] at c3;cases c3
 have stepy:∀{K:T→H→Prop} {t h},cStep P D ops i K t h=cop P D y.op (aev t) h fun v h=>K (tput t y.dst v) h:=fun {K t h}=>by rw [yg7j hi,acty,cond_true]
 have stepx:∀{K:T→H→Prop} {t h},cStep P D ops j K t h=cop P D x.op (aev t) h fun v h=>K (tput t x.dst v) h:=fun {K t h}=>by rw [yg7j hj,actx,cond_true]
 have copy':∀vj,cop P D y.op (aev (tput t x.dst vj))=cop P D y.op (aev t):=fun vj=>ywsc (yig2 (ei vj))
 have copx':∀vi,cop P D x.op (aev (tput t y.dst vi))=cop P D x.op (aev t):=fun vi=>(ywsc (yig2 (ej vi))).symm
 unfold asOne at ha
 rw [stepy] at ha ⊢
 rw [stepx] at hs
 simp only [Bool.or_eq_true,Bool.and_eq_true] at c5
 rcases c5 with c5 | c5
 ·-- append,then a block made
  obtain ⟨⟨d1,d2⟩,d3⟩:=c5
  rcases yrnt (P:=P) (D:=D) (ρ:=aev t) (Nat.eq_of_beq_eq_true d1) with hf | ⟨f,q,hf⟩
  ·exact absurd ha (hf _ _)
  rw [hf]
  intro b hb2 hbn
  rw [stepx,copx']
  refine ybom (fun v h2 hk=>?_) (yegs (o:=q) d2 hbn hs)
  obtain ⟨h1,rfl,h1b,hk⟩:=hk
  obtain ⟨k1,k2⟩:=y6xd.1 hk
  have ek:tput (tput t y.dst (f b)) x.dst v=tput (tput t x.dst v) y.dst (f b):=(ec v (f b)).symm
  refine y6xd.2 ⟨fun r hr=>?_,?_⟩
  ·have hz0:=List.all_eq_true.1 d3 r hr
   cases hz:ops[r]? with
   | none=>rw [hz] at hz0;cases hz0
   | some z =>
     rw [hz] at hz0
     simp only [Bool.and_eq_true,Nat.blt_eq] at hz0
     have hsp:=yoe7 hz0.1
     rw [ek]
     refine ykt1 hz hz0.2 (Sub.new h1b) (yffn hz (fun d hd=>?_) (fun d hd=>?_) (k1 r hr))
     ·exact (yjcn fun he=>(hsp d he).1 hd).symm
     ·exact (yjcn fun he=>(hsp d he).2 hd).symm
  ·rw [stepy,copy',hf] at k2
   rw [ek]
   exact k2 b hb2 h1b
 ·obtain ⟨⟨d1,d2⟩,d3⟩:=c5
  have hrs:=List.isEmpty_iff.1 d1
  subst hrs
  rcases yrnt (P:=P) (D:=D) (ρ:=aev t) (Nat.eq_of_beq_eq_true d2) with hfx | ⟨fx,ox,hfx⟩
  ·exact absurd hs (hfx _ _)
  rw [hfx] at hs
  simp only [reAll] at hs ⊢
  rcases d3 with d3 | d3
  ·rcases yrnt (P:=P) (D:=D) (ρ:=aev t) (Nat.eq_of_beq_eq_true d3) with hf | ⟨f,q,hf⟩
   ·exact absurd ha (hf _ _)
   rw [hf]
   intro b hb2 hbn
   rw [stepx,copx',hfx]
   intro c hc2 hcn
   rw [ynej] at hcn
   have:=hs c hc2 hcn.2.2
   rw [stepy,copy',hf] at this
   have:=this b hb2 (by rw [yrkk _ _ hcn.2.1];exact hbn)
   rw [← ec,y524 (Ne.symm hcn.1)]
   exact this
  ·rcases ytzp (P:=P) (D:=D) (ρ:=aev t) (Nat.eq_of_beq_eq_true d3) with hf | ⟨p,R,u1,u2,hf⟩
   ·exact absurd ha (hf _ _)
   rw [hf] at ha ⊢
   refine ⟨ha.1,fun v h' hsub hR=>?_⟩
   rw [stepx,copx',hfx]
   intro c hc2 hcn
   have hcn0:=Sub.none hsub hcn
   have:=hs c hc2 hcn0
   rw [stepy,copy',hf] at this
   rw [← ec]
   refine this.2 v _ (fun d o hd=>?_) (u2 _ _ _ (Sub.new hcn) hR)
   by_cases hdc:d=c
   ·subst hdc;rw [yy0e] at hd ⊢;exact hd
   ·rw [yrkk _ _ hdc] at hd ⊢;exact hsub _ _ hd
theorem swapR {ops:Array Oper} {i j:Nat} {K:T→H→Prop} {t:T} {h:H} {x y:Oper} (hj:ops[j]?=some x) (hi:ops[i]?=some y) {rsj asj rsi A:List Nat} {full:List Nat} (hA:∀r∈A,r∈rsi∧r≠j∧aftB full j r=false) (hc:condR full P D ops j x rsj asj i y rsi=true)
 (hs:asAll P D ops asj (cStep P D ops j (reAll P D ops rsj (cStep P D ops i (reAll P D ops (bif memB j rsi then j::A else A) K)))) t h):cStep P D ops i (reAll P D ops A (asAll P D ops asj (cStep P D ops j (reAll P D ops rsj K)))) t h:=by
 simp only [condR,Bool.and_eq_true] at hc
 obtain ⟨hc1,hc2⟩:=hc
 obtain ⟨ha,hs⟩:=y1sc.1 hs
 have main:cStep P D ops i (reAll P D ops A (cStep P D ops j (reAll P D ops rsj K))) t h:=by
  cases hm:memB i asj with
  | true =>
    rw [hm,cond_true] at hc1
    have hrsi:rsi=[]:=by
     simp only [condA,Bool.and_eq_true] at hc1
     exact List.isEmpty_iff.1 hc1.1.1.1.1
    subst hrsi
    have hAn:A=[]:=by
     cases A with
     | nil=>rfl
     | cons a r=>exact absurd (hA a (List.mem_cons_self ..)).1 (by simp)
    subst hAn
    exact swapA hj hi hc1 (ha i (ye6g.1 hm)) hs
  | false =>
    rw [hm,cond_false] at hc1
    have hrsj:rsj=[]:=by
     simp only [condO,Bool.and_eq_true] at hc1
     exact List.isEmpty_iff.1 hc1.1.1
    subst hrsj
    exact swapO hj hi hA hc1 hs
 refine ycg0 (fun t' h' hh=>?_) (yn6n hi main)
 obtain ⟨h1,⟨w,rfl⟩,h2⟩:=hh
 obtain ⟨k1,k2⟩:=y6xd.1 h1
 exact y6xd.2 ⟨k1,y1sc.2 ⟨fun k hk=>y5em (List.all_eq_true.1 hc2 k hk) (ha k hk) h2,k2⟩⟩
def okR (full:List Nat) (P:Program) (D:CT) (ops:Array Oper) (w:Nat→Nat→Bool):List OE→Bool
 | []=>true
 | (j,rs,az)::l=>(match ops[j]? with
   | some x=>x.after.all (fun e=>!Region.binds .any e||(Nat.blt e.on ops.size&&!memB e.on (j::l.map (·.1))))&&l.all (fun p=>match ops[p.1]? with
     | some y=>w p.1 j||condR full P D ops j x rs az p.1 y p.2.1
     | none=>false)
   | none=>false)&&okR full P D ops w l
def ordR (P:Program) (D:CT) (ops:Array Oper) (ord:List OE):Bool :=
 okR (ord.map (·.1)) P D ops (ydjj ops (ord.map (·.1))) ord&&posOk (ord.map (·.1)) (ord.map (·.1))&&ykug (ord.map (·.1))&&(List.range ops.size).all fun i=>memB i (ord.map (·.1))
def restR (ord:List OE) (l:Array Bool):List OE:=ord.filter fun p=>!l.getD p.1 true
theorem y0uj {ord:List OE} {l:Array Bool}:(restR ord l).map (·.1)=restO (ord.map (·.1)) l:=by
 unfold restR restO
 rw [List.filter_map]
 rfl
section
variable {w:Nat→Nat→Bool} {full:List Nat}
theorem y9l4 {ops:Array Oper} {q:OE→Bool}:∀{l:List OE},okR full P D ops w l=true→okR full P D ops w (l.filter q)=true
 | [],_=>rfl
 | (j,rs,az)::r,h=>by
   simp only [okR,Bool.and_eq_true] at h
   have ih:=y9l4 (q:=q) h.2
   rw [List.filter_cons]
   split
   ·simp only [okR,Bool.and_eq_true,ih,and_true]
    cases hx:ops[j]? with
    | none=>rw [hx] at h;exact absurd h.1 Bool.false_ne_true
    | some x =>
      rw [hx] at h
      simp only [Bool.and_eq_true] at h ⊢
      refine ⟨Array.all_eq_true_iff_forall_mem.2 fun e he=>?_,List.all_eq_true.2 fun k hk=>List.all_eq_true.1 h.1.2 k (List.mem_filter.1 hk).1⟩
      have:=Array.all_eq_true_iff_forall_mem.1 h.1.1 e he
      simp only [Bool.or_eq_true,Bool.and_eq_true,Bool.not_eq_true'] at this ⊢
      refine this.imp id fun h=>⟨h.1,?_⟩
      cases hm:memB e.on (j::(r.filter q).map (·.1)) with
      | false=>rfl
      | true =>
        have h1:=ye6g.1 hm
        have h2:memB e.on (j::r.map (·.1))=true:=ye6g.2 (by
         rcases List.mem_cons.1 h1 with h1 | h1
         ·rw [h1];exact List.mem_cons_self ..
         ·obtain ⟨p,hp,hpe⟩:=List.mem_map.1 h1
          exact List.mem_cons_of_mem _ (List.mem_map.2 ⟨p,(List.mem_filter.1 hp).1,hpe⟩))
        rw [h2] at h
        exact absurd h.2 (by decide)
   ·exact ih
theorem ynwz {ops:Array Oper} {i:Nat} {rsi asi:List Nat} {post:List OE}:∀{pre:List OE},okR full P D ops w (pre++(i,rsi,asi)::post)=true→∀p∈pre,∃x y,ops[p.1]?=some x∧ops[i]?=some y∧(w i p.1=true∨condR full P D ops p.1 x p.2.1 p.2.2 i y rsi=true)
 | [],_,j,hj=>by cases hj
 | (a,rsa,asa)::pre,h,p,hp=>by
   simp only [List.cons_append,okR,Bool.and_eq_true] at h
   rcases List.mem_cons.1 hp with rfl | hp
   ·cases hx:ops[a]? with
    | none=>rw [hx] at h;exact absurd h.1 Bool.false_ne_true
    | some x =>
      rw [hx] at h
      simp only [Bool.and_eq_true] at h
      have:=List.all_eq_true.1 h.1.2 (i,rsi,asi) (by simp)
      simp only at this
      cases hy:ops[i]? with
      | none=>rw [hy] at this;exact absurd this Bool.false_ne_true
      | some y =>
        rw [hy] at this
        simp only [Bool.or_eq_true] at this
        exact ⟨x,y,rfl,rfl,this⟩
   ·exact ynwz h.2 p hp
theorem y3lm {ops:Array Oper} {i:Nat} {rs az:List Nat} {r:List OE} (h:okR full P D ops w ((i,rs,az)::r)=true):∃y,ops[i]?=some y∧∀e∈y.after,Region.binds .any e=true→e.on<ops.size∧e.on∉i::r.map (·.1):=by
 simp only [okR,Bool.and_eq_true] at h
 cases hx:ops[i]? with
 | none=>rw [hx] at h;exact absurd h.1 Bool.false_ne_true
 | some x =>
   rw [hx] at h
   simp only [Bool.and_eq_true] at h
   refine ⟨x,rfl,fun e he hb=>?_⟩
   have:=Array.all_eq_true_iff_forall_mem.1 h.1.1 e he
   rw [hb] at this
   simp only [Bool.not_true,Bool.false_or,Bool.and_eq_true,Nat.blt_eq,Bool.not_eq_true'] at this
   refine ⟨this.1,fun hm=>?_⟩
   rw [ye6g.2 hm] at this
   exact absurd this.2 (by decide)
end
theorem ym0i {full:List Nat} {ops:Array Oper} {i:Nat} {K:T→H→Prop} {y:Oper} (hi:ops[i]?=some y) {rsi asi:List Nat}:∀(pre post:List OE),(pre.map (·.1)).Nodup→posOk full (pre.map (·.1))=true→(∀ p∈pre,∃x,ops[p.1]?=some x∧condR full P D ops p.1 x p.2.1 p.2.2 i y rsi=true) →
 ∀(A:List Nat),(∀ r∈A,r∈rsi∧r∉pre.map (·.1)∧∀j∈pre.map (·.1),aftB full j r=false)→∀{t h},cOpsR P D ops (pre++(i,rsi,asi)::post) K t h→cStep P D ops i (reAll P D ops A (cOpsR P D ops (pre++post) K)) t h
 | [],_,_,_,_,A,hA,_,_,ho=>ycg0 (fun t h hh=>by
    obtain ⟨h1,h2⟩:=y6xd.1 hh
    exact y6xd.2 ⟨fun r hr=>h1 r (hA r hr).1,h2⟩) (y1sc.1 ho).2
 | (j,rsj,asj)::pre,post,hnd,hps,hp,A,hA,t,h,ho=>by
   obtain ⟨x,h1,h3⟩:=hp (j,rsj,asj) (List.mem_cons_self ..)
   simp only [List.map_cons,List.nodup_cons] at hnd
   simp only [List.map_cons,posOk,Bool.and_eq_true] at hps
   obtain ⟨ho1,ho2⟩:=y1sc.1 ho
   have ho':asAll P D ops asj (cStep P D ops j (reAll P D ops rsj (cStep P D ops i (reAll P D ops (bif memB j rsi then j::A else A) (cOpsR P D ops (pre++post) K))))) t h :=
    y1sc.2 ⟨ho1,ycg0 (fun t h hh=>(by
     obtain ⟨hh1,hh2⟩:=y6xd.1 hh
     refine y6xd.2 ⟨hh1,ym0i hi pre post hnd.2 hps.2 (fun p hp'=>hp p (List.mem_cons_of_mem _ hp')) _ (fun r hr=>?_) hh2⟩
     cases hm:memB j rsi with
     | false =>
       rw [hm,cond_false] at hr
       refine ⟨(hA r hr).1,fun hr2=>(hA r hr).2.1 ?_,fun k hk=>(hA r hr).2.2 k (by simp only [List.map_cons];exact List.mem_cons_of_mem _ hk)⟩
       simp only [List.map_cons]
       exact List.mem_cons_of_mem _ hr2
     | true =>
       rw [hm,cond_true] at hr
       rcases List.mem_cons.1 hr with rfl | hr
       ·exact ⟨ye6g.1 hm,hnd.1,fun k hk=>by have:=List.all_eq_true.1 hps.1 k hk;simpa using this⟩
       ·refine ⟨(hA r hr).1,fun hr2=>(hA r hr).2.1 ?_,fun k hk=>(hA r hr).2.2 k (by simp only [List.map_cons];exact List.mem_cons_of_mem _ hk)⟩
        simp only [List.map_cons]
        exact List.mem_cons_of_mem _ hr2)) ho2⟩
   exact swapR (full:=full) h1 hi (fun r hr=>⟨(hA r hr).1,fun he=>(hA r hr).2.1 (by rw [he];simp),(hA r hr).2.2 j (by simp)⟩) h3 ho'
theorem yoxu {full:List Nat} {ops:Array Oper} {ord:List OE} {w:Nat→Nat→Bool} (hw:∀i j,w i j=true→Anc ops i j) (hnd:(ord.map (·.1)).Nodup) (hall:∀i,i<ops.size→i∈ord.map (·.1)) (hpos:posOk full (ord.map (·.1))=true) {K:T→H→Prop}:∀(fuel:Nat) (l:Array Bool),l.size=ops.size→yefu ops l→okR full P D ops w (restR ord l)=true→(restR ord l).length=fuel→∀{t h},cOpsR P D ops (restR ord l) K t h→cAny P D ops K fuel l t h:=by
 intro fuel
 induction fuel with
 | zero =>
   intro l hl hcl hko hn t h ho
   have he:=List.length_eq_zero_iff.1 hn
   have hm:=y0uj (ord:=ord) (l:=l)
   rw [he] at ho hm
   refine ⟨?_,ho⟩
   cases hr:Region.ready .any ops l with
   | nil=>rfl
   | cons a r =>
     have:=y2va hall l a (by rw [hr];exact List.mem_cons_self ..)
     rw [← hm] at this
     cases this
 | succ fuel ih =>
   intro l hl hcl hko hn t h ho
   have hm:=y0uj (ord:=ord) (l:=l)
   refine ⟨fun he=>?_,fun i hi=>?_⟩
   ·exfalso
    cases hq:restR ord l with
    | nil=>rw [hq] at hn;cases hn
    | cons p r =>
      obtain ⟨i,rs,az⟩:=p
      rw [hq] at hko hm
      obtain ⟨y,hy,h1⟩:=y3lm hko
      have:=ynxr hall hl (i:=i) (r:=r.map (fun p=>p.1)) (by rw [← hm];rfl) hy h1
      rw [he] at this
      cases this
   ·have him:=y2va hall l i hi
    rw [← hm] at him
    have hin:=y6o2 hi
    obtain ⟨⟨i',rsi,asi⟩,hp,he⟩:=List.mem_map.1 him
    simp only at he
    subst he
    obtain ⟨pre,post,hpp⟩:=List.append_of_mem hp
    have hsub:restR ord (l.setIfInBounds i' true)=(restR ord l).filter fun p=>!Nat.beq p.1 i':=by
     unfold restR
     rw [List.filter_filter]
     congr 1
     funext p
     have hk:=yfd6 (ord:=[p.1]) (l:=l) (i:=i') (by omega)
     unfold restO at hk
     rw [List.filter_filter] at hk
     have e:∀b:Bool,(List.filter (fun _=>b) [p.1]=if b=true then [p.1] else []):=fun b=>by cases b <;> rfl
     by_cases h5:p.1=i'
     ·rw [h5]
      have:i'<l.size:=by omega
      simp [this]
     ·have:Nat.beq p.1 i'=false:=by
       cases hq:Nat.beq p.1 i' with
       | false=>rfl
       | true=>exact absurd (Nat.eq_of_beq_eq_true hq) h5
      simp only [this,Bool.not_false,Bool.true_and]
      by_cases h6:p.1<l.size
      ·simp [Array.getD,h6,Ne.symm h5]
      ·simp [Array.getD,h6]
    have hndl:((restR ord l).map (·.1)).Nodup:=by rw [hm];exact hnd.filter _
    rw [hpp] at hndl
    simp only [List.map_append,List.map_cons] at hndl
    have hn1:=List.nodup_append.1 hndl
    have hrest:restR ord (l.setIfInBounds i' true)=pre++post:=by
     rw [hsub,hpp,List.filter_append,List.filter_cons]
     have e1:pre.filter (fun p=>!Nat.beq p.1 i')=pre:=List.filter_eq_self.2 fun p hp=>by
      have:=hn1.2.2 p.1 (List.mem_map.2 ⟨p,hp,rfl⟩) i' (List.mem_cons_self ..)
      cases hq:Nat.beq p.1 i' with
      | false=>rfl
      | true=>exact absurd (Nat.eq_of_beq_eq_true hq) this
     have e2:post.filter (fun p=>!Nat.beq p.1 i')=post:=List.filter_eq_self.2 fun p hp=>by
      have:p.1≠i':=fun he=>(List.nodup_cons.1 hn1.2.1).1 (he▸List.mem_map.2 ⟨p,hp,rfl⟩)
      cases hq:Nat.beq p.1 i' with
      | false=>rfl
      | true=>exact absurd (Nat.eq_of_beq_eq_true hq) this
     rw [e1,e2]
     simp
    have hpp2:posOk full (pre.map (·.1))=true:=by
     have h5:posOk full ((restR ord l).map (·.1))=true:=by rw [hm];exact yt4n hpos
     rw [hpp,List.map_append] at h5
     have:∀{a b:List Nat},posOk full (a++b)=true→posOk full a=true:=by
      intro a
      induction a with
      | nil=>intro _ _;rfl
      | cons c a ih =>
        intro b hb
        simp only [List.cons_append,posOk,Bool.and_eq_true,List.all_append] at hb ⊢
        exact ⟨hb.1.1,ih hb.2⟩
     exact this h5
    obtain ⟨y,hy⟩:∃y,ops[i']?=some y:=⟨_,Array.getElem?_eq_getElem hin⟩
    have hko':okR full P D ops w (restR ord (l.setIfInBounds i' true))=true:=by rw [hsub];exact y9l4 hko
    have hf:=fun (p:OE) (hj:p∈pre)=>y5db (ord:=ord.map (·.1)) hw hcl hl hi (show p.1∈restO (ord.map (·.1)) l by rw [← hm,hpp];simp;exact .inl ⟨p.2.1,p.2.2,hj⟩)
    rw [hpp] at ho hn hko
    refine ycg0 (fun t h hh=>ih (l.setIfInBounds i' true) (by simpa using hl) (hcl.set hl hi) hko' (by rw [hrest];simp at hn ⊢;omega) (by rw [hrest];exact hh)) (ym0i hy pre post hn1.1 hpp2 (fun p hp'=>?_) [] (fun r hr=>by cases hr) ho)
    obtain ⟨x,y',hx,hy',hor⟩:=ynwz hko p hp'
    rw [hy] at hy'
    cases hy'
    exact ⟨x,hx,hor.resolve_left fun hb=>by rw [hf p hp'] at hb;cases hb⟩
theorem ynwd (hD:CTOk P D) (ord:List OE) {N:Nat} {Q:Exit→T→H→Prop} {c:Code} {t:T} {h:H} (hi:y6qa c=true) (hd:ordR P D (yral c) ord=true) {A:Prop} (h0:A) (e:A=cOpsR P D (yral c) ord (Q .normal) t h):Wp P N c Q t h:=by
 have hx:=e▸h0
 cases c <;> simp only [y6qa,Bool.false_eq_true] at hi
 rename_i id ops d
 subst hi
 refine ⟨?_⟩
 show aAny P ops (Q .normal) ops.size (Array.replicate ops.size false) t h
 have hcl:yefu ops (Array.replicate ops.size false):=fun j hj=>by
  exfalso
  by_cases hjs:j<ops.size <;> simp [Array.getD,hjs] at hj
 have hd':ordR P D ops ord=true:=hd
 simp only [ordR,Bool.and_eq_true] at hd'
 obtain ⟨⟨⟨d1,d4⟩,d2⟩,d3⟩:=hd'
 have hall:∀p∈ord,p.1<ops.size:=by
  have:∀{full:List Nat} {w:Nat→Nat→Bool} {l:List OE},okR full P D ops w l=true→∀p∈l,p.1<ops.size:=by
   intro full w l
   induction l with
   | nil=>intro _ j hj;cases hj
   | cons a r ih =>
     intro h j hj
     obtain ⟨a,rsa,asa⟩:=a
     rcases List.mem_cons.1 hj with rfl | hj
     ·obtain ⟨y,hy,_⟩:=y3lm h
      exact (Array.getElem?_eq_some_iff.1 hy).1
     ·simp only [okR,Bool.and_eq_true] at h
      exact ih h.2 j hj
  exact this d1
 have hr:restR ord (Array.replicate ops.size false)=ord:=by
  unfold restR
  refine List.filter_eq_self.2 fun p hp=>?_
  have:=hall p hp
  simp [Array.getD,this]
 have hnd:=y7f1 d2
 have hcov:∀i,i<ops.size→i∈ord.map (·.1):=fun i hi=>ye6g.1 (List.all_eq_true.1 d3 i (List.mem_range.2 hi))
 have hlen:ord.length=ops.size:=by
  have h2:(List.range ops.size).Perm (ord.map (·.1)):=(List.perm_ext_iff_of_nodup List.nodup_range hnd).2 fun a=>⟨fun ha=>hcov a (List.mem_range.1 ha),fun ha=>by
   obtain ⟨p,hp,rfl⟩:=List.mem_map.1 ha
   exact List.mem_range.2 (hall p hp)⟩
  have:=h2.length_eq
  simpa using this.symm
 have:=yoxu (P:=P) (D:=D) (fun i j h=>yqkk h) hnd hcov d4 ops.size (Array.replicate ops.size false) (by simp) hcl (by rw [hr];exact d1) (by rw [hr,hlen]) (by rw [hr];exact hx)
 exact y6ot hD _ _ this
end
end Go.Proofs.YtnckimioabkheaaGreat.AM
set_option linter.unusedSimpArgs false
set_option linter.unusedVariables false
namespace Go.Proofs.YtnckimioabkheaaGreat.AM
section
variable {P:Program} {D:CT} {N:Nat} {c:Code} {t:T} {h:H} {kn kn' kr:T→H→Prop} {ke:Nat→T→H→Prop} {Q:Exit→T→H→Prop} {A:Prop}
theorem wpE (hD:CTOk P D) (h0:A) (e:A=cwp P D N c Q t h:=by kernel_rfl):Wp P N c Q t h:=wpEqC hD h0 e
theorem drE (hD:CTOk P D) (ord:List Nat) (h0:A) (hi:y6qa c=true:=by kernel_rfl) (hd:ordOk P D (yral c) ord=true:=by kernel_rfl) (e:A=cReg P D (yral c) ord (Q .normal) t h:=by kernel_rfl):Wp P N c Q t h:=ybop hD ord hi hd h0 e
theorem drP (hD:CTOk P D) (pre:List Nat) (a b:Nat) (post:List Nat) (h0:A) (hi:y6qa c=true:=by kernel_rfl) (hd:yo7e P D (yral c) pre a b post=true:=by kernel_rfl)
 (e:A=cReg P D (yral c) pre (fun t h=>cReg P D (yral c) (a::b::post) (Q .normal) t h∧cReg P D (yral c) (b::a::post) (Q .normal) t h) t h:=by kernel_rfl):Wp P N c Q t h:=ya9i hD pre a b post hi hd h0 e
theorem drR (hD:CTOk P D) (ord:List OE) (h0:A) (hi:y6qa c=true:=by kernel_rfl) (hd:ordR P D (yral c) ord=true:=by kernel_rfl) (e:A=cOpsR P D (yral c) ord (Q .normal) t h:=by kernel_rfl):Wp P N c Q t h:=ynwd hD ord hi hd h0 e
theorem sqE (kn':T→H→Prop) (hx:Wp P N (seqL c) (mkQ kn' kr ke) t h) (hy:∀t h,kn' t h→Wp P N (seqR c) (mkQ kn kr ke) t h) (hi:isSeq c=true:=by kernel_rfl):Wp P N c (mkQ kn kr ke) t h:=ykv2 hi hy hx
theorem toE (hD:CTOk P D) (n:Nat) {K:T→H→Prop} (h0:A) (hk:∀t h,K t h→Wp P N (rest n c) Q t h) (hi:isRow n c=true:=by kernel_rfl) (e:A=cwpTo P D N n c K Q t h:=by kernel_rfl):Wp P N c Q t h:=yvnp hD n h0 hi hk e
theorem bkE (k:Nat) (hx:Wp P N (blkC c) (mkQ kn kr (keAdd k kn ke)) t h) (hi:isBlk c=true:=by kernel_rfl) (hid:blkId c=k:=by kernel_rfl):Wp P N c (mkQ kn kr ke) t h:=y6tu k hi hid hx
theorem cdE {v:Value} {X Y:Prop} {u:Dm (X,Y)} (h0:u_if v X Y u) (hX:X→Wp P N (cndX c) (mkQ kn kr ke) t h) (hY:Y→Wp P N (cndY c) (mkQ kn kr ke) t h) (hi:isCnd c=true:=by kernel_rfl) (hv:v=aev t (cndV c):=by kernel_rfl):Wp P N c (mkQ kn kr ke) t h :=
 yh47 (A:=u_if v X Y u) h0 hi hX hY (by subst hv;rfl)
theorem lpE {S:Type} (π:T→S) {b:S→H→(S→H→Prop)→Prop} (hx:sloop b (π t) h) (hb:∀t h K,b (π t) h K→Wp P N (lopC c) (mkQ (fun t h=>K (π t) h) kr ke) t h) (hi:isLop c=true:=by kernel_rfl):Wp P N c (mkQ kn kr ke) t h:=yv0a π hi hb hx
theorem lpN {S:Type} (m:Nat) (π:T→S) {b:S→H→(S→H→Prop)→Prop} (hx:uloop b m (π t) h) (hb:∀t h K,b (π t) h K→Wp P N (lopC c) (mkQ (fun t h=>K (π t) h) kr ke) t h) (hi:isLop c=true:=by kernel_rfl):Wp P N c (mkQ kn kr ke) t h:=y9em m π hi hb hx
end
def rsB:List ResultVar→List Nat→Bool
 | [],[]=>true
 | .tmp i::l,j::r=>Nat.beq i j&&rsB l r
 | _,_=>false
theorem yiuq:∀{l:List ResultVar} {r:List Nat},rsB l r=true→l=r.map ResultVar.tmp
 | [],[],_=>rfl
 | .tmp i::l,j::r,h=>by
   simp only [rsB,Bool.and_eq_true] at h
   rw [List.map_cons,yiuq h.2,Nat.eq_of_beq_eq_true h.1]
def fnB (fn:Func) (rs:List Nat) (N:Nat) (round:Bool) (n:Nat):Bool :=
 rsB fn.results.toList rs&&Nat.beq fn.ntmps N&&yk69 N round (ygjk fn.body)&&rs.all (fun r=>Nat.blt r N)&&Nat.ble n N&&fn.body.isSome
theorem ygtg {fn:Func} {rs:List Nat} {N:Nat} {round:Bool} {n:Nat} (h:fnB fn rs N round n=true) :
 fn.body=some (ygjk fn.body)∧fn.results=(rs.map ResultVar.tmp).toArray∧fn.ntmps=N∧yk69 N round (ygjk fn.body)=true∧rs.all (fun r=>Nat.blt r N)=true∧n≤N:=by
 simp only [fnB,Bool.and_eq_true] at h
 obtain ⟨⟨⟨⟨⟨h1,h2⟩,h3⟩,h4⟩,h5⟩,h6⟩:=h
 refine ⟨?_,?_,Nat.eq_of_beq_eq_true h2,h3,h4,Nat.le_of_ble_eq_true h5⟩
 ·obtain ⟨b,hb⟩:=Option.isSome_iff_exists.1 h6
  rw [hb];rfl
 ·rw [← yiuq h1]
section
variable {P:Program} {D:CT} {f:FuncId} {fn:Func} {N:Nat} {args:List Value} {h:H} {Q:Value→H→Prop} {Q1:Exit→T→H→Prop} {A:Prop}
theorem spH (hm:P.follows .mixedOrders=true) (hf:P.funcs[f]?=some fn) (rs:List Nat) (hk:Wp P N (ygjk fn.body) Q1 (tinit args) h) (ok:fnB fn rs N true args.length=true:=by kernel_rfl) (he:Q1=mkQ (retV rs Q) (retV rs Q) ke0:=by kernel_rfl):Spec P f args h Q:=by
 obtain ⟨h1,h2,h3,h4,h5,h6⟩:=ygtg ok
 exact yqxt hm hf h1 h2 h3 h4 h5 h6 hk he
theorem spE (hm:P.follows .mixedOrders=true) (hD:CTOk P D) (hf:P.funcs[f]?=some fn) (rs:List Nat) (h0:A) (ok:fnB fn rs fn.ntmps true args.length=true:=by kernel_rfl) (e:A=cwp P D fn.ntmps (ygjk fn.body) (mkQ (retV rs Q) (retV rs Q) ke0) (tinit args) h:=by kernel_rfl):Spec P f args h Q :=
 spH hm hf rs (wpEqC hD h0 e) ok rfl
def fnC (P:Program) (fn:Func) (a:Nat) (ty:TypeId) (ag:Bool) (n N k:Nat):Bool :=
 (match fn.results.toList with
   | [.cell a' ty']=>Nat.beq a' a&&Nat.beq ty' ty
   | _=>false)&&okRD P (.cell a ty ag n)&&Nat.beq fn.ntmps N&&yk69 N false (ygjk fn.body)&&Nat.blt a N&&Nat.ble k N&&fn.body.isSome
theorem spC (hm:P.follows .mixedOrders=true) (hf:P.funcs[f]?=some fn) (a:Nat) (ty:TypeId) (ag:Bool) (n:Nat) (hk:Wp P N (ygjk fn.body) Q1 (tinit args) h) (ok:fnC P fn a ty ag n N args.length=true:=by kernel_rfl)
 (he:Q1=mkQ (fun t h=>o_ret (t N) h fun h=>ysm8 ag n (t a) h fun v=>Q v h) (fun t h=>o_ret (t N) h fun h=>ysm8 ag n (t a) h fun v=>Q v h) ke0:=by kernel_rfl):Spec P f args h Q:=by
 simp only [fnC,Bool.and_eq_true] at ok
 obtain ⟨⟨⟨⟨⟨⟨h1,h2⟩,h3⟩,h4⟩,h5⟩,h6⟩,h7⟩:=ok
 obtain ⟨b,hb⟩:=Option.isSome_iff_exists.1 h7
 refine ysgf hm hf (c:=ygjk fn.body) (ty:=ty) (by rw [hb];rfl) ?_ ?_ (Nat.eq_of_beq_eq_true h3) h4 h5 (Nat.le_of_ble_eq_true h6) hk he
 ·split at h1
  ·rename_i a' ty' hl
   simp only [Bool.and_eq_true] at h1
   rw [← Nat.eq_of_beq_eq_true h1.1,←Nat.eq_of_beq_eq_true h1.2]
   exact Array.toList_inj.1 hl
  ·exact absurd h1 Bool.false_ne_true
 ·simp only [okRD] at h2
  split at h2
  ·rename_i a' n' hq
   simp only [Bool.and_eq_true,beq_iff_eq] at h2
   rw [hq,h2.1,Nat.eq_of_beq_eq_true h2.2]
  ·exact absurd h2 Bool.false_ne_true
def rdB:List ResultVar→List RD→Bool
 | [],[]=>true
 | .tmp i::l,.tmp j::r=>Nat.beq i j&&rdB l r
 | .cell a ty::l,.cell a' ty' _ _::r=>Nat.beq a a'&&Nat.beq ty ty'&&rdB l r
 | _,_=>false
theorem yzah:∀{l:List ResultVar} {r:List RD},rdB l r=true→l=r.map RD.rv
 | [],[],_=>rfl
 | .tmp i::l,.tmp j::r,h=>by
   simp only [rdB,Bool.and_eq_true] at h
   rw [List.map_cons,yzah h.2,Nat.eq_of_beq_eq_true h.1];rfl
 | .cell a ty::l,.cell a' ty' ag n::r,h=>by
   simp only [rdB,Bool.and_eq_true] at h
   rw [List.map_cons,yzah h.2,Nat.eq_of_beq_eq_true h.1.1,Nat.eq_of_beq_eq_true h.1.2];rfl
def fnS (P:Program) (fn:Func) (ds:List RD) (N k:Nat):Bool :=
 rdB fn.results.toList ds&&ds.all (okRD P)&&Nat.ble 2 ds.length&&Nat.beq fn.ntmps N&&yk69 N false (ygjk fn.body)&&(ds.map RD.rv).all (okRes N)&&Nat.ble k N&&fn.body.isSome
theorem spS (hm:P.follows .mixedOrders=true) (hf:P.funcs[f]?=some fn) (ds:List RD) (hk:Wp P N (ygjk fn.body) Q1 (tinit args) h) (ok:fnS P fn ds N args.length=true:=by kernel_rfl)
 (he:Q1=mkQ (fun t h=>o_ret (t N) h fun h=>o_res t h ds fun vs=>vs.all boxV=true∧Q (.tuple vs.toArray) h) (fun t h=>o_ret (t N) h fun h=>o_res t h ds fun vs=>vs.all boxV=true∧Q (.tuple vs.toArray) h) ke0:=by kernel_rfl):Spec P f args h Q:=by
 simp only [fnS,Bool.and_eq_true] at ok
 obtain ⟨⟨⟨⟨⟨⟨⟨h1,h2⟩,h3⟩,h4⟩,h5⟩,h6⟩,h7⟩,h8⟩:=ok
 obtain ⟨b,hb⟩:=Option.isSome_iff_exists.1 h8
 refine ytyr hm hf (c:=ygjk fn.body) (by rw [hb];rfl) ?_ h2 h3 (Nat.eq_of_beq_eq_true h4) h5 h6 (Nat.le_of_ble_eq_true h7) hk he
 rw [← yzah h1]
end
end Go.Proofs.YtnckimioabkheaaGreat.AM
namespace Go.Proofs.YtnckimioabkheaaGreat
open Go.Proofs.YtnckimioabkheaaGreat.AM
noncomputable abbrev PG:Go.Program:=Tryz.prog
theorem mixed:PG.follows .mixedOrders=true:=by kernel_rfl
theorem ct0_ok:CTOk PG ct0:=AM.ct0_ok
abbrev ylwf:Nat:=4
abbrev yvbn:Nat:=12
abbrev y849:Nat:=13
abbrev yym2:Nat:=14
abbrev y880:Nat:=15
abbrev y4hf:Nat:=16
abbrev y7ww:Nat:=17
abbrev y96d:Nat:=18
abbrev yv3a:Nat:=26
abbrev yuxz:Nat:=43
abbrev yvpi:Nat:=44
abbrev yd4l:Nat:=48
abbrev y0l5:Nat:=49
abbrev yb75:Nat:=50
abbrev y76q:Nat:=51
abbrev y1cr:Nat:=52
abbrev y02p:Nat:=53
abbrev ysqm:Nat:=55
abbrev yj9t:Nat:=59
abbrev ymwz:Nat:=60
abbrev yy5b:Nat:=61
abbrev ygpd:Nat:=62
abbrev ycj8:Nat:=63
abbrev yury:Nat:=64
abbrev ymgs:Nat:=65
abbrev yqlt:Nat:=66
abbrev yzuk:Nat:=75
abbrev y4s5:Nat:=134
abbrev y4nn:Nat:=137
abbrev yrso:Nat:=138
abbrev yl1q:Nat:=139
abbrev ynsj:Nat:=140
abbrev yge9:Nat:=141
abbrev ysm3:Nat:=142
abbrev yhhb:Nat:=143
abbrev yxz6:Nat:=144
abbrev y3mv:Nat:=145
abbrev ywke:Nat:=146
abbrev yak4:Nat:=147
abbrev ybvf:Nat:=148
abbrev y0iw:Nat:=149
abbrev y3o4:Nat:=150
abbrev yujl:Nat:=151
abbrev yog4:Nat:=152
abbrev yvsl:Nat:=153
abbrev yvz0:Nat:=154
abbrev yte1:Nat:=155
abbrev yaf9:Nat:=156
abbrev yzfg:Nat:=157
abbrev y9rb:Nat:=158
abbrev y7o9:Nat:=159
abbrev ymae:Nat:=160
abbrev yls4:Nat:=161
abbrev yrtp:Nat:=162
abbrev yh9b:Nat:=163
abbrev ykgs:Nat:=164
abbrev y26d:Nat:=165
abbrev ypb6:Nat:=166
abbrev y5yh:Nat:=167
abbrev ykhz:Nat:=168
abbrev yfaz:Nat:=169
abbrev yv6u:Nat:=170
abbrev ynur:Nat:=171
abbrev ywwv:Nat:=172
abbrev yo19:Nat:=179
abbrev yrlt:Nat:=188
abbrev y7ie:Nat:=195
abbrev ybf3:Nat:=200
abbrev yzu0:Nat:=201
abbrev y402:Nat:=206
abbrev ydu8:Nat:=207
abbrev y45l:Nat:=208
abbrev y8kn:Nat:=209
abbrev yz9h:Nat:=210
abbrev yxfw:Nat:=211
abbrev yhif:Nat:=212
abbrev ylv9:Nat:=213
abbrev ybm3:Nat:=214
abbrev yl5e:Nat:=216
abbrev yz8b:Nat:=217
abbrev ygvy:Nat:=218
abbrev yr2c:Nat:=219
abbrev y3y7:Nat:=220
abbrev yhnf:Nat:=221
abbrev yy8p:Nat:=222
abbrev y4jv:Nat:=223
abbrev yfwh:Nat:=224
abbrev yd5h:Nat:=225
abbrev yt2y:Nat:=226
abbrev y5fh:Nat:=227
abbrev yzwv:Nat:=228
abbrev y1u0:Nat:=229
abbrev ykbd:Nat:=230
abbrev yhez:Nat:=231
abbrev ygwt:Nat:=232
abbrev yrw2:Nat:=233
abbrev youq:Nat:=234
abbrev y83g:Nat:=235
abbrev yf1u:Nat:=236
abbrev ylpv:Nat:=237
abbrev yinw:Nat:=238
abbrev yebn:Nat:=239
abbrev y634:Nat:=240
abbrev y0ng:Nat:=241
abbrev ys9t:Nat:=242
abbrev yvo7:Nat:=243
abbrev yduv:Nat:=244
abbrev ypz9:Nat:=260
abbrev ytlh:Nat:=261
abbrev yiyf:Nat:=262
abbrev yvnj:Nat:=264
abbrev yc6m:Nat:=265
abbrev yi8e:Nat:=266
abbrev ygvc:Nat:=267
abbrev yeif:Nat:=269
abbrev yne3:Nat:=270
abbrev yob1:Nat:=271
abbrev ynjv:Nat:=272
abbrev ydmm:Nat:=273
abbrev y4iq:Nat:=274
abbrev yoaz:Nat:=275
abbrev yuzq:Nat:=276
abbrev ygag:Nat:=277
abbrev y3rk:Nat:=278
abbrev y4ct:Nat:=279
abbrev ycsm:Nat:=280
abbrev yxof:Nat:=281
abbrev y6v8:Nat:=282
abbrev y8s2:Nat:=283
abbrev yosk:Nat:=284
abbrev ye3p:Nat:=285
abbrev yal3:Nat:=286
abbrev y6b0:Nat:=287
abbrev yw1c:Nat:=288
abbrev yjud:Nat:=289
abbrev y2sp:Nat:=290
abbrev yl27:Nat:=291
abbrev yziu:Nat:=292
abbrev ygqx:Nat:=293
abbrev yshz:Nat:=294
abbrev ymkc:Nat:=295
abbrev yhb9:Nat:=296
abbrev yfrg:Nat:=299
abbrev y095:Nat:=302
abbrev yhx2:Nat:=309
abbrev ys0o:Nat:=310
abbrev yv5z:Nat:=311
abbrev yebs:Nat:=312
abbrev y7ff:Nat:=313
abbrev yij4:Nat:=314
abbrev y533:Nat:=315
abbrev yvbs:Nat:=316
abbrev ysh9:Nat:=317
abbrev y5ga:Nat:=318
abbrev yax6:Nat:=319
abbrev ypcm:Nat:=320
abbrev yozs:Nat:=321
abbrev ypqi:Nat:=326
abbrev yjtr:Nat:=329
abbrev yeb5:Nat:=2
abbrev T_int:Nat:=3
abbrev ym30:Nat:=4
abbrev yoj6:Nat:=5
abbrev yomn:Nat:=9
abbrev yqm3:Nat:=21
abbrev yoi5:Nat:=22
abbrev ycpa:Nat:=23
abbrev y8f0:Nat:=27
abbrev y7as:Nat:=28
abbrev yiva:Nat:=29
abbrev ylzr:Nat:=31
abbrev yvtk:Nat:=32
abbrev yhm9:Nat:=33
abbrev y4pp:Nat:=35
abbrev ygd0:Nat:=36
abbrev ywqg:Nat:=40
abbrev yrjx:Nat:=42
abbrev yp70:Nat:=43
abbrev ys2z:Nat:=45
abbrev yuil:Nat:=54
abbrev y4zt:Nat:=55
abbrev ycs9:Nat:=56
abbrev yu2t:Nat:=58
abbrev ynne:Nat:=60
abbrev yf02:Nat:=61
abbrev yq0s:Nat:=64
abbrev ya0f:Nat:=70
abbrev yoxq:Nat:=75
abbrev y3uw:Nat:=76
abbrev ysrv:Nat:=78
abbrev yb54:Nat:=80
abbrev yqha:Nat:=83
abbrev yavq:Nat:=99
abbrev yeu3:Nat:=100
abbrev y33u:Nat:=102
abbrev y1cj:Nat:=108
abbrev yr7r:Nat:=110
abbrev y6pz:Nat:=113
abbrev y5c0:Nat:=115
abbrev yc0x:Nat:=119
abbrev yhds:Nat:=125
abbrev ypyw:Nat:=138
abbrev yti5:Nat:=140
abbrev yqxz:Nat:=144
abbrev ycje:Nat:=151
abbrev yz6n:Nat:=174
abbrev yxsr:Nat:=188
abbrev yxrw:Nat:=190
abbrev ydrn:Nat:=193
abbrev ym0k:Nat:=209
abbrev yfwd:Nat:=218
abbrev yoza:Nat:=225
abbrev ywlv:Nat:=226
abbrev yxex:Nat:=228
abbrev yhas:Nat:=230
abbrev yzw0:Nat:=232
abbrev ybsk:Nat:=235
abbrev yogz:Nat:=238
abbrev ytfh:Nat:=239
abbrev ymzi:Nat:=240
abbrev y7k4:Nat:=244
abbrev yxjj:Nat:=254
abbrev yyt9:Nat:=256
abbrev yokg:Nat:=259
abbrev y2um:Nat:=261
abbrev ysiy:Nat:=269
abbrev yrli:Nat:=274
abbrev yezi:Nat:=282
abbrev yxbe:Nat:=290
abbrev y1og:Nat:=292
abbrev y14o:Nat:=304
abbrev ynw2:Nat:=306
abbrev ydlg:Nat:=309
abbrev yfwk:Nat:=321
abbrev yukk:Nat:=326
abbrev ycrj:Nat:=336
abbrev y6aa:Nat:=363
abbrev yx8p:Nat:=364
abbrev y9pv:Nat:=379
end Go.Proofs.YtnckimioabkheaaGreat
