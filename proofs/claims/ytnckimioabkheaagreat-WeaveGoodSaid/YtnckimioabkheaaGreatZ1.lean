/-
  Part of a proof: several texts put together, long names shortened.
-/
import Derived.CallsIn
import Derived.OrdersIn
import Derived.Below
import Derived.Laws.Tables
import Derived.WalkKit
import Derived.RangeFuncLeaves
import Derived.RangeFuncCalls
set_option linter.unusedSimpArgs false
set_option linter.unusedVariables false
namespace Go.Proofs.YtnckimioabkheaaGreat.AM
open Go.RowKit
inductive Own where
 | ro | exact | open
 deriving DecidableEq
inductive KK where
 | int (k:IntKind) | str | bool
 deriving DecidableEq
inductive AObj where
 | cells (cs:List Value) (E:TypeId) (m:Own)
 | map (kk:KK) (es:List (Value×Value)) (clock:Nat)
 | iter (m:Option Nat) (left:List Value) (since:Nat) (cur:Option Value)
 | loop (st:LoopState) (pend:Option Code) (t:Nat→Value) (N:Nat) (ps:Array Tmp) (assign body:Code)
 | defer
abbrev H:=Nat→Option AObj
abbrev T:=Nat→Value
def upd (h:H) (b:Nat) (o:AObj):H:=fun c=>if c=b then some o else h c
def del (h:H) (b:Nat):H:=fun c=>if c=b then none else h c
def tset (t:T) (d:Nat) (v:Value):T:=fun i=>bif Nat.beq i d then v else t i
def tput (t:T) (d:Option Tmp) (v:Value):T:=match d with | some d=>tset t d v | none=>t
theorem yy0e (h:H) (b:Nat) (o:AObj):upd h b o b=some o:=by simp [upd]
theorem yrkk (h:H) {b c:Nat} (o:AObj) (hc:c≠b):upd h b o c=h c:=by simp [upd,hc]
theorem yv15 (h:H) (b:Nat):del h b b=none:=by simp [del]
theorem ybsf (h:H) {b c:Nat} (hc:c≠b):del h b c=h c:=by simp [del,hc]
def selfC:Value→Bool
 | .bool _ | .int _ _ | .float _ _ | .complex _ _ _ | .string _ | .nilFunc | .nilIface | .pointer none | .slice none 0 0 | .map none=>true
 | .func (.func _) a c=>a.size==0&&c.size==0
 | _=>false
def selfA:Value→Bool
 | .agg cs=>cs.toList.all selfC
 | v=>selfC v
def selfV:Value→Bool
 | .tuple vs=>vs.toList.all selfA
 | v=>selfA v
def ysqa:Value→Bool
 | .bool _ | .int _ _ | .float _ _ | .complex _ _ _ | .string _ | .nilFunc | .nilIface | .pointer none | .slice none 0 0 | .map none
 | .pointer (some ⟨_,_,none⟩) | .slice (some ⟨_,_,none⟩) _ _ | .map (some _)=>true
 | _=>false
def cellV:Value→Bool
 | .agg _ | .tuple _=>false
 | _=>true
def boxV:Value→Bool
 | .tuple _=>false
 | _=>true
def yl1l {α:Type} (P:Program):Sem α→Option α
 | .pure a=>some a
 | .program k=>yl1l P (k P)
 | _=>none
def aev (t:T):Operand→Value
 | .tmp i=>t i
 | .const v=>v
 | .global _=>undef
 | .func f=>.func (.func f) #[] #[]
def cellsAt (h:H) (b o n:Nat):Option (List Value) :=
 match h b with
 | some (.cells cs _ _)=>if o+n≤cs.length then some ((cs.drop o).take n) else none
 | _=>none
def cellAt (h:H) (b o:Nat):Option Value :=
 match h b with
 | some (.cells cs _ _)=>cs[o]?
 | _=>none
def setL:List Value→Nat→List Value→List Value
 | cs,_,[]=>cs
 | cs,o,v::vs=>setL (cs.set o v) (o+1) vs
def y8c6 (P:Program) (t:TypeId):Option (Bool×Nat) :=
 match P.info? t,P.underlying t with
 | some i,some (.struct _) | some i,some (.array _ _)=>some (true,i.size)
 | some i,some _=>some (false,i.size)
 | _,_=>none
def y7rv (P:Program) (t:TypeId):Option Value :=
 match (P.info? t).bind (·.zero) with
 | some z=>if selfA z then some z else none
 | none=>none
def yw2z (P:Program) (s:TypeId) (f:Nat):Option (Nat×TypeId) :=
 match P.underlying s with
 | some (.struct fs)=>match fs[f]? with
   | some f=>some (f.offset,f.type)
   | none=>none
 | _=>none
def o_new (cs:List Value) (E:TypeId) (m:Own) (h:H) (K:Nat→H→Prop):Prop :=
 ∀b,2≤b→h b=none→K b (upd h b (.cells cs E m))
def yp8q (o:AObj) (h:H) (K:Nat→H→Prop):Prop :=
 ∀b,2≤b→h b=none→K b (upd h b o)
def ysm8 (ag:Bool) (n:Nat) (a:Value) (h:H) (K:Value→Prop):Prop :=
 match a with
 | .pointer (some ⟨b,o,none⟩) =>
   bif ag then (match cellsAt h b o n with | some l=>K (.agg l.toArray) | none=>False)
   else (match cellAt h b o with | some v=>K v | none=>False)
 | _=>False
def yxd5 (n:Nat) (a v:Value) (h:H) (K:H→Prop):Prop :=
 match a with
 | .pointer (some ⟨b,o,none⟩) =>
   match h b with
   | some (.cells cs E m)=>m≠.ro∧boxV v=true∧v.cells.size=n∧o+n≤cs.length∧K (upd h b (.cells (setL cs o v.cells.toList) E m))
   | _=>False
 | _=>False
def yy7w (c:Value) (want:Bool) (op:(Value→H→Prop)→Prop) (K:Value→H→Prop) (h:H):Prop :=
 match c with
 | .bool b=>bif (b==want) then op K else K undef h
 | _=>K undef h
def o_if (c:Value) (A B:Prop):Prop :=
 match c with
 | .bool b=>bif b then A else B
 | _=>False
def yw1w (c a b:Value) (K:Value→Prop):Prop :=
 match c with
 | .bool q=>K (bif q then a else b)
 | _=>False
def yejp (r:Option Value) (K:Value→Prop):Prop :=
 match r with
 | some v=>bif selfV v then K v else False
 | none=>False
def yf21 (x:Value) (K:Value→Prop):Prop :=
 match x with
 | .pointer (some a)=>K (.pointer (some a))
 | .func (.func f) a c=>K (.func (.func f) a c)
 | .func (.yield f) a c=>K (.func (.yield f) a c)
 | _=>False
def okEq (P:Program) (op:BinOp) (xt:TypeId) (x y:Value):Bool :=
 match op with
 | .eql | .neq=>(match x,y with
   | .nilIface,.nilIface=>false
   | .agg _,.agg _=>!(P.eqGuardType P.depth xt)
   | _,_=>true)
 | _=>true
def o_bin (P:Program) (op:BinOp) (xt:TypeId) (x y:Value) (K:Value→Prop):Prop :=
 bif selfV x&&selfV y&&okEq P op xt x y then yejp (yl1l P (binOp op xt x y)) K
 else match op,P.underlying xt,x,y with
  | .eql,some (.pointer _),.pointer a,.pointer none | .eql,some (.slice _),.slice a _ _,.slice none _ _ | .eql,some (.map _ _),.map a,.map none=>K (.bool a.isNone)
  | .neq,some (.pointer _),.pointer a,.pointer none | .neq,some (.slice _),.slice a _ _,.slice none _ _ | .neq,some (.map _ _),.map a,.map none=>K (.bool (!a.isNone))
  | .eql,some (.func _ _ _),.func _ _ _,.nilFunc=>K (.bool false)
  | .neq,some (.func _ _ _),.func _ _ _,.nilFunc=>K (.bool true)
  | _,_,_,_=>False
def o_un (P:Program) (op:UnOp) (x:Value) (K:Value→Prop):Prop :=
 bif selfV x then yejp (yl1l P (Op.unary op x)) K else False
def yzve (P:Program) (f:Value→Value→Sem Value) (x y:Value) (K:Value→Prop):Prop :=
 bif selfV x&&selfV y then yejp (yl1l P (f x y)) K else False
def ykic (k:IntKind) (x:Value) (K:Value→Prop):Prop :=
 match x with
 | .int _ n=>K (.int k (k.wrap n))
 | _=>False
def y1of (x:Value) (K:Value→Prop):Prop :=
 match x with
 | .string s=>K (.string s)
 | _=>False
def yokc (off:Nat) (x:Value) (K:Value→Prop):Prop :=
 match x with
 | .pointer (some ⟨b,o,none⟩)=>K (.pointer (some ⟨b,o+off,none⟩))
 | _=>False
def y042 (ag:Bool) (n off:Nat) (cs:Array Value):Option Value :=
 bif ag then (if off+n≤cs.size then some (.agg (cs.extract off (off+n))) else none) else cs[off]?
def ygzh (ag:Bool) (n off:Nat) (x:Value) (K:Value→Prop):Prop :=
 match x with
 | .agg cs=>match y042 ag n off cs with
   | some v=>K v
   | none=>False
 | _=>False
def ys75 (len:Option Nat) (size:Nat) (x i:Value) (K:Value→Prop):Prop :=
 match i,len,x with
 | .int _ i,none,.slice (some ⟨b,o,none⟩) n _=>0≤i∧i<n∧K (.pointer (some ⟨b,o+i.toNat*size,none⟩))
 | .int _ i,some n,.pointer (some ⟨b,o,none⟩)=>0≤i∧i<n∧K (.pointer (some ⟨b,o+i.toNat*size,none⟩))
 | _,_,_=>False
def y7od (str:Bool) (len:Nat) (ag:Bool) (size:Nat) (x i:Value) (K:Value→Prop):Prop :=
 match i,x with
 | .int _ i,.agg cs=>str=false∧0≤i∧i<len∧(match y042 ag size (i.toNat*size) cs with | some v=>K v | none=>False)
 | .int _ i,.string s=>str=true∧0≤i∧(match s[i.toNat]? with | some c=>K (.int .u8 c.toNat) | none=>False)
 | _,_=>False
def ychn (x:Value) (i:Nat) (K:Value→Prop):Prop :=
 match x with
 | .tuple vs=>match vs[i]? with
   | some v=>K v
   | none=>False
 | _=>False
def yiyd (P:Program) (t:TypeId) (ps:List (Nat×Value)) (K:Value→Prop):Prop :=
 bif ps.all (fun p=>boxV p.2) then
  match y7rv P t,P.built t ps with
  | some _,some cs=>K (.agg cs)
  | _,_=>False
 else False
def yrjn (P:Program) (t:TypeId) (len:Nat) (ps:List (Nat×Value)):Option (List Value×TypeId) :=
 match P.underlying t with
 | some (.slice e)=>match P.info? e,y7rv P e with
   | some i,some z =>
     bif ps.all (fun p=>boxV p.2)&&Nat.ble (len*i.size) 16777216 then
      bif Nat.beq (len*i.size) 0 then (bif ps.isEmpty then some ([],e) else none) else
      match Instr.fill (fun j=>some (j*i.size,i.size)) ((Array.range (len*i.size)).map (z.cells[· % z.cells.size]!)) ps with
      | some cs=>some (cs.toList,e)
      | none=>none
     else none
   | _,_=>none
 | _=>none
def yyll (P:Program) (t:TypeId) (n:Nat) (ps:List (Nat×Value)) (h:H) (K:Value→H→Prop):Prop :=
 match yrjn P t n ps with
 | some (cs,e)=>o_new cs e .exact h fun b h=>K (.slice (some ⟨b,0,none⟩) n n) h
 | none=>False
def ybp0 (z:List Value):Nat→List Value
 | 0=>[]
 | n+1=>z++ybp0 z n
def ye0j (z:List Value) (size bytes:Nat) (e:TypeId) (l c:Value) (h:H) (K:Value→H→Prop):Prop :=
 match l,c with
 | .int _ l,.int _ c=>z.length=size∧0≤l∧l≤c∧(bytes:Int)*c≤281474976710656∧c<9223372036854775808∧0<size ∧
    o_new (ybp0 z c.toNat) e .exact h fun b h=>K (.slice (some ⟨b,0,none⟩) l.toNat c.toNat) h
 | _,_=>False
def ykvd (size:Nat) (x:Value) (lo hi mx:Option Value) (K:Value→Prop):Prop :=
 match x,mx with
 | .slice (some ⟨b,o,none⟩) n c,none =>
   ∃l u:Nat,(match lo with | some (.int _ i)=>i=(l:Int) | none=>l=0 | _=>False)∧(match hi with | some (.int _ i)=>i=(u:Int) | none=>u=n | _=>False) ∧
    l≤u∧u≤c∧(if l=0 then K (.slice (some ⟨b,o,none⟩) u c) else if l<c then K (.slice (some ⟨b,o+l*size,none⟩) (u-l) (c-l)) else K (.slice (some ⟨1,0,none⟩) 0 0))
 | .slice (some ⟨_,_,none⟩) _ _,some (.int _ 0) =>
   (match lo with | some (.int _ i)=>i=0 | none=>True | _=>False)∧(match hi with | some (.int _ i)=>i=0 | _=>False)∧K (.slice (some ⟨0,0,none⟩) 0 0)
 | .slice none 0 0,none=>(match lo with | some (.int _ i)=>i=0 | none=>True | _=>False)∧(match hi with | some (.int _ i)=>i=0 | none=>True | _=>False)∧K (.slice none 0 0)
 | .slice none 0 0,some (.int _ 0)=>(match lo with | some (.int _ i)=>i=0 | none=>True | _=>False)∧(match hi with | some (.int _ i)=>i=0 | _=>False)∧K (.slice none 0 0)
 | _,_=>False
def y80g (x:Value) (lo hi:Option Value) (K:Value→Prop):Prop :=
 match x with
 | .string s =>
   ∃l u:Nat,(match lo with | some (.int _ i)=>i=(l:Int) | none=>l=0 | _=>False)∧(match hi with | some (.int _ i)=>i=(u:Int) | none=>u=s.size | _=>False) ∧
    l≤u∧u≤s.size∧K (.string (s.extract l u))
 | _=>False
def ybsu (n size:Nat) (x:Value) (lo hi:Option Value) (h:H) (K:Value→Prop):Prop :=
 match x with
 | .pointer (some ⟨b,o,none⟩)=>match h b with
   | some (.cells _ _ m)=>m≠.open ∧
     ∃l u:Nat,(match lo with | some (.int _ i)=>i=(l:Int) | none=>l=0 | _=>False)∧(match hi with | some (.int _ i)=>i=(u:Int) | none=>u=n | _=>False) ∧
     l≤u∧u≤n∧(if l<n then K (.slice (some ⟨b,o+l*size,none⟩) (u-l) (n-l)) else K (.slice (some ⟨1,0,none⟩) 0 0))
   | _=>False
 | _=>False
def kkOf (P:Program) (kt:TypeId):Option KK :=
 match P.underlying kt with
 | some (.int j)=>some (.int j)
 | some .string=>some .str
 | some .bool=>some .bool
 | _=>none
def kkHas:KK→Value→Bool
 | .int j,.int k _=>j==k
 | .str,.string _=>true
 | .bool,.bool _=>true
 | _,_=>false
def keyEq:Value→Value→Bool
 | .int j a,.int k b=>j==k&&a==b
 | .string a,.string b=>a==b
 | .bool a,.bool b=>a==b
 | _,_=>false
def mfind (es:List (Value×Value)) (k:Value):Option Value :=
 match es with
 | []=>none
 | e::r=>bif keyEq k e.1 then some e.2 else mfind r k
def mset (es:List (Value×Value)) (k v:Value):List (Value×Value) :=
 match es with
 | []=>[(k,v)]
 | e::r=>bif keyEq k e.1 then (k,v)::r else e::mset r k v
def mdel (es:List (Value×Value)) (k:Value):List (Value×Value) :=
 match es with
 | []=>[]
 | e::r=>bif keyEq k e.1 then r else e::mdel r k
def mhas (es:List (Value×Value)) (k:Value):Bool:=(mfind es k).isSome
def ylze (kk:KK) (z x k:Value) (ok:Bool) (h:H) (K:Value→Prop):Prop :=
 kkHas kk k=true ∧
 match x with
 | .map none=>K (bif ok then .tuple #[z,.bool false] else z)
 | .map (some m)=>match h m with
   | some (.map kk' es _)=>kk'=kk∧(match mfind es k with
     | some v=>K (bif ok then .tuple #[v,.bool true] else v)
     | none=>K (bif ok then .tuple #[z,.bool false] else z))
   | _=>False
 | _=>False
def ynew (kk:KK) (m k v:Value) (h:H) (K:H→Prop):Prop :=
 kkHas kk k=true∧boxV v=true ∧
 match m with
 | .map (some b)=>match h b with
   | some (.map kk' es c)=>kk'=kk∧K (upd h b (.map kk (mset es k v) (if mhas es k then c else c+1)))
   | _=>False
 | _=>False
def yypu (kk:KK) (m k:Value) (h:H) (K:H→Prop):Prop :=
 kkHas kk k=true ∧
 match m with
 | .map none=>K h
 | .map (some b)=>match h b with
   | some (.map kk' es c)=>kk'=kk∧K (upd h b (.map kk (mdel es k) c))
   | _=>False
 | _=>False
def y4p4 (x:Value) (h:H) (K:Value→H→Prop):Prop :=
 match x with
 | .map none=>yp8q (.iter none [] 0 none) h fun b h=>K (.pointer (some ⟨b,0,none⟩)) h
 | .map (some m)=>match h m with
   | some (.map _ es c)=>yp8q (.iter (some m) (es.map (·.1)) c none) h fun b h=>K (.pointer (some ⟨b,0,none⟩)) h
   | _=>False
 | _=>False
def y6k6 (it:Value) (h:H) (K:Value→H→Prop):Prop :=
 match it with
 | .pointer (some ⟨b,0,none⟩)=>match h b with
   | some (.iter none _ _ _)=>K (.tuple #[.bool false]) h
   | some (.iter (some m) left since _)=>match h m with
     | some (.map _ es c)=>c=since ∧
        (∀ e∈es,left.any (keyEq e.1)=true→K (.tuple #[.bool true,e.1,e.2]) (upd h b (.iter (some m) (left.filter fun k=>!keyEq e.1 k) since (some e.1)))) ∧
        ((∀ e∈es,left.any (keyEq e.1)=false)→K (.tuple #[.bool false]) h)
     | _=>False
   | _=>False
 | _=>False
def yxwg (it:Value) (h:H) (K:Value→Prop):Prop :=
 match it with
 | .pointer (some ⟨b,0,none⟩)=>match h b with
   | some (.iter (some m) _ since (some k))=>match h m with
     | some (.map _ es c)=>c=since∧(match mfind es k with | some v=>K (.tuple #[k,v]) | none=>False)
     | _=>False
   | _=>False
 | _=>False
def yt5p (x:Value) (h:H) (K:Value→Prop):Prop :=
 match x with
 | .slice (some ⟨b,o,none⟩) n c=>match h b with
   | some (.cells _ _ m)=>m≠.ro∧K (.slice (some ⟨b,o,none⟩) n c)
   | _=>False
 | _=>False
def srcLen:Value→Option Nat
 | .slice _ n _=>some n
 | .string s=>some s.size
 | _=>none
def yc23 (size:Nat) (h:H):Value→Nat→Option (List Value)
 | .slice none 0 0,0=>some []
 | .slice (some ⟨b,o,none⟩) _ _,n=>if n=0 then some [] else cellsAt h b o (n*size)
 | .string s,n=>some (((s.extract 0 n).data.toList).map fun b=>.int .u8 b.toNat)
 | _,_=>none
def yc1n (e:TypeId) (size bytes:Nat) (s x:Value) (h:H) (K:Value→H→Prop):Prop :=
 match s,srcLen x with
 | .slice base len cap,some n=>match yc23 size h x n with
   | none=>False
   | some new =>
     if len+n≤cap then
      (match base with
       | some ⟨b,o,none⟩=>if n=0 then K (.slice base len cap) h else
          (match h b with
           | some (.cells cs E m)=>m≠.ro∧o+(len+n)*size≤cs.length∧new.length=n*size∧K (.slice base (len+n) cap) (upd h b (.cells (setL cs (o+len*size) new) E m))
           | _=>False)
       | none=>n=0∧K (.slice base len cap) h
       | _=>False)
     else
      (len+n)*bytes≤140737488355328∧len+n<9223372036854775808∧new.length=n*size∧0<n ∧
      (match base with
       | none=>len=0∧o_new new e .open h fun b h=>K (.slice (some ⟨b,0,none⟩) n n) h
       | some ⟨b,o,none⟩ =>
         if b=0 then len=0∧o_new new e .open h fun b h=>K (.slice (some ⟨b,0,none⟩) n n) h
         else match h b with
          | some (.cells cs E m)=>o+len*size≤cs.length ∧
             (match m with
              | .open=>E=e∧o+cap*size=cs.length∧0<size ∧
                 ∀b',2≤b'→h b'=none→K (.slice (some ⟨b',0,none⟩) (len+n) (len+n)) (upd (del h b) b' (.cells ((cs.drop o).take (len*size)++new) e .open))
              | _=>o_new ((cs.drop o).take (len*size)++new) e .open h fun b h=>K (.slice (some ⟨b,0,none⟩) (len+n) (len+n)) h)
          | _=>False
       | _=>False)
 | _,_=>False
def y1uk (size:Nat) (d x:Value) (h:H) (K:Value→H→Prop):Prop :=
 match d,srcLen x with
 | .slice base len _,some n=>match yc23 size h x (Nat.min n len) with
   | none=>False
   | some new =>
     if Nat.min n len=0 then K (.int .i64 0) h else
     match base with
     | some ⟨b,o,none⟩=>(match h b with
       | some (.cells cs E m)=>m≠.ro∧o+(Nat.min n len)*size≤cs.length∧new.length=(Nat.min n len)*size∧K (.int .i64 (Nat.min n len:Nat)) (upd h b (.cells (setL cs o new) E m))
       | _=>False)
     | _=>False
 | _,_=>False
def yn0t (x:Value) (K:Value→Prop):Prop :=
 match x with
 | .slice _ n _=>K (.int .i64 n)
 | _=>False
def ykwb (x:Value) (K:Value→Prop):Prop :=
 match x with
 | .string s=>K (.int .i64 s.size)
 | _=>False
def y55i (x:Value) (h:H) (K:Value→Prop):Prop :=
 match x with
 | .map none=>K (.int .i64 0)
 | .map (some m)=>match h m with
   | some (.map _ es _)=>K (.int .i64 es.length)
   | _=>False
 | _=>False
def ye5h:List Value→Option (List UInt8)
 | []=>some []
 | .int .u8 n::r=>(ye5h r).map (UInt8.ofNat n.toNat :: ·)
 | _=>none
def y9vs (x:Value) (h:H) (K:Value→Prop):Prop :=
 match x with
 | .slice none 0 0=>K (.string .empty)
 | .slice (some ⟨b,o,none⟩) n _=>if n=0 then K (.string .empty) else match cellsAt h b o n with
   | some l=>(match ye5h l with | some bs=>K (.string ⟨bs.toArray⟩) | none=>False)
   | none=>False
 | _=>False
def y0kx (e:TypeId) (x:Value) (h:H) (K:Value→H→Prop):Prop :=
 match x with
 | .string s=>o_new (s.data.toList.map fun b=>Value.int .u8 b.toNat) e .open h fun b h=>K (.slice (some ⟨b,0,none⟩) s.size s.size) h
 | _=>False
structure Loc where
 b:Nat
 o:Nat
 k:Nat
abbrev Env:=Nat→Option Loc
def Env.le (ι ι':Env):Prop:=∀b l,ι b=some l→ι' b=some l
inductive SRel (ι:Env):Value→Value→Prop
 | bool (b):SRel ι (.bool b) (.bool b)
 | int (k n):SRel ι (.int k n) (.int k n)
 | float (k n):SRel ι (.float k n) (.float k n)
 | complex (k a b):SRel ι (.complex k a b) (.complex k a b)
 | string (s):SRel ι (.string s) (.string s)
 | nilFunc:SRel ι .nilFunc .nilFunc
 | nilIface:SRel ι .nilIface .nilIface
 | ptrNil:SRel ι (.pointer none) (.pointer none)
 | sliceNil:SRel ι (.slice none 0 0) (.slice none 0 0)
 | mapNil:SRel ι (.map none) (.map none)
 | ptr {b o l} (h:ι b=some l):SRel ι (.pointer (some ⟨b,o,none⟩)) (.pointer (some ⟨l.b,l.o+o,none⟩))
 | slice {b o n c l} (h:ι b=some l):SRel ι (.slice (some ⟨b,o,none⟩) n c) (.slice (some ⟨l.b,l.o+o,none⟩) n (c+l.k))
 | empty0 (a):SRel ι (.slice (some ⟨0,0,none⟩) 0 0) (.slice (some a) 0 0)
 | empty1 (a c):SRel ι (.slice (some ⟨1,0,none⟩) 0 0) (.slice (some a) 0 c)
 | map {r l} (h:ι r=some l):SRel ι (.map (some r)) (.map (some l.b))
inductive All2 {α β:Type} (R:α→β→Prop):List α→List β→Prop
 | nil:All2 R [] []
 | cons {a b l m} (h:R a b) (t:All2 R l m):All2 R (a::l) (b::m)
inductive CRel (ι:Env):Value→Value→Prop
 | s {v v'} (h:SRel ι v v'):CRel ι v v'
 | func (f) {xs ys xs' ys':Array Value} (h:All2 (SRel ι) xs.toList xs'.toList) (k:All2 (SRel ι) ys.toList ys'.toList):CRel ι (.func (.func f) xs ys) (.func (.func f) xs' ys')
 | yield {r l} (h:ι r=some l):CRel ι (.func (.yield r) #[] #[]) (.func (.yield l.b) #[] #[])
 | iface (t) {v v'} (h:SRel ι v v'):CRel ι (.iface t v) (.iface t v')
inductive ARel (ι:Env):Value→Value→Prop
 | c {v v'} (h:CRel ι v v'):ARel ι v v'
 | agg {xs ys:Array Value} (h:All2 (CRel ι) xs.toList ys.toList):ARel ι (.agg xs) (.agg ys)
inductive VRel (ι:Env):Value→Value→Prop
 | a {v v'} (h:ARel ι v v'):VRel ι v v'
 | tuple {xs ys:Array Value} (h:All2 (ARel ι) xs.toList ys.toList):VRel ι (.tuple xs) (.tuple ys)
def szOf (P:Program) (E:TypeId):Nat:=match P.info? E with | some i=>i.size | none=>0
def AObj.ro:AObj→Bool
 | .cells _ _ .ro=>true
 | _=>false
def TRel (ι:Env) (N:Nat) (t:T) (tmps:Array Value):Prop:=tmps.size=N∧∀i,i<N→VRel ι (t i) (tmps.getD i undef)
def ORel (P:Program) (B:Nat) (ι:Env) (l:Loc) (w:World):AObj→Prop
 | .cells cs E m=>∃ccs CE lo hi,w.heap[l.b]?=some (.cells ccs CE (lo,hi)) ∧
    (∀ i v,cs[i]?=some v→∃v',ccs[l.o+i]?=some v'∧CRel ι v v') ∧
    (m=.ro→l.b<B)∧(m≠.ro→B≤l.b∧∀i,i<ccs.size→¬(lo≤i∧lo≠hi)) ∧
    (m≠.open→l.k=0) ∧
    (m=.open→l.o+cs.length+l.k*szOf P E≤ccs.size)
 | .map kk es clock=>B≤l.b∧l.o=0∧∃ces,w.heap[l.b]?=some (.map ces clock) ∧
    All2 (fun e ce=>ce.key=e.1∧kkHas kk e.1=true∧ARel ι e.2 ce.val) es ces.toList∧(∀ ce∈ces.toList,ce.born<clock)∧(ces.toList.map (·.born)).Nodup ∧
    es.Pairwise fun a b=>keyEq a.1 b.1=false
 | .iter mo left since cur=>B≤l.b∧l.o=0∧∃cm since' seen stepped,w.heap[l.b]?=some (.mapIter cm since' seen stepped) ∧
    match mo with
    | none=>cm=none
    | some m=>∃lm,ι m=some lm∧cm=some lm.b∧since'=since∧stepped=since ∧
       (∀ ces clock,w.heap[lm.b]?=some (.map ces clock)→since≤clock ∧
         (clock=since→∀ce∈ces.toList,(ce.born∈seen.toList↔left.any (keyEq ce.key)=false))) ∧
       (∀ k,cur=some k→∃st,seen.back?=some st∧∀ces clock,w.heap[lm.b]?=some (.map ces clock)→clock=since→∀ce∈ces.toList,(ce.born=st↔ce.key=k))
 | .loop st pend t N ps assign body=>B≤l.b∧l.o=0∧∃L:Loop,w.heap[l.b]?=some (.loop L) ∧
    L.state=st∧L.pending=pend∧TRel ι N t L.tmps∧L.params=ps∧L.assign=assign∧L.body=body
 | .defer=>B≤l.b∧l.o=0∧w.heap[l.b]?=some (.deferred (some []))
structure HRel (P:Program) (W:World) (ι:Env) (h:H) (w:World):Prop where
 nxt:∃n,∀b,n≤b→ι b=none
 z0:ι 0=none
 z1:ι 1=none
 below:Below W.heap.size W w
 inb:∀b l,ι b=some l→l.b<w.heap.size
 obj:∀b o,h b=some o→∃l,ι b=some l∧ORel P W.heap.size ι l w o
 sep:∀b b' o o' l l',b≠b'→h b=some o→h b'=some o'→ι b=some l→ι b'=some l'→o.ro=false→o'.ro=false→l.b≠l'.b
def Post (P:Program) (W:World) (ι:Env) (Q:Value→H→Prop):Ending→World→Prop:=fun e w' =>
 ∃v cv ι' h',e=.returned cv∧Env.le ι ι'∧HRel P W ι' h' w'∧VRel ι' v cv∧Q v h'
def Spec (P:Program) (f:FuncId) (args:List Value) (h:H) (Q:Value→H→Prop):Prop :=
 ∀(W:World) (ι:Env) (w:World) (cargs:Array Value),HRel P W ι h w→All2 (ARel ι) args cargs.toList→Calls P f cargs w (Post P W ι Q)
def YSpec (P:Program) (r:Nat) (args:List Value) (h:H) (Q:Value→H→Prop):Prop :=
 ∀(W:World) (ι:Env) (w:World) (cargs:Array Value) (l:Loc),HRel P W ι h w→ι r=some l→All2 (ARel ι) args cargs.toList →
  ∃L:Loop,w.heap[l.b]?=some (.loop L)∧L.params.size=cargs.size ∧
   RoundIn Fence.wide 0 P l.b L.fn ((L.params.zip cargs).foldl (fun tmps (t,a)=>tmps.setIfInBounds t a) L.tmps) L.assign L.body w (Post P W ι Q)
def yu9w (P:Program) (f:FuncId):Bool :=
 match P.funcs[f]? with
 | some fn=>fn.body.isSome&&fn.name != "runtime.NumGoroutine"
 | none=>false
def ywv3 (P:Program) (f:FuncId) (args:List Value) (h:H) (K:Value→H→Prop):Prop :=
 args.all boxV=true∧Spec P f args h K
def o_dyn (P:Program) (fv:Value) (args:List Value) (h:H) (K:Value→H→Prop):Prop :=
 args.all boxV=true ∧
 match fv with
 | .func (.func f) first captured=>yu9w P f=true∧Spec P f (first.toList++args++captured.toList) h K
 | .func (.yield r) a c=>a.size=0∧c.size=0∧YSpec P r args h K
 | _=>False
def aCall (P:Program) (c:Call) (ρ:Operand→Value) (h:H) (K:Value→H→Prop):Prop :=
 match c.callee,c.args.toList,c.argTypes.toList with
 | .builtin .len,[x],[t]=>(match P.underlying t with
   | some .string=>ykwb (ρ x) fun v=>K v h
   | some (.slice _)=>yn0t (ρ x) fun v=>K v h
   | some (.map _ _)=>y55i (ρ x) h fun v=>K v h
   | some (.array n _)=>K (.int .i64 n) h
   | _=>False)
 | .builtin .append,[s,x],[t,u]=>(match P.underlying t,P.underlying u with
   | some (.slice e),some (.slice _) | some (.slice e),some .string=>(match P.info? e,y7rv P e with
     | some i,some z=>bif z.cells.size==i.size then yc1n e i.size i.bytes (ρ s) (ρ x) h K else False
     | _,_=>False)
   | _,_=>False)
 | .builtin .copy,[d,x],[t,_]=>(match P.underlying t with
   | some (.slice e)=>(match P.info? e with | some i=>y1uk i.size (ρ d) (ρ x) h K | none=>False)
   | _=>False)
 | .builtin .delete,[m,k],[t,_]=>(match P.underlying t with
   | some (.map kt _)=>(match kkOf P kt with | some kk=>yypu kk (ρ m) (ρ k) h fun h=>K undef h | none=>False)
   | _=>False)
 | .builtin .min,[x,y],_=>yzve P Builtin.min2 (ρ x) (ρ y) fun v=>K v h
 | .builtin .max,[x,y],_=>yzve P Builtin.max2 (ρ x) (ρ y) fun v=>K v h
 | .value (.func f),args,_=>bif yu9w P f then ywv3 P f (args.map ρ) h K else False
 | .value (.tmp i),args,_=>o_dyn P (ρ (.tmp i)) (args.map ρ) h K
 | _,_,_=>False
def aop (P:Program) (op:Op) (ρ:Operand→Value) (h:H) (K:Value→H→Prop):Prop :=
 match op with
 | .move x | .assign x=>K (ρ x) h
 | .pick c a b=>yw1w (ρ c) (ρ a) (ρ b) fun v=>K v h
 | .alloc E=>match y7rv P E with
   | some z=>o_new z.cells.toList E .exact h fun b h=>K (.pointer (some ⟨b,0,none⟩)) h
   | none=>False
 | .box E x=>boxV (ρ x)=true∧o_new (ρ x).cells.toList E .exact h fun b h=>K (.pointer (some ⟨b,0,none⟩)) h
 | .build t ps=>yiyd P t (ps.toList.map fun p=>(p.1,ρ p.2)) fun v=>K v h
 | .buildSlice t n ps=>yyll P t n (ps.toList.map fun p=>(p.1,ρ p.2)) h K
 | .load t a=>match y8c6 P t with
   | some (ag,n)=>ysm8 ag n (ρ a) h fun v=>K v h
   | none=>False
 | .store t a x=>match y8c6 P t with
   | some (_,n)=>yxd5 n (ρ a) (ρ x) h fun h=>K undef h
   | none=>False
 | .nilCheck x=>yf21 (ρ x) fun v=>K v h
 | .binOp op xt x y _=>o_bin P op xt (ρ x) (ρ y) fun v=>K v h
 | .unOp op _ x=>o_un P op (ρ x) fun v=>K v h
 | .convert src dst x=>match P.underlying dst,P.underlying src with
   | some (.int k),some (.int _)=>ykic k (ρ x) fun v=>K v h
   | some .string,some .string=>y1of (ρ x) fun v=>K v h
   | some .string,some (.slice e)=>(match P.underlying e with | some (.int .u8)=>y9vs (ρ x) h fun v=>K v h | _=>False)
   | some (.slice e),some .string=>(match P.underlying e,P.info? e with | some (.int .u8),some i=>bif Nat.beq i.size 1 then y0kx e (ρ x) h K else False | _,_=>False)
   | some (.slice e),some (.slice _)=>(match P.underlying e with | some (.int .u8)=>bif Nat.beq src dst then yt5p (ρ x) h fun v=>K v h else False | _=>False)
   | _,_=>False
 | .makeInterface t x=>match P.underlying t with
   | some (.interface _) | none=>False
   | some _=>ysqa (ρ x)=true∧K (.iface t (ρ x)) h
 | .makeFunc (.func f) first captured=>(first.toList.map ρ).all ysqa=true∧(captured.toList.map ρ).all ysqa=true∧K (.func (.func f) (first.map ρ) (captured.map ρ)) h
 | .makeMap t r=>match P.underlying t,r.map ρ with
   | some (.map kt _),none | some (.map kt _),some (.int _ _)=>(match kkOf P kt with | some kk=>yp8q (.map kk [] 0) h fun b h=>K (.map (some b)) h | none=>False)
   | _,_=>False
 | .makeSlice t l c=>match P.underlying t with
   | some (.slice e)=>(match P.info? e,y7rv P e with
     | some i,some z=>ye0j z.cells.toList i.size i.bytes e (ρ l) (ρ c) h K
     | _,_=>False)
   | _=>False
 | .slice t x lo hi mx=>match P.underlying t with
   | some (.array n e)=>(match mx,P.info? e with | none,some i=>ybsu n i.size (ρ x) (lo.map ρ) (hi.map ρ) h fun v=>K v h | _,_=>False)
   | some (.slice e)=>(match P.info? e with | some i=>ykvd i.size (ρ x) (lo.map ρ) (hi.map ρ) (mx.map ρ) fun v=>K v h | none=>False)
   | some .string=>(match mx with | none=>y80g (ρ x) (lo.map ρ) (hi.map ρ) fun v=>K v h | some _=>False)
   | _=>False
 | .fieldAddr s x f=>match yw2z P s f with
   | some (off,ft)=>bif Nat.beq (szOf P ft) 0 then False else yokc off (ρ x) fun v=>K v h
   | none=>False
 | .field s x f=>match yw2z P s f with
   | some (off,ft)=>(match y8c6 P ft with | some (ag,n)=>ygzh ag n off (ρ x) fun v=>K v h | none=>False)
   | none=>False
 | .indexAddr t x i=>match P.underlying t with
   | some (.array n e)=>(match P.info? e with | some inf=>ys75 (some n) inf.size (ρ x) (ρ i) fun v=>K v h | none=>False)
   | some (.slice e)=>(match P.info? e with | some inf=>ys75 none inf.size (ρ x) (ρ i) fun v=>K v h | none=>False)
   | _=>False
 | .index t x i=>match P.underlying t with
   | some (.array n e)=>(match y8c6 P e with | some (ag,sz)=>y7od false n ag sz (ρ x) (ρ i) fun v=>K v h | none=>False)
   | some .string=>y7od true 0 false 0 (ρ x) (ρ i) fun v=>K v h
   | _=>False
 | .lookup t x k ok=>match P.underlying t with
   | some (.map kt e)=>(match y7rv P e,kkOf P kt with | some z,some kk=>ylze kk z (ρ x) (ρ k) ok h fun v=>K v h | _,_=>False)
   | _=>False
 | .mapUpdate t m k x | .insert t m k x=>match P.underlying t with
   | some (.map kt _)=>(match kkOf P kt with | some kk=>ynew kk (ρ m) (ρ k) (ρ x) h fun h=>K undef h | none=>False)
   | _=>False
 | .range t x=>match P.underlying t with
   | some (.map _ _)=>y4p4 (ρ x) h K
   | _=>False
 | .next it false=>y6k6 (ρ it) h K
 | .entry it=>yxwg (ρ it) h fun v=>K v h
 | .extract x i=>ychn (ρ x) i fun v=>K v h
 | .call c=>aCall P c ρ h K
 | _=>False
def yreo (ops:Array Oper) (j:Nat) (t:T):Value :=
 match (ops[j]?).bind (·.dst) with
 | some d=>t d
 | none=>undef
def aStep (P:Program) (ops:Array Oper) (i:Nat) (K:T→H→Prop) (t:T) (h:H):Prop :=
 match ops[i]? with
 | none=>K t h
 | some o =>
   match o.guard with
   | none=>aop P o.op (aev t) h fun v h=>K (tput t o.dst v) h
   | some (j,want)=>yy7w (yreo ops j t) want (aop P o.op (aev t) h) (fun v h=>K (tput t o.dst v) h) h
def aOps (P:Program) (ops:Array Oper):List Nat→(T→H→Prop)→T→H→Prop
 | [],K,t,h=>K t h
 | i::is,K,t,h=>aStep P ops i (aOps P ops is K) t h
def aAny (P:Program) (ops:Array Oper) (K:T→H→Prop):Nat→Array Bool→T→H→Prop
 | 0,listed,t,h=>Region.ready .any ops listed=[]∧K t h
 | fuel+1,listed,t,h=>(Region.ready .any ops listed=[]→K t h) ∧
    ∀i∈Region.ready .any ops listed,aStep P ops i (aAny P ops K fuel (listed.setIfInBounds i true)) t h
def athen (K:T→H→Prop) (Q:Exit→T→H→Prop):Exit→T→H→Prop
 | .normal=>K
 | e=>Q e
def yr2p (id:Nat) (Q:Exit→T→H→Prop):Exit→T→H→Prop
 | .exit j=>bif Nat.beq j id then Q .normal else Q (.exit j)
 | e=>Q e
structure sloop {S:Type} (body:S→H→(S→H→Prop)→Prop) (s:S) (h:H):Prop where
 ok:∃I:Nat→S→H→Prop,(∃ n,I n s h)∧∀n s h,I n s h→body s h fun s' h'=>∃m,m<n∧I m s' h'
def marks (v:Value):List Nat :=
 match v with
 | .tuple vs=>vs.toList.filterMap fun | .int _ n=>some n.toNat | _=>none
 | _=>[]
def ym1y (v:Value) (d:Nat):Value:=.tuple (Value.int .u64 d::(marks v).map fun n:Nat=>Value.int .u64 (n:Int)).toArray
def yf8x (P:Program) (fv y:Value) (h:H) (K:Value→H→Prop):Prop :=
 match fv with
 | .func (.func f) first captured=>yu9w P f=true∧Spec P f (first.toList++[y]++captured.toList) h K
 | _=>False
def awp (P:Program) (N:Nat):Code→(Exit→T→H→Prop)→T→H→Prop
 | .skip,Q,t,h=>Q .normal t h
 | .region _ ops draw,Q,t,h=>bif draw then aAny P ops (Q .normal) ops.size (Array.replicate ops.size false) t h
    else aOps P ops (List.range ops.size) (Q .normal) t h
 | .seq a b,Q,t,h=>awp P N a (athen (awp P N b Q) Q) t h
 | .cond c x y,Q,t,h=>o_if (aev t c) (awp P N x Q t h) (awp P N y Q t h)
 | .block id c,Q,t,h=>awp P N c (yr2p id Q) t h
 | .loop c,Q,t,h=>sloop (fun t h K=>awp P N c (athen K Q) t h) t h
 | .exit id,Q,t,h=>Q (.exit id) t h
 | .ret,Q,t,h=>Q .ret t h
 | .label _,Q,t,h=>Q .normal t h
 | .rangeFunc g ps assign body,Q,t,h=>∀l d,2≤l→2≤d→l≠d→h l=none→h d=none →
    yf8x P (aev t g) (.func (.yield l) #[] #[]) (upd (upd h d .defer) l (.loop .ready none t N ps assign body)) fun _ h' =>
     match h' l with
     | some (.loop .ready none _ _ _ _ _)=>Q .normal (tset t N (ym1y (t N) d)) (del h' l)
     | some (.loop .done (some .ret) _ _ _ _ _)=>Q .ret (tset t N (ym1y (t N) d)) (del h' l)
     | some (.loop .done (some (.exit id)) _ _ _ _ _)=>Q (.exit id) (tset t N (ym1y (t N) d)) (del h' l)
     | _=>False
 | _,_,_,_=>False
def retV (rs:List Nat) (Q:Value→H→Prop) (t:T) (h:H):Prop :=
 match rs with
 | [r]=>Q (t r) h
 | rs=>bif rs.all (fun r=>boxV (t r)) then Q (.tuple (rs.map t).toArray) h else False
def tinit (args:List Value):T:=fun i=>args.getD i undef
def yner (N:Nat):Operand→Bool
 | .tmp i=>Nat.blt i N
 | .const v=>selfV v
 | .global _=>false
 | .func _=>true
def yz4b (N:Nat) (o:Oper):Bool :=
 (match o.dst with | some d=>Nat.blt d N | none=>true)&&o.op.operands.toList.all (yner N)&&(match o.op with | .defer _=>false | _=>true)
def yk69 (N:Nat) (round:Bool):Code→Bool
 | .skip | .exit _ | .ret | .label _=>true
 | .region _ ops _=>ops.toList.all (yz4b N)
 | .seq a b=>yk69 N round a&&yk69 N round b
 | .cond c x y=>yner N c&&yk69 N round x&&yk69 N round y
 | .block _ c | .loop c=>yk69 N round c
 | .rangeFunc g ps assign body=>!round&&yner N g&&ps.toList.all (fun p=>Nat.blt p N)&&yk69 N true assign&&yk69 N true body
 | _=>false
end Go.Proofs.YtnckimioabkheaaGreat.AM
set_option linter.unusedSimpArgs false
set_option linter.unusedVariables false
namespace Go.Proofs.YtnckimioabkheaaGreat.AM
open Go.RowKit
section All2
variable {α β:Type} {R S:α→β→Prop}
theorem All2.mono {l:List α} {m:List β} (h:All2 R l m) (hr:∀a b,R a b→S a b):All2 S l m:=by
 induction h with
 | nil=>exact .nil
 | cons h _ ih=>exact .cons (hr _ _ h) ih
theorem All2.length {l:List α} {m:List β} (h:All2 R l m):l.length=m.length:=by
 induction h with
 | nil=>rfl
 | cons _ _ ih=>simp [ih]
theorem All2.get {l:List α} {m:List β} (h:All2 R l m):∀{i:Nat} {a:α},l[i]?=some a→∃b,m[i]?=some b∧R a b:=by
 induction h with
 | nil=>intro i a h;simp at h
 | cons h t ih =>
   intro i a hi
   cases i with
   | zero=>simp at hi;subst hi;exact ⟨_,rfl,h⟩
   | succ i=>simp at hi;simpa using ih hi
theorem All2.get' {l:List α} {m:List β} (h:All2 R l m):∀{i:Nat} {b:β},m[i]?=some b→∃a,l[i]?=some a∧R a b:=by
 induction h with
 | nil=>intro i a h;simp at h
 | cons h t ih =>
   intro i a hi
   cases i with
   | zero=>simp at hi;subst hi;exact ⟨_,rfl,h⟩
   | succ i=>simp at hi;simpa using ih hi
theorem All2.append {l l':List α} {m m':List β} (h:All2 R l m) (k:All2 R l' m'):All2 R (l++l') (m++m'):=by
 induction h with
 | nil=>exact k
 | cons h _ ih=>exact .cons h ih
theorem All2.take {l:List α} {m:List β} (n:Nat) (h:All2 R l m):All2 R (l.take n) (m.take n):=by
 induction h generalizing n with
 | nil=>simp;exact .nil
 | cons h _ ih=>cases n with
   | zero=>exact .nil
   | succ n=>exact .cons h (ih n)
theorem All2.drop {l:List α} {m:List β} (n:Nat) (h:All2 R l m):All2 R (l.drop n) (m.drop n):=by
 induction h generalizing n with
 | nil=>simp;exact .nil
 | cons h t ih=>cases n with
   | zero=>exact .cons h t
   | succ n=>exact ih n
theorem All2.set {l:List α} {m:List β} (h:All2 R l m) (i:Nat) {a b} (hab:R a b):All2 R (l.set i a) (m.set i b):=by
 induction h generalizing i with
 | nil=>exact .nil
 | cons h t ih=>cases i with
   | zero=>exact .cons hab t
   | succ i=>exact .cons h (ih i)
theorem All2.map {γ δ:Type} {R':γ→δ→Prop} {l:List α} {m:List β} (f:α→γ) (g:β→δ) (h:All2 R l m) (hr:∀a b,R a b→R' (f a) (g b)):All2 R' (l.map f) (m.map g):=by
 induction h with
 | nil=>exact .nil
 | cons h _ ih=>exact .cons (hr _ _ h) ih
theorem All2.refl_of {l:List α} {R:α→α→Prop} (h:∀a∈l,R a a):All2 R l l:=by
 induction l with
 | nil=>exact .nil
 | cons x l ih=>exact .cons (h x (by simp)) (ih fun a ha=>h a (by simp [ha]))
end All2
section rel
variable {ι ι':Env}
theorem Env.le_refl (ι:Env):Env.le ι ι:=fun _ _ h=>h
theorem Env.le_trans {a b c:Env} (h:Env.le a b) (k:Env.le b c):Env.le a c:=fun x l hx=>k x l (h x l hx)
theorem SRel.mono {v v':Value} (h:SRel ι v v') (hle:Env.le ι ι'):SRel ι' v v':=by
 cases h with
 | ptr h=>exact .ptr (hle _ _ h)
 | slice h=>exact .slice (hle _ _ h)
 | map h=>exact .map (hle _ _ h)
 | _=>constructor
theorem CRel.mono {v v':Value} (h:CRel ι v v') (hle:Env.le ι ι'):CRel ι' v v':=by
 cases h with
 | s h=>exact .s (h.mono hle)
 | func f h k=>exact .func f (h.mono fun _ _ h=>h.mono hle) (k.mono fun _ _ h=>h.mono hle)
 | yield h=>exact .yield (hle _ _ h)
 | iface t h=>exact .iface t (h.mono hle)
theorem ARel.mono {v v':Value} (h:ARel ι v v') (hle:Env.le ι ι'):ARel ι' v v':=by
 cases h with
 | c h=>exact .c (h.mono hle)
 | agg h=>exact .agg (h.mono fun _ _ h=>h.mono hle)
theorem VRel.mono {v v':Value} (h:VRel ι v v') (hle:Env.le ι ι'):VRel ι' v v':=by
 cases h with
 | a h=>exact .a (h.mono hle)
 | tuple h=>exact .tuple (h.mono fun _ _ h=>h.mono hle)
theorem TRel.mono {N:Nat} {t:T} {tmps:Array Value} (h:TRel ι N t tmps) (hle:Env.le ι ι'):TRel ι' N t tmps:=⟨h.1,fun i hi=>(h.2 i hi).mono hle⟩
theorem yuzj {v:Value} (h:selfC v=true):CRel ι v v:=by
 unfold selfC at h
 split at h <;> first
  | exact .s (by constructor)
  | (simp only [Bool.and_eq_true,beq_iff_eq] at h
     obtain ⟨h1,h2⟩:=h
     obtain rfl:=Array.eq_empty_of_size_eq_zero h1
     obtain rfl:=Array.eq_empty_of_size_eq_zero h2
     exact .func _ .nil .nil)
  | cases h
theorem arel_self {v:Value} (h:selfA v=true):ARel ι v v:=by
 unfold selfA at h
 split at h
 ·exact .agg (All2.refl_of fun a ha=>yuzj (List.all_eq_true.1 h a ha))
 ·exact .c (yuzj h)
theorem ywzo {v:Value} (h:selfV v=true):VRel ι v v:=by
 unfold selfV at h
 split at h
 ·exact .tuple (All2.refl_of fun a ha=>arel_self (List.all_eq_true.1 h a ha))
 ·exact .a (arel_self h)
theorem ya6m {v v':Value} (h:selfC v=true) (k:CRel ι v v'):v'=v:=by
 cases k with
 | s k=>cases k <;> first | rfl | (simp [selfC] at h)
 | @func f xs ys xs' ys' a b =>
   have h':(xs.size==0&&ys.size==0)=true:=h
   simp only [Bool.and_eq_true,beq_iff_eq] at h'
   obtain ⟨e1,e2⟩:=h'
   have h1:=a.length;have h2:=b.length
   simp only [Array.length_toList] at h1 h2
   rw [Array.eq_empty_of_size_eq_zero e1,Array.eq_empty_of_size_eq_zero e2,Array.eq_empty_of_size_eq_zero (xs:=xs') (by omega),Array.eq_empty_of_size_eq_zero (xs:=ys') (by omega)]
 | yield k=>simp [selfC] at h
 | iface t k=>simp [selfC] at h
theorem yf3a {l m:List Value} (k:All2 (CRel ι) l m) (h:l.all selfC=true):m=l:=by
 induction k with
 | nil=>rfl
 | cons hab _ ih =>
   simp only [List.all_cons,Bool.and_eq_true] at h
   rw [ya6m h.1 hab,ih h.2]
theorem yrzm {v v':Value} (h:selfA v=true) (k:ARel ι v v'):v'=v:=by
 cases k with
 | c k =>
   unfold selfA at h
   split at h
   ·cases k with | s k=>cases k
   ·exact ya6m h k
 | agg k =>
   rename_i xs ys
   have:=yf3a k h
   rw [show ys=xs from Array.ext' this]
theorem ylf2 {v v':Value} (h:selfV v=true) (k:VRel ι v v'):v'=v:=by
 cases k with
 | a k =>
   unfold selfV at h
   split at h
   ·cases k with | c k=>cases k with | s k=>cases k
   ·exact yrzm h k
 | tuple k =>
   rename_i xs ys
   have h':xs.toList.all selfA=true:=h
   have:ys.toList=xs.toList:=by
    clear h
    generalize xs.toList=l at *
    generalize ys.toList=m at *
    induction k with
    | nil=>rfl
    | cons hab _ ih =>
      simp only [List.all_cons,Bool.and_eq_true] at h'
      rw [yrzm h'.1 hab,ih h'.2]
   rw [Array.ext' this]
theorem VRel.toA {v v':Value} (h:VRel ι v v') (hb:boxV v=true):ARel ι v v':=by
 cases h with
 | a h=>exact h
 | tuple h=>simp [boxV] at hb
theorem ARel.toC {v v':Value} (h:ARel ι v v') (hb:cellV v=true):CRel ι v v':=by
 cases h with
 | c h=>exact h
 | agg h=>simp [cellV] at hb
theorem VRel.cell {v v':Value} (h:VRel ι v v') (hb:cellV v=true):CRel ι v v' :=
 (h.toA (by cases v <;> simp_all [cellV,boxV])).toC hb
theorem CRel.toS {v v':Value} (h:CRel ι v v') (hb:ysqa v=true):SRel ι v v':=by
 cases h with
 | s h=>exact h
 | func f a b=>simp [ysqa] at hb
 | yield h=>simp [ysqa] at hb
 | iface t h=>simp [ysqa] at hb
theorem ysk2 {v:Value} (h:ysqa v=true):cellV v=true∧boxV v=true:=by
 cases v <;> simp_all [ysqa,cellV,boxV]
theorem VRel.toS {v v':Value} (h:VRel ι v v') (hb:ysqa v=true):SRel ι v v' :=
 ((h.toA (ysk2 hb).2).toC (ysk2 hb).1).toS hb
theorem CRel.cellV {v v':Value} (h:CRel ι v v'):cellV v=true∧cellV v'=true:=by
 cases h with
 | s h=>cases h <;> simp [AM.cellV]
 | _=>simp [AM.cellV]
theorem CRel.one {v v':Value} (h:CRel ι v v'):v'.oneCell'=true:=by
 cases h with
 | s h=>cases h <;> rfl
 | _=>rfl
theorem ARel.cells {v v':Value} (h:ARel ι v v'):All2 (CRel ι) v.cells.toList v'.cells.toList:=by
 cases h with
 | agg h=>exact h
 | c h =>
   have h1:v.cells = #[v]:=by have:=h.cellV.1;cases v <;> simp_all [Value.cells,AM.cellV]
   have h2:v'.cells = #[v']:=by have:=h.cellV.2;cases v' <;> simp_all [Value.cells,AM.cellV]
   rw [h1,h2]
   exact .cons h .nil
theorem ARel.size {v v':Value} (h:ARel ι v v'):v'.cells.size=v.cells.size:=by
 have:=h.cells.length
 simpa using this.symm
theorem VRel.undef:VRel ι undef undef:=.tuple .nil
theorem VRel.bool {b:Bool} {v':Value} (h:VRel ι (.bool b) v'):v'=.bool b:=ylf2 rfl h
theorem VRel.int {k:IntKind} {n:Int} {v':Value} (h:VRel ι (.int k n) v'):v'=.int k n:=ylf2 rfl h
theorem VRel.string {s:ByteArray} {v':Value} (h:VRel ι (.string s) v'):v'=.string s:=ylf2 rfl h
theorem VRel.ptr {b o:Nat} {v':Value} (h:VRel ι (.pointer (some ⟨b,o,none⟩)) v'):∃l,ι b=some l∧v'=.pointer (some ⟨l.b,l.o+o,none⟩):=by
 cases h with | a h=>cases h with | c h=>cases h with | s h=>cases h with | ptr h=>exact ⟨_,h,rfl⟩
theorem VRel.agg {cs:Array Value} {v':Value} (h:VRel ι (.agg cs) v'):∃cs',v'=.agg cs'∧All2 (CRel ι) cs.toList cs'.toList:=by
 cases h with | a h=>cases h with
  | agg h=>exact ⟨_,rfl,h⟩
  | c h=>cases h with | s h=>cases h
theorem VRel.tup {vs:Array Value} {v':Value} (h:VRel ι (.tuple vs) v'):∃vs',v'=.tuple vs'∧All2 (ARel ι) vs.toList vs'.toList:=by
 cases h with
 | tuple h=>exact ⟨_,rfl,h⟩
 | a h=>cases h with | c h=>cases h with | s h=>cases h
theorem VRel.notBool {v v':Value} (h:VRel ι v v') (b:Bool):v'=.bool b→v=.bool b:=by
 intro e;subst e
 cases h with | a h=>cases h with | c h=>cases h with | s h=>cases h;rfl
end rel
section mem
variable {P:Program} {W:World} {ι ι':Env} {h:H} {w w':World}
theorem HRel.drop {h':H} (hr:HRel P W ι h w) (hle:∀b o,h' b=some o→h b=some o):HRel P W ι h' w :=
 ⟨hr.nxt,hr.z0,hr.z1,hr.below,hr.inb,fun b o hb=>hr.obj b o (hle b o hb),
  fun b b' o o' l l' hne hb hb'=>hr.sep b b' o o' l l' hne (hle b o hb) (hle b' o' hb')⟩
theorem ORel.same {B:Nat} {l:Loc} {o:AObj} (hw:w'.heap=w.heap) (h:ORel P B ι l w o):ORel P B ι l w' o:=by
 cases o <;> simp only [ORel,hw] at * <;> exact h
theorem HRel.world (hr:HRel P W ι h w) (hw:w'.heap=w.heap) (h1:w'.os=w.os) (h2:w'.tape=w.tape) (h3:w'.output=w.output):HRel P W ι h w' :=
 ⟨hr.nxt,hr.z0,hr.z1,⟨h1.trans hr.below.os,h2.trans hr.below.tape,h3.trans hr.below.output,by rw [hw];exact hr.below.size,fun k hk=>by rw [hw];exact hr.below.block k hk⟩,
  fun b l hb=>by rw [hw];exact hr.inb b l hb,
  fun b o hb=>let ⟨l,hl,ho⟩:=hr.obj b o hb;⟨l,hl,ho.same hw⟩,hr.sep⟩
theorem HRel.drawn (hr:HRel P W ι h w) (n:Nat):HRel P W ι h { w with drawn:=n }:=hr.world rfl rfl rfl rfl
theorem ORel.keep {B:Nat} {l:Loc} {o:AObj} (hle:Env.le ι ι') (hb:w'.heap[l.b]?=w.heap[l.b]?)
 (hm:∀m lm,ι m=some lm→w'.heap[lm.b]?=w.heap[lm.b]?∨∀ces' clock',w'.heap[lm.b]?=some (.map ces' clock')→∃ces clock,w.heap[lm.b]?=some (.map ces clock)∧clock≤clock' ∧
   (clock'=clock→∀ce'∈ces'.toList,∃ce∈ces.toList,ce.born=ce'.born∧ce.key=ce'.key))
 (h:ORel P B ι l w o):ORel P B ι' l w' o:=by
 cases o with
 | cells cs E m =>
   obtain ⟨ccs,CE,lo,hi,h1,h2,h3⟩:=h
   exact ⟨ccs,CE,lo,hi,hb.trans h1,fun i v hi=>let ⟨v',ha,hc⟩:=h2 i v hi;⟨v',ha,hc.mono hle⟩,h3⟩
 | map kk es c =>
   obtain ⟨h0,h1,ces,h2,h3,h4⟩:=h
   exact ⟨h0,h1,ces,hb.trans h2,h3.mono fun a b ⟨x,y,z⟩=>⟨x,y,z.mono hle⟩,h4⟩
 | iter mo left since cur =>
   obtain ⟨h0,h1,cm,since',seen,stepped,h2,h3⟩:=h
   refine ⟨h0,h1,cm,since',seen,stepped,hb.trans h2,?_⟩
   cases mo with
   | none=>exact h3
   | some m =>
     obtain ⟨lm,hlm,e1,e2,e3,h4,h7⟩:=h3
     refine ⟨lm,hle _ _ hlm,e1,e2,e3,?_,fun k hk=>?_⟩
     rotate_left
     ·obtain ⟨st,h8,h9⟩:=h7 k hk
      refine ⟨st,h8,fun ces' clock' hc' hcs ce' hce'=>?_⟩
      rcases hm m lm hlm with hs | hs
      ·exact h9 ces' clock' (hs▸hc') hcs ce' hce'
      ·obtain ⟨ces,clock,hc,hle',hsub⟩:=hs ces' clock' hc'
       obtain ⟨h5,_⟩:=h4 ces clock hc
       obtain ⟨ce,hce,hb',hk'⟩:=hsub (by omega) ce' hce'
       rw [← hb',←hk']
       exact h9 ces clock hc (by omega) ce hce
     intro ces' clock' hc'
     rcases hm m lm hlm with hs | hs
     ·exact h4 ces' clock' (hs▸hc')
     ·obtain ⟨ces,clock,hc,hle',hsub⟩:=hs ces' clock' hc'
      obtain ⟨h5,h6⟩:=h4 ces clock hc
      refine ⟨Nat.le_trans h5 hle',fun he ce' hce'=>?_⟩
      have hcs:clock=since:=by omega
      obtain ⟨ce,hce,hb',hk'⟩:=hsub (by omega) ce' hce'
      rw [← hb',←hk']
      exact h6 hcs ce hce
 | loop st pend t N ps assign body =>
   obtain ⟨h0,h1,L,h2,h3,h4,h5,h6⟩:=h
   exact ⟨h0,h1,L,hb.trans h2,h3,h4,h5.mono hle,h6⟩
 | defer =>
   obtain ⟨h0,h1,h2⟩:=h
   exact ⟨h0,h1,hb.trans h2⟩
theorem HRel.put (hr:HRel P W ι h w) {b:Nat} {l:Loc} {o:AObj} (hle:Env.le ι ι') (hb:ι' b=some l) (hne:∀c,c≠b→ι' c=ι c) (h2:2≤b)
 (hB:W.heap.size≤l.b) (hin:l.b<w'.heap.size) (hsz:w.heap.size≤w'.heap.size) (hkeep:∀c,c≠l.b→c<w.heap.size→w'.heap[c]?=w.heap[c]?)
 (hos:w'.os=w.os) (htape:w'.tape=w.tape) (hout:w'.output=w.output)
 (hsep:∀c oc lc,c≠b→h c=some oc→ι c=some lc→oc.ro=false→lc.b≠l.b)
 (hmap:l.b<w.heap.size→∀ces' clock',w'.heap[l.b]?=some (.map ces' clock')→∃ces clock,w.heap[l.b]?=some (.map ces clock)∧clock≤clock' ∧
   (clock'=clock→∀ce'∈ces'.toList,∃ce∈ces.toList,ce.born=ce'.born∧ce.key=ce'.key))
 (ho:ORel P W.heap.size ι' l w' o):HRel P W ι' (upd h b o) w':=by
 have hro:∀c cs E lc,h c=some (.cells cs E .ro)→ι c=some lc→lc.b<W.heap.size:=fun c cs E lc hc hlc=>by
  obtain ⟨l',hl',ho'⟩:=hr.obj c _ hc
  obtain rfl:l'=lc:=by rw [hlc] at hl';exact (Option.some.inj hl').symm
  obtain ⟨_,_,_,_,_,_,h3,_⟩:=ho'
  exact h3 rfl
 have hlb:∀c oc lc,c≠b→h c=some oc→ι c=some lc→lc.b≠l.b:=fun c oc lc hc hoc hlc he=>by
  by_cases hx:oc.ro=false
  ·exact hsep c oc lc hc hoc hlc hx he
  ·cases oc with
   | cells cs E m=>cases m with
     | ro=>have:=hro c cs E lc hoc hlc;omega
     | _=>simp [AObj.ro] at hx
   | _=>simp [AObj.ro] at hx
 refine ⟨?_,?_,?_,?_,?_,?_,?_⟩
 ·obtain ⟨n,hn⟩:=hr.nxt
  refine ⟨max n (b+1),fun c hc=>?_⟩
  rw [hne c (by omega)]
  exact hn c (by omega)
 ·rw [hne 0 (by omega)];exact hr.z0
 ·rw [hne 1 (by omega)];exact hr.z1
 ·refine ⟨hos.trans hr.below.os,htape.trans hr.below.tape,hout.trans hr.below.output,Nat.le_trans hr.below.size hsz,fun k hk=>?_⟩
  have h1:=hr.below.size
  rw [hkeep k (by omega) (by omega)]
  exact hr.below.block k hk
 ·intro c lc hc
  by_cases hcb:c=b
  ·subst hcb;rw [hb] at hc;cases hc;exact hin
  ·rw [hne c hcb] at hc
   exact Nat.lt_of_lt_of_le (hr.inb c lc hc) hsz
 ·intro c oc hc
  by_cases hcb:c=b
  ·subst hcb;rw [yy0e] at hc;cases hc;exact ⟨l,hb,ho⟩
  ·rw [yrkk _ _ hcb] at hc
   obtain ⟨lc,hlc,hoc⟩:=hr.obj c oc hc
   refine ⟨lc,hle _ _ hlc,hoc.keep hle (hkeep lc.b (hlb c oc lc hcb hc hlc) (hr.inb c lc hlc)) fun m lm hm=>?_⟩
   by_cases hmb:lm.b=l.b
   ·rw [hmb];exact .inr (hmap (hmb▸hr.inb m lm hm))
   ·exact .inl (hkeep lm.b hmb (hr.inb m lm hm))
 ·intro c c' oc oc' lc lc' hcc hc hc' hlc hlc' hoc hoc'
  by_cases hcb:c=b
  ·subst hcb
   rw [hb] at hlc;cases hlc
   rw [yrkk _ _ (Ne.symm hcc)] at hc'
   rw [hne c' (Ne.symm hcc)] at hlc'
   exact Ne.symm (hsep c' oc' lc' (Ne.symm hcc) hc' hlc' hoc')
  ·rw [yrkk _ _ hcb] at hc
   rw [hne c hcb] at hlc
   by_cases hcb':c'=b
   ·subst hcb'
    rw [hb] at hlc';cases hlc'
    exact hsep c oc lc hcb hc hlc hoc
   ·rw [yrkk _ _ hcb'] at hc'
    rw [hne c' hcb'] at hlc'
    exact hr.sep c c' oc oc' lc lc' hcc hc hc' hlc hlc' hoc hoc'
def Env.set (ι:Env) (b:Nat) (l:Loc):Env:=fun c=>if c=b then some l else ι c
theorem Env.set_same (ι:Env) (b:Nat) (l:Loc):ι.set b l b=some l:=by simp [Env.set]
theorem Env.set_ne (ι:Env) {b c:Nat} (l:Loc) (hc:c≠b):ι.set b l c=ι c:=by simp [Env.set,hc]
theorem Env.le_set {ι:Env} {b:Nat} (l:Loc) (hb:ι b=none):Env.le ι (ι.set b l):=fun c lc hc=>by
 rw [Env.set_ne];·exact hc
 ·rintro rfl;rw [hb] at hc;cases hc
theorem HRel.fresh (hr:HRel P W ι h w):∃b,2≤b∧ι b=none∧h b=none:=by
 obtain ⟨n,hn⟩:=hr.nxt
 refine ⟨max n 2,by omega,hn _ (by omega),?_⟩
 cases hh:h (max n 2) with
 | none=>rfl
 | some o =>
   obtain ⟨l,hl,_⟩:=hr.obj _ _ hh
   rw [hn _ (by omega)] at hl;cases hl
theorem yjx2 (w:World) (o:Obj) {k:Nat} (h:k<w.heap.size):(w.alloc o).heap[k]?=w.heap[k]?:=Below.heap_alloc w o k h
theorem ydd5 (w:World) (o:Obj):(w.alloc o).heap[w.heap.size]?=some o:=by
 show (w.heap.push o)[w.heap.size]?=some o
 simp
theorem HRel.new (hr:HRel P W ι h w) {b:Nat} {O:Obj} {o:AObj} {k:Nat} (h2:2≤b) (hb:ι b=none)
 (ho:ORel P W.heap.size (ι.set b ⟨w.heap.size,0,k⟩) ⟨w.heap.size,0,k⟩ (w.alloc O) o) :
 HRel P W (ι.set b ⟨w.heap.size,0,k⟩) (upd h b o) (w.alloc O):=by
 refine hr.put (Env.le_set _ hb) (Env.set_same _ _ _) (fun c hc=>Env.set_ne _ _ hc) h2 hr.below.size (by simp) (by simp) (fun c _ hc=>yjx2 w O hc) rfl rfl rfl ?_ ?_ ho
 ·intro c oc lc hc hoc hlc _ he
  have:=hr.inb c lc hlc
  simp at he;omega
 ·intro hlt;simp at hlt
theorem HRel.set (hr:HRel P W ι h w) {b:Nat} {l:Loc} {o o':AObj} (hb:h b=some o) (hl:ι b=some l) (hro:o.ro=false)
 (hsz:w'.heap.size=w.heap.size) (hkeep:∀c,c≠l.b→w'.heap[c]?=w.heap[c]?) (hos:w'.os=w.os) (htape:w'.tape=w.tape) (hout:w'.output=w.output)
 (hB:W.heap.size≤l.b)
 (hmap:∀ces' clock',w'.heap[l.b]?=some (.map ces' clock')→∃ces clock,w.heap[l.b]?=some (.map ces clock)∧clock≤clock' ∧
   (clock'=clock→∀ce'∈ces'.toList,∃ce∈ces.toList,ce.born=ce'.born∧ce.key=ce'.key))
 (ho:ORel P W.heap.size ι l w' o'):HRel P W ι (upd h b o') w':=by
 have h2:2≤b:=by
  rcases Nat.lt_or_ge b 2 with hlt | hge
  ·exfalso
   have h0:=hr.z0;have h1:=hr.z1
   rcases Nat.lt_or_ge b 1 with h' | h'
   ·obtain rfl:b=0:=by omega
    rw [h0] at hl;cases hl
   ·obtain rfl:b=1:=by omega
    rw [h1] at hl;cases hl
  ·exact hge
 exact hr.put (Env.le_refl ι) hl (fun _ _=>rfl) h2 hB (by rw [hsz];exact hr.inb b l hl) (by omega) (fun c hc _=>hkeep c hc) hos htape hout
  (fun c oc lc hc hoc hlc hx=>hr.sep c b oc o lc l hc hoc hb hlc hl hx hro) (fun _=>hmap) ho
end mem
end Go.Proofs.YtnckimioabkheaaGreat.AM
set_option linter.unusedSimpArgs false
set_option linter.unusedVariables false
namespace Go.Proofs.YtnckimioabkheaaGreat.AM
open Go.RowKit
def Sim (P:Program) (W:World) (ι:Env) (s:Sem Value) (w:World) (K:Value→H→Prop):Prop :=
 ∃cv w' ι' v h',s.run P w=.ok cv w'∧Env.le ι ι'∧HRel P W ι' h' w'∧VRel ι' v cv∧K v h'
def SimU (P:Program) (W:World) (ι:Env) (s:Sem Unit) (w:World) (K:H→Prop):Prop :=
 ∃w' ι' h',s.run P w=.ok () w'∧Env.le ι ι'∧HRel P W ι' h' w'∧K h'
section
variable {P:Program} {W:World} {ι:Env} {h:H} {w:World}
theorem Sim.quiet {s:Sem Value} {K:Value→H→Prop} {cv v:Value} (hr:HRel P W ι h w) (hs:s.run P w=.ok cv w) (hv:VRel ι v cv) (hk:K v h):Sim P W ι s w K :=
 ⟨cv,w,ι,v,h,hs,Env.le_refl _,hr,hv,hk⟩
theorem y4pb (b o j:Nat):(⟨b,o,none⟩:Addr).add j=⟨b,o+j,none⟩:=by
 unfold Addr.add
 split
 ·subst_vars;rfl
 ·rfl
theorem ybjb {α:Type} (s:Sem α):∀{v:α},yl1l P s=some v→∀w,s.run P w=.ok v w:=by
 induction s with
 | pure a=>intro v hv w;simp [yl1l] at hv;subst hv;rfl
 | program k ih=>intro v hv w;simp only [yl1l] at hv;simp only [Sem.run];exact ih P hv w
 | _=>intro v hv;simp [yl1l] at hv
theorem yt1z {t:TypeId} {i:TypeInfo} (hi:P.info? t=some i) (w:World):(typeInfo t).run P w=.ok i w:=by simp [typeInfo,hi]
theorem y8gf {t:TypeId} {i:TypeInfo} (hi:P.info? t=some i) (w:World):(sizeOf t).run P w=.ok i.size w:=by simp [sizeOf,yt1z hi]
theorem yf58 {t:TypeId} {d:TypeDesc} (hd:P.underlying t=some d) (w:World):(underlying t).run P w=.ok d w:=by simp [underlying,hd]
theorem y2en {t:TypeId} {z:Value} (hz:y7rv P t=some z):selfA z=true∧(P.info? t).bind (·.zero)=some z:=by
 unfold y7rv at hz
 split at hz
 ·split at hz
  ·rename_i h;cases hz;exact ⟨h,‹_›⟩
  ·cases hz
 ·cases hz
theorem yd3r {t:TypeId} {z:Value} (hz:y7rv P t=some z) (w:World):(zeroValue t).run P w=.ok z w:=by
 have:=(y2en hz).2
 cases hi:P.info? t with
 | none=>rw [hi] at this;cases this
 | some i =>
   rw [hi] at this
   simp only [Option.bind_some] at this
   simp [zeroValue,yt1z hi,this]
theorem yo3g {t:TypeId} {ag:Bool} {n:Nat} (ht:y8c6 P t=some (ag,n)):∃i,P.info? t=some i∧i.size=n∧∀w,(isAgg t).run P w=.ok ag w:=by
 unfold y8c6 at ht
 split at ht
 ·cases ht;rename_i i fs hi hu;exact ⟨i,hi,rfl,fun w=>by simp [isAgg,yf58 hu]⟩
 ·cases ht;rename_i i a e hi hu;exact ⟨i,hi,rfl,fun w=>by simp [isAgg,yf58 hu]⟩
 ·rename_i i d h1 h2 hi hu
  cases ht;refine ⟨i,hi,rfl,fun w=>?_⟩
  simp only [isAgg,Sem.run_bind,yf58 hu,Result.andThen_ok]
  first
   | rfl
   | (split
      ·exact absurd rfl (h1 _)
      ·exact absurd rfl (h2 _ _)
      ·rfl)
 ·cases ht
theorem HRel.obj' (hr:HRel P W ι h w) {b:Nat} {o:AObj} {l:Loc} (hb:h b=some o) (hl:ι b=some l):ORel P W.heap.size ι l w o:=by
 obtain ⟨l',hl',ho⟩:=hr.obj b o hb
 rw [hl] at hl';cases hl';exact ho
theorem yn5v (hr:HRel P W ι h w) {b o:Nat} {v:Value} (hc:cellAt h b o=some v) {l:Loc} (hl:ι b=some l) :
 ∃v',w.cell? ⟨l.b,l.o+o,none⟩=some v'∧CRel ι v v':=by
 unfold cellAt at hc
 split at hc
 ·rename_i cs E m hb
  obtain ⟨ccs,CE,lo,hi,h1,h2,_⟩:=hr.obj' hb hl
  obtain ⟨v',h3,h4⟩:=h2 _ _ hc
  exact ⟨v',by simp [World.cell?,h1,h3],h4⟩
 ·cases hc
theorem ygvb {α β:Type} {R:α→β→Prop} (l:List α) (f:Nat→Option β):(∀ (i:Nat) (a:α),l[i]?=some a→∃b,f i=some b∧R a b) →
 ∃m:List β,All2 R l m∧∀(i:Nat) (b:β),m[i]?=some b→f i=some b:=by
 induction l generalizing f with
 | nil=>intro _;exact ⟨[],.nil,fun i b hb=>by simp at hb⟩
 | cons x l ih =>
   intro hl
   obtain ⟨b,hb,hr⟩:=hl 0 x rfl
   obtain ⟨m,h1,h2⟩:=ih (fun i=>f (i+1)) (fun i a ha=>hl (i+1) a (by simpa using ha))
   refine ⟨b::m,.cons hr h1,fun i c hc=>?_⟩
   cases i with
   | zero=>simp at hc;subst hc;exact hb
   | succ i=>exact h2 i c (by simpa using hc)
theorem yvqe (hr:HRel P W ι h w) {b o n:Nat} {vs:List Value} (hc:cellsAt h b o n=some vs) {l:Loc} (hl:ι b=some l) :
 ∃vs':List Value,All2 (CRel ι) vs vs'∧vs.length=n∧∀(j:Nat) (u:Value),vs'[j]?=some u→w.cell? ((⟨l.b,l.o+o,none⟩:Addr).add j)=some u:=by
 unfold cellsAt at hc
 split at hc
 ·rename_i cs E m hb
  split at hc
  ·rename_i hlen
   cases hc
   obtain ⟨ccs,CE,lo,hi,h1,h2,_⟩:=hr.obj' hb hl
   obtain ⟨m,hm1,hm2⟩:=ygvb (R:=CRel ι) ((cs.drop o).take n) (fun j=>ccs[l.o+(o+j)]?) (fun i a ha=>by
    have ha':cs[o+i]?=some a:=by
     rw [List.getElem?_take] at ha
     split at ha
     ·simpa using ha
     ·cases ha
    exact h2 _ _ ha')
   refine ⟨m,hm1,by simp;omega,fun j u hu=>?_⟩
   rw [y4pb,Nat.add_assoc]
   simp only [World.cell?,h1,Option.isSome_none,Bool.false_eq_true,if_false]
   exact hm2 j u hu
  ·cases hc
 ·cases hc
theorem y88f {t:TypeId} {ag:Bool} {n:Nat} {a ca:Value} {K:Value→H→Prop} (ht:y8c6 P t=some (ag,n)) (hr:HRel P W ι h w) (ha:VRel ι a ca)
 (hk:ysm8 ag n a h fun v=>K v h):Sim P W ι (Instr.loadAt t ca) w K:=by
 obtain ⟨i,hi,hn,hag⟩:=yo3g ht
 unfold ysm8 at hk
 split at hk
 ·rename_i b o
  obtain ⟨l,hl,rfl⟩:=ha.ptr
  cases ag with
  | true =>
    simp only [cond_true] at hk
    split at hk
    ·rename_i vs hvs
     obtain ⟨vs',h1,h2,h3⟩:=yvqe hr hvs hl
     refine Sim.quiet (cv:=.agg vs'.toArray) (v:=.agg vs.toArray) hr ?_ (.a (.agg h1)) hk
     have:=run_loadCells_list (P:=P) w ⟨l.b,l.o+o,none⟩ vs' h3
     rw [← h1.length,h2] at this
     simp [Instr.loadAt,Instr.sureAddr,loadVar,hag,y8gf hi,hn,this]
    ·exact hk.elim
  | false =>
    simp only [cond_false] at hk
    split at hk
    ·rename_i v hv
     obtain ⟨v',h1,h2⟩:=yn5v hr hv hl
     exact Sim.quiet (cv:=v') (v:=v) hr (by simp [Instr.loadAt,Instr.sureAddr,loadVar,hag,h1]) (.a (.c h2)) hk
    ·exact hk.elim
 ·exact hk.elim
def yoko (w:World) (b:Nat) (O:Obj):World:={ w with heap:=w.heap.setIfInBounds b O }
theorem ysux (w:World) {b:Nat} (O:Obj) (hb:b<w.heap.size):(yoko w b O).heap[b]?=some O:=by simp [yoko,hb]
theorem yp0x (w:World) {b c:Nat} (O:Obj) (hc:c≠b):(yoko w b O).heap[c]?=w.heap[c]?:=by
 simp [yoko,Array.getElem?_setIfInBounds_ne (Ne.symm hc)]
theorem ynhg (w:World) (b:Nat) (O:Obj):(yoko w b O).heap.size=w.heap.size:=by simp [yoko]
theorem y7di (w:World) (b:Nat) (O O':Obj):yoko (yoko w b O) b O'=yoko w b O':=by simp [yoko]
theorem yr56 {b o:Nat} {ccs:Array Value} {CE:TypeId} {fz:Nat×Nat} (v:Value) (hb:w.heap[b]?=some (.cells ccs CE fz)) :
 w.setCell ⟨b,o,none⟩ v=yoko w b (.cells (ccs.setIfInBounds o v) CE fz):=by
 have hlt:b<w.heap.size:=(Array.getElem?_eq_some_iff.1 hb).1
 simp only [World.setCell,yoko]
 congr 1
 apply Array.ext_getElem?
 intro i
 rw [Array.getElem?_modify,Array.getElem?_setIfInBounds]
 by_cases hi:b=i
 ·subst hi;simp only [if_true,hb,Option.map_some,hlt];simp
 ·simp [hi]
theorem ys8k (P:Program) (b o:Nat) (CE:TypeId) (lo hi:Nat):∀(vs:List Value) (i:Nat) (ccs:Array Value) (w:World),
 w.heap[b]?=some (.cells ccs CE (lo,hi))→o+i+vs.length≤ccs.size→(∀ j,j<ccs.size→¬(lo≤j∧j<hi))→(∀ v∈vs,v.oneCell'=true) →
 (storeCells ⟨b,o,none⟩ vs i).run P w=.ok () (if vs=[] then w else yoko w b (.cells (setL ccs.toList (o+i) vs).toArray CE (lo,hi)))
 | [],i,ccs,w,_,_,_,_=>by simp [storeCells]
 | v::vs,i,ccs,w,hb,hlen,hfz,h1=>by
   simp only [List.length_cons] at hlen
   have hlt:b<w.heap.size:=(Array.getElem?_eq_some_iff.1 hb).1
   have hc:w.cell? ⟨b,o+i,none⟩=some (ccs[o+i]'(by omega)):=by simp [World.cell?,hb]
   have hf:w.frozen? ⟨b,o+i,none⟩=false:=by
    simp only [World.frozen?,hb]
    have:=hfz (o+i) (by omega)
    simp only [Bool.and_eq_false_iff,decide_eq_false_iff_not]
    omega
   have hs:=yr56 (o:=o+i) v hb
   have hb':(yoko w b (.cells (ccs.setIfInBounds (o+i) v) CE (lo,hi))).heap[b]?=some (.cells (ccs.setIfInBounds (o+i) v) CE (lo,hi)):=ysux w _ hlt
   have ih:=ys8k P b o CE lo hi vs (i+1) (ccs.setIfInBounds (o+i) v) (yoko w b (.cells (ccs.setIfInBounds (o+i) v) CE (lo,hi))) hb' (by simp;omega) (by simpa using hfz) (fun u hu=>h1 u (by simp [hu]))
   simp only [storeCells,Sem.run_bind,y4pb,run_store P w ⟨b,o+i,none⟩ v _ (h1 v (by simp)),hc,hf,Bool.false_eq_true,if_false,Result.andThen_ok,hs,ih]
   congr 1
   rw [if_neg (by simp:¬(v::vs=[]))]
   by_cases he:vs=[]
   ·subst he
    have e:ccs.setIfInBounds (o+i) v=(ccs.toList.set (o+i) v).toArray:=by apply Array.ext';simp
    simp [setL,e]
   ·simp [he,y7di,setL,Nat.add_assoc]
theorem yanj (vs:List Value):∀(cs:List Value) (o:Nat),(setL cs o vs).length=cs.length:=by
 induction vs with
 | nil=>intro cs o;rfl
 | cons v vs ih=>intro cs o;simp [setL,ih]
theorem yb25 (vs:List Value):∀(cs:List Value) (o i:Nat),o+vs.length≤cs.length→(setL cs o vs)[i]?=if o≤i∧i<o+vs.length then vs[i-o]? else cs[i]?:=by
 induction vs with
 | nil=>intro cs o i _;simp [setL];intro h1 h2;omega
 | cons v vs ih =>
   intro cs o i hl
   simp only [List.length_cons] at hl
   simp only [setL,ih (cs.set o v) (o+1) i (by simp;omega),List.length_cons]
   by_cases h1:o+1≤i∧i<o+1+vs.length
   ·rw [if_pos h1,if_pos (by omega),show i-o=(i-(o+1))+1 by omega];simp
   ·rw [if_neg h1]
    by_cases h2:i=o
    ·subst h2;rw [if_pos (by omega)];simp;rw [List.getElem?_set];simp;omega
    ·rw [if_neg (by omega),List.getElem?_set];simp [Ne.symm h2]
theorem yke9 {B:Nat} {l:Loc} {cs vs vs':List Value} {E:TypeId} {m:Own} {o:Nat} {ccs:Array Value} {CE:TypeId} {lo hi:Nat} {w':World}
 (h2:∀(i:Nat) (v:Value),cs[i]?=some v→∃v',ccs[l.o+i]?=some v'∧CRel ι v v')
 (h3:(m=.ro→l.b<B)∧(m≠.ro→B≤l.b∧∀i,i<ccs.size→¬(lo≤i∧lo≠hi))∧(m≠.open→l.k=0)∧(m=.open→l.o+cs.length+l.k*szOf P E≤ccs.size))
 (hv:All2 (CRel ι) vs vs') (hlen:o+vs.length≤cs.length) (hlen':l.o+o+vs.length≤ccs.size)
 (hw:w'.heap[l.b]?=some (.cells (setL ccs.toList (l.o+o) vs').toArray CE (lo,hi))) :
 ORel P B ι l w' (.cells (setL cs o vs) E m):=by
 have hvl:=hv.length
 refine ⟨_,CE,lo,hi,hw,?_,h3.1,fun hm=>⟨(h3.2.1 hm).1,fun i hi=>(h3.2.1 hm).2 i (by simpa [yanj] using hi)⟩,h3.2.2.1,fun hm=>by rw [yanj];simpa [yanj] using h3.2.2.2 hm⟩
 intro i v hi'
 rw [yb25 _ _ _ _ hlen] at hi'
 simp only [List.getElem?_toArray]
 rw [yb25 _ _ _ _ (by simp;omega)]
 by_cases hin:o≤i∧i<o+vs.length
 ·rw [if_pos hin] at hi'
  obtain ⟨v',ha,hc⟩:=hv.get hi'
  refine ⟨v',?_,hc⟩
  rw [if_pos (by omega),show l.o+i-(l.o+o)=i-o by omega]
  exact ha
 ·rw [if_neg hin] at hi'
  obtain ⟨v',ha,hc⟩:=h2 i v hi'
  refine ⟨v',?_,hc⟩
  rw [if_neg (by omega)]
  simpa using ha
theorem ywv1 (hr:HRel P W ι h w) {b o:Nat} {cs vs vs':List Value} {E:TypeId} {m:Own} {l:Loc} (hb:h b=some (.cells cs E m)) (hl:ι b=some l) (hm:m≠.ro)
 (hv:All2 (CRel ι) vs vs') (hlen:o+vs.length≤cs.length) :
 ∃w',(storeCells ⟨l.b,l.o+o,none⟩ vs').run P w=.ok () w'∧HRel P W ι (upd h b (.cells (setL cs o vs) E m)) w':=by
 obtain ⟨ccs,CE,lo,hi,h1,h2,h3⟩:=hr.obj' hb hl
 have hlt:l.b<w.heap.size:=(Array.getElem?_eq_some_iff.1 h1).1
 by_cases h0:vs=[]
 ·subst h0
  cases hv
  have e:upd h b (.cells (setL cs o []) E m)=h:=by
   funext c;unfold upd;split
   ·subst_vars;exact hb.symm
   ·rfl
  exact ⟨w,by simp [storeCells],by rw [e];exact hr⟩
 have hlen':l.o+o+vs.length≤ccs.size:=by
  have hpos:0<vs.length:=List.length_pos_iff.2 h0
  have:cs[o+vs.length-1]?=some (cs[o+vs.length-1]'(by omega)):=List.getElem?_eq_getElem _
  obtain ⟨v',hv',_⟩:=h2 _ _ this
  have:=(Array.getElem?_eq_some_iff.1 hv').1
  omega
 have hrun:=ys8k P l.b (l.o+o) CE lo hi vs' 0 ccs w h1 (by rw [← hv.length];omega) (fun j hj hq=>(h3.2.1 hm).2 j hj ⟨hq.1,by omega⟩) (fun v hv'=>by
  obtain ⟨i,hi',hget⟩:=List.mem_iff_getElem.1 hv'
  obtain ⟨u,_,hu⟩:=hv.get' (show vs'[i]?=some v by rw [List.getElem?_eq_getElem hi',hget])
  exact hu.one)
 refine ⟨_,hrun,?_⟩
 have he:vs'≠[]:=by intro he;subst he;cases hv;exact h0 rfl
 rw [if_neg he]
 ·refine hr.set hb hl (by cases m <;> first | rfl | exact absurd rfl hm) (ynhg _ _ _) (fun c hc=>yp0x _ _ hc) rfl rfl rfl (h3.2.1 hm).1 ?_ ?_
  ·intro ces' clock' hc;rw [ysux _ _ hlt] at hc;cases hc
  ·exact yke9 (P:=P) h2 h3 hv hlen hlen' (by rw [ysux _ _ hlt,Nat.add_zero])
end
end Go.Proofs.YtnckimioabkheaaGreat.AM
set_option linter.unusedSimpArgs false
set_option linter.unusedVariables false
namespace Go.Proofs.YtnckimioabkheaaGreat.AM
open Go.RowKit
section
variable {P:Program} {W:World} {ι:Env} {h:H} {w:World}
theorem yxsq {t:TypeId} {ag:Bool} {n:Nat} {a ca v cv:Value} {K:H→Prop} (ht:y8c6 P t=some (ag,n)) (hr:HRel P W ι h w) (ha:VRel ι a ca) (hv:VRel ι v cv)
 (hk:yxd5 n a v h K):SimU P W ι (Instr.storeAt t ca cv) w K:=by
 obtain ⟨i,hi,hn,_⟩:=yo3g ht
 unfold yxd5 at hk
 split at hk
 ·rename_i b o
  obtain ⟨l,hl,rfl⟩:=ha.ptr
  split at hk
  ·rename_i cs E m hb
   obtain ⟨hm,hbox,hsz,hlen,hk⟩:=hk
   have hva:=hv.toA hbox
   have hsz':=hva.size
   obtain ⟨w',hs,hr'⟩:=ywv1 (P:=P) hr hb hl hm hva.cells (o:=o) (by simpa [hsz] using hlen)
   exact ⟨w',ι,_,by simp [Instr.storeAt,Instr.sureAddr,storeVar,y8gf hi,hn,hsz',hsz,hs],Env.le_refl _,hr',hk⟩
  ·exact hk.elim
 ·exact hk.elim
theorem yu2s {B:Nat} {cs cs' rest:List Value} {E:TypeId} {m:Own} {k b:Nat} (hm:m≠.ro) (hB:B≤b) {ι':Env}
 (hc:All2 (CRel ι') cs cs') (hk:m≠.open→k=0) (hk':m=.open→rest.length=k*szOf P E) {w':World} (hw:w'.heap[b]?=some (.cells (cs'++rest).toArray E (0,0))) :
 ORel P B ι' ⟨b,0,k⟩ w' (.cells cs E m):=by
 have hl:=hc.length
 refine ⟨_,E,0,0,hw,?_,fun he=>absurd he hm,fun _=>⟨hB,fun i _=>by omega⟩,hk,fun he=>?_⟩
 ·intro i v hi
  obtain ⟨v',h1,h2⟩:=hc.get hi
  refine ⟨v',?_,h2⟩
  have hlt:i<cs'.length:=(List.getElem?_eq_some_iff.1 h1).1
  simp only [Nat.zero_add,List.getElem?_toArray]
  rw [List.getElem?_append_left hlt];exact h1
 ·have:=hk' he
  simp;omega
theorem y30p (hr:HRel P W ι h w) {cs cs' rest:List Value} {E:TypeId} {m:Own} {k:Nat} (hm:m≠.ro) (hc:All2 (CRel ι) cs cs') (hk:m≠.open→k=0) (hk':m=.open→rest.length=k*szOf P E)
 {K:Nat→H→Prop} (ho:o_new cs E m h K) :
 ∃b ι',Env.le ι ι'∧ι' b=some ⟨w.heap.size,0,k⟩∧HRel P W ι' (upd h b (.cells cs E m)) (w.alloc (.cells (cs'++rest).toArray E))∧K b (upd h b (.cells cs E m)):=by
 obtain ⟨b,h2,hb,hhb⟩:=hr.fresh
 refine ⟨b,ι.set b ⟨w.heap.size,0,k⟩,Env.le_set _ hb,Env.set_same _ _ _,?_,ho b h2 hhb⟩
 refine hr.new h2 hb ?_
 exact yu2s hm hr.below.size (hc.mono fun _ _ h=>h.mono (Env.le_set _ hb)) hk hk' (ydd5 w _)
theorem ylry {s:Sem Value} (hr:HRel P W ι h w) {cs cs':List Value} {E:TypeId} {m:Own} (hm:m≠.ro) (hc:All2 (CRel ι) cs cs') {K:Value→H→Prop} {f:Addr→Value} {g:Nat→Value}
 (hs:s.run P w=.ok (f ⟨w.heap.size,0,none⟩) (w.alloc (.cells cs'.toArray E))) (hfg:∀b (ι':Env),Env.le ι ι'→ι' b=some ⟨w.heap.size,0,0⟩→VRel ι' (g b) (f ⟨w.heap.size,0,none⟩))
 (ho:o_new cs E m h fun b h=>K (g b) h):Sim P W ι s w K:=by
 obtain ⟨b,ι',h1,h2,h3,h4⟩:=y30p (rest:=[]) (k:=0) hr hm hc (fun _=>rfl) (fun _=>by simp) ho
 refine ⟨_,_,ι',g b,_,hs,h1,?_,hfg b ι' h1 h2,h4⟩
 simpa using h3
theorem yljr (hr:HRel P W ι h w) {O:Obj} {o:AObj} {K:Nat→H→Prop}
 (ho':∀b,ORel P W.heap.size (ι.set b ⟨w.heap.size,0,0⟩) ⟨w.heap.size,0,0⟩ (w.alloc O) o∨ι b≠none) (ho:yp8q o h K) :
 ∃b ι',Env.le ι ι'∧ι' b=some ⟨w.heap.size,0,0⟩∧HRel P W ι' (upd h b o) (w.alloc O)∧K b (upd h b o):=by
 obtain ⟨b,h2,hb,hhb⟩:=hr.fresh
 refine ⟨b,ι.set b ⟨w.heap.size,0,0⟩,Env.le_set _ hb,Env.set_same _ _ _,?_,ho b h2 hhb⟩
 exact hr.new h2 hb ((ho' b).resolve_right (by simp [hb]))
theorem y09c {ι':Env} {b n k:Nat} (hb:ι' b=some ⟨n,0,k⟩):VRel ι' (.pointer (some ⟨b,0,none⟩)) (.pointer (some ⟨n,0,none⟩)):=by
 have:=SRel.ptr (o:=0) hb
 exact .a (.c (.s this))
theorem y2dw {ι':Env} {b n k len:Nat} (hb:ι' b=some ⟨n,0,k⟩):VRel ι' (.slice (some ⟨b,0,none⟩) len len) (.slice (some ⟨n,0,none⟩) len (len+k)):=by
 have:=SRel.slice (o:=0) (n:=len) (c:=len) hb
 exact .a (.c (.s this))
theorem ydon {E:TypeId} {z:Value} {K:Value→H→Prop} (hz:y7rv P E=some z) (hr:HRel P W ι h w)
 (hk:o_new z.cells.toList E .exact h fun b h=>K (.pointer (some ⟨b,0,none⟩)) h):Sim P W ι (Instr.alloc E true (.tuple #[])) w K:=by
 have hc:All2 (CRel ι) z.cells.toList z.cells.toList:=(arel_self (ι:=ι) (y2en hz).1).cells
 refine ylry (cs':=z.cells.toList) (f:=fun a=>.pointer (some a)) (g:=fun b=>.pointer (some ⟨b,0,none⟩)) hr (by simp) hc ?_ (fun b ι' _ hb=>y09c hb) hk
 simp [Instr.alloc,yd3r hz,newVar,newRow]
theorem yqtc {E:TypeId} {v cv:Value} {K:Value→H→Prop} (hr:HRel P W ι h w) (hv:VRel ι v cv) (hbox:boxV v=true)
 (hk:o_new v.cells.toList E .exact h fun b h=>K (.pointer (some ⟨b,0,none⟩)) h):Sim P W ι (Instr.box E cv) w K:=by
 refine ylry (cs':=cv.cells.toList) (f:=fun a=>.pointer (some a)) (g:=fun b=>.pointer (some ⟨b,0,none⟩)) hr (by simp) (hv.toA hbox).cells ?_ (fun b ι' _ hb=>y09c hb) hk
 simp [Instr.box,newVar,newRow]
theorem ydgc {x cx:Value} {K:Value→H→Prop} (hx:VRel ι x cx) (hk:yf21 x fun v=>K v h) :
 ∃v,VRel ι v cx∧K v h∧(∀ m a b,cx≠.func (.method m) a b)∧cx≠.pointer none∧cx≠.nilIface∧cx≠.nilFunc:=by
 unfold yf21 at hk
 split at hk
 ·refine ⟨_,hx,hk,?_⟩
  have hc:=hx.cell rfl
  cases hc with
  | s hx=>cases hx;simp
 ·refine ⟨_,hx,hk,?_⟩
  have hc:=hx.cell rfl
  cases hc with
  | s hx=>cases hx
  | func f a b=>simp
 ·refine ⟨_,hx,hk,?_⟩
  have hc:=hx.cell rfl
  cases hc with
  | s hx=>cases hx
  | yield a=>simp
 ·exact hk.elim
theorem yc0j {s:TypeId} {f off:Nat} {ft:TypeId} (hf:yw2z P s f=some (off,ft)) :
 ∃fs fd,P.underlying s=some (.struct fs)∧fs[f]?=some fd∧fd.offset=off∧fd.type=ft:=by
 unfold yw2z at hf
 split at hf
 ·rename_i fs hu
  split at hf
  ·rename_i fd hfd
   cases hf
   exact ⟨fs,fd,hu,hfd,rfl,rfl⟩
  ·cases hf
 ·cases hf
theorem y1vk {s:TypeId} {f off:Nat} {ft:TypeId} {x cx:Value} {K:Value→H→Prop} (hf:yw2z P s f=some (off,ft)) (hne:szOf P ft≠0) (hr:HRel P W ι h w) (hx:VRel ι x cx)
 (hk:yokc off x fun v=>K v h):Sim P W ι (Instr.fieldAt s cx f) w K:=by
 obtain ⟨fs,fd,hu,hfd,rfl,rfl⟩:=yc0j hf
 unfold yokc at hk
 split at hk
 ·rename_i b o
  obtain ⟨l,hl,rfl⟩:=hx.ptr
  cases hi:P.info? fd.type with
  | none=>simp [szOf,hi] at hne
  | some i =>
    have hi0:i.size≠0:=by simpa [szOf,hi] using hne
    refine Sim.quiet (cv:=.pointer (some ⟨l.b,l.o+o+fd.offset,none⟩)) hr ?_ ?_ hk
    ·simp [Instr.fieldAt,yf58 hu,hfd,Instr.sureAddr,fieldPlace,y8gf hi,hi0,y4pb]
    ·have:=SRel.ptr (ι:=ι) (o:=o+fd.offset) hl
     rw [← Nat.add_assoc] at this
     exact .a (.c (.s this))
 ·exact hk.elim
theorem yd7v {xs ys:Array Value} {R:Value→Value→Prop} (h:All2 R xs.toList ys.toList) (a b:Nat):All2 R (xs.extract a b).toList (ys.extract a b).toList:=by
 simp only [Array.toList_extract]
 exact (h.drop _).take _
theorem y5yy {ag:Bool} {n off:Nat} {xs ys:Array Value} {v:Value} {t:TypeId} (ht:y8c6 P t=some (ag,n)) (h:All2 (CRel ι) xs.toList ys.toList) (hp:y042 ag n off xs=some v) (w:World) :
 ∃cv,(part t ys off).run P w=.ok cv w∧VRel ι v cv:=by
 obtain ⟨i,hi,hn,hag⟩:=yo3g ht
 have hlen:ys.size=xs.size:=by simpa using h.length.symm
 unfold y042 at hp
 cases ag with
 | true =>
   simp only [cond_true] at hp
   split at hp
   ·cases hp
    exact ⟨_,by simp [part,hag,y8gf hi,hn],.a (.agg (yd7v h _ _))⟩
   ·cases hp
 | false =>
   simp only [cond_false] at hp
   obtain ⟨cv,h1,h2⟩:=h.get (i:=off) (a:=v) (by simpa using hp)
   have h1':ys[off]?=some cv:=by simpa using h1
   exact ⟨cv,by simp [part,hag,h1'],.a (.c h2)⟩
theorem y76h {s:TypeId} {f off:Nat} {ft:TypeId} {ag:Bool} {n:Nat} {x cx:Value} {K:Value→H→Prop} (hf:yw2z P s f=some (off,ft)) (ht:y8c6 P ft=some (ag,n)) (hr:HRel P W ι h w) (hx:VRel ι x cx)
 (hk:ygzh ag n off x fun v=>K v h):Sim P W ι (Instr.field s cx f) w K:=by
 obtain ⟨fs,fd,hu,hfd,rfl,rfl⟩:=yc0j hf
 unfold ygzh at hk
 split at hk
 ·obtain ⟨ys,rfl,hys⟩:=hx.agg
  split at hk
  ·rename_i v hv
   obtain ⟨cv,h1,h2⟩:=y5yy ht hys hv w
   exact Sim.quiet hr (by simp [Instr.field,yf58 hu,hfd,asAgg,h1]) h2 hk
  ·exact hk.elim
 ·exact hk.elim
theorem VRel.slice {b o n c:Nat} {v':Value} (h:VRel ι (.slice (some ⟨b,o,none⟩) n c) v') :
 (∃ l,ι b=some l∧v'=.slice (some ⟨l.b,l.o+o,none⟩) n (c+l.k))∨(n=0∧c=0∧b=0∧o=0∧∃a,v'=.slice (some a) 0 0)∨(n=0∧c=0∧b=1∧o=0∧∃a c',v'=.slice (some a) 0 c'):=by
 cases h with | a h=>cases h with | c h=>cases h with | s h=>cases h with
  | slice h=>exact .inl ⟨_,h,rfl⟩
  | empty0 a=>exact .inr (.inl ⟨rfl,rfl,rfl,rfl,a,rfl⟩)
  | empty1 a c=>exact .inr (.inr ⟨rfl,rfl,rfl,rfl,a,c,rfl⟩)
theorem yyvk {t e:TypeId} {x cx i ci:Value} {K:Value→H→Prop} {inf:TypeInfo} (hu:P.underlying t=some (.slice e)) (hi:P.info? e=some inf) (hr:HRel P W ι h w) (hx:VRel ι x cx) (hix:VRel ι i ci)
 (hk:ys75 none inf.size x i fun v=>K v h):Sim P W ι (Instr.indexAt t cx ci) w K:=by
 unfold ys75 at hk
 split at hk
 ·rename_i k j b o n c _
  obtain rfl:=hix.int
  obtain ⟨h0,h1,hk⟩:=hk
  rcases hx.slice with ⟨l,hl,rfl⟩ | ⟨rfl,_⟩ | ⟨rfl,_⟩
  ·refine Sim.quiet (cv:=.pointer (some ⟨l.b,l.o+o+j.toNat*inf.size,none⟩)) hr ?_ ?_ hk
   ·simp [Instr.indexAt,asIntOf,yf58 hu,h0,h1,y8gf hi,y4pb]
   ·have:=SRel.ptr (ι:=ι) (o:=o+j.toNat*inf.size) hl
    rw [← Nat.add_assoc] at this
    exact .a (.c (.s this))
  ·omega
  ·omega
 ·simp_all
 ·exact hk.elim
theorem yw96 {t e:TypeId} {n:Nat} {x cx i ci:Value} {K:Value→H→Prop} {inf:TypeInfo} (hu:P.underlying t=some (.array n e)) (hi:P.info? e=some inf) (hr:HRel P W ι h w) (hx:VRel ι x cx) (hix:VRel ι i ci)
 (hk:ys75 (some n) inf.size x i fun v=>K v h):Sim P W ι (Instr.indexAt t cx ci) w K:=by
 unfold ys75 at hk
 split at hk
 ·simp_all
 ·rename_i k j n' b o he
  have he':n=n':=by simpa using he
  subst he'
  obtain rfl:=hix.int
  obtain ⟨h0,h1,hk⟩:=hk
  obtain ⟨l,hl,rfl⟩:=hx.ptr
  refine Sim.quiet (cv:=.pointer (some ⟨l.b,l.o+o+j.toNat*inf.size,none⟩)) hr ?_ ?_ hk
  ·simp [Instr.indexAt,asIntOf,yf58 hu,h0,h1,y8gf hi,y4pb,Instr.sureAddr]
  ·have:=SRel.ptr (ι:=ι) (o:=o+j.toNat*inf.size) hl
   rw [← Nat.add_assoc] at this
   exact .a (.c (.s this))
 ·exact hk.elim
theorem y65h {t e:TypeId} {n sz:Nat} {ag:Bool} {x cx i ci:Value} {K:Value→H→Prop} (hu:P.underlying t=some (.array n e)) (ht:y8c6 P e=some (ag,sz)) (hr:HRel P W ι h w) (hx:VRel ι x cx) (hix:VRel ι i ci)
 (hk:y7od false n ag sz x i fun v=>K v h):Sim P W ι (Instr.index t cx ci) w K:=by
 obtain ⟨inf,hi,hn,hag⟩:=yo3g ht
 unfold y7od at hk
 split at hk
 ·rename_i k j cs
  obtain rfl:=hix.int
  obtain ⟨ys,rfl,hys⟩:=hx.agg
  obtain ⟨_,h0,h1,hk⟩:=hk
  split at hk
  ·rename_i v hv
   obtain ⟨cv,h2,h3⟩:=y5yy ht hys hv w
   exact Sim.quiet hr (by simp [Instr.index,asIntOf,yf58 hu,h0,h1,y8gf hi,hn,h2]) h3 hk
  ·exact hk.elim
 ·exact absurd hk.1 (by simp)
 ·exact hk.elim
theorem y0am {t:TypeId} {n sz:Nat} {ag:Bool} {x cx i ci:Value} {K:Value→H→Prop} (hu:P.underlying t=some .string) (hr:HRel P W ι h w) (hx:VRel ι x cx) (hix:VRel ι i ci)
 (hk:y7od true n ag sz x i fun v=>K v h):Sim P W ι (Instr.index t cx ci) w K:=by
 unfold y7od at hk
 split at hk
 ·exact absurd hk.1 (by simp)
 ·rename_i k j s
  obtain rfl:=hix.int
  obtain rfl:=hx.string
  obtain ⟨_,h0,hk⟩:=hk
  split at hk
  ·rename_i c hc
   exact Sim.quiet hr (by simp [Instr.index,asIntOf,yf58 hu,h0,hc]) (ywzo rfl) hk
  ·exact hk.elim
 ·exact hk.elim
theorem yt5f {x cx:Value} {i:Nat} {K:Value→H→Prop} (hr:HRel P W ι h w) (hx:VRel ι x cx) (hk:ychn x i fun v=>K v h):Sim P W ι (Instr.extract cx i) w K:=by
 unfold ychn at hk
 split at hk
 ·rename_i vs
  obtain ⟨vs',rfl,hvs⟩:=hx.tup
  split at hk
  ·rename_i v hv
   obtain ⟨cv,h1,h2⟩:=hvs.get (i:=i) (a:=v) (by simpa using hv)
   have h1':vs'[i]?=some cv:=by simpa using h1
   exact Sim.quiet hr (by simp [Instr.extract,h1']) (.a h2) hk
  ·exact hk.elim
 ·exact hk.elim
theorem y6p9 {s:Sem Value} {K:Value→H→Prop} (hr:HRel P W ι h w) (hk:yejp (yl1l P s) fun v=>K v h):Sim P W ι s w K:=by
 unfold yejp at hk
 split at hk
 ·rename_i v hv
  cases hs:selfV v with
  | true=>rw [hs,cond_true] at hk;exact Sim.quiet hr (ybjb _ hv w) (ywzo hs) hk
  | false=>rw [hs,cond_false] at hk;exact hk.elim
 ·exact hk.elim
theorem VRel.ptrAny {a:Option Addr} {v':Value} (h:VRel ι (.pointer a) v'):∃a',v'=.pointer a'∧a'.isNone=a.isNone:=by
 have hc:=h.cell rfl
 cases hc with | s hc=>cases hc <;> exact ⟨_,rfl,rfl⟩
theorem VRel.sliceAny {a:Option Addr} {n c:Nat} {v':Value} (h:VRel ι (.slice a n c) v'):∃a' n' c',v'=.slice a' n' c'∧n'=n∧a'.isNone=a.isNone:=by
 have hc:=h.cell rfl
 cases hc with | s hc=>cases hc <;> exact ⟨_,_,_,rfl,rfl,rfl⟩
theorem VRel.mapAny {a:Option Nat} {v':Value} (h:VRel ι (.map a) v'):∃a',v'=.map a'∧a'.isNone=a.isNone:=by
 have hc:=h.cell rfl
 cases hc with | s hc=>cases hc <;> exact ⟨_,rfl,rfl⟩
theorem VRel.funcAny {f:Fn} {a b:Array Value} {v':Value} (h:VRel ι (.func f a b) v'):∃f' a' b',v'=.func f' a' b':=by
 have hc:=h.cell rfl
 cases hc with
 | s hc=>cases hc
 | func f a b=>exact ⟨_,_,_,rfl⟩
 | yield a=>exact ⟨_,_,_,rfl⟩
theorem yvj4 {op:BinOp} {xt:TypeId} {xo yo:Operand} {x y cx cy:Value} {K:Value→H→Prop} (hr:HRel P W ι h w) (hx:VRel ι x cx) (hy:VRel ι y cy)
 (hk:o_bin P op xt x y fun v=>K v h):Sim P W ι (do eqGuard op xt xo yo cx cy;binOp op xt cx cy) w K:=by
 unfold o_bin at hk
 cases hs:(selfV x&&selfV y&&okEq P op xt x y) with
 | true =>
   rw [hs,cond_true] at hk
   simp only [Bool.and_eq_true] at hs
   obtain rfl:=ylf2 hs.1.1 hx
   obtain rfl:=ylf2 hs.1.2 hy
   have hg:∀w,(eqGuard op xt xo yo cx cy).run P w=.ok () w:=by
    intro w
    have h3:=hs.2
    unfold okEq at h3
    unfold eqGuard
    cases op with
    | eql =>
      simp only at h3
      split at h3
      ·cases h3
      ·simp only [Bool.not_eq_true'] at h3
       simp [h3]
      ·simp
    | neq =>
      simp only at h3
      split at h3
      ·cases h3
      ·simp only [Bool.not_eq_true'] at h3
       simp [h3]
      ·simp
    | _=>rfl
   have hp:Sim P W ι (binOp op xt cx cy) w K:=y6p9 hr hk
   obtain ⟨cv,w',ι',v,h',q1,q2⟩:=hp
   exact ⟨cv,w',ι',v,h',by simp only [Sem.run_bind,hg,Result.andThen_ok,q1],q2⟩
 | false =>
   rw [hs,cond_false] at hk
   have eqg:∀(o:BinOp) (a b:Value),(∀ cs,a≠.agg cs)→a≠.nilIface→((eqGuard o xt xo yo a b).run P w=.ok () w):=by
    intro o a b h1 h2
    cases a <;> first
     | exact absurd rfl h2
     | exact absurd rfl (h1 _)
     | (cases o <;> rfl)
   have hall:∀(d:TypeDesc) (a b:Value) (r:Bool),(∀ cs,a≠.agg cs)→a≠.nilIface→(Op.equalIn (9999+1) xt a b).run P w=.ok r w →
    ((binOp .eql xt a b)=(do pure (.bool (← Op.equal xt a b))))→((binOp .neq xt a b)=(do pure (.bool (!(← Op.equal xt a b))))) →
    ((do eqGuard .eql xt xo yo a b;binOp .eql xt a b:Sem Value).run P w=.ok (.bool r) w)∧((do eqGuard .neq xt xo yo a b;binOp .neq xt a b:Sem Value).run P w=.ok (.bool (!r)) w):=by
    intro d a b r h1 h2 he e1 e2
    have he':(Op.equal xt a b).run P w=.ok r w:=he
    rw [e1,e2]
    simp only [Sem.run_bind,eqg _ _ _ h1 h2,Result.andThen_ok,he',Sem.run_pure,and_self]
   split at hk
   all_goals first
    | exact hk.elim
    | (rename_i hu
       obtain ⟨a',rfl,ha'⟩:=hx.ptrAny
       obtain rfl:cy=.pointer none:=ylf2 rfl hy
       have he:(Op.equalIn (9999+1) xt (.pointer a') (.pointer none)).run P w=.ok a'.isNone w:=by
        rw [Op.equalIn];simp only [Sem.run_bind,yf58 hu,Result.andThen_ok];cases a' <;> rfl
       have hb:=hall (.pointer 0) (.pointer a') (.pointer none) _ (by simp) (by simp) he rfl rfl
       rw [ha'] at hb
       first
        | exact Sim.quiet hr hb.1 (ywzo rfl) hk
        | exact Sim.quiet hr hb.2 (ywzo rfl) hk)
    | (rename_i hu
       obtain ⟨a',n1,c',rfl,_,ha'⟩:=hx.sliceAny
       obtain ⟨b',n2,d',rfl,_,hb'⟩:=hy.sliceAny
       obtain rfl:b'=none:=by simpa using hb'
       have he:∀n m,(Op.equalIn (9999+1) xt (.slice a' n c') (.slice none m d')).run P w=.ok a'.isNone w:=fun n m=>by
        rw [Op.equalIn];simp only [Sem.run_bind,yf58 hu,Result.andThen_ok];cases a' <;> rfl
       have hb:=hall (.pointer 0) (.slice a' n1 c') (.slice none n2 d') _ (by simp) (by simp) (he _ _) rfl rfl
       rw [ha'] at hb
       first
        | exact Sim.quiet hr hb.1 (ywzo rfl) hk
        | exact Sim.quiet hr hb.2 (ywzo rfl) hk)
    | (rename_i hu
       obtain ⟨a',rfl,ha'⟩:=hx.mapAny
       obtain rfl:cy=.map none:=ylf2 rfl hy
       have he:(Op.equalIn (9999+1) xt (.map a') (.map none)).run P w=.ok a'.isNone w:=by
        rw [Op.equalIn];simp only [Sem.run_bind,yf58 hu,Result.andThen_ok];cases a' <;> rfl
       have hb:=hall (.pointer 0) (.map a') (.map none) _ (by simp) (by simp) he rfl rfl
       rw [ha'] at hb
       first
        | exact Sim.quiet hr hb.1 (ywzo rfl) hk
        | exact Sim.quiet hr hb.2 (ywzo rfl) hk)
    | (rename_i hu
       obtain ⟨f',a',b',rfl⟩:=hx.funcAny
       obtain rfl:cy=.nilFunc:=ylf2 rfl hy
       have he:(Op.equalIn (9999+1) xt (.func f' a' b') .nilFunc).run P w=.ok false w:=by
        rw [Op.equalIn];simp only [Sem.run_bind,yf58 hu,Result.andThen_ok];rfl
       have hb:=hall (.pointer 0) (.func f' a' b') .nilFunc _ (by simp) (by simp) he rfl rfl
       first
        | exact Sim.quiet hr hb.1 (ywzo rfl) hk
        | exact Sim.quiet hr hb.2 (ywzo rfl) hk)
end
end Go.Proofs.YtnckimioabkheaaGreat.AM
set_option linter.unusedSimpArgs false
set_option linter.unusedVariables false
namespace Go.Proofs.YtnckimioabkheaaGreat.AM
open Go.RowKit
section
variable {P:Program} {W:World} {ι:Env} {h:H} {w:World}
def KK.desc:KK→TypeDesc
 | .int j=>.int j
 | .str=>.string
 | .bool=>.bool
theorem yxcj {kt:TypeId} {kk:KK} (hk:kkOf P kt=some kk):P.underlying kt=some kk.desc:=by
 unfold kkOf at hk
 split at hk <;> simp at hk <;> subst hk <;> assumption
theorem ylvu {kk:KK} {k:Value} (hk:kkHas kk k=true):selfC k=true:=by
 cases kk <;> cases k <;> simp_all [kkHas,selfC]
theorem y7m0 {kk:KK} {k ck:Value} (hk:kkHas kk k=true) (h:VRel ι k ck):ck=k :=
 ya6m (ylvu hk) (h.cell (by cases kk <;> cases k <;> simp_all [kkHas,cellV]))
theorem yc4x {kt:TypeId} {kk:KK} {k:Value} (hd:kkOf P kt=some kk) (hk:kkHas kk k=true) (e:Bool) (w:World):(Instr.checkKey e 10000 kt k).run P w=.ok () w:=by
 show (Instr.checkKey e (9999+1) kt k).run P w=.ok () w
 unfold Instr.checkKey
 simp only [Sem.run_bind,yf58 (yxcj hd),Result.andThen]
 cases kk <;> cases k <;> simp_all [kkHas,KK.desc]
theorem yw1n (a b:ByteArray):(a==b)=true↔a=b:=by
 obtain ⟨x⟩:=a
 obtain ⟨y⟩:=b
 constructor
 ·intro h
  have e:x=y:=by simpa using (show (x==y)=true from h)
  rw [e]
 ·intro h
  cases h
  show (x==x)=true
  simp
theorem yrhg {kk:KK} {a b:Value} (ha:kkHas kk a=true) (hb:kkHas kk b=true):keyEq a b=true↔a=b:=by
 cases kk <;> cases a <;> cases b <;> simp_all [kkHas,keyEq,yw1n]
theorem yvvd {a b:Value} (h:keyEq a b=true):a=b:=by
 cases a <;> cases b <;> simp_all [keyEq,yw1n]
theorem yq4s {kk:KK} {a b:Value} (ha:kkHas kk a=true) (hb:kkHas kk b=true):Instr.sameNow kk.desc a b=some (keyEq a b):=by
 cases kk <;> cases a <;> cases b <;> simp_all [kkHas,keyEq,Instr.sameNow,KK.desc]
theorem y9s5 {kk:KK} {a:Value} (ha:kkHas kk a=true) (n:Nat):Instr.sameBits n a a=true:=by
 cases kk <;> cases a <;> simp_all [kkHas,Instr.sameBits,yw1n]
abbrev ERel (ι:Env) (kk:KK) (e:Value×Value) (ce:MapEntry):Prop:=ce.key=e.1∧kkHas kk e.1=true∧ARel ι e.2 ce.val
theorem ymrc {kk:KK} {k:Value} (hk:kkHas kk k=true) {es:List (Value×Value)} {ces:List MapEntry} (h:All2 (ERel ι kk) es ces):∀(i:Nat),
 (mfind es k=none∧Instr.findNow kk.desc k ces i=some none∧(∀ e∈es,keyEq k e.1=false)) ∨
 (∃ (j:Nat) (e:Value×Value) (ce:MapEntry),mfind es k=some e.2∧Instr.findNow kk.desc k ces i=some (some (i+j,ce.val))∧es[j]?=some e∧ces[j]?=some ce∧keyEq k e.1=true∧(∀ j' e',j'<j→es[j']?=some e'→keyEq k e'.1=false)):=by
 induction h with
 | nil=>intro i;exact .inl ⟨rfl,rfl,by simp⟩
 | cons hab t ih =>
   rename_i e ce es ces
   intro i
   obtain ⟨h1,h2,h3⟩:=hab
   have hsn:=yq4s hk h2
   cases hq:keyEq k e.1 with
   | true =>
     refine .inr ⟨0,e,ce,by simp [mfind,hq],?_,rfl,rfl,hq,by simp⟩
     simp [Instr.findNow,h1,hsn,hq]
   | false =>
     rcases ih (i+1) with ⟨a,b,c⟩ | ⟨j,e',ce',a,b,c,d,f,g⟩
     ·refine .inl ⟨by simp [mfind,hq,a],by simp [Instr.findNow,h1,hsn,hq,b],?_⟩
      intro x hx
      rcases List.mem_cons.1 hx with rfl | hx
      ·exact hq
      ·exact c x hx
     ·refine .inr ⟨j+1,e',ce',by simp [mfind,hq,a],by simp [Instr.findNow,h1,hsn,hq,b];omega,by simpa using c,by simpa using d,f,?_⟩
      intro j' x hj hx
      cases j' with
      | zero=>simp at hx;subst hx;exact hq
      | succ j'=>exact g j' x (by omega) (by simpa using hx)
theorem VRel.map {r:Nat} {v':Value} (h:VRel ι (.map (some r)) v'):∃l,ι r=some l∧v'=.map (some l.b):=by
 have hc:=h.cell rfl
 cases hc with | s hc=>cases hc with | map h'=>exact ⟨_,h',rfl⟩
theorem VRel.mapNil {v':Value} (h:VRel ι (.map none) v'):v'=.map none:=ylf2 rfl h
theorem yxr2 {t kt e:TypeId} {kk:KK} {z x k cx ck:Value} {ok:Bool} {K:Value→H→Prop} (hu:P.underlying t=some (.map kt e)) (hz:y7rv P e=some z) (hkk:kkOf P kt=some kk)
 (hr:HRel P W ι h w) (hx:VRel ι x cx) (hkr:VRel ι k ck) (hk:ylze kk z x k ok h fun v=>K v h):Sim P W ι (Instr.lookup t cx ck ok) w K:=by
 obtain ⟨hkey,hk⟩:=hk
 obtain rfl:=y7m0 hkey hkr
 have hzr:ARel ι z z:=arel_self (y2en hz).1
 have pairR:∀v cv q,ARel ι v cv→VRel ι (bif ok then .tuple #[v,.bool q] else v) (bif ok then .tuple #[cv,.bool q] else cv):=by
  intro v cv q hv
  cases ok with
  | true=>exact .tuple (.cons hv (.cons (.c (.s (.bool q))) .nil))
  | false=>exact .a hv
 split at hk
 ·obtain rfl:=hx.mapNil
  refine Sim.quiet (cv:=bif ok then .tuple #[z,.bool false] else z) hr ?_ (pairR z z false hzr) hk
  have hf:(Instr.findKey kt ck []:Sem _).run P w=.ok none w:=by simp [Instr.findKey,yf58 (yxcj hkk),Instr.findNow]
  cases ok <;> simp [Instr.lookup,yf58 hu,yc4x hkk hkey,hf,yd3r hz]
 ·rename_i m
  obtain ⟨l,hl,rfl⟩:=hx.map
  split at hk
  ·rename_i kk' es c hm
   obtain ⟨rfl,hk⟩:=hk
   obtain ⟨_,_,ces,h1,h2,_⟩:=hr.obj' hm hl
   have hg:(getObj l.b).run P w=.ok (.map ces c) w:=by simp [getObj,Sem.run,h1]
   rcases ymrc hkey h2 0 with ⟨h3,h4,_⟩ | ⟨j,e',ce,h3,h4,h5,h6,_⟩
   ·rw [h3] at hk
    refine Sim.quiet (cv:=bif ok then .tuple #[z,.bool false] else z) hr ?_ (pairR z z false hzr) hk
    have hf:(Instr.findKey kt ck ces.toList:Sem _).run P w=.ok none w:=by simp [Instr.findKey,yf58 (yxcj hkk),h4]
    cases ok <;> simp [Instr.lookup,yf58 hu,hg,yc4x hkk hkey,hf,yd3r hz]
   ·rw [h3] at hk
    obtain ⟨ce',hce',_,_,hval⟩:=h2.get h5
    rw [h6] at hce';cases hce'
    refine Sim.quiet (cv:=bif ok then .tuple #[ce.val,.bool true] else ce.val) hr ?_ (pairR _ _ true hval) hk
    have hf:(Instr.findKey kt ck ces.toList:Sem _).run P w=.ok (some (j,ce.val)) w:=by simp [Instr.findKey,yf58 (yxcj hkk),h4]
    cases ok <;> simp [Instr.lookup,yf58 hu,hg,yc4x hkk hkey,hf]
  ·exact hk.elim
 ·exact hk.elim
theorem y3iw {es:List (Value×Value)} {k v:Value} (h:∀e∈es,keyEq k e.1=false):mset es k v=es++[(k,v)]:=by
 induction es with
 | nil=>rfl
 | cons e es ih=>simp [mset,h e (by simp),ih fun x hx=>h x (by simp [hx])]
theorem yhih {k v:Value}:∀{es:List (Value×Value)} {j:Nat} {e:Value×Value},es[j]?=some e→keyEq k e.1=true→(∀ j' e',j'<j→es[j']?=some e'→keyEq k e'.1=false)→mset es k v=es.set j (k,v)
 | [],j,e,h,_,_=>by simp at h
 | x::es,0,e,h,hk,_=>by simp at h;subst h;simp [mset,hk]
 | x::es,j+1,e,h,hk,hn=>by
   have h0:=hn 0 x (by omega) rfl
   simp [mset,h0]
   exact yhih (by simpa using h) hk fun j' e' hj he=>hn (j'+1) e' (by omega) (by simpa using he)
theorem yspj {es:List (Value×Value)} {k:Value} (h:∀e∈es,keyEq k e.1=false):mdel es k=es:=by
 induction es with
 | nil=>rfl
 | cons e es ih=>simp [mdel,h e (by simp),ih fun x hx=>h x (by simp [hx])]
theorem yrp7 {k:Value}:∀{es:List (Value×Value)} {j:Nat} {e:Value×Value},es[j]?=some e→keyEq k e.1=true→(∀ j' e',j'<j→es[j']?=some e'→keyEq k e'.1=false)→mdel es k=es.eraseIdx j
 | [],j,e,h,_,_=>by simp at h
 | x::es,0,e,h,hk,_=>by simp at h;subst h;simp [mdel,hk]
 | x::es,j+1,e,h,hk,hn=>by
   have h0:=hn 0 x (by omega) rfl
   simp [mdel,h0]
   exact yrp7 (by simpa using h) hk fun j' e' hj he=>hn (j'+1) e' (by omega) (by simpa using he)
theorem All2.eraseIdx {α β:Type} {R:α→β→Prop} {l:List α} {m:List β} (h:All2 R l m) (i:Nat):All2 R (l.eraseIdx i) (m.eraseIdx i):=by
 induction h generalizing i with
 | nil=>exact .nil
 | cons h t ih=>cases i with
   | zero=>exact t
   | succ i=>exact .cons h (ih i)
theorem y95n (hr:HRel P W ι h w) {m:Nat} {l:Loc} {kk:KK} {es es':List (Value×Value)} {c c':Nat} {ces ces':Array MapEntry} (hm:h m=some (.map kk es c)) (hl:ι m=some l) (h1:w.heap[l.b]?=some (.map ces c))
 (hc:c≤c') (hsub:c'=c→∀ce'∈ces'.toList,∃ce∈ces.toList,ce.born=ce'.born∧ce.key=ce'.key)
 (h2:All2 (ERel ι kk) es' ces'.toList) (hb:∀ce∈ces'.toList,ce.born<c') (hn:(ces'.toList.map (·.born)).Nodup) (hp:es'.Pairwise fun a b=>keyEq a.1 b.1=false) :
 HRel P W ι (upd h m (.map kk es' c')) (yoko w l.b (.map ces' c')):=by
 have hlt:l.b<w.heap.size:=(Array.getElem?_eq_some_iff.1 h1).1
 obtain ⟨hB,ho,_⟩:=hr.obj' hm hl
 refine hr.set hm hl rfl (ynhg _ _ _) (fun c hc=>yp0x _ _ hc) rfl rfl rfl hB ?_ ⟨hB,ho,ces',ysux _ _ hlt,h2,hb,hn,hp⟩
 intro es1 cl1 he
 rw [ysux _ _ hlt] at he
 cases he
 exact ⟨ces,c,h1,hc,hsub⟩
theorem ypbs {t kt e:TypeId} {kk:KK} {m k v cm ck cv:Value} {K:H→Prop} (hu:P.underlying t=some (.map kt e)) (hkk:kkOf P kt=some kk)
 (hr:HRel P W ι h w) (hm:VRel ι m cm) (hkr:VRel ι k ck) (hv:VRel ι v cv) (hk:ynew kk m k v h K):SimU P W ι (Instr.mapUpdate t cm ck cv) w K:=by
 obtain ⟨hkey,hbox,hk⟩:=hk
 obtain rfl:=y7m0 hkey hkr
 split at hk
 ·rename_i b
  obtain ⟨l,hl,rfl⟩:=hm.map
  split at hk
  ·rename_i kk' es c hb
   obtain ⟨rfl,hk⟩:=hk
   obtain ⟨_,_,ces,h1,h2,h3,h4,h5⟩:=hr.obj' hb hl
   have hg:(getObj l.b).run P w=.ok (.map ces c) w:=by simp [getObj,Sem.run,h1]
   have hs:∀O,(setObj l.b O).run P w=.ok () (yoko w l.b O):=fun O=>by simp [setObj,Sem.run,h1,yoko]
   rcases ymrc hkey h2 0 with ⟨h6,h7,h8⟩ | ⟨j,e',ce,h6,h7,h8,h9,h10,h11⟩
   ·have hf:(Instr.findKey kt ck ces.toList:Sem _).run P w=.ok none w:=by simp [Instr.findKey,yf58 (yxcj hkk),h7]
    refine ⟨_,ι,_,by simp [Instr.mapUpdate,yf58 hu,hg,yc4x hkk hkey,hf,hs];rfl,Env.le_refl _,?_,hk⟩
    rw [show mhas es ck=false by simp [mhas,h6],if_neg (by simp),y3iw h8]
    refine y95n hr hb hl h1 (by omega) (fun he=>by omega) ?_ ?_ ?_ ?_
    ·simp only [Array.toList_push]
     exact h2.append (.cons ⟨rfl,hkey,hv.toA hbox⟩ .nil)
    ·intro x hx
     simp only [Array.toList_push,List.mem_append,List.mem_singleton] at hx
     rcases hx with hx | rfl
     ·have:=h3 x hx;omega
     ·simp
    ·simp only [Array.toList_push,List.map_append,List.map_cons,List.map_nil]
     refine List.nodup_append.2 ⟨h4,by simp,?_⟩
     intro a ha b' hb'
     obtain ⟨x,hx,rfl⟩:=List.mem_map.1 ha
     simp at hb'
     have:=h3 x hx;omega
    ·refine List.pairwise_append.2 ⟨h5,by simp,?_⟩
     intro a ha b' hb'
     simp at hb'
     subst hb'
     have h12:=h8 a ha
     cases hq:keyEq a.1 ck with
     | false=>rfl
     | true =>
       obtain ⟨i,hi⟩:=List.mem_iff_getElem?.1 ha
       obtain ⟨ce,_,_,hkk',_⟩:=h2.get hi
       rw [(yrhg hkk' hkey).1 hq] at h12
       have:=(yrhg hkey hkey).2 rfl
       rw [this] at h12;cases h12
   ·have hf:(Instr.findKey kt ck ces.toList:Sem _).run P w=.ok (some (j,ce.val)) w:=by simp [Instr.findKey,yf58 (yxcj hkk),h7]
    obtain ⟨ce',hce',hkeye,hkk',hval⟩:=h2.get h8
    rw [h9] at hce';cases hce'
    have hek:e'.1=ck:=((yrhg hkey hkk').1 h10).symm
    have hj:ces[j]?=some ce:=by simpa using h9
    have hck:ce.key=ck:=hkeye.trans hek
    have hkt:(Instr.keyThatStays ck ck).run P w=.ok ck w:=by simp [Instr.keyThatStays,y9s5 hkey]
    refine ⟨_,ι,_,by simp [Instr.mapUpdate,yf58 hu,hg,yc4x hkk hkey,hf,hj,hck,hkt,hs];rfl,Env.le_refl _,?_,hk⟩
    rw [show mhas es ck=true by simp [mhas,h6],if_pos rfl,yhih h8 h10 h11]
    have hml:∀(f:MapEntry→MapEntry),(ces.modify j f).toList=ces.toList.modify j f:=fun f=>by simp
    have hmod:(ces.modify j fun e=>{ e with key:=ck,val:=cv }).toList=ces.toList.set j { ce with key:=ck,val:=cv }:=by
     apply List.ext_getElem?
     intro i
     rw [hml,List.getElem?_modify,List.getElem?_set]
     by_cases hij:j=i
     ·subst hij
      have:j<ces.toList.length:=(List.getElem?_eq_some_iff.1 h9).1
      have hjs:j<ces.size:=by simpa using this
      have hje:ces[j]=ce:=(Array.getElem?_eq_some_iff.1 hj).2
      simp [hjs,hje]
     ·simp [hij]
    refine y95n hr hb hl h1 (Nat.le_refl _) (fun _=>?_) ?_ ?_ ?_ ?_
    ·intro x hx
     rw [hmod] at hx
     rcases List.mem_or_eq_of_mem_set hx with hx | rfl
     ·exact ⟨x,hx,rfl,rfl⟩
     ·exact ⟨ce,List.mem_iff_getElem?.2 ⟨j,h9⟩,rfl,hck⟩
    ·rw [hmod];exact h2.set j ⟨rfl,hkey,hv.toA hbox⟩
    ·intro x hx
     rw [hmod] at hx
     rcases List.mem_or_eq_of_mem_set hx with hx | rfl
     ·exact h3 x hx
     ·exact h3 ce (List.mem_iff_getElem?.2 ⟨j,h9⟩)
    ·rw [hmod,List.map_set]
     have:(ces.toList.map (·.born)).set j ce.born=ces.toList.map (·.born):=by
      apply List.ext_getElem?
      intro i
      rw [List.getElem?_set]
      by_cases hij:j=i
      ·subst hij
       have:j<ces.toList.length:=(List.getElem?_eq_some_iff.1 h9).1
       have hjs:j<ces.size:=by simpa using this
       have hje:ces[j]=ce:=(Array.getElem?_eq_some_iff.1 hj).2
       simp [hjs,hje]
      ·simp [hij]
     simp only [this];exact h4
    ·have e1:(es.set j (ck,v)).map (·.1)=es.map (·.1):=by
      apply List.ext_getElem?
      intro i
      rw [List.map_set,List.getElem?_set]
      by_cases hij:j=i
      ·subst hij
       have:j<es.length:=(List.getElem?_eq_some_iff.1 h8).1
       have hje:es[j]=e':=(List.getElem?_eq_some_iff.1 h8).2
       simp [this,hje,hek]
      ·simp [hij]
     have e2:∀l:List (Value×Value),l.Pairwise (fun a b=>keyEq a.1 b.1=false)↔(l.map (·.1)).Pairwise (fun a b=>keyEq a b=false):=fun l=>by simp [List.pairwise_map]
     rw [e2,e1,←e2];exact h5
  ·exact hk.elim
 ·exact hk.elim
theorem ylx9 {t kt e:TypeId} {kk:KK} {m k cm ck:Value} {ts:Array TypeId} {ty:TypeId} {K:Value→H→Prop} (hu:P.underlying t=some (.map kt e)) (hkk:kkOf P kt=some kk) (ht:ts[0]?=some t)
 (hr:HRel P W ι h w) (hm:VRel ι m cm) (hkr:VRel ι k ck) (hk:yypu kk m k h fun h=>K undef h):Sim P W ι (Builtin.delete_ ts ty #[cm,ck]) w K:=by
 obtain ⟨hkey,hk⟩:=hk
 obtain rfl:=y7m0 hkey hkr
 split at hk
 ·obtain rfl:=hm.mapNil
  exact Sim.quiet (cv:=undef) hr (by simp [Builtin.delete_,ht,yf58 hu,yc4x hkk hkey];rfl) VRel.undef hk
 ·rename_i b
  obtain ⟨l,hl,rfl⟩:=hm.map
  split at hk
  ·rename_i kk' es c hb
   obtain ⟨rfl,hk⟩:=hk
   obtain ⟨_,_,ces,h1,h2,h3,h4,h5⟩:=hr.obj' hb hl
   have hg:(getObj l.b).run P w=.ok (.map ces c) w:=by simp [getObj,Sem.run,h1]
   have hs:∀O,(setObj l.b O).run P w=.ok () (yoko w l.b O):=fun O=>by simp [setObj,Sem.run,h1,yoko]
   rcases ymrc hkey h2 0 with ⟨h6,h7,h8⟩ | ⟨j,e',ce,h6,h7,h8,h9,h10,h11⟩
   ·have hf:(Instr.findKey kt ck ces.toList:Sem _).run P w=.ok none w:=by simp [Instr.findKey,yf58 (yxcj hkk),h7]
    refine ⟨undef,yoko w l.b (.map ces c),ι,undef,_,by simp [Builtin.delete_,ht,yf58 hu,hg,yc4x hkk hkey,hf,hs];rfl,Env.le_refl _,?_,VRel.undef,hk⟩
    rw [yspj h8]
    exact y95n hr hb hl h1 (Nat.le_refl _) (fun _ x hx=>⟨x,hx,rfl,rfl⟩) h2 h3 h4 h5
   ·have hf:(Instr.findKey kt ck ces.toList:Sem _).run P w=.ok (some (j,ce.val)) w:=by simp [Instr.findKey,yf58 (yxcj hkk),h7]
    have hj:j<ces.size:=by have:=(List.getElem?_eq_some_iff.1 h9).1;simpa using this
    have he:(ces.eraseIdxIfInBounds j).toList=ces.toList.eraseIdx j:=by simp [Array.eraseIdxIfInBounds,hj]
    have hsub:(ces.toList.eraseIdx j).Sublist ces.toList:=List.eraseIdx_sublist _ _
    refine ⟨undef,yoko w l.b (.map (ces.eraseIdxIfInBounds j) c),ι,undef,_,by simp [Builtin.delete_,ht,yf58 hu,hg,yc4x hkk hkey,hf,hs];rfl,Env.le_refl _,?_,VRel.undef,hk⟩
    rw [yrp7 h8 h10 h11]
    refine y95n hr hb hl h1 (Nat.le_refl _) (fun _ x hx=>⟨x,hsub.subset (he▸hx),rfl,rfl⟩) ?_ ?_ ?_ ?_
    ·rw [he];exact h2.eraseIdx j
    ·intro x hx;rw [he] at hx;exact h3 x (hsub.subset hx)
    ·rw [he];exact (hsub.map _).nodup h4
    ·exact h5.sublist (List.eraseIdx_sublist _ _)
  ·exact hk.elim
 ·exact hk.elim
theorem ywl6 {t kt e:TypeId} {kk:KK} {r:Option Value} {K:Value→H→Prop} (hu:P.underlying t=some (.map kt e)) (hrr:r=none∨∃k n,r=some (.int k n))
 (hr:HRel P W ι h w) (hk:yp8q (.map kk [] 0) h fun b h=>K (.map (some b)) h):Sim P W ι (Instr.makeMap t r) w K:=by
 obtain ⟨b,ι',h1,h2,h3,h4⟩:=yljr (O:=.map #[] 0) (o:=.map kk [] 0) hr (fun b=>.inl ⟨hr.below.size,rfl,#[],ydd5 w _,.nil,by simp,by simp,.nil⟩) hk
 refine ⟨_,_,ι',_,_,?_,h1,h3,.a (.c (.s (.map h2))),h4⟩
 rcases hrr with rfl | ⟨k,n,rfl⟩
 ·simp [Instr.makeMap]
 ·simp [Instr.makeMap,yf58 hu,asInt,asIntOf]
theorem yc7s {kk:KK} {es:List (Value×Value)} {e:Value×Value} (he:e∈es) (hk:kkHas kk e.1=true):(es.map (·.1)).any (keyEq e.1)=true:=by
 rw [List.any_eq_true]
 exact ⟨e.1,List.mem_map.2 ⟨e,he,rfl⟩,(yrhg hk hk).2 rfl⟩
theorem yh4b {t kt e:TypeId} {x cx:Value} {K:Value→H→Prop} (hu:P.underlying t=some (.map kt e)) (hr:HRel P W ι h w) (hx:VRel ι x cx) (hk:y4p4 x h K):Sim P W ι (Instr.range t cx) w K:=by
 unfold y4p4 at hk
 split at hk
 ·obtain rfl:=hx.mapNil
  obtain ⟨b,ι',h1,h2,h3,h4⟩:=yljr (O:=.mapIter none 0 #[] 0) (o:=.iter none [] 0 none) hr (fun b=>.inl ⟨hr.below.size,rfl,none,0,#[],0,ydd5 w _,rfl⟩) hk
  exact ⟨_,_,ι',_,_,by simp [Instr.range,yf58 hu],h1,h3,y09c h2,h4⟩
 ·rename_i m
  obtain ⟨l,hl,rfl⟩:=hx.map
  split at hk
  ·rename_i kk es c hm
   obtain ⟨_,_,ces,g1,g2,g3,g4,g5⟩:=hr.obj' hm hl
   have hg:(getObj l.b).run P w=.ok (.map ces c) w:=by simp [getObj,Sem.run,g1]
   have hlt:l.b<w.heap.size:=(Array.getElem?_eq_some_iff.1 g1).1
   obtain ⟨b,ι',h1,h2,h3,h4⟩:=yljr (O:=.mapIter (some l.b) c #[] c) (o:=.iter (some m) (es.map (·.1)) c none) hr (fun b=>by
    by_cases hb:ι b=none
    ·refine .inl ⟨hr.below.size,rfl,some l.b,c,#[],c,ydd5 w _,l,Env.le_set _ hb _ _ hl,rfl,rfl,rfl,?_,fun k hk=>by cases hk⟩
     intro ces' clock' hc'
     rw [yjx2 _ _ hlt,g1] at hc'
     cases hc'
     refine ⟨Nat.le_refl _,fun _ ce hce=>?_⟩
     obtain ⟨i,hi⟩:=List.mem_iff_getElem?.1 hce
     obtain ⟨e',he',hk',hkk',_⟩:=g2.get' hi
     have:=yc7s (List.mem_iff_getElem?.2 ⟨i,he'⟩) hkk'
     rw [hk',this];simp
    ·exact .inr hb) hk
   exact ⟨_,_,ι',_,_,by simp [Instr.range,yf58 hu,hg],h1,h3,y09c h2,h4⟩
  ·exact hk.elim
 ·exact hk.elim
theorem yn8b {it cit:Value} {ty:TypeId} {K:Value→H→Prop} (hr:HRel P W ι h w) (hi:VRel ι it cit) (hk:y6k6 it h K):Sim P W ι (Instr.next cit false ty) w K:=by
 unfold y6k6 at hk
 split at hk
 ·rename_i b
  obtain ⟨l,hl,rfl⟩:=hi.ptr
  split at hk
  ·rename_i left since cur hb
   obtain ⟨_,ho,cm,since',seen,stepped,h1,rfl⟩:=hr.obj' hb hl
   have hg:(getObj l.b).run P w=.ok (.mapIter none since' seen stepped) w:=by simp [getObj,Sem.run,h1]
   exact Sim.quiet (cv:=.tuple #[.bool false]) hr (by simp [Instr.next,ho,hg]) (ywzo rfl) hk
  ·rename_i m left since cur hb
   obtain ⟨hB,ho,cm,since',seen,stepped,h1,lm,hlm,rfl,rfl,rfl,hmm,_⟩:=hr.obj' hb hl
   have hg:(getObj l.b).run P w=.ok (.mapIter (some lm.b) stepped seen stepped) w:=by simp [getObj,Sem.run,h1]
   split at hk
   ·rename_i kk es c hm
    obtain ⟨rfl,hk1,hk2⟩:=hk
    obtain ⟨_,_,ces,g1,g2,g3,g4,g5⟩:=hr.obj' hm hlm
    have hgm:(getObj lm.b).run P w=.ok (.map ces c) w:=by simp [getObj,Sem.run,g1]
    have hseen:=(hmm ces c g1).2 rfl
    have hall:(!seen.isEmpty&&!ces.isEmpty&&ces.all (fun e=>decide (e.born≥c)))=false:=by
     cases hce:ces.toList with
     | nil =>
       have:ces = #[]:=Array.ext' hce
       subst this;simp
     | cons x xs =>
       have hx:=g3 x (by rw [hce];simp)
       have:ces.all (fun e=>decide (e.born≥c))=false:=by
        rw [← Array.all_toList,hce]
        simp;intro h;omega
       simp [this]
    have hnew:∀l':Array MapEntry,(∀ x∈l'.toList,x∈ces.toList)→l'.filter (fun e=>decide (e.born<c))=l'∧l'.filter (fun e=>decide (e.born≥c)) = #[]:=by
     intro l' hl'
     constructor
     ·rw [Array.filter_eq_self]
      intro a ha
      have:=g3 a (hl' a (by simpa using ha));simpa using this
     ·rw [Array.filter_eq_empty_iff]
      intro a ha
      have:=g3 a (hl' a (by simpa using ha));simpa using this
    generalize hleft:ces.filter (fun e=>!seen.contains e.born)=L
    have hLmem:∀x,x∈L.toList↔x∈ces.toList∧x.born∉seen.toList:=by
     intro x;rw [← hleft];simp
    obtain ⟨e1,e2⟩:=hnew L (fun x hx=>((hLmem x).1 hx).1)
    cases hL:L.toList with
    | nil =>
      have hLe:L = #[]:=Array.ext' hL
      refine Sim.quiet (cv:=.tuple #[.bool false]) hr ?_ (ywzo rfl) (hk2 fun e he=>?_)
      ·simp only [Instr.next,ho,Sem.run_bind,Nat.add_zero,hg,Result.andThen_ok,hgm]
       simp only [hall,Bool.false_eq_true,if_false,hleft,hLe]
       simp [Question.forced]
      ·obtain ⟨i,hi'⟩:=List.mem_iff_getElem?.1 he
       obtain ⟨ce,hce,hk',hkk',_⟩:=g2.get hi'
       have hmem:=List.mem_iff_getElem?.2 ⟨i,hce⟩
       rw [← hk']
       refine (hseen ce hmem).1 ?_
       by_cases hs:ce.born∈seen.toList
       ·exact hs
       ·have:=(hLmem ce).2 ⟨hmem,hs⟩
        rw [hL] at this;cases this
    | cons x xs =>
      have hne:L.isEmpty=false:=by
       cases hq:L.isEmpty with
       | false=>rfl
       | true=>rw [Array.isEmpty_iff] at hq;rw [hq] at hL;cases hL
      have hpos:0<L.size:=by rw [← Array.length_toList,hL];simp
      have hcand:((if L.isEmpty=true then #[none] else #[])++(L ++ #[]).map some:Array (Option MapEntry))=L.map some:=by simp [hne]
      have hchoose:∃j w1,(choose (.mapNext (L.map some).size)).run P w=.ok j w1∧j<L.size∧w1.heap=w.heap∧w1.os=w.os∧w1.tape=w.tape∧w1.output=w.output:=by
       rw [run_choose]
       split
       ·exact ⟨0,w,rfl,hpos,rfl,rfl,rfl,rfl⟩
       ·exact ⟨_,_,rfl,by simp [Question.cut];exact Nat.mod_lt _ hpos,rfl,rfl,rfl,rfl⟩
      obtain ⟨j,w1,hch,hj,hw1,hw2,hw3,hw4⟩:=hchoose
      have hr1:HRel P W ι h w1:=hr.world hw1 hw2 hw3 hw4
      generalize hce:L[j]=ce
      have hmemL:ce∈L.toList:=by rw [← hce];simp
      obtain ⟨hmem,hns⟩:=(hLmem ce).1 hmemL
      obtain ⟨i,hi'⟩:=List.mem_iff_getElem?.1 hmem
      obtain ⟨e,he,hk',hkk',hval⟩:=g2.get' hi'
      have hany:left.any (keyEq e.1)=true:=by
       cases hq:left.any (keyEq e.1) with
       | true=>rfl
       | false=>rw [← hk'] at hq;exact absurd ((hseen ce hmem).2 hq) hns
      have hlt:l.b<w1.heap.size:=by rw [hw1];exact (Array.getElem?_eq_some_iff.1 h1).1
      have hs:∀O,(setObj l.b O).run P w1=.ok () (yoko w1 l.b O):=fun O=>by simp [setObj,Sem.run,hw1,h1,yoko]
      have hne':lm.b≠l.b:=by intro he;rw [he] at g1;rw [g1] at h1;cases h1
      refine ⟨.tuple #[.bool true,ce.key,ce.val],yoko w1 l.b (.mapIter (some lm.b) c (seen.push ce.born) c),ι,_,_,?_,Env.le_refl _,?_,?_,hk1 e (List.mem_iff_getElem?.2 ⟨i,he⟩) hany⟩
      ·simp only [Instr.next,ho,Sem.run_bind,Nat.add_zero,hg,Result.andThen_ok,hgm]
       simp only [hall,Bool.false_eq_true,if_false,hleft,e1,e2,hcand]
       rw [Sem.run_bind,hch]
       have:(L.map some)[j]?=some (some ce):=by simp [hj,hce]
       simp only [Result.andThen_ok,this]
       simp [hs]
      ·refine hr1.set hb hl rfl (ynhg _ _ _) (fun c hc=>yp0x _ _ hc) rfl rfl rfl hB (fun es1 cl1 he1=>by rw [ysux _ _ hlt] at he1;cases he1) ?_
       refine ⟨hB,ho,some lm.b,c,seen.push ce.born,c,ysux _ _ hlt,lm,hlm,rfl,rfl,rfl,?_,?_⟩
       rotate_left
       ·intro k hkq
        cases hkq
        refine ⟨ce.born,by simp,fun ces' clock' hc' _ x hx=>?_⟩
        rw [yp0x _ _ hne',hw1,g1] at hc'
        cases hc'
        obtain ⟨i2,hi2⟩:=List.mem_iff_getElem?.1 hx
        obtain ⟨e2',he2,hk2',hkk2,_⟩:=g2.get' hi2
        constructor
        ·intro hxe
         have hxce:i2=i:=by
          have hnd:=List.pairwise_iff_getElem.1 g4
          obtain ⟨a1,b1⟩:=List.getElem?_eq_some_iff.1 hi'
          obtain ⟨a2,b2⟩:=List.getElem?_eq_some_iff.1 hi2
          rcases Nat.lt_trichotomy i2 i with hlt' | heq | hgt
          ·exfalso
           have:=hnd i2 i (by simpa using a2) (by simpa using a1) hlt'
           simp only [List.getElem_map,b1,b2] at this
           exact this hxe
          ·exact heq
          ·exfalso
           have:=hnd i i2 (by simpa using a1) (by simpa using a2) hgt
           simp only [List.getElem_map,b1,b2] at this
           exact this hxe.symm
         subst hxce
         rw [hi'] at hi2;cases hi2
         exact hk'
        ·intro hxk
         by_cases hii:i2=i
         ·subst hii;rw [hi'] at hi2;cases hi2;rfl
         ·exfalso
          have heq:e2'.1=e.1:=by rw [← hk2'];exact hxk
          have hkeq:keyEq e2'.1 e.1=true∧keyEq e.1 e2'.1=true:=⟨(yrhg hkk2 hkk').2 heq,(yrhg hkk' hkk2).2 heq.symm⟩
          rw [List.pairwise_iff_getElem] at g5
          obtain ⟨a1,b1⟩:=List.getElem?_eq_some_iff.1 he2
          obtain ⟨a2,b2⟩:=List.getElem?_eq_some_iff.1 he
          rcases Nat.lt_or_gt_of_ne hii with hlt' | hgt
          ·have:=g5 i2 i a1 a2 hlt'
           rw [b1,b2,hkeq.1] at this;cases this
          ·have:=g5 i i2 a2 a1 hgt
           rw [b1,b2,hkeq.2] at this;cases this
       intro ces' clock' hc'
       rw [yp0x _ _ hne',hw1,g1] at hc'
       cases hc'
       refine ⟨Nat.le_refl _,fun _ x hx=>?_⟩
       obtain ⟨i2,hi2⟩:=List.mem_iff_getElem?.1 hx
       obtain ⟨e2',he2,hk2',hkk2,_⟩:=g2.get' hi2
       have hfil:(left.filter fun k=>!keyEq e.1 k).any (keyEq x.key)=(left.any fun k=>keyEq x.key k&&!keyEq e.1 k):=by
        rw [List.any_filter];congr 1;funext k;rw [Bool.and_comm]
       rw [hfil]
       simp only [Array.toList_push,List.mem_append,List.mem_singleton]
       by_cases hxe:x.born=ce.born
       ·have hxce:i2=i:=by
         have hnd:=List.pairwise_iff_getElem.1 g4
         obtain ⟨a1,b1⟩:=List.getElem?_eq_some_iff.1 hi'
         obtain ⟨a2,b2⟩:=List.getElem?_eq_some_iff.1 hi2
         rcases Nat.lt_trichotomy i2 i with hlt' | heq | hgt
         ·exfalso
          have:=hnd i2 i (by simpa using a2) (by simpa using a1) hlt'
          simp only [List.getElem_map,b1,b2] at this
          exact this hxe
         ·exact heq
         ·exfalso
          have:=hnd i i2 (by simpa using a1) (by simpa using a2) hgt
          simp only [List.getElem_map,b1,b2] at this
          exact this hxe.symm
        subst hxce
        rw [he] at he2;cases he2
        rw [hi'] at hi2;cases hi2
        simp only [hk',or_true,true_iff]
        rw [List.any_eq_false]
        intro k _
        cases keyEq e.1 k <;> simp
       ·have hne2:e2'.1≠e.1:=by
         intro heq
         have hii:i2≠i:=by
          rintro rfl
          rw [hi'] at hi2;cases hi2;exact hxe rfl
         have hkeq:keyEq e2'.1 e.1=true∧keyEq e.1 e2'.1=true:=⟨(yrhg hkk2 hkk').2 heq,(yrhg hkk' hkk2).2 heq.symm⟩
         rw [List.pairwise_iff_getElem] at g5
         rcases Nat.lt_or_gt_of_ne hii with hlt' | hgt
         ·obtain ⟨a1,b1⟩:=List.getElem?_eq_some_iff.1 he2
          obtain ⟨a2,b2⟩:=List.getElem?_eq_some_iff.1 he
          have:=g5 i2 i a1 a2 hlt'
          rw [b1,b2,hkeq.1] at this;cases this
         ·obtain ⟨a1,b1⟩:=List.getElem?_eq_some_iff.1 he2
          obtain ⟨a2,b2⟩:=List.getElem?_eq_some_iff.1 he
          have:=g5 i i2 a2 a1 hgt
          rw [b1,b2,hkeq.2] at this;cases this
        have hboth:∀k,keyEq x.key k=true→keyEq e.1 k=false:=by
         intro k hk1'
         cases hq:keyEq e.1 k with
         | false=>rfl
         | true =>
           exfalso
           exact hne2 (by rw [← hk2',yvvd hk1',yvvd hq])
        have:(left.any fun k=>keyEq x.key k&&!keyEq e.1 k)=left.any (keyEq x.key):=by
         congr 1;funext k
         cases hq:keyEq x.key k with
         | false=>rfl
         | true=>simp [hboth k hq]
        rw [this,←hseen x hx]
        simp [hxe]
      ·rw [hk']
       exact .tuple (.cons (.c (.s (.bool true))) (.cons (.c (yuzj (ylvu hkk'))) (.cons hval .nil)))
   ·exact hk.elim
  ·exact hk.elim
 ·exact hk.elim
theorem yjj9 {it cit:Value} {K:Value→H→Prop} (hr:HRel P W ι h w) (hi:VRel ι it cit) (hk:yxwg it h fun v=>K v h):Sim P W ι (Instr.entry cit) w K:=by
 unfold yxwg at hk
 split at hk
 ·rename_i b
  obtain ⟨l,hl,rfl⟩:=hi.ptr
  split at hk
  ·rename_i m left since k hb
   obtain ⟨hB,ho,cm,since',seen,stepped,h1,lm,hlm,rfl,rfl,rfl,hmm,hcur⟩:=hr.obj' hb hl
   obtain ⟨st,hst,hent⟩:=hcur k rfl
   have hg:(getObj l.b).run P w=.ok (.mapIter (some lm.b) stepped seen stepped) w:=by simp [getObj,Sem.run,h1]
   split at hk
   ·rename_i kk es c hm
    obtain ⟨rfl,hk⟩:=hk
    obtain ⟨_,_,ces,g1,g2,g3,g4,g5⟩:=hr.obj' hm hlm
    have hgm:(getObj lm.b).run P w=.ok (.map ces c) w:=by simp [getObj,Sem.run,g1]
    have hent:=hent ces c g1 rfl
    split at hk
    ·rename_i v hv
     have hfind:∀(es:List (Value×Value)) v,mfind es k=some v→∃(j:Nat) (e:Value×Value),es[j]?=some e∧keyEq k e.1=true∧e.2=v:=by
      intro es
      induction es with
      | nil=>intro v h;cases h
      | cons e es ih =>
        intro v h
        simp only [mfind] at h
        cases hq:keyEq k e.1
        ·rw [hq,cond_false] at h
         obtain ⟨j,e',h1,h2,h3⟩:=ih v h
         exact ⟨j+1,e',by simpa using h1,h2,h3⟩
        ·rw [hq,cond_true] at h;cases h
         exact ⟨0,e,rfl,hq,rfl⟩
     obtain ⟨j,e,hj,hkq,rfl⟩:=hfind es v hv
     obtain ⟨ce,hce,hck,hkk,hval⟩:=g2.get hj
     have hke:k=e.1:=yvvd hkq
     have hcem:ce∈ces.toList:=List.mem_of_getElem? hce
     have hborn:ce.born=st:=(hent ce hcem).2 (by rw [hck,hke])
     have hfd:ces.find? (fun x=>x.born==st)=some ce:=by
      have hfl:ces.toList.find? (fun x=>x.born==st)=some ce:=by
       have:∃x,ces.toList.find? (fun x=>x.born==st)=some x:=by
        cases hq:ces.toList.find? (fun x=>x.born==st) with
        | some x=>exact ⟨x,rfl⟩
        | none =>
          have:=List.find?_eq_none.1 hq ce hcem
          simp [hborn] at this
       obtain ⟨x,hx⟩:=this
       rw [hx]
       have hxb:x.born=st:=by simpa using List.find?_some hx
       have hxm:x∈ces.toList:=List.mem_of_find?_eq_some hx
       obtain ⟨i1,q1⟩:=List.mem_iff_getElem?.1 hxm
       have hnd:=List.pairwise_iff_getElem.1 g4
       obtain ⟨a1,b1⟩:=List.getElem?_eq_some_iff.1 q1
       obtain ⟨a2,b2⟩:=List.getElem?_eq_some_iff.1 hce
       rcases Nat.lt_trichotomy i1 j with hlt' | heq | hgt
       ·exfalso
        have:=hnd i1 j (by simpa using a1) (by simpa using a2) hlt'
        simp only [List.getElem_map,b1,b2] at this
        exact this (by rw [hxb,hborn])
       ·subst heq;rw [q1] at hce;exact hce
       ·exfalso
        have:=hnd j i1 (by simpa using a2) (by simpa using a1) hgt
        simp only [List.getElem_map,b1,b2] at this
        exact this (by rw [hxb,hborn])
      simpa using hfl
     refine Sim.quiet (cv:=.tuple #[ce.key,ce.val]) hr ?_ (.tuple (.cons ?_ (.cons hval .nil))) hk
     ·simp only [Instr.entry,ho,Sem.run_bind,Nat.add_zero,hg,Result.andThen_ok,hst,hgm]
      simp [hfd]
     ·rw [hck,←hke]
      have:kkHas kk k=true:=by rw [hke];exact hkk
      exact arel_self (by unfold kkHas at this;split at this <;> first | rfl | cases this)
    ·exact hk.elim
   ·exact hk.elim
  ·exact hk.elim
 ·exact hk.elim
end
end Go.Proofs.YtnckimioabkheaaGreat.AM
set_option linter.unusedSimpArgs false
set_option linter.unusedVariables false
namespace Go.Proofs.YtnckimioabkheaaGreat.AM
open Go.RowKit
section
variable {P:Program} {W:World} {ι:Env} {h:H} {w:World}
theorem ydv3:∀(l l':List (Value×Nat)) (cs cs':Array Value) (off:Nat),All2 (fun a b=>CRel ι a.1 b.1∧a.2=b.2) l l'→All2 (CRel ι) cs.toList cs'.toList →
 All2 (CRel ι) (l.foldl (fun cs x=>cs.setIfInBounds (off+x.2) x.1) cs).toList (l'.foldl (fun cs x=>cs.setIfInBounds (off+x.2) x.1) cs').toList:=by
 intro l l' cs cs' off hl
 induction hl generalizing cs cs' with
 | nil=>exact fun h=>h
 | cons hab _ ih =>
   rename_i a b l l' _
   intro hc
   simp only [List.foldl_cons]
   refine ih _ _ ?_
   obtain ⟨h1,h2⟩:=hab
   simp only [Array.toList_setIfInBounds,h2]
   exact hc.set _ h1
theorem y41l {xs ys:List Value} (hx:All2 (CRel ι) xs ys):∀n,All2 (fun a b:Value×Nat=>CRel ι a.1 b.1∧a.2=b.2) (xs.zipIdx n) (ys.zipIdx n):=by
 induction hx with
 | nil=>intro n;exact .nil
 | cons h _ ih=>intro n;exact .cons ⟨h,rfl⟩ (ih (n+1))
theorem yhg3 (place:Nat→Option (Nat×Nat)):∀(ps ps':List (Nat×Value)) (cells cells':Array Value) (r:Array Value),All2 (fun a b=>a.1=b.1∧ARel ι a.2 b.2) ps ps'→All2 (CRel ι) cells.toList cells'.toList →
 Instr.fill place cells ps=some r→∃r',Instr.fill place cells' ps'=some r'∧All2 (CRel ι) r.toList r'.toList:=by
 intro ps ps' cells cells' r hp
 induction hp generalizing cells cells' with
 | nil=>intro hc hf;simp only [Instr.fill] at hf;cases hf;exact ⟨_,rfl,hc⟩
 | cons hab _ ih =>
   rename_i a b ps ps' _
   obtain ⟨i,v⟩:=a
   obtain ⟨i',v'⟩:=b
   obtain ⟨e,hv⟩:=hab
   simp only at e hv
   subst e
   intro hc hf
   simp only [Instr.fill] at hf ⊢
   split at hf
   ·cases hf
   ·rename_i off size hpl
    split at hf
    ·cases hf
    ·rename_i hcond
     have hs:=hv.size
     have hsz:cells'.size=cells.size:=by simpa using hc.length.symm
     rw [if_neg (by rw [hs,hsz];exact hcond)]
     refine ih _ _ ?_ hf
     have:=ydv3 v.cells.toList.zipIdx v'.cells.toList.zipIdx cells cells' off (y41l hv.cells 0) hc
     rw [← Array.foldl_toList,←Array.foldl_toList,Array.toList_zipIdx,Array.toList_zipIdx]
     exact this
theorem ypys {ps:List (Nat×Operand)} {ρ ρ':Operand→Value} (hρ:∀p∈ps,VRel ι (ρ p.2) (ρ' p.2)) (hb:(ps.map fun p=>(p.1,ρ p.2)).all (fun p=>boxV p.2)=true) :
 All2 (fun a b:Nat×Value=>a.1=b.1∧ARel ι a.2 b.2) (ps.map fun p=>(p.1,ρ p.2)) (ps.map fun p=>(p.1,ρ' p.2)):=by
 induction ps with
 | nil=>exact .nil
 | cons p ps ih =>
   simp only [List.map_cons,List.all_cons,Bool.and_eq_true] at hb
   exact .cons ⟨rfl,(hρ p (by simp)).toA hb.1⟩ (ih (fun q hq=>hρ q (by simp [hq])) hb.2)
theorem ylgi {t:TypeId} {ps ps':List (Nat×Value)} {K:Value→H→Prop} (hr:HRel P W ι h w) (hp:ps.all (fun p=>boxV p.2)=true→All2 (fun a b=>a.1=b.1∧ARel ι a.2 b.2) ps ps')
 (hk:yiyd P t ps fun v=>K v h):Sim P W ι (Instr.build t ps'.toArray) w K:=by
 unfold yiyd at hk
 cases hb:ps.all (fun p=>boxV p.2) with
 | false=>rw [hb,cond_false] at hk;exact hk.elim
 | true =>
   rw [hb,cond_true] at hk
   have hp:=hp hb
   split at hk
   ·rename_i z cs hz hcs
    obtain ⟨hzs,hzi⟩:=y2en hz
    have hzr:All2 (CRel ι) z.cells.toList z.cells.toList:=(arel_self hzs).cells
    have:∃cs',P.built t ps'=some cs'∧All2 (CRel ι) cs.toList cs'.toList:=by
     unfold Program.built at hcs ⊢
     cases hi:P.info? t with
     | none=>rw [hi] at hcs;cases hcs
     | some it =>
       have hz':it.zero=some z:=by rw [hi] at hzi;simpa using hzi
       rw [hi] at hcs
       cases hu:P.underlying t with
       | none=>rw [hu] at hcs;cases hcs
       | some d =>
         rw [hu] at hcs
         cases d <;> simp only [hz'] at hcs ⊢ <;> try (cases hcs;done)
         ·rename_i n e
          cases he:P.info? e with
          | none=>rw [he] at hcs;cases hcs
          | some ie=>rw [he] at hcs;exact yhg3 _ ps ps' _ _ _ hp hzr hcs
         ·rename_i fs
          cases hm:fs.toList.mapM (fun f=>(P.info? f.type).map fun i=>(f.offset,i.size)) with
          | none=>rw [hm] at hcs;cases hcs
          | some pl=>rw [hm] at hcs;exact yhg3 _ ps ps' _ _ _ hp hzr hcs
    obtain ⟨cs',h1,h2⟩:=this
    exact Sim.quiet hr (run_build w t ps'.toArray cs' h1) (.a (.agg h2)) hk
   ·exact hk.elim
theorem yixg {z:Value} (hz:selfA z=true) (n:Nat):All2 (CRel ι) ((Array.range n).map (z.cells[· % z.cells.size]!)).toList ((Array.range n).map (z.cells[· % z.cells.size]!)).toList:=by
 have hzr:All2 (CRel ι) z.cells.toList z.cells.toList:=(arel_self hz).cells
 refine All2.refl_of fun a ha=>?_
 simp only [Array.toList_map,List.mem_map] at ha
 obtain ⟨i,_,rfl⟩:=ha
 by_cases h0:z.cells.size=0
 ·have:z.cells = #[]:=Array.eq_empty_of_size_eq_zero h0
  rw [this];exact .s (.bool _)
 ·have hlt:i%z.cells.size<z.cells.size:=Nat.mod_lt _ (by omega)
  rw [getElem!_pos z.cells _ hlt]
  obtain ⟨b,hb,hr⟩:=hzr.get (i:=i%z.cells.size) (a:=z.cells[i%z.cells.size]) (by simp [hlt])
  have:b=z.cells[i%z.cells.size]:=by simp [hlt] at hb;exact hb.symm
  rw [this] at hr;exact hr
theorem yxo9 {t e:TypeId} {len:Nat} {ps ps':List (Nat×Value)} {cs:List Value} {K:Value→H→Prop} (hr:HRel P W ι h w) (hp:ps.all (fun p=>boxV p.2)=true→All2 (fun a b=>a.1=b.1∧ARel ι a.2 b.2) ps ps')
 (hl:yrjn P t len ps=some (cs,e)) (hk:o_new cs e .exact h fun b h=>K (.slice (some ⟨b,0,none⟩) len len) h):Sim P W ι (Instr.buildSlice t len ps'.toArray) w K:=by
 unfold yrjn at hl
 split at hl
 ·rename_i e0 hu
  split at hl
  ·rename_i i z hi hz
   obtain ⟨hzs,hzi⟩:=y2en hz
   have hz':i.zero=some z:=by rw [hi] at hzi;simpa using hzi
   cases hb:(ps.all (fun p=>boxV p.2)&&Nat.ble (len*i.size) 16777216) with
   | false=>rw [hb,cond_false] at hl;cases hl
   | true =>
     rw [hb,cond_true] at hl
     simp only [Bool.and_eq_true] at hb
     have hsmall:len*i.size≤2^24:=by have:=Nat.le_of_ble_eq_true hb.2;omega
     have hp:=hp hb.1
     cases h0:Nat.beq (len*i.size) 0 with
     | true =>
       rw [h0,cond_true] at hl
       have h0':len*i.size=0:=Nat.eq_of_beq_eq_true h0
       cases hps:ps.isEmpty with
       | false=>rw [hps,cond_false] at hl;cases hl
       | true =>
         rw [hps,cond_true] at hl
         cases hl
         have hpe:ps=[]:=List.isEmpty_iff.1 hps
         subst hpe
         cases hp
         refine ylry (cs':=[]) (f:=fun a=>.slice (some a) len len) (g:=fun b=>.slice (some ⟨b,0,none⟩) len len) hr (by simp) .nil ?_ (fun b ι' _ hb=>by simpa using y2dw (len:=len) hb) hk
         simp [Instr.buildSlice,yf58 hu,y8gf hi,h0',Instr.fill,newRow,show Array.range 0 = #[] from rfl]
     | false =>
       rw [h0,cond_false] at hl
       have h0':¬len*i.size=0:=fun he=>by rw [he] at h0;cases h0
       split at hl
       ·rename_i r hf
        cases hl
        obtain ⟨r',h1,h2⟩:=yhg3 _ ps ps' _ _ _ hp (yixg hzs _) hf
        refine ylry (cs':=r'.toList) (f:=fun a=>.slice (some a) len len) (g:=fun b=>.slice (some ⟨b,0,none⟩) len len) hr (by simp) h2 ?_ (fun b ι' _ hb=>by simpa using y2dw (len:=len) hb) hk
        have hz1:¬len*i.size>2^24:=by omega
        simp only [Instr.buildSlice,Sem.run_bind,yf58 hu,y8gf hi,Result.andThen_ok,hz1,if_false,h0',yd3r hz,Sem.run_pure]
        simp [h1,newRow]
       ·cases hl
  ·cases hl
 ·cases hl
theorem yjnt (z:List Value):∀(n i:Nat),(ybp0 z n)[i]?=if i<n*z.length then z[i%z.length]? else none:=by
 intro n
 induction n with
 | zero=>intro i;simp [ybp0]
 | succ n ih =>
   intro i
   simp only [ybp0,List.getElem?_append,ih]
   by_cases hi:i<z.length
   ·rw [if_pos hi,if_pos (by rw [Nat.succ_mul];omega),Nat.mod_eq_of_lt hi]
   ·rw [if_neg hi]
    have e2:i%z.length=(i-z.length)%z.length:=Nat.mod_eq_sub_mod (by omega)
    rw [e2]
    have e3:(n+1)*z.length=n*z.length+z.length:=Nat.succ_mul _ _
    by_cases hj:i-z.length<n*z.length
    ·rw [if_pos hj,if_pos (by omega)]
    ·rw [if_neg hj,if_neg (by omega)]
theorem ydym (z:Array Value) (hz:0<z.size) (n:Nat):ybp0 z.toList n=((Array.range (n*z.size)).map (z[· % z.size]!)).toList:=by
 apply List.ext_getElem?
 intro i
 rw [yjnt _]
 simp only [Array.length_toList,Array.toList_map,List.getElem?_map,Array.toList_range]
 by_cases hi:i<n*z.size
 ·have hlt:i%z.size<z.size:=Nat.mod_lt _ hz
  rw [if_pos hi,List.getElem?_range hi]
  simp [hlt]
 ·rw [if_neg hi,List.getElem?_eq_none (by simpa using hi)];rfl
theorem y6fr {t e:TypeId} {i:TypeInfo} {z:Value} {l c cl cc:Value} {K:Value→H→Prop} (hu:P.underlying t=some (.slice e)) (hi:P.info? e=some i) (hz:y7rv P e=some z) (hr:HRel P W ι h w) (hl:VRel ι l cl) (hc:VRel ι c cc) (hk:ye0j z.cells.toList i.size i.bytes e l c h K):Sim P W ι (Instr.makeSlice t cl cc) w K:=by
 unfold ye0j at hk
 split at hk
 ·rename_i kl l kc c
  obtain rfl:=hl.int
  obtain rfl:=hc.int
  ·obtain ⟨hsz,h0,hlc,hb,h63,hpos,hk⟩:=hk
   simp only [Array.length_toList] at hsz
   have hwl:IntKind.i64.wrap l=l:=IntWalk.i64_in l (by omega)
   have hwc:IntKind.i64.wrap c=c:=IntWalk.i64_in c (by omega)
   have hzl:¬(c<0∨(i.bytes:Int)*c>2^48):=by omega
   have hcs:All2 (CRel ι) (ybp0 z.cells.toList c.toNat) (ybp0 z.cells.toList c.toNat):=by
    rw [ydym z.cells (by omega)]
    exact yixg (y2en hz).1 _
   refine ylry (cs':=ybp0 z.cells.toList c.toNat) (f:=fun a=>.slice (some a) l.toNat c.toNat) (g:=fun b=>.slice (some ⟨b,0,none⟩) l.toNat c.toNat) hr (by simp) hcs ?_ (fun b ι' _ hb=>?_) hk
   ·rw [ydym z.cells (by omega)]
    have hbad:((decide (c<0)||decide ((i.bytes:Int)*c>2^48))||decide (l<0)||decide (l>c))=false:=by
     simp only [Bool.or_eq_false_iff,decide_eq_false_iff_not]
     refine ⟨⟨⟨by omega,by omega⟩,by omega⟩,by omega⟩
    simp only [Instr.makeSlice,Sem.run_bind,yf58 hu,Result.andThen_ok,asInt,asIntOf,Sem.run_pure,yt1z hi,hwl,hwc,hbad,Bool.false_eq_true,if_false,run_askRoom,y8gf hi,hsz]
    by_cases hn:c.toNat*i.size=0
    ·simp [hn,newRow,show Array.range 0 = #[] from rfl]
    ·have hn':¬c.toNat*z.cells.size=0:=by rw [hsz];exact hn
     rw [← hsz]
     simp [hn',yd3r hz,newRow]
     congr 2
     apply Array.ext'
     simp
   ·have:=SRel.slice (o:=0) (n:=l.toNat) (c:=c.toNat) hb
    exact .a (.c (.s this))
 ·exact hk.elim
end
end Go.Proofs.YtnckimioabkheaaGreat.AM
set_option linter.unusedSimpArgs false
set_option linter.unusedVariables false
namespace Go.Proofs.YtnckimioabkheaaGreat.AM
open Go.RowKit
section
variable {P:Program} {W:World} {ι:Env} {h:H} {w:World}
abbrev loIs (lo:Option Value) (l:Nat):Prop:=match lo with | some (.int _ i)=>i=(l:Int) | none=>l=0 | _=>False
abbrev hiIs (hi:Option Value) (n u:Nat):Prop:=match hi with | some (.int _ i)=>i=(u:Int) | none=>u=n | _=>False
theorem y70y {lo:Option Value} {l:Nat} (hl:loIs lo l):(lo=none∧l=0)∨∃k,lo=some (.int k l):=by
 unfold loIs at hl
 split at hl
 ·subst hl;exact .inr ⟨_,rfl⟩
 ·exact .inl ⟨rfl,hl⟩
 ·exact hl.elim
theorem ypcq {hi:Option Value} {n u:Nat} (hl:hiIs hi n u):(hi=none∧u=n)∨∃k,hi=some (.int k u):=by
 unfold hiIs at hl
 split at hl
 ·subst hl;exact .inr ⟨_,rfl⟩
 ·exact .inl ⟨rfl,hl⟩
 ·exact hl.elim
theorem yemi (k:IntKind) {l y:Nat} (h:l≤y) (code:BoundsCode) (w:World):(Instr.sliceBound (.int k l) y code).run P w=.ok l w:=by
 have:(0:Int)≤l∧(l:Int)≤y:=by omega
 simp [Instr.sliceBound,asIntOf,this.2]
theorem y24y {lo hi:Option Value} {n c l u:Nat} (isS:Bool) (hl:loIs lo l) (hh:hiIs hi n u) (h1:l≤u) (h2:u≤c) (w:World) :
 (Instr.sliceBounds isS n c lo hi none).run P w=.ok (l,u,c) w:=by
 rcases y70y hl with ⟨rfl,rfl⟩ | ⟨k,rfl⟩ <;> rcases ypcq hh with ⟨rfl,rfl⟩ | ⟨k',rfl⟩ <;>
  simp [Instr.sliceBounds,yemi _ h1,yemi _ h2]
theorem yutb {lo clo:Option Value} (h:(lo=none∧clo=none)∨∃v cv,lo=some v∧clo=some cv∧VRel ι v cv) {l:Nat} (hl:loIs lo l):loIs clo l:=by
 rcases h with ⟨rfl,rfl⟩ | ⟨v,cv,rfl,rfl,hv⟩
 ·exact hl
 ·rcases y70y hl with ⟨e,_⟩ | ⟨k,e⟩
  ·cases e
  ·cases e;obtain rfl:=hv.int;exact hl
theorem yzzv {lo clo:Option Value} (h:(lo=none∧clo=none)∨∃v cv,lo=some v∧clo=some cv∧VRel ι v cv) {n l:Nat} (hl:hiIs lo n l):hiIs clo n l:=by
 rcases h with ⟨rfl,rfl⟩ | ⟨v,cv,rfl,rfl,hv⟩
 ·exact hl
 ·rcases ypcq hl with ⟨e,_⟩ | ⟨k,e⟩
  ·cases e
  ·cases e;obtain rfl:=hv.int;exact hl
abbrev ybts (ι:Env) (lo clo:Option Value):Prop:=(lo=none∧clo=none)∨∃v cv,lo=some v∧clo=some cv∧VRel ι v cv
theorem y8w9 {lo hi:Option Value} {k:IntKind} {n c:Nat} (hl:match lo with | some (.int _ i)=>i=0 | none=>True | _=>False) (hh:match hi with | some (.int _ i)=>i=0 | _=>False) (w:World) :
 (Instr.sliceBounds true n c lo hi (some (.int k 0))).run P w=.ok (0,0,0) w:=by
 have hl':lo=none∨∃k,lo=some (.int k 0):=by
  split at hl
  ·subst hl;exact .inr ⟨_,rfl⟩
  ·exact .inl rfl
  ·exact hl.elim
 have hh':∃k,hi=some (.int k 0):=by
  split at hh
  ·subst hh;exact ⟨_,rfl⟩
  ·exact hh.elim
 obtain ⟨k',rfl⟩:=hh'
 have hb:∀(k:IntKind) (y:Nat) code,(Instr.sliceBound (.int k 0) y code).run P w=.ok 0 w:=fun k y code=>yemi k (Nat.zero_le y) code w
 rcases hl' with rfl | ⟨k,rfl⟩ <;> simp [Instr.sliceBounds,hb]
theorem y9pd {t e:TypeId} {inf:TypeInfo} {x cx:Value} {lo hi mx clo chi cmx:Option Value} {K:Value→H→Prop} (hu:P.underlying t=some (.slice e)) (hi':P.info? e=some inf) (hr:HRel P W ι h w) (hx:VRel ι x cx)
 (hlo:ybts ι lo clo) (hhi:ybts ι hi chi) (hmx:ybts ι mx cmx)
 (hk:ykvd inf.size x lo hi mx fun v=>K v h):Sim P W ι (Instr.sliceAt t cx clo chi cmx) w K:=by
 have hsl:∀(a:Option Addr) (n c l u m:Nat),(Instr.sliceBounds true n c clo chi cmx).run P w=.ok (l,u,m) w →
  (Instr.sliceAt t (.slice a n c) clo chi cmx).run P w=.ok (.slice (if m=l then a else a.map (·.add (l*inf.size))) (u-l) (m-l)) w:=by
  intro a n c l u m hb
  simp [Instr.sliceAt,Instr.slice,yf58 hu,hb,y8gf hi']
 have hmxN:∀{m},mx=m→m=none→cmx=none:=by
  rintro m rfl rfl
  rcases hmx with ⟨_,h⟩ | ⟨v,cv,h,_⟩
  ·exact h
  ·cases h
 unfold ykvd at hk
 split at hk
 ·rename_i b o n c
  obtain rfl:cmx=none:=hmxN rfl rfl
  obtain ⟨l,u,hl,hh,h1,h2,hk⟩:=hk
  have hl':=yutb hlo (l:=l) hl
  have hh':=yzzv hhi (n:=n) (l:=u) hh
  rcases hx.slice with ⟨lc,hlc,rfl⟩ | ⟨rfl,rfl,rfl,rfl,a,rfl⟩ | ⟨rfl,rfl,rfl,rfl,a,c',rfl⟩
  ·have hb:=y24y (P:=P) true hl' hh' h1 (show u≤c+lc.k by omega) w
   have hs:=hsl (some ⟨lc.b,lc.o+o,none⟩) n (c+lc.k) l u (c+lc.k) hb
   split at hk
   ·subst_vars
    refine Sim.quiet hr hs ?_ hk
    have:=SRel.slice (ι:=ι) (o:=o) (n:=u) (c:=c) hlc
    have e1:(if c+lc.k=0 then some (⟨lc.b,lc.o+o,none⟩:Addr) else Option.map (fun x:Addr=>x.add (0*inf.size)) (some ⟨lc.b,lc.o+o,none⟩))=some ⟨lc.b,lc.o+o,none⟩:=by
     split
     ·rfl
     ·simp [y4pb]
    rw [e1]
    simpa using VRel.a (.c (.s this))
   ·split at hk
    ·refine Sim.quiet hr hs ?_ hk
     rw [if_neg (by omega)]
     have:=SRel.slice (ι:=ι) (o:=o+l*inf.size) (n:=u-l) (c:=c-l) hlc
     have e2:c+lc.k-l=c-l+lc.k:=by omega
     rw [← Nat.add_assoc] at this
     simp only [Option.map_some,y4pb,e2]
     exact .a (.c (.s this))
    ·obtain rfl:l=c:=by omega
     obtain rfl:u=l:=by omega
     refine Sim.quiet hr hs ?_ hk
     have:∀a:Option Addr,a.isSome=true→∀c,VRel ι (.slice (some ⟨1,0,none⟩) 0 0) (.slice a 0 c):=by
      intro a ha c
      obtain ⟨a,rfl⟩:=Option.isSome_iff_exists.1 ha
      exact .a (.c (.s (.empty1 a c)))
     rw [Nat.sub_self]
     exact this _ (by split <;> rfl) _
  ·have h0:l=0∧u=0:=by omega
   obtain ⟨rfl,rfl⟩:=h0
   rw [if_pos rfl] at hk
   have hb:=y24y (P:=P) true hl' hh' h1 (Nat.le_refl 0) w
   refine Sim.quiet hr (hsl (some a) 0 0 0 0 0 hb) ?_ hk
   simp only [if_true]
   exact .a (.c (.s (.empty0 a)))
  ·have h0:l=0∧u=0:=by omega
   obtain ⟨rfl,rfl⟩:=h0
   rw [if_pos rfl] at hk
   have hb:=y24y (P:=P) true hl' hh' h1 (Nat.zero_le c') w
   refine Sim.quiet hr (hsl (some a) 0 c' 0 0 c' hb) ?_ hk
   have e1:(if c'=0 then some a else Option.map (fun x:Addr=>x.add (0*inf.size)) (some a))=some a:=by
    split
    ·rfl
    ·simp [Addr.add]
   rw [e1]
   exact .a (.c (.s (.empty1 a c')))
 ·rename_i b o n c
  obtain ⟨hl,hh,hk⟩:=hk
  have hmx':∃k,cmx=some (.int k 0):=by
   rcases hmx with ⟨h,_⟩ | ⟨v,cv,h,h',hv⟩
   ·cases h
   ·cases h;obtain rfl:=hv.int;exact ⟨_,h'⟩
  obtain ⟨k,rfl⟩:=hmx'
  have hl':(match clo with | some (.int _ i)=>i=0 | none=>True | _=>False):=by
   rcases hlo with ⟨rfl,rfl⟩ | ⟨v,cv,rfl,rfl,hv⟩
   ·trivial
   ·cases v <;> simp at hl
    obtain rfl:=hv.int;exact hl
  have hh':(match chi with | some (.int _ i)=>i=0 | _=>False):=by
   rcases hhi with ⟨rfl,rfl⟩ | ⟨v,cv,rfl,rfl,hv⟩
   ·exact hh
   ·cases v <;> simp at hh
    obtain rfl:=hv.int;exact hh
  have he:∀(a:Addr) (n c:Nat),Sim P W ι (Instr.sliceAt t (.slice (some a) n c) clo chi (some (.int k 0))) w K:=by
   intro a n c
   refine Sim.quiet hr (hsl (some a) n c 0 0 0 (y8w9 hl' hh' w)) ?_ hk
   simp only [if_true]
   exact .a (.c (.s (.empty0 a)))
  rcases hx.slice with ⟨lc,hlc,rfl⟩ | ⟨rfl,rfl,rfl,rfl,a,rfl⟩ | ⟨rfl,rfl,rfl,rfl,a,c',rfl⟩ <;> exact he _ _ _
 ·obtain rfl:cmx=none:=hmxN rfl rfl
  obtain ⟨hl,hh,hk⟩:=hk
  obtain rfl:cx=.slice none 0 0:=ylf2 rfl hx
  have hl1:loIs lo 0:=by
   unfold loIs
   split <;> simp_all
  have hh1:hiIs hi 0 0:=by
   unfold hiIs
   split <;> simp_all
  have hb:=y24y (P:=P) true (yutb hlo hl1) (yzzv hhi hh1) (Nat.le_refl 0) (Nat.le_refl 0) w
  exact Sim.quiet hr (hsl none 0 0 0 0 0 hb) (.a (.c (.s .sliceNil))) hk
 ·obtain ⟨hl,hh,hk⟩:=hk
  obtain rfl:cx=.slice none 0 0:=ylf2 rfl hx
  have hmx':∃k,cmx=some (.int k 0):=by
   rcases hmx with ⟨h,_⟩ | ⟨v,cv,h,h',hv⟩
   ·cases h
   ·cases h;obtain rfl:=hv.int;exact ⟨_,h'⟩
  obtain ⟨k,rfl⟩:=hmx'
  have hl':(match clo with | some (.int _ i)=>i=0 | none=>True | _=>False):=by
   rcases hlo with ⟨rfl,rfl⟩ | ⟨v,cv,rfl,rfl,hv⟩
   ·trivial
   ·cases v <;> simp at hl
    obtain rfl:=hv.int;exact hl
  have hh':(match chi with | some (.int _ i)=>i=0 | _=>False):=by
   rcases hhi with ⟨rfl,rfl⟩ | ⟨v,cv,rfl,rfl,hv⟩
   ·exact hh
   ·cases v <;> simp at hh
    obtain rfl:=hv.int;exact hh
  exact Sim.quiet hr (hsl none 0 0 0 0 0 (y8w9 hl' hh' w)) (.a (.c (.s .sliceNil))) hk
 ·exact hk.elim
end
end Go.Proofs.YtnckimioabkheaaGreat.AM
set_option linter.unusedSimpArgs false
set_option linter.unusedVariables false
namespace Go.Proofs.YtnckimioabkheaaGreat.AM
open Go.RowKit
section
variable {P:Program} {W:World} {ι:Env} {h:H} {w:World}
theorem ypt3 {t:TypeId} {x cx:Value} {lo hi clo chi:Option Value} {K:Value→H→Prop} (hu:P.underlying t=some .string) (hr:HRel P W ι h w) (hx:VRel ι x cx)
 (hlo:ybts ι lo clo) (hhi:ybts ι hi chi) (hk:y80g x lo hi fun v=>K v h):Sim P W ι (Instr.sliceAt t cx clo chi none) w K:=by
 unfold y80g at hk
 split at hk
 ·rename_i s
  obtain rfl:=hx.string
  obtain ⟨l,u,hl,hh,h1,h2,hk⟩:=hk
  have hb:=y24y (P:=P) false (yutb hlo (l:=l) hl) (yzzv hhi (n:=s.size) (l:=u) hh) h1 h2 w
  exact Sim.quiet (cv:=.string (s.extract l u)) hr (by simp [Instr.sliceAt,Instr.slice,yf58 hu,hb]) (ywzo rfl) hk
 ·exact hk.elim
theorem yvs6 {t e:TypeId} {inf:TypeInfo} {n:Nat} {x cx:Value} {lo hi clo chi:Option Value} {K:Value→H→Prop} (hu:P.underlying t=some (.array n e)) (hi':P.info? e=some inf) (hr:HRel P W ι h w) (hx:VRel ι x cx)
 (hlo:ybts ι lo clo) (hhi:ybts ι hi chi) (hk:ybsu n inf.size x lo hi h fun v=>K v h):Sim P W ι (Instr.sliceAt t cx clo chi none) w K:=by
 unfold ybsu at hk
 split at hk
 ·rename_i b o
  split at hk
  ·rename_i cs E m hbo
   obtain ⟨hmo,l,u,hl,hh,h1,h2,hk⟩:=hk
   obtain ⟨lc,hlc,rfl⟩:=hx.ptr
   have hk0:lc.k=0:=by
    obtain ⟨_,_,_,_,_,_,_,_,h5,_⟩:=hr.obj' hbo hlc
    exact h5 hmo
   have hb:=y24y (P:=P) false (yutb hlo (l:=l) hl) (yzzv hhi (n:=n) (l:=u) hh) h1 h2 w
   have hs:(Instr.sliceAt t (.pointer (some ⟨lc.b,lc.o+o,none⟩)) clo chi none).run P w=.ok (.slice (some (if n=l then ⟨lc.b,lc.o+o,none⟩ else (⟨lc.b,lc.o+o,none⟩:Addr).add (l*inf.size))) (u-l) (n-l)) w:=by
    simp [Instr.sliceAt,yf58 hu,Instr.sureAddr,hb,y8gf hi']
   split at hk
   ·refine Sim.quiet hr hs ?_ hk
    rw [if_neg (by omega)]
    have:=SRel.slice (ι:=ι) (o:=o+l*inf.size) (n:=u-l) (c:=n-l) hlc
    rw [← Nat.add_assoc,hk0,Nat.add_zero] at this
    rw [y4pb]
    exact .a (.c (.s this))
   ·obtain rfl:l=n:=by omega
    obtain rfl:u=l:=by omega
    refine Sim.quiet hr hs ?_ hk
    rw [Nat.sub_self]
    exact .a (.c (.s (.empty1 _ _)))
  ·exact hk.elim
 ·exact hk.elim
theorem ya6e {x cx:Value} {n:Nat} (hx:VRel ι x cx) (hn:srcLen x=some n) (w:World):(Builtin.lenOf cx).run P w=.ok n w:=by
 cases x <;> simp [srcLen] at hn
 ·obtain rfl:=hx.string;simp [Builtin.lenOf,hn]
 ·obtain ⟨a',n',c',rfl,rfl,_⟩:=hx.sliceAny;simp [Builtin.lenOf,hn]
theorem y0p1 (s:ByteArray):(s.extract 0 0).data = #[]:=by
 apply Array.eq_empty_of_size_eq_zero
 show (s.extract 0 0).size=0
 simp
theorem yhud {x cx:Value} {size m:Nat} {new:List Value} (hr:HRel P W ι h w) (hx:VRel ι x cx) (hc:yc23 size h x m=some new) :
 ∃new',(Builtin.firstCells size m cx).run P w=.ok (List.toArray new') w∧All2 (CRel ι) new new'∧(m=0→new=[]):=by
 unfold yc23 at hc
 split at hc
 ·cases hc
  obtain rfl:cx=.slice none 0 0:=ylf2 rfl hx
  exact ⟨[],by simp [Builtin.firstCells],.nil,fun _=>rfl⟩
 ·rename_i b o _ _
  split at hc
  ·cases hc
   subst_vars
   obtain ⟨a',n',c',rfl,_,ha⟩:=hx.sliceAny
   obtain ⟨a,rfl⟩:∃a,a'=some a:=by cases a' <;> simp_all
   exact ⟨[],by simp [Builtin.firstCells,loadCells,loadCellsFrom],.nil,fun _=>rfl⟩
  ·rename_i hm
   rcases hx.slice with ⟨lc,hlc,rfl⟩ | ⟨_,_,rfl,_⟩ | ⟨_,_,rfl,_⟩
   ·obtain ⟨new',h1,h2,h3⟩:=yvqe hr hc hlc
    refine ⟨new',?_,h1,fun h0=>absurd h0 hm⟩
    have:=run_loadCells_list (P:=P) w ⟨lc.b,lc.o+o,none⟩ new' h3
    rw [← h1.length,h2] at this
    simp [Builtin.firstCells,this]
   ·simp only [cellsAt] at hc
    split at hc
    ·rename_i hb;obtain ⟨l,hl,_⟩:=hr.obj _ _ hb;rw [hr.z0] at hl;cases hl
    ·cases hc
   ·simp only [cellsAt] at hc
    split at hc
    ·rename_i hb;obtain ⟨l,hl,_⟩:=hr.obj _ _ hb;rw [hr.z1] at hl;cases hl
    ·cases hc
 ·rename_i s _
  cases hc
  obtain rfl:=hx.string
  refine ⟨_,?_,All2.refl_of (fun a ha=>?_),?_⟩
  ·simp only [Builtin.firstCells,Sem.run_pure]
   congr 1
   apply Array.ext'
   simp [List.map_take]
  ·simp only [List.mem_map] at ha
   obtain ⟨b,_,rfl⟩:=ha
   exact .s (.int _ _)
  ·rintro rfl;rw [y0p1];rfl
 ·cases hc
theorem yemh (z:Array Value) (n:Nat):(Builtin.zeroCells z n).size=n*z.size:=by simp [Builtin.zeroCells]
theorem y2iq {t u ty e:TypeId} {i:TypeInfo} {z:Value} (hu:P.underlying t=some (.slice e)) (hux:∃d,P.underlying u=some d∧∀k,d≠.int k) (hi:P.info? e=some i) (hz:y7rv P e=some z)
 {base:Option Addr} {len cap n:Nat} {cx:Value} {old new:List Value} (hn:∀w,(Builtin.lenOf cx).run P w=.ok n w)
 (hold:(Builtin.firstCells i.size len (.slice base len cap)).run P { w with drawn:=w.drawn+1 }=.ok old.toArray { w with drawn:=w.drawn+1 })
 (hnew:(Builtin.firstCells i.size n cx).run P { w with drawn:=w.drawn+1 }=.ok new.toArray { w with drawn:=w.drawn+1 })
 (hg:cap<len+n) (hb:(len+n)*i.bytes≤140737488355328) (h63:len+n<9223372036854775808) :
 ∃k rest,rest.length=k*z.cells.size∧(Builtin.append_ #[t,u] ty #[.slice base len cap,cx]).run P w =
  .ok (.slice (some ⟨w.heap.size,0,none⟩) (len+n) (len+n+k)) (({ w with drawn:=w.drawn+1 }:World).alloc (.cells (old++new++rest).toArray e)):=by
 obtain ⟨d,hud,hd⟩:=hux
 have hzeros:(match d with | .int _=>true | _=>false)=false:=by cases d <;> first | rfl | exact absurd rfl (hd _)
 have hfit:=growslice_fits hg hb
 refine ⟨(Question.appendCap (len+n) cap e).cut (w.tape w.drawn (.appendCap (len+n) cap e))-(len+n),(Builtin.zeroCells z.cells ((Question.appendCap (len+n) cap e).cut (w.tape w.drawn (.appendCap (len+n) cap e))-(len+n))).toList,by simp [yemh],?_⟩
 have hge:len+n≤(Question.appendCap (len+n) cap e).cut (w.tape w.drawn (.appendCap (len+n) cap e)):=by simp [Question.cut]
 have h1:¬(len+n≤cap):=by omega
 have h2:¬(((len+n:Nat):Int)>IntKind.i64.max∧i.bytes=0):=by
  intro ⟨h,_⟩
  have:IntKind.i64.max=9223372036854775807:=by decide
  omega
 have h3:¬(Builtin.nextslicecap (len+n) cap*i.bytes>2^48):=by omega
 unfold Builtin.append_
 simp only [List.getElem?_toArray,List.getElem?_cons_zero,List.getElem?_cons_succ,Sem.run_bind,yf58 hu,Result.andThen_ok,y8gf hi,yf58 hud,Sem.run_pure]
 rw [if_neg (by simp)]
 simp only [Sem.run_bind,hn,Result.andThen_ok,if_neg h1,yt1z hi,Bool.false_eq_true,false_or,if_neg h2,if_neg h3,run_choose,Question.forced,if_false,run_askRoom,hold,Bool.not_false,if_true,hnew,yd3r hz,newRow,run_newObj,Sem.run_pure]
 have e1:len+n+((Question.appendCap (len+n) cap e).cut (w.tape w.drawn (.appendCap (len+n) cap e))-(len+n))=(Question.appendCap (len+n) cap e).cut (w.tape w.drawn (.appendCap (len+n) cap e)):=by omega
 rw [e1]
 congr 2
 apply Array.ext'
 simp
theorem y29o {t u ty e:TypeId} {i:TypeInfo} (hu:P.underlying t=some (.slice e)) (hux:∃d,P.underlying u=some d∧∀k,d≠.int k) (hi:P.info? e=some i)
 {base:Option Addr} {len cap n:Nat} {cx:Value} {new:List Value} {w':World} (hn:(Builtin.lenOf cx).run P w=.ok n w)
 (hnew:(Builtin.firstCells i.size n cx).run P w=.ok new.toArray w) (hg:len+n≤cap)
 (hst:match base with | some a=>(storeCells (a.add (len*i.size)) new).run P w=.ok () w' | none=>w'=w) :
 (Builtin.append_ #[t,u] ty #[.slice base len cap,cx]).run P w=.ok (.slice base (len+n) cap) w':=by
 obtain ⟨d,hud,hd⟩:=hux
 have hzeros:(match d with | .int _=>true | _=>false)=false:=by cases d <;> first | rfl | exact absurd rfl (hd _)
 unfold Builtin.append_
 simp only [List.getElem?_toArray,List.getElem?_cons_zero,List.getElem?_cons_succ,Sem.run_bind,yf58 hu,Result.andThen_ok,y8gf hi,yf58 hud,Sem.run_pure]
 rw [if_neg (by simp)]
 simp only [Sem.run_bind,hn,Result.andThen_ok,if_pos hg,Bool.not_false,if_true,hnew]
 cases base with
 | none=>simp only at hst;subst hst;rfl
 | some a=>simp only [Sem.run_bind,hst,Result.andThen_ok,Sem.run_pure]
set_option maxHeartbeats 1000000 in
theorem yapk {t u ty e:TypeId} {i:TypeInfo} {z s x cs' cx:Value} {K:Value→H→Prop} (hu:P.underlying t=some (.slice e)) (hux:∃d,P.underlying u=some d∧∀k,d≠.int k) (hi:P.info? e=some i) (hz:y7rv P e=some z)
 (hzs:z.cells.size=i.size) (hr:HRel P W ι h w) (hs:VRel ι s cs') (hx:VRel ι x cx) (hk:yc1n e i.size i.bytes s x h K) :
 Sim P W ι (Builtin.append_ #[t,u] ty #[cs',cx]) w K:=by
 have hsz:szOf P e=i.size:=by simp [szOf,hi]
 unfold yc1n at hk
 split at hk
 ·rename_i base len cap n hsl
  obtain ⟨cbase,clen,ccap,rfl,rfl,hbn⟩:=hs.sliceAny
  split at hk
  ·exact hk.elim
  ·rename_i new hnew
   obtain ⟨new',hn1,hn2,hn3⟩:=yhud hr hx hnew
   -- a new array
   have grow:∀(ccap:Nat) (old old':List Value),All2 (CRel ι) old old'→(Builtin.firstCells i.size clen (.slice cbase clen ccap)).run P { w with drawn:=w.drawn+1 }=.ok old'.toArray { w with drawn:=w.drawn+1 } →
    ccap<clen+n→(clen+n)*i.bytes≤140737488355328→clen+n<9223372036854775808→∀h1:H,(∀ b o,h1 b=some o→h b=some o) →
    (∀ b',2≤b'→h b'=none→K (.slice (some ⟨b',0,none⟩) (clen+n) (clen+n)) (upd h1 b' (.cells (old++new) e .open)))→Sim P W ι (Builtin.append_ #[t,u] ty #[.slice cbase clen ccap,cx]) w K:=by
    intro ccap old old' ho hold hg hb h63 h1 hsub hk
    obtain ⟨new2,hm1,hm2,_⟩:=yhud (hr.drawn (w.drawn+1)) hx hnew
    obtain ⟨k,rest,hrest,hrun⟩:=y2iq (ty:=ty) hu hux hi hz (fun w=>ya6e hx hsl w) hold hm1 hg hb h63
    obtain ⟨b,h2,hb1,hhb⟩:=hr.fresh
    have hrd:=(hr.drawn (w.drawn+1)).drop hsub
    obtain ⟨n0,hn0⟩:=hr.nxt
    refine ⟨_,_,ι.set b ⟨w.heap.size,0,k⟩,.slice (some ⟨b,0,none⟩) (clen+n) (clen+n),_,hrun,Env.le_set _ hb1,?_,?_,hk b h2 hhb⟩
    ·refine hrd.new (b:=b) h2 hb1 ?_
     refine yu2s (by simp) hrd.below.size ((ho.append hm2).mono fun _ _ hc=>hc.mono (Env.le_set _ hb1)) (by simp) (fun _=>by rw [hrest,hzs,hsz]) ?_
     exact ydd5 _ _
    ·exact y2dw (Env.set_same _ _ _)
   split at hk
   ·-- within the capacity
    rename_i hfit
    split at hk
    ·rename_i b o
     split at hk
     ·rename_i hn0
      subst hn0
      have hne:=hn3 rfl
      subst hne
      cases hn2
      obtain ⟨a,rfl⟩:∃a,cbase=some a:=by cases cbase <;> simp_all
      have hc:clen+0≤ccap:=by
       rcases hs.slice with ⟨l,hl,he⟩ | ⟨rfl,_,_,_,a',he⟩ | ⟨rfl,_,_,_,a',c',he⟩ <;> cases he <;> omega
      have hrun:=y29o (ty:=ty) (w':=w) hu hux hi (ya6e hx hsl w) hn1 hc (base:=some a) (by simp [storeCells])
      exact Sim.quiet hr hrun hs hk
     ·rename_i hn0
      split at hk
      ·rename_i cs E m hb
       obtain ⟨hm,hlen,hnl,hk⟩:=hk
       rcases hs.slice with ⟨l,hl,he⟩ | ⟨_,rfl,_⟩ | ⟨_,rfl,_⟩
       ·cases he
        obtain ⟨w',hst,hr'⟩:=ywv1 (P:=P) hr hb hl hm hn2 (o:=o+clen*i.size) (by rw [hnl];rw [Nat.add_mul] at hlen;omega)
        have hrun:=y29o (ty:=ty) (w':=w') (cap:=cap+l.k) (len:=clen) hu hux hi (ya6e hx hsl w) hn1 (by omega) (base:=some ⟨l.b,l.o+o,none⟩) (by
         simp only [y4pb,Nat.add_assoc];exact hst)
        refine ⟨_,_,ι,_,_,hrun,Env.le_refl _,hr',?_,hk⟩
        exact .a (.c (.s (.slice hl)))
       ·omega
       ·omega
      ·exact hk.elim
    ·obtain ⟨rfl,hk⟩:=hk
     have hne:=hn3 rfl
     subst hne
     cases hn2
     have hcb:cbase=none:=by simpa using hbn
     subst hcb
     have hc:clen+0≤ccap:=by
      have hc:=hs.cell rfl
      cases hc with | s hc=>cases hc;omega
     have hrun:=y29o (ty:=ty) (w':=w) hu hux hi (ya6e hx hsl w) hn1 hc (base:=none) rfl
     exact Sim.quiet hr hrun hs hk
    ·exact hk.elim
   ·rename_i hnf
    obtain ⟨hb,h63,hnl,hn0,hk⟩:=hk
    split at hk
    ·-- from nothing
     obtain ⟨rfl,hk⟩:=hk
     have hcb:cbase=none:=by simpa using hbn
     subst hcb
     have hc0:ccap=0:=by
      have hc:=hs.cell rfl
      cases hc with | s hc=>cases hc;rfl
     subst hc0
     refine grow 0 [] [] .nil (by simp [Builtin.firstCells]) (by omega) hb h63 h (fun _ _ h=>h) ?_
     intro b' h2 hb'
     simpa using hk b' h2 hb'
    ·rename_i b o
     split at hk
     ·obtain ⟨rfl,hk⟩:=hk
      rename_i hb0
      subst hb0
      have hc0:ccap=0:=by
       rcases hs.slice with ⟨l,hl,_⟩ | ⟨_,_,_,_,a',he⟩ | ⟨_,_,h1,_⟩
       ·rw [hr.z0] at hl;cases hl
       ·cases he;rfl
       ·cases h1
      obtain ⟨a,rfl⟩:∃a,cbase=some a:=by cases cbase <;> simp_all
      subst hc0
      refine grow 0 [] [] .nil (by simp [Builtin.firstCells,loadCells,loadCellsFrom]) (by omega) hb h63 h (fun _ _ h=>h) ?_
      intro b' h2 hb'
      simpa using hk b' h2 hb'
     ·rename_i hb0
      split at hk
      ·rename_i cs E m hbo
       obtain ⟨hlen,hk⟩:=hk
       rcases hs.slice with ⟨l,hl,he⟩ | ⟨_,_,rfl,_⟩ | ⟨_,_,rfl,_⟩
       ·cases he
        obtain ⟨ccs,CE,lo,hi',g1,g2,g3,g4,g5,g6⟩:=hr.obj' hbo hl
        have hca:cellsAt h b o (clen*i.size)=some ((cs.drop o).take (clen*i.size)):=by simp [cellsAt,hbo,hlen]
        have hold:∃old',(Builtin.firstCells i.size clen (.slice (some ⟨l.b,l.o+o,none⟩) clen (cap+l.k))).run P { w with drawn:=w.drawn+1 }=.ok (List.toArray old') { w with drawn:=w.drawn+1 }∧All2 (CRel ι) ((cs.drop o).take (clen*i.size)) old':=by
         obtain ⟨old',q1,q2,q3⟩:=yvqe (hr.drawn (w.drawn+1)) hca hl
         refine ⟨old',?_,q1⟩
         have:=run_loadCells_list (P:=P) { w with drawn:=w.drawn+1 } ⟨l.b,l.o+o,none⟩ old' q3
         rw [← q1.length,q2] at this
         simp only [Builtin.firstCells]
         exact this
        obtain ⟨old',ho1,ho2⟩:=hold
        split at hk
        ·-- spare room behind the block
         obtain ⟨hE,hend,hpos,hk⟩:=hk
         subst hE
         have hsub:∀c oc,del h b c=some oc→h c=some oc:=fun c oc hc=>by
          unfold del at hc;split at hc
          ·cases hc
          ·exact hc
         by_cases hroom:clen+n≤cap+l.k
         ·obtain ⟨b',h2,hb',hhb⟩:=hr.fresh
          have hlt:l.b<w.heap.size:=hr.inb b l hl
          obtain ⟨hB,hfz⟩:=g4 (by simp)
          have hsz':=g6 rfl
          rw [hsz] at hsz'
          have hmul:(clen+n)*i.size≤(cap+l.k)*i.size:=Nat.mul_le_mul_right _ hroom
          rw [Nat.add_mul,Nat.add_mul] at hmul
          have hst:=ys8k P l.b (l.o+o+clen*i.size) CE lo hi' new' 0 ccs w g1 (by rw [← hn2.length,hnl];omega) (fun j hj hq=>hfz j hj ⟨hq.1,by omega⟩) (fun v hv=>by
           obtain ⟨j,hj,hget⟩:=List.mem_iff_getElem.1 hv
           obtain ⟨v0,_,hv0⟩:=hn2.get' (show new'[j]?=some v by rw [List.getElem?_eq_getElem hj,hget])
           exact hv0.one)
          have hnne:new'≠[]:=by
           intro he
           have h0:=hn2.length
           rw [he] at h0
           have:n*i.size=0:=by rw [← hnl,h0];rfl
           rcases Nat.mul_eq_zero.1 this with h1 | h1 <;> omega
          rw [if_neg hnne] at hst
          have hrun:=y29o (ty:=ty) (cap:=cap+l.k) (len:=clen) hu hux hi (ya6e hx hsl w) hn1 hroom (base:=some ⟨l.b,l.o+o,none⟩) (by
           simp only [y4pb];exact hst)
          have hlens:(cs.drop o).length=cs.length-o:=by simp
          refine ⟨_,_,ι.set b' ⟨l.b,l.o+o,cap+l.k-(clen+n)⟩,.slice (some ⟨b',0,none⟩) (clen+n) (clen+n),_,hrun,Env.le_set _ hb',?_,?_,hk b' h2 hhb⟩
          ·refine (hr.drop hsub).put (Env.le_set _ hb') (Env.set_same _ _ _) (fun c hc=>Env.set_ne _ _ hc) h2 hB (by rw [ynhg];exact hlt) (by rw [ynhg];exact Nat.le_refl _) (fun c hc _=>yp0x _ _ hc) rfl rfl rfl ?_ ?_ ?_
           ·intro c oc lc hc hoc hlc hro he
            have hcb:c≠b:=by rintro rfl;rw [yv15] at hoc;cases hoc
            rw [ybsf _ hcb] at hoc
            exact hr.sep c b oc _ lc l hcb hoc hbo hlc hl hro rfl he
           ·intro _ es1 cl1 he1
            rw [ysux _ _ hlt] at he1;cases he1
           ·have hlnew:=hn2.length
            refine ⟨_,CE,lo,hi',ysux _ _ hlt,?_,by simp,fun _=>⟨hB,fun j hj=>hfz j (by simpa [yanj] using hj)⟩,by simp,fun _=>?_⟩
            ·intro j v hj
             have hle:=Env.le_set (ι:=ι) ⟨l.b,l.o+o,cap+l.k-(clen+n)⟩ hb'
             simp only [List.getElem?_toArray,Nat.add_zero]
             rw [yb25 _ _ _ _ (by simp;omega)]
             rw [List.getElem?_append] at hj
             have htl:((cs.drop o).take (clen*i.size)).length=clen*i.size:=by simp;omega
             rw [htl] at hj
             split at hj
             ·rename_i hjl
              rw [if_neg (by omega)]
              have hj':cs[o+j]?=some v:=by
               rw [List.getElem?_take,if_pos hjl,List.getElem?_drop] at hj;exact hj
              obtain ⟨v',q1,q2⟩:=g2 _ _ hj'
              exact ⟨v',by rw [← Nat.add_assoc] at q1;simpa using q1,q2.mono hle⟩
             ·rename_i hjl
              obtain ⟨v',q1,q2⟩:=hn2.get hj
              have hjn:j-clen*i.size<new'.length:=(List.getElem?_eq_some_iff.1 q1).1
              rw [if_pos (by omega),show l.o+o+j-(l.o+o+clen*i.size)=j-clen*i.size by omega]
              exact ⟨v',q1,q2.mono hle⟩
            ·simp only [List.length_append,List.length_take,List.length_drop,hnl,hsz,List.size_toArray,yanj,Array.length_toList]
             have e1:(cap+l.k-(clen+n))*i.size=(cap+l.k)*i.size-(clen+n)*i.size:=Nat.sub_mul _ _ _
             rw [e1,Nat.add_mul,Nat.add_mul]
             omega
          ·have:=SRel.slice (ι:=ι.set b' ⟨l.b,l.o+o,cap+l.k-(clen+n)⟩) (o:=0) (n:=clen+n) (c:=clen+n) (Env.set_same _ _ _)
           simp only [Nat.add_zero] at this
           rw [show clen+n+(cap+l.k-(clen+n))=cap+l.k by omega] at this
           exact .a (.c (.s this))
         ·exact grow (cap+l.k) _ old' ho2 ho1 (by omega) hb h63 (del h b) hsub hk
        ·rename_i hm
         have hk0:l.k=0:=g5 (fun he=>hm he)
         rw [hk0,Nat.add_zero]
         rw [hk0,Nat.add_zero] at ho1
         exact grow cap _ old' ho2 ho1 (by omega) hb h63 h (fun _ _ h=>h) hk
       ·exact absurd rfl hb0
       ·obtain ⟨l,hl,_⟩:=hr.obj _ _ hbo
        rw [hr.z1] at hl;cases hl
      ·exact hk.elim
    ·exact hk.elim
 ·exact hk.elim
theorem ylp2 {t u ty e:TypeId} {i:TypeInfo} {d x cd cx:Value} {K:Value→H→Prop} (hu:P.underlying t=some (.slice e)) (hi:P.info? e=some i)
 (hr:HRel P W ι h w) (hd:VRel ι d cd) (hx:VRel ι x cx) (hk:y1uk i.size d x h K):Sim P W ι (Builtin.copy_ #[t,u] ty #[cd,cx]) w K:=by
 unfold y1uk at hk
 split at hk
 ·rename_i base len cap n hsl
  obtain ⟨cbase,clen,ccap,rfl,rfl,hbn⟩:=hd.sliceAny
  split at hk
  ·exact hk.elim
  ·rename_i new hnew
   obtain ⟨new',hn1,hn2,hn3⟩:=yhud hr hx hnew
   have hrun:∀w',(match cbase with | some a=>(storeCells a new').run P w=.ok () w' | none=>w'=w)→(Builtin.copy_ #[t,u] ty #[.slice cbase clen ccap,cx]).run P w=.ok (goInt (Nat.min n clen)) w':=by
    intro w' hst
    simp only [Builtin.copy_,List.getElem?_toArray,List.getElem?_cons_zero,List.getElem?_cons_succ,Sem.run_bind,yf58 hu,Result.andThen_ok,ya6e hx hsl w,y8gf hi,hn1]
    cases cbase with
    | none=>simp only at hst;subst hst;rfl
    | some a=>simp only [Sem.run_bind,hst,Result.andThen_ok,Sem.run_pure]
   split at hk
   ·rename_i h0
    have hne:=hn3 h0
    subst hne
    cases hn2
    refine Sim.quiet hr (hrun w ?_) ?_ hk
    ·cases cbase <;> simp [storeCells]
    ·rw [h0];exact ywzo rfl
   ·rename_i h0
    split at hk
    ·rename_i b o
     split at hk
     ·rename_i cs E m hb
      obtain ⟨hm,hlen,hnl,hk⟩:=hk
      rcases hd.slice with ⟨l,hl,he⟩ | ⟨rfl,_⟩ | ⟨rfl,_⟩
      ·cases he
       obtain ⟨w',hst,hr'⟩:=ywv1 (P:=P) hr hb hl hm hn2 (o:=o) (by rw [hnl];exact hlen)
       exact ⟨_,w',ι,_,_,hrun w' hst,Env.le_refl _,hr',ywzo rfl,hk⟩
      ·simp at h0
      ·simp at h0
     ·exact hk.elim
    ·exact hk.elim
 ·exact hk.elim
theorem yzpp {t ty:TypeId} {x cx:Value} {K:Value→H→Prop} (hu:P.underlying t=some .string) (hr:HRel P W ι h w) (hx:VRel ι x cx) (hk:ykwb x fun v=>K v h):Sim P W ι (Builtin.len_ #[t] ty #[cx]) w K:=by
 unfold ykwb at hk
 split at hk
 ·obtain rfl:=hx.string
  exact Sim.quiet hr (by simp [Builtin.len_,yf58 hu];rfl) (ywzo rfl) hk
 ·exact hk.elim
theorem yfsw {t ty e:TypeId} {x cx:Value} {K:Value→H→Prop} (hu:P.underlying t=some (.slice e)) (hr:HRel P W ι h w) (hx:VRel ι x cx) (hk:yn0t x fun v=>K v h):Sim P W ι (Builtin.len_ #[t] ty #[cx]) w K:=by
 unfold yn0t at hk
 split at hk
 ·obtain ⟨a',n',c',rfl,rfl,_⟩:=hx.sliceAny
  exact Sim.quiet hr (by simp [Builtin.len_,yf58 hu];rfl) (ywzo rfl) hk
 ·exact hk.elim
theorem ytdh {t ty kt e:TypeId} {x cx:Value} {K:Value→H→Prop} (hu:P.underlying t=some (.map kt e)) (hr:HRel P W ι h w) (hx:VRel ι x cx) (hk:y55i x h fun v=>K v h):Sim P W ι (Builtin.len_ #[t] ty #[cx]) w K:=by
 unfold y55i at hk
 split at hk
 ·obtain rfl:=hx.mapNil
  exact Sim.quiet hr (by simp [Builtin.len_,yf58 hu];rfl) (ywzo rfl) hk
 ·rename_i m
  obtain ⟨l,hl,rfl⟩:=hx.map
  split at hk
  ·rename_i kk es c hm
   obtain ⟨_,_,ces,h1,h2,_⟩:=hr.obj' hm hl
   have hg:(getObj l.b).run P w=.ok (.map ces c) w:=by simp [getObj,Sem.run,h1]
   have hlen:ces.size=es.length:=by simpa using h2.length.symm
   exact Sim.quiet hr (by simp [Builtin.len_,yf58 hu,hg,hlen];rfl) (ywzo rfl) hk
  ·exact hk.elim
 ·exact hk.elim
theorem y0pw {t ty e:TypeId} {n:Nat} {cx:Value} {K:Value→H→Prop} (hu:P.underlying t=some (.array n e)) (hr:HRel P W ι h w) (hk:K (.int .i64 n) h):Sim P W ι (Builtin.len_ #[t] ty #[cx]) w K :=
 Sim.quiet hr (by simp [Builtin.len_,yf58 hu];rfl) (ywzo rfl) hk
theorem yrkd:∀(vs:List Value) (bs:List UInt8),ye5h vs=some bs→∃ns:List Int,vs=ns.map (Value.int .u8)∧∀acc:ByteArray,ns.foldl (fun r n=>r.push (UInt8.ofNat n.toNat)) acc=⟨acc.data++bs.toArray⟩
 | [],bs,h=>by simp [ye5h] at h;subst h;exact ⟨[],rfl,fun acc=>by simp⟩
 | v::vs,bs,h=>by
   obtain ⟨n,rfl⟩:∃n,v=.int .u8 n:=by
    cases v with
    | int k n=>cases k with
      | u8=>exact ⟨n,rfl⟩
      | _=>simp [ye5h] at h
    | _=>simp [ye5h] at h
   simp only [ye5h] at h
   cases hb:ye5h vs with
   | none=>rw [hb] at h;cases h
   | some bs' =>
     rw [hb] at h
     simp only [Option.map_some,Option.some.injEq] at h
     subst h
     obtain ⟨ns,rfl,hns⟩:=yrkd vs bs' hb
     refine ⟨n::ns,rfl,fun acc=>?_⟩
     rw [List.foldl_cons,hns]
     congr 1
     apply Array.ext'
     simp [ByteArray.push]
theorem yi73 {s e d:TypeId} {x cx:Value} {K:Value→H→Prop} (hs:P.underlying s=some (.slice e)) (hd:P.underlying d=some .string) (he:P.underlying e=some (.int .u8))
 (hr:HRel P W ι h w) (hx:VRel ι x cx) (hk:y9vs x h fun v=>K v h):Sim P W ι (convert s d cx) w K:=by
 have hcv:∀(a:Option Addr) (n c:Nat),(convert s d (.slice a n c)).run P w=(Conv.bytesToString (.slice a n c)).run P w:=fun a n c=>run_convert_bytes_string w s d e a n c hs he hd
 unfold y9vs at hk
 split at hk
 ·obtain rfl:cx=.slice none 0 0:=ylf2 rfl hx
  exact Sim.quiet (cv:=.string .empty) hr (by rw [hcv];simp [Conv.bytesToString]) (ywzo rfl) hk
 ·rename_i b o n _
  obtain ⟨a',n',c',rfl,rfl,ha⟩:=hx.sliceAny
  obtain ⟨a,rfl⟩:∃a,a'=some a:=by cases a' <;> simp_all
  split at hk
  ·subst_vars
   have:=run_bytesToString (P:=P) w a 0 c' [] (by simp [loadCells,loadCellsFrom])
   exact Sim.quiet (cv:=.string .empty) hr (by rw [hcv,this];rfl) (ywzo rfl) hk
  ·rename_i hn0
   split at hk
   ·rename_i vs hvs
    split at hk
    ·rename_i bs hbs
     rcases hx.slice with ⟨l,hl,he'⟩ | ⟨h0,_⟩ | ⟨h0,_⟩
     ·simp only [Value.slice.injEq,Option.some.injEq] at he'
      obtain ⟨rfl,_,_⟩:=he'
      obtain ⟨vs',q1,q2,q3⟩:=yvqe hr hvs hl
      obtain ⟨ns,rfl,hns⟩:=yrkd vs bs hbs
      obtain rfl:vs'=ns.map (Value.int .u8):=yf3a q1 (by simp [List.all_map,selfC])
      have hload:=run_loadCells_list (P:=P) w ⟨l.b,l.o+o,none⟩ _ q3
      rw [q2] at hload
      have:=run_bytesToString (P:=P) w ⟨l.b,l.o+o,none⟩ n' c' ns hload
      rw [hns] at this
      refine Sim.quiet (cv:=.string ⟨bs.toArray⟩) hr ?_ (ywzo rfl) hk
      rw [hcv]
      have e1:(ByteArray.empty.data++bs.toArray)=bs.toArray:=by
       show #[]++bs.toArray=bs.toArray
       simp
      rw [e1] at this
      exact this
     ·exact absurd h0 hn0
     ·exact absurd h0 hn0
    ·exact hk.elim
   ·exact hk.elim
 ·exact hk.elim
theorem yw5j {s e d:TypeId} {i:TypeInfo} {x cx:Value} {K:Value→H→Prop} (hs:P.underlying s=some .string) (hd:P.underlying d=some (.slice e)) (he:P.underlying e=some (.int .u8)) (hi:P.info? e=some i) (hi1:i.size=1)
 (hr:HRel P W ι h w) (hx:VRel ι x cx) (hk:y0kx e x h K):Sim P W ι (convert s d cx) w K:=by
 unfold y0kx at hk
 split at hk
 ·rename_i x
  obtain rfl:=hx.string
  have hcv:(convert s d (.string x)).run P w=(Conv.stringToBytes e x).run P w:=by
   simp [convert,yf58 hs,yf58 hd,yf58 he]
  obtain ⟨C,w0,hC,hw0,hch⟩:∃C w0,x.size≤C∧(w0={ w with drawn:=w.drawn+1 })∧(choose (.appendCap x.size 0 e)).run P w=.ok C w0:=by
   refine ⟨(Question.appendCap x.size 0 e).cut (w.tape w.drawn (.appendCap x.size 0 e)),{ w with drawn:=w.drawn+1 },?_,rfl,?_⟩
   ·simp [Question.cut]
   ·rw [run_choose];rfl
  have hr0:HRel P W ι h w0:=by rw [hw0];exact hr.drawn _
  have hcs:All2 (CRel ι) (x.data.toList.map fun b=>Value.int .u8 b.toNat) (x.data.toList.map fun b=>Value.int .u8 b.toNat):=All2.refl_of fun a ha=>by
   obtain ⟨b,_,rfl⟩:=List.mem_map.1 ha
   exact .s (.int _ _)
  obtain ⟨b,ι',h1,h2,h3,h4⟩:=y30p (m:=.open) (rest:=List.replicate (C-x.size) (Value.int .u8 0)) (k:=C-x.size) hr0 (by simp) hcs (by simp) (fun _=>by simp [szOf,hi,hi1]) hk
  let A:Array Value:=((x.data.toList.map fun b=>Value.int .u8 b.toNat)++List.replicate (C-x.size) (Value.int .u8 0)).toArray
  have hA:(x.data.map fun b=>Value.int .u8 b.toNat)++Array.replicate (C-x.size) (Value.int .u8 0)=A:=by
   apply Array.ext';simp [A]
  let w1:=w0.alloc (.cells A e)
  have hw1:w1.heap[w0.heap.size]?=some (.cells A e (0,0)):=ydd5 _ _
  have hlt:w0.heap.size<w1.heap.size:=by simp [w1]
  have hfr:w1.freeze { block:=w0.heap.size,off:=A.size } 1=yoko w1 w0.heap.size (.cells A e (A.size,A.size+1)):=by
   simp only [World.freeze,yoko]
   rw [if_neg (by simp)]
   congr 1
   apply Array.ext_getElem?
   intro j
   rw [Array.getElem?_modify,Array.getElem?_setIfInBounds]
   by_cases hj:w0.heap.size=j
   ·subst hj;simp only [if_true,hw1,Option.map_some,hlt];simp
   ·simp [hj]
  have hrun:(convert s d (.string x)).run P w=.ok (.slice (some ⟨w0.heap.size,0,none⟩) x.size C) (yoko w1 w0.heap.size (.cells A e (A.size,A.size+1))):=by
   rw [hcv]
   have hsh:w1.shape? w0.heap.size=some (e,A.size):=by simp [World.shape?,hw1]
   simp only [Conv.stringToBytes,Sem.run_bind,hch,Result.andThen_ok,newRow,run_newObj,Sem.run_pure,hA,markStringish,run_shape]
   have:(({ w0 with heap:=w0.heap.push (.cells A e) }:World).shape? w0.heap.size)=some (e,A.size):=hsh
   simp only [this,run_freeze,Result.andThen_ok]
   congr 1
  refine ⟨_,_,ι',.slice (some ⟨b,0,none⟩) x.size x.size,_,hrun,h1,?_,?_,h4⟩
  ·obtain ⟨ccs,CE,lo,hi',g1,g2,g3,g4,g5,g6⟩:=h3.obj' (yy0e _ _ _) h2
   have hcc:ccs=A∧CE=e:=by
    have:w1.heap[w0.heap.size]?=some (.cells ccs CE (lo,hi')):=g1
    rw [hw1] at this;cases this;exact ⟨rfl,rfl⟩
   obtain ⟨rfl,rfl⟩:=hcc
   have hset:=h3.set (w':=yoko w1 w0.heap.size (.cells A CE (A.size,A.size+1))) (o':=.cells (x.data.toList.map fun b=>Value.int .u8 b.toNat) CE .open) (yy0e _ _ _) h2 rfl (ynhg _ _ _) (fun c hc=>yp0x _ _ hc) rfl rfl rfl hr0.below.size
    (fun es cl he=>by rw [ysux _ _ hlt] at he;cases he) ⟨A,CE,A.size,A.size+1,ysux _ _ hlt,g2,g3,fun hm=>⟨(g4 hm).1,fun j hj=>by omega⟩,g5,g6⟩
   have:upd (upd h b (.cells (x.data.toList.map fun b=>Value.int .u8 b.toNat) CE .open)) b (.cells (x.data.toList.map fun b=>Value.int .u8 b.toNat) CE .open)=upd h b (.cells (x.data.toList.map fun b=>Value.int .u8 b.toNat) CE .open):=by
    funext c;unfold upd;split <;> rfl
   rw [this] at hset;exact hset
  ·have:=y2dw (len:=x.size) h2
   rw [show x.size+(C-x.size)=C by omega] at this
   exact this
 ·exact hk.elim
theorem ycpy {h:H} {b:Nat} {o:AObj} (hb:h b=some o):upd h b o=h:=by
 funext c;unfold upd;split
 ·rename_i e;rw [e,hb]
 ·rfl
theorem y2r1 {s d e:TypeId} {x cx:Value} {K:Value→H→Prop} (hs:∃e',P.underlying s=some (.slice e')) (hd:P.underlying d=some (.slice e)) (he:P.underlying e=some (.int .u8)) (hsd:s=d)
 (hr:HRel P W ι h w) (hx:VRel ι x cx) (hk:yt5p x h fun v=>K v h):Sim P W ι (convert s d cx) w K:=by
 obtain ⟨e',hs⟩:=hs
 unfold yt5p at hk
 split at hk
 ·rename_i b o n c
  split at hk
  ·rename_i cs E m hb
   obtain ⟨hm,hk⟩:=hk
   rcases hx.slice with ⟨l,hl,he'⟩ | ⟨_,_,h0,_⟩ | ⟨_,_,h0,_⟩
   ·subst he'
    obtain ⟨ccs,CE,lo,hi,g1,g2,g3,g4,g5,g6⟩:=hr.obj' hb hl
    obtain ⟨hB,hfz⟩:=g4 hm
    have hlt:=hr.inb b l hl
    obtain ⟨fz,hfz1,hfr⟩:∃fz:Nat×Nat,(∀ i,i<ccs.size→¬(fz.1≤i∧fz.1≠fz.2))∧w.freeze { block:=l.b,off:=ccs.size } 1=yoko w l.b (.cells ccs CE fz):=by
     refine ⟨if lo=hi then (ccs.size,ccs.size+1) else (min lo ccs.size,max hi (ccs.size+1)),?_,?_⟩
     ·intro i hi2
      have:=hfz i hi2
      split
      ·simp only;omega
      ·simp only;omega
     ·simp only [World.freeze,yoko]
      rw [if_neg (by simp)]
      congr 1
      apply Array.ext_getElem?
      intro j
      rw [Array.getElem?_modify,Array.getElem?_setIfInBounds]
      by_cases hj:l.b=j
      ·subst hj;simp only [if_true,g1,Option.map_some,hlt];simp
      ·simp [hj]
    have hsh:w.shape? l.b=some (CE,ccs.size):=by simp [World.shape?,g1]
    have hrun:(convert s d (.slice (some ⟨l.b,l.o+o,none⟩) n (c+l.k))).run P w=.ok (.slice (some ⟨l.b,l.o+o,none⟩) n (c+l.k)) (yoko w l.b (.cells ccs CE fz)):=by
     subst hsd
     have hee:e'=e:=by rw [hs] at hd;cases hd;rfl
     subst hee
     rw [← hfr]
     simp [convert,yf58 hs,yf58 he,markStringish,run_shape,hsh,run_freeze]
    refine ⟨_,_,ι,.slice (some ⟨b,o,none⟩) n c,h,hrun,Env.le_refl _,?_,.a (.c (.s (.slice hl))),hk⟩
    have hset:=hr.set (w':=yoko w l.b (.cells ccs CE fz)) (o':=.cells cs E m) hb hl (by cases m <;> first | rfl | exact absurd rfl hm) (ynhg _ _ _) (fun c hc=>yp0x _ _ hc) rfl rfl rfl hB
     (fun es cl he=>by rw [ysux _ _ hlt] at he;cases he) ⟨ccs,CE,fz.1,fz.2,ysux _ _ hlt,g2,g3,fun _=>⟨hB,hfz1⟩,g5,g6⟩
    rw [ycpy hb] at hset;exact hset
   ·obtain ⟨l,hl,_⟩:=hr.obj _ _ hb;rw [h0,hr.z0] at hl;cases hl
   ·obtain ⟨l,hl,_⟩:=hr.obj _ _ hb;rw [h0,hr.z1] at hl;cases hl
  ·exact hk.elim
 ·exact hk.elim
end
end Go.Proofs.YtnckimioabkheaaGreat.AM
set_option linter.unusedSimpArgs false
set_option linter.unusedVariables false
namespace Go.Proofs.YtnckimioabkheaaGreat.AM
open Go.RowKit
def Wide (F:Fence):Prop:=F=Fence.wide∨∃l,F=Fence.wide.inRound l
theorem Wide.fn {F:Fence} (h:Wide F) (f:FuncId):F.fn f:=by rcases h with rfl | ⟨l,rfl⟩ <;> trivial
theorem Wide.depth {F:Fence} (h:Wide F):F.depth.isSome=true→1≤0:=by rcases h with rfl | ⟨l,rfl⟩ <;> simp [Fence.wide,Fence.inRound]
theorem Wide.calls {F:Fence} (h:Wide F) {n:Nat} {P:Program} {f:FuncId} {args:Array Value} {w:World} {R:Ending→World→Prop} (hc:Calls P f args w R):CallsIn F n P f args w R:=by
 rcases h with rfl | ⟨l,rfl⟩
 ·exact callsIn_wide.2 hc
 ·exact CallsIn.inRound l (callsIn_wide.2 hc)
theorem Wide.round {F:Fence} (h:Wide F) {n:Nat} {P:Program} {l:Nat} {f:FuncId} {tmps:Array Value} {assign body:Code} {w:World} {R:Ending→World→Prop} (hc:RoundIn Fence.wide n P l f tmps assign body w R):RoundIn F n P l f tmps assign body w R:=by
 rcases h with rfl | ⟨l,rfl⟩
 ·exact hc
 ·exact hc
section
variable {P:Program} {W:World} {ι:Env} {h:H} {w:World} {N:Nat} {t:T} {a:Act} {F:Fence}
theorem y7ee {a b:Nat} (h:Nat.blt a b=true):a<b:=by simpa [Nat.blt_eq] using h
theorem TRel.put (hr:TRel ι N t a.tmps) {d:Option Tmp} {v cv:Value} (hd:(match d with | some d=>Nat.blt d N | none=>true)=true) (hv:VRel ι v cv):TRel ι N (tput t d v) (a.put d cv).tmps:=by
 cases d with
 | none=>exact hr
 | some d =>
   have hlt:d<N:=y7ee hd
   refine ⟨by simp [Act.put,hr.1],fun i hi=>?_⟩
   simp only [tput,tset,Act.put]
   by_cases he:i=d
   ·subst he
    have:Nat.beq i i=true:=Nat.beq_refl i
    rw [this,cond_true]
    have:(a.tmps.setIfInBounds i cv).getD i undef=cv:=by simp [Array.getD,hr.1,hi]
    rw [this];exact hv
   ·have:Nat.beq i d=false:=by
     cases hq:Nat.beq i d with
     | false=>rfl
     | true=>exact absurd (Nat.eq_of_beq_eq_true hq) he
    rw [this,cond_false]
    have:(a.tmps.setIfInBounds d cv).getD i undef=a.tmps.getD i undef:=by
     simp [Array.getD_eq_getD_getElem?,Array.getElem?_setIfInBounds_ne (Ne.symm he)]
    rw [this];exact hr.2 i hi
theorem yg5n (a:Act) (d:Option Tmp) (v:Value):(a.put d v).defers=a.defers:=by cases d <;> simp [Act.put]
theorem yrg0 (t:T) {d:Option Tmp} (v:Value) (hd:(match d with | some d=>Nat.blt d N | none=>true)=true):tput t d v N=t N:=by
 cases d with
 | none=>rfl
 | some d =>
   have hlt:d<N:=y7ee hd
   have:Nat.beq N d=false:=Bool.eq_false_iff.2 fun hq=>Nat.lt_irrefl d (by
    have:=Nat.eq_of_beq_eq_true hq
    rw [this] at hlt
    exact hlt)
   simp [tput,tset,this]
theorem VRel.func0 (f:FuncId):VRel ι (.func (.func f) #[] #[]) (.func (.func f) #[] #[]):=.a (.c (.func f .nil .nil))
theorem ybtl (hr:TRel ι N t a.tmps) {x:Operand} (hx:yner N x=true):VRel ι (aev t x) (a.eval x):=by
 cases x with
 | tmp i=>exact hr.2 i (y7ee hx)
 | const v=>exact ywzo hx
 | global g=>cases hx
 | func f=>exact VRel.func0 f
def Next' (P:Program) (W:World) (ι:Env) (K:Value→H→Prop) (next:Value→World→Prop):Prop :=
 ∀v cv ι' h' w',Env.le ι ι'→HRel P W ι' h' w'→VRel ι' v cv→K v h'→next cv w'
theorem yrqs {o:Oper} {s:Sem Value} {K:Value→H→Prop} {next:Act→World→Prop} {Q:Exit→Act→World→Prop} (hsem:o.semAt F.round a.eval=(do pure (.value (← s))))
 (hs:Sim P W ι s w K) (hn:Next' P W ι K fun cv w'=>next (a.put o.dst cv) w'):o.uponIn F 0 P a next Q ((o.semAt F.round a.eval).run P w):=by
 obtain ⟨cv,w',ι',v,h',h1,h2,h3,h4,h5⟩:=hs
 rw [hsem]
 simp only [Sem.run_bind,h1,Result.andThen_ok,Sem.run_pure]
 exact hn v cv ι' h' w' h2 h3 h4 h5
theorem yx6u {o:Oper} {s:Sem Unit} {K:Value→H→Prop} {next:Act→World→Prop} {Q:Exit→Act→World→Prop} (hsem:o.semAt F.round a.eval=(do s;pure .skip))
 (hs:SimU P W ι s w fun h=>K undef h) (hn:Next' P W ι K fun cv w'=>next (a.put o.dst cv) w'):o.uponIn F 0 P a next Q ((o.semAt F.round a.eval).run P w):=by
 obtain ⟨w',ι',h',h1,h2,h3,h4⟩:=hs
 rw [hsem]
 simp only [Sem.run_bind,h1,Result.andThen_ok,Sem.run_pure]
 exact hn undef undef ι' h' w' h2 h3 VRel.undef h4
theorem ym5i (hr:TRel ι N t a.tmps):∀{l:List Operand},l.all (yner N)=true→(l.map (aev t)).all boxV=true→All2 (ARel ι) (l.map (aev t)) (l.map a.eval)
 | [],_,_=>.nil
 | x::l,hx,hb=>by
   simp only [List.all_cons,Bool.and_eq_true,List.map_cons] at hx hb
   exact .cons ((ybtl hr hx.1).toA hb.1) (ym5i hr hx.2 hb.2)
theorem y98p (hr:TRel ι N t a.tmps):∀{l:List Operand},l.all (yner N)=true→(l.map (aev t)).all ysqa=true→All2 (SRel ι) (l.map (aev t)) (l.map a.eval)
 | [],_,_=>.nil
 | x::l,hx,hb=>by
   simp only [List.all_cons,Bool.and_eq_true,List.map_cons] at hx hb
   exact .cons ((ybtl hr hx.1).toS hb.1) (y98p hr hx.2 hb.2)
theorem yn9b (hr:TRel ι N t a.tmps) {x:Option Operand} (hx:∀y,x=some y→yner N y=true):ybts ι (x.map (aev t)) (x.map a.eval):=by
 cases x with
 | none=>exact .inl ⟨rfl,rfl⟩
 | some y=>exact .inr ⟨_,_,rfl,rfl,ybtl hr (hx y rfl)⟩
theorem ylmb {f:FuncId} (hf:yu9w P f=true) (args:Array Value) (w:World):(callFunc f args).run P w=.ok (.enter f args) w:=by
 unfold yu9w at hf
 unfold callFunc
 simp only [Sem.run_bind,run_program,Result.andThen_ok]
 split at hf
 ·rename_i fn hfn
  simp only [Bool.and_eq_true,bne_iff_ne,ne_eq] at hf
  simp only [hfn]
  have h1:(fn.name=="runtime.NumGoroutine")=false:=by simpa using hf.2
  have h2:fn.body.isNone=false:=by cases hb:fn.body <;> simp_all
  simp [h1,h2]
 ·cases hf
theorem y3hx {o:Oper} {f:FuncId} {args:List Value} {cargs:Array Value} {K:Value→H→Prop} {next:Act→World→Prop} {Q:Exit→Act→World→Prop} (hF:Wide F)
 (hrun:(o.semAt F.round a.eval).run P w=.ok (.enter f cargs) w) (hr:HRel P W ι h w) (ha:All2 (ARel ι) args cargs.toList) (hs:Spec P f args h K)
 (hn:Next' P W ι K fun cv w'=>next (a.put o.dst cv) w'):o.uponIn F 0 P a next Q ((o.semAt F.round a.eval).run P w):=by
 rw [hrun,Oper.uponIn_enter]
 refine ⟨hF.depth,hF.calls ((hs W ι w cargs hr ha).mono ?_)⟩
 rintro e w' ⟨v,cv,ι',h',rfl,h1,h2,h3,h4⟩
 exact hn v cv ι' h' w' h1 h2 h3 h4
theorem yx44 {o:Oper} {r:Nat} {l:Loc} {args:List Value} {cargs:Array Value} {K:Value→H→Prop} {next:Act→World→Prop} {Q:Exit→Act→World→Prop} (hF:Wide F)
 (hrun:(o.semAt F.round a.eval).run P w=(Instr.yield l.b cargs).run P w) (hr:HRel P W ι h w) (hl:ι r=some l) (ha:All2 (ARel ι) args cargs.toList) (hs:YSpec P r args h K)
 (hn:Next' P W ι K fun cv w'=>next (a.put o.dst cv) w'):o.uponIn F 0 P a next Q ((o.semAt F.round a.eval).run P w):=by
 obtain ⟨L,h1,h2,h3⟩:=hs W ι w cargs l hr hl ha
 rw [hrun,run_yield h1 h2.symm,Oper.uponIn_round]
 refine ⟨hF.depth,hF.round (h3.mono ?_)⟩
 rintro e w' ⟨v,cv,ι',h',rfl,h1,h2,h3,h4⟩
 exact hn v cv ι' h' w' h1 h2 h3 h4
theorem yo1h {o:Oper} {c:Call} {K:Value→H→Prop} {next:Act→World→Prop} {Q:Exit→Act→World→Prop} (hF:Wide F) (hsem:o.semAt F.round a.eval=(do let d ←resolve a.eval c o.type;invoke d.target d.args))
 (hops:(Op.call c).operands.toList.all (yner N)=true) (hr:HRel P W ι h w) (ht:TRel ι N t a.tmps)
 (hk:aCall P c (aev t) h K) (hn:Next' P W ι K fun cv w'=>next (a.put o.dst cv) w'):o.uponIn F 0 P a next Q ((o.semAt F.round a.eval).run P w):=by
 obtain ⟨callee,args,argTypes⟩:=c
 have opr:∀x,x∈args.toList→VRel ι (aev t x) (a.eval x):=fun x hx=>ybtl ht (List.all_eq_true.1 hops x (by simp [Op.operands,Call.operands];exact .inr (by simpa using hx)))
 have hargs:args.toList.all (yner N)=true:=List.all_eq_true.2 fun x hx=>List.all_eq_true.1 hops x (by simp [Op.operands,Call.operands];exact .inr (by simpa using hx))
 unfold aCall at hk
 simp only at hk
 have mk:∀{l:List Operand},args.toList=l→args=l.toArray:=fun h=>Array.ext' (by simpa using h)
 have mkT:∀{l:List TypeId},argTypes.toList=l→argTypes=l.toArray:=fun h=>Array.ext' (by simpa using h)
 have bsem:∀{b:Builtin} {s:Sem Value},callee=.builtin b→builtin b argTypes o.type (args.map fun | .const _=>true | _=>false) (args.map a.eval)=(do pure (.value (← s))) →
  o.semAt F.round a.eval=(do pure (.value (← s))):=by
  intro b s hb hs
  subst hb
  rw [hsem,←hs];rfl
 split at hk
 ·rename_i x ty hal htl
  have ha:=mk hal
  have hty:=mkT htl
  subst hty
  have hx:=opr x (by rw [hal];simp)
  refine yrqs (s:=Builtin.len_ #[ty] o.type #[a.eval x]) (bsem rfl (by rw [ha];simp only [List.map_toArray,List.map_cons,List.map_nil];rfl)) ?_ hn
  split at hk
  ·rename_i hu;exact yzpp hu hr hx hk
  ·rename_i e hu;exact yfsw hu hr hx hk
  ·rename_i kt e hu;exact ytdh hu hr hx hk
  ·rename_i n e hu;exact y0pw hu hr hk
  ·exact hk.elim
 ·rename_i s x ty uty hal htl
  have ha:=mk hal
  have hty:=mkT htl
  subst hty
  have hs:=opr s (by rw [hal];simp)
  have hx:=opr x (by rw [hal];simp)
  refine yrqs (s:=Builtin.append_ #[ty,uty] o.type #[a.eval s,a.eval x]) (bsem rfl (by rw [ha];simp only [List.map_toArray,List.map_cons,List.map_nil];rfl)) ?_ hn
  have fin:∀e d,P.underlying ty=some (.slice e)→P.underlying uty=some d→(∀ k,d≠.int k) →
   (match P.info? e,y7rv P e with
   | some i,some z=>bif z.cells.size==i.size then yc1n e i.size i.bytes (aev t s) (aev t x) h K else False
   | _,_=>False)→Sim P W ι (Builtin.append_ #[ty,uty] o.type #[a.eval s,a.eval x]) w K:=by
   intro e d hu hd hdk hk
   split at hk
   ·rename_i i z hi hz
    cases hzs:(z.cells.size==i.size) with
    | false=>rw [hzs,cond_false] at hk;exact hk.elim
    | true=>rw [hzs,cond_true] at hk;exact yapk hu ⟨d,hd,hdk⟩ hi hz (by simpa using hzs) hr hs hx hk
   ·exact hk.elim
  split at hk
  ·rename_i e e' hu hu';exact fin e _ hu hu' (by simp) hk
  ·rename_i e hu hu';exact fin e _ hu hu' (by simp) hk
  ·exact hk.elim
 ·rename_i d x ty uty hal htl
  have ha:=mk hal
  have hty:=mkT htl
  subst hty
  refine yrqs (s:=Builtin.copy_ #[ty,uty] o.type #[a.eval d,a.eval x]) (bsem rfl (by rw [ha];simp only [List.map_toArray,List.map_cons,List.map_nil];rfl)) ?_ hn
  split at hk
  ·rename_i e hu
   split at hk
   ·rename_i i hi;exact ylp2 hu hi hr (opr d (by rw [hal];simp)) (opr x (by rw [hal];simp)) hk
   ·exact hk.elim
  ·exact hk.elim
 ·rename_i m k ty uty hal htl
  have ha:=mk hal
  have hty:=mkT htl
  subst hty
  refine yrqs (s:=Builtin.delete_ #[ty,uty] o.type #[a.eval m,a.eval k]) (bsem rfl (by rw [ha];simp only [List.map_toArray,List.map_cons,List.map_nil];rfl)) ?_ hn
  split at hk
  ·rename_i kt e hu
   split at hk
   ·rename_i kk hkk;exact ylx9 hu hkk rfl hr (opr m (by rw [hal];simp)) (opr k (by rw [hal];simp)) hk
   ·exact hk.elim
  ·exact hk.elim
 ·rename_i x y hal
  have ha:=mk hal
  have hx:=opr x (by rw [hal];simp)
  have hy:=opr y (by rw [hal];simp)
  unfold yzve at hk
  cases hs:(selfV (aev t x)&&selfV (aev t y)) with
  | false=>rw [hs,cond_false] at hk;exact hk.elim
  | true =>
    rw [hs,cond_true] at hk
    simp only [Bool.and_eq_true] at hs
    refine yrqs (s:=Builtin.min2 (a.eval x) (a.eval y)) (bsem rfl (by rw [ha];simp [builtin,Builtin.min_])) ?_ hn
    rw [ylf2 hs.1 hx,ylf2 hs.2 hy];exact y6p9 hr hk
 ·rename_i x y hal
  have ha:=mk hal
  have hx:=opr x (by rw [hal];simp)
  have hy:=opr y (by rw [hal];simp)
  unfold yzve at hk
  cases hs:(selfV (aev t x)&&selfV (aev t y)) with
  | false=>rw [hs,cond_false] at hk;exact hk.elim
  | true =>
    rw [hs,cond_true] at hk
    simp only [Bool.and_eq_true] at hs
    refine yrqs (s:=Builtin.max2 (a.eval x) (a.eval y)) (bsem rfl (by rw [ha];simp [builtin,Builtin.max_])) ?_ hn
    rw [ylf2 hs.1 hx,ylf2 hs.2 hy];exact y6p9 hr hk
 ·rename_i f
  cases hb:yu9w P f with
  | false=>rw [hb,cond_false] at hk;exact hk.elim
  | true =>
  rw [hb,cond_true] at hk
  obtain ⟨hbox,hk⟩:=hk
  refine y3hx (cargs:=args.map a.eval) (args:=args.toList.map (aev t)) hF ?_ hr ?_ hk hn
  ·rw [hsem]
   have:∀w,(invoke (.fn (.func f) #[]) (args.map a.eval)).run P w=.ok (.enter f (args.map a.eval)) w:=fun w=>by
    simp [invoke,ylmb hb]
   simp [resolve,Act.eval,Deferred.ofValue,this]
  ·have:=ym5i ht hargs hbox
   simpa using this
 ·rename_i i
  have hf:VRel ι (t i) (a.eval (.tmp i)):=ybtl ht (List.all_eq_true.1 hops (.tmp i) (by simp [Op.operands,Call.operands]))
  obtain ⟨hbox,hk⟩:=hk
  have hav:=ym5i ht hargs hbox
  have hres:∀fn first captured,a.eval (.tmp i)=.func fn first captured→o.semAt F.round a.eval=invoke (.fn fn captured) (first++args.map a.eval):=by
   intro fn first captured he
   rw [hsem]
   simp [resolve,he,Deferred.ofValue]
  generalize hce:a.eval (.tmp i)=ce at hf
  simp only [aev] at hk
  split at hk
  ·rename_i f first captured hv
   obtain ⟨hb,hk⟩:=hk
   rw [hv] at hf
   have hc:=hf.cell rfl
   cases hc with
   | s hc=>cases hc
   | func f h1 h2 =>
     rename_i first' captured'
     refine y3hx (cargs:=first'++args.map a.eval++captured') hF ?_ hr ?_ hk hn
     ·rw [hres _ _ _ hce]
      simp [invoke,ylmb hb]
     ·have hs1:All2 (ARel ι) first.toList first'.toList:=h1.mono fun _ _ h=>.c (.s h)
      have hs2:All2 (ARel ι) captured.toList captured'.toList:=h2.mono fun _ _ h=>.c (.s h)
      simpa using (hs1.append hav).append hs2
  ·rename_i r b c hv
   obtain ⟨h1,h2,hk⟩:=hk
   rw [hv] at hf
   have hc:=hf.cell rfl
   cases hc with
   | s hc=>cases hc
   | yield hl =>
     rename_i l
     refine yx44 (cargs:=args.map a.eval) hF ?_ hr hl ?_ hk hn
     ·rw [hres _ _ _ hce]
      simp [invoke]
     ·simpa using hav
  ·exact hk.elim
 ·exact hk.elim
set_option maxHeartbeats 2000000 in
theorem yfmx {o:Oper} {K:Value→H→Prop} {next:Act→World→Prop} {Q:Exit→Act→World→Prop} (hF:Wide F) (hok:yz4b N o=true) (hr:HRel P W ι h w) (ht:TRel ι N t a.tmps)
 (hk:aop P o.op (aev t) h K) (hn:Next' P W ι K fun cv w'=>next (a.put o.dst cv) w'):o.wpIn F 0 P a w next Q:=by
 refine ⟨fun f _=>hF.fn f,?_⟩
 unfold yz4b at hok
 simp only [Bool.and_eq_true] at hok
 obtain ⟨⟨_,hops⟩,hnd⟩:=hok
 have hsem:o.semAt F.round a.eval=execOp a.eval o:=Oper.semAt_eq _ _ _ (fun c hc=>by rw [hc] at hnd;cases hnd)
 have opr:∀x,x∈o.op.operands.toList→VRel ι (aev t x) (a.eval x):=fun x hx=>ybtl ht (List.all_eq_true.1 hops x hx)
 obtain ⟨dst,op,type,pos,after,guard⟩:=o
 simp only at hk hops opr hnd
 cases op with
 | move x =>
   exact yrqs (s:=pure (a.eval x)) (by rw [hsem];rfl) (Sim.quiet hr rfl (opr x (by simp [Op.operands])) hk) hn
 | assign x =>
   exact yrqs (s:=pure (a.eval x)) (by rw [hsem];rfl) (Sim.quiet hr rfl (opr x (by simp [Op.operands])) hk) hn
 | pick c x y =>
   have hc:=opr c (by simp [Op.operands])
   have hx:=opr x (by simp [Op.operands])
   have hy:=opr y (by simp [Op.operands])
   simp only [aop,yw1w] at hk
   split at hk
   ·rename_i q hq
    rw [hq] at hc
    have hcq:=hc.bool
    refine yrqs (s:=pure (bif q then a.eval x else a.eval y)) ?_ (Sim.quiet hr rfl ?_ hk) hn
    ·rw [hsem];simp only [execOp,hcq,asBool];cases q <;> rfl
    ·cases q <;> assumption
   ·exact hk.elim
 | alloc E =>
   simp only [aop] at hk
   split at hk
   ·rename_i z hz;exact yrqs (by rw [hsem];rfl) (ydon hz hr hk) hn
   ·exact hk.elim
 | box E x=>exact yrqs (by rw [hsem];rfl) (yqtc hr (opr x (by simp [Op.operands])) hk.1 hk.2) hn
 | build ty ps =>
   refine yrqs (s:=Instr.build ty (ps.map fun (i,x)=>(i,a.eval x))) (by rw [hsem];rfl) ?_ hn
   have hk':yiyd P ty (ps.toList.map fun p=>(p.1,aev t p.2)) fun v=>K v h:=hk
   have:=ylgi (t:=ty) (ps:=ps.toList.map fun p=>(p.1,aev t p.2)) (ps':=ps.toList.map fun p=>(p.1,a.eval p.2)) hr (fun hb=>ypys (ρ:=aev t) (ρ':=a.eval) (fun p hp=>opr p.2 (by simp [Op.operands];exact ⟨p.1,by simpa using hp⟩)) hb) hk'
   have e:(ps.toList.map fun p=>(p.1,a.eval p.2)).toArray=ps.map fun p=>(p.1,a.eval p.2):=by apply Array.ext';simp
   rw [e] at this;exact this
 | buildSlice ty n ps =>
   refine yrqs (s:=Instr.buildSlice ty n (ps.map fun (i,x)=>(i,a.eval x))) (by rw [hsem];rfl) ?_ hn
   simp only [aop,yyll] at hk
   split at hk
   ·rename_i cs e hl
    have:=yxo9 (t:=ty) (ps:=ps.toList.map fun p=>(p.1,aev t p.2)) (ps':=ps.toList.map fun p=>(p.1,a.eval p.2)) hr (fun hb=>ypys (ρ:=aev t) (ρ':=a.eval) (fun p hp=>opr p.2 (by simp [Op.operands];exact ⟨p.1,by simpa using hp⟩)) hb) hl hk
    have e:(ps.toList.map fun p=>(p.1,a.eval p.2)).toArray=ps.map fun p=>(p.1,a.eval p.2):=by apply Array.ext';simp
    rw [e] at this;exact this
   ·exact hk.elim
 | load ty x =>
   simp only [aop] at hk
   split at hk
   ·rename_i ag n hts;exact yrqs (by rw [hsem];rfl) (y88f hts hr (opr x (by simp [Op.operands])) hk) hn
   ·exact hk.elim
 | store ty x y =>
   simp only [aop] at hk
   split at hk
   ·rename_i ag n hts
    exact yx6u (by rw [hsem];rfl) (yxsq hts hr (opr x (by simp [Op.operands])) (opr y (by simp [Op.operands])) hk) hn
   ·exact hk.elim
 | nilCheck x =>
   obtain ⟨v,h1,h2,h3,h4,h5,h6⟩:=ydgc (opr x (by simp [Op.operands])) hk
   refine yrqs (s:=pure (a.eval x)) ?_ (Sim.quiet hr rfl h1 h2) hn
   rw [hsem]
   simp only [execOp]
   generalize a.eval x=cx at *
   cases cx with
   | pointer p=>cases p with
     | none=>exact absurd rfl h4
     | some _=>rfl
   | nilIface=>exact absurd rfl h5
   | nilFunc=>exact absurd rfl h6
   | func f b c=>cases f with
     | method m=>exact absurd rfl (h3 _ _ _)
     | _=>rfl
   | _=>rfl
 | binOp op xt x y yt =>
   exact yrqs (s:=do eqGuard op xt x y (a.eval x) (a.eval y);binOp op xt (a.eval x) (a.eval y)) (by rw [hsem];rfl) (yvj4 hr (opr x (by simp [Op.operands])) (opr y (by simp [Op.operands])) hk) hn
 | unOp op xt x =>
   have hx:=opr x (by simp [Op.operands])
   simp only [aop,o_un] at hk
   cases hs:selfV (aev t x) with
   | false=>rw [hs,cond_false] at hk;exact hk.elim
   | true =>
     rw [hs,cond_true] at hk
     have:=ylf2 hs hx
     refine yrqs (s:=Op.unary op (a.eval x)) (by rw [hsem];rfl) ?_ hn
     rw [this];exact y6p9 hr hk
 | convert src dst' x =>
   have hx:=opr x (by simp [Op.operands])
   refine yrqs (s:=convert src dst' (a.eval x)) (by rw [hsem];rfl) ?_ hn
   simp only [aop] at hk
   split at hk
   ·rename_i k k' hd hs
    unfold ykic at hk
    split at hk
    ·rename_i k2 n hv
     rw [hv] at hx
     rw [hx.int]
     exact Sim.quiet hr (by simp [convert,yf58 hs,yf58 hd,Conv.intToInt]) (ywzo rfl) hk
    ·exact hk.elim
   ·rename_i hd hs
    unfold y1of at hk
    split at hk
    ·rename_i s hv
     rw [hv] at hx
     rw [hx.string]
     exact Sim.quiet hr (by simp [convert,yf58 hs,yf58 hd]) (ywzo rfl) hk
    ·exact hk.elim
   ·rename_i e hd hs
    split at hk
    ·rename_i he;exact yi73 hs hd he hr hx hk
    ·exact hk.elim
   ·rename_i e hd hs
    split at hk
    ·rename_i i he hi
     cases h1:Nat.beq i.size 1 with
     | false=>rw [h1,cond_false] at hk;exact hk.elim
     | true=>rw [h1,cond_true] at hk;exact yw5j hs hd he hi (Nat.eq_of_beq_eq_true h1) hr hx hk
    ·exact hk.elim
   ·rename_i e e' hd hs
    split at hk
    ·rename_i he
     cases h1:Nat.beq src dst' with
     | false=>rw [h1,cond_false] at hk;exact hk.elim
     | true=>rw [h1,cond_true] at hk;exact y2r1 ⟨_,hs⟩ hd he (Nat.eq_of_beq_eq_true h1) hr hx hk
    ·exact hk.elim
   ·exact hk.elim
 | makeInterface ty x =>
   have hx:=opr x (by simp [Op.operands])
   refine yrqs (s:=Instr.makeInterface ty (a.eval x)) (by rw [hsem];rfl) ?_ hn
   simp only [aop] at hk
   split at hk
   ·exact hk.elim
   ·exact hk.elim
   ·rename_i d hd h1
    obtain ⟨hp,hk⟩:=hk
    refine Sim.quiet hr (run_makeInterface w ty (a.eval x) ?_) (.a (.c (.iface ty (hx.toS hp)))) hk
    unfold Program.concrete
    rw [h1]
    split <;> simp_all
 | makeFunc fn first captured =>
   cases fn with
   | func f =>
     obtain ⟨h1,h2,hk⟩:=hk
     refine yrqs (s:=Instr.makeFunc (.func f) (first.map a.eval) (captured.map a.eval)) (by rw [hsem];rfl) ?_ hn
     have e1:first.toList.all (yner N)=true:=by
      rw [List.all_eq_true] at hops ⊢
      intro x hx;exact hops x (by simp [Op.operands];exact .inl (by simpa using hx))
     have e2:captured.toList.all (yner N)=true:=by
      rw [List.all_eq_true] at hops ⊢
      intro x hx;exact hops x (by simp [Op.operands];exact .inr (by simpa using hx))
     refine Sim.quiet (cv:=.func (.func f) (first.map a.eval) (captured.map a.eval)) hr rfl (.a (.c (.func f ?_ ?_))) hk
     ·simpa using y98p ht e1 h1
     ·simpa using y98p ht e2 h2
   | _=>exact hk.elim
 | makeMap ty r =>
   refine yrqs (s:=Instr.makeMap ty (r.map a.eval)) (by rw [hsem];rfl) ?_ hn
   have hrr:=yn9b ht (x:=r) (fun y hy=>List.all_eq_true.1 hops y (by subst hy;simp [Op.operands]))
   simp only [aop] at hk
   split at hk
   ·rename_i kt e hu hro
    split at hk
    ·rcases hrr with ⟨_,h2⟩ | ⟨v,cv,h1,_⟩
     ·exact ywl6 hu (.inl h2) hr hk
     ·rw [hro] at h1;cases h1
    ·exact hk.elim
   ·rename_i kt e k n hu hro
    split at hk
    ·rcases hrr with ⟨h1,_⟩ | ⟨v,cv,h1,h2,hv⟩
     ·rw [hro] at h1;cases h1
     ·rw [hro] at h1;cases h1
      exact ywl6 hu (.inr ⟨k,n,by rw [h2,hv.int]⟩) hr hk
    ·exact hk.elim
   ·exact hk.elim
 | makeSlice ty l c =>
   simp only [aop] at hk
   split at hk
   ·rename_i e hu
    split at hk
    ·rename_i i z hi hz;exact yrqs (by rw [hsem];rfl) (y6fr hu hi hz hr (opr l (by simp [Op.operands])) (opr c (by simp [Op.operands])) hk) hn
    ·exact hk.elim
   ·exact hk.elim
 | slice ty x lo hi mx =>
   have hx:=opr x (by simp [Op.operands])
   have hlo:=yn9b ht (x:=lo) (fun y hy=>List.all_eq_true.1 hops y (by subst hy;simp [Op.operands]))
   have hhi:=yn9b ht (x:=hi) (fun y hy=>List.all_eq_true.1 hops y (by subst hy;simp [Op.operands]))
   have hmx:=yn9b ht (x:=mx) (fun y hy=>List.all_eq_true.1 hops y (by subst hy;simp [Op.operands]))
   refine yrqs (s:=Instr.sliceAt ty (a.eval x) (lo.map a.eval) (hi.map a.eval) (mx.map a.eval)) (by rw [hsem];rfl) ?_ hn
   simp only [aop] at hk
   split at hk
   ·rename_i n e hu
    split at hk
    ·exact yvs6 hu (by assumption) hr hx hlo hhi hk
    ·exact hk.elim
   ·rename_i e hu
    split at hk
    ·rename_i inf hi';exact y9pd hu hi' hr hx hlo hhi hmx hk
    ·exact hk.elim
   ·rename_i hu
    cases mx with
    | some _=>exact hk.elim
    | none=>exact ypt3 hu hr hx hlo hhi hk
   ·exact hk.elim
 | fieldAddr s x f =>
   simp only [aop] at hk
   split at hk
   ·rename_i off ft hf
    cases hz:Nat.beq (szOf P ft) 0 with
    | true=>rw [hz,cond_true] at hk;exact hk.elim
    | false =>
      rw [hz,cond_false] at hk
      exact yrqs (by rw [hsem];rfl) (y1vk hf (fun he=>by rw [he] at hz;cases hz) hr (opr x (by simp [Op.operands])) hk) hn
   ·exact hk.elim
 | field s x f =>
   simp only [aop] at hk
   split at hk
   ·rename_i off ft hf
    split at hk
    ·rename_i ag n hts;exact yrqs (by rw [hsem];rfl) (y76h hf hts hr (opr x (by simp [Op.operands])) hk) hn
    ·exact hk.elim
   ·exact hk.elim
 | indexAddr ty x i =>
   have hx:=opr x (by simp [Op.operands])
   have hi:=opr i (by simp [Op.operands])
   refine yrqs (s:=Instr.indexAt ty (a.eval x) (a.eval i)) (by rw [hsem];rfl) ?_ hn
   simp only [aop] at hk
   split at hk
   ·rename_i n e hu
    split at hk
    ·rename_i inf hinf;exact yw96 hu hinf hr hx hi hk
    ·exact hk.elim
   ·rename_i e hu
    split at hk
    ·rename_i inf hinf;exact yyvk hu hinf hr hx hi hk
    ·exact hk.elim
   ·exact hk.elim
 | index ty x i =>
   have hx:=opr x (by simp [Op.operands])
   have hi:=opr i (by simp [Op.operands])
   refine yrqs (s:=Instr.index ty (a.eval x) (a.eval i)) (by rw [hsem];rfl) ?_ hn
   simp only [aop] at hk
   split at hk
   ·rename_i n e hu
    split at hk
    ·rename_i ag sz hts;exact y65h hu hts hr hx hi hk
    ·exact hk.elim
   ·rename_i hu;exact y0am hu hr hx hi hk
   ·exact hk.elim
 | lookup ty x k ok =>
   have hx:=opr x (by simp [Op.operands])
   have hkk:=opr k (by simp [Op.operands])
   refine yrqs (s:=Instr.lookup ty (a.eval x) (a.eval k) ok) (by rw [hsem];rfl) ?_ hn
   simp only [aop] at hk
   split at hk
   ·rename_i kt e hu
    split at hk
    ·rename_i z kk hz hkd;exact yxr2 hu hz hkd hr hx hkk hk
    ·exact hk.elim
   ·exact hk.elim
 | mapUpdate ty m k x =>
   refine yx6u (s:=Instr.mapUpdate ty (a.eval m) (a.eval k) (a.eval x)) (by rw [hsem];rfl) ?_ hn
   simp only [aop] at hk
   split at hk
   ·rename_i kt e hu
    split at hk
    ·rename_i kk hkd;exact ypbs hu hkd hr (opr m (by simp [Op.operands])) (opr k (by simp [Op.operands])) (opr x (by simp [Op.operands])) hk
    ·exact hk.elim
   ·exact hk.elim
 | insert ty m k x =>
   refine yx6u (s:=Instr.mapUpdate ty (a.eval m) (a.eval k) (a.eval x)) (by rw [hsem];rfl) ?_ hn
   simp only [aop] at hk
   split at hk
   ·rename_i kt e hu
    split at hk
    ·rename_i kk hkd;exact ypbs hu hkd hr (opr m (by simp [Op.operands])) (opr k (by simp [Op.operands])) (opr x (by simp [Op.operands])) hk
    ·exact hk.elim
   ·exact hk.elim
 | range ty x =>
   refine yrqs (s:=Instr.range ty (a.eval x)) (by rw [hsem];rfl) ?_ hn
   simp only [aop] at hk
   split at hk
   ·rename_i kt e hu;exact yh4b hu hr (opr x (by simp [Op.operands])) hk
   ·exact hk.elim
 | next it isStr =>
   cases isStr with
   | true=>exact hk.elim
   | false=>exact yrqs (s:=Instr.next (a.eval it) false type) (by rw [hsem];rfl) (yn8b hr (opr it (by simp [Op.operands])) hk) hn
 | entry it=>exact yrqs (s:=Instr.entry (a.eval it)) (by rw [hsem];rfl) (yjj9 hr (opr it (by simp [Op.operands])) hk) hn
 | extract x i=>exact yrqs (by rw [hsem];rfl) (yt5f hr (opr x (by simp [Op.operands])) hk) hn
 | call c=>exact yo1h hF hsem hops hr ht hk hn
 | _=>exact hk.elim
end
end Go.Proofs.YtnckimioabkheaaGreat.AM
set_option linter.unusedSimpArgs false
set_option linter.unusedVariables false
namespace Go.Proofs.YtnckimioabkheaaGreat.AM
open Go.RowKit
section
variable {P:Program} {W:World} {N:Nat} {F:Fence}
def ybk6 (ι:Env) (d:Nat) (df:Deferred):Prop:=∃l,ι d=some l∧df={ target:=.collected l.b,args := #[] }
def DRel (ι:Env) (v:Value) (ds:List Deferred):Prop:=All2 (ybk6 ι) (marks v) ds
theorem DRel.mono {ι ι':Env} {v:Value} {ds:List Deferred} (h:DRel ι v ds) (hle:Env.le ι ι'):DRel ι' v ds :=
 All2.mono h fun _ _ ⟨l,hl,he⟩=>⟨l,hle _ _ hl,he⟩
def DR (D:Option (List Deferred)) (ι:Env) (v:Value) (ds:List Deferred):Prop :=
 match D with
 | some d=>ds=d
 | none=>DRel ι v ds
theorem DR.mono {D:Option (List Deferred)} {ι ι':Env} {v:Value} {ds:List Deferred} (h:DR D ι v ds) (hle:Env.le ι ι'):DR D ι' v ds:=by
 cases D with
 | some d=>exact h
 | none=>exact DRel.mono h hle
def Con (D:Option (List Deferred)) (P:Program) (W:World) (N:Nat) (ι:Env) (Q:T→H→Prop) (a:Act) (w:World):Prop :=
 ∃ι' t h,Env.le ι ι'∧HRel P W ι' h w∧TRel ι' N t a.tmps∧DR D ι' (t N) a.defers∧Q t h
def ConE (D:Option (List Deferred)) (P:Program) (W:World) (N:Nat) (ι:Env) (Q:Exit→T→H→Prop) (e:Exit) (a:Act) (w:World):Prop:=Con D P W N ι (Q e) a w
theorem Con.mono {D:Option (List Deferred)} {ι ι':Env} {Q:T→H→Prop} {a:Act} {w:World} (hle:Env.le ι ι') (h:Con D P W N ι' Q a w):Con D P W N ι Q a w:=by
 obtain ⟨ι2,t,hh,h1,h2⟩:=h
 exact ⟨ι2,t,hh,Env.le_trans hle h1,h2⟩
theorem Con.imp {D:Option (List Deferred)} {ι:Env} {Q Q':T→H→Prop} {a:Act} {w:World} (hq:∀t h,Q t h→Q' t h) (h:Con D P W N ι Q a w):Con D P W N ι Q' a w:=by
 obtain ⟨ι2,t,hh,h1,h2,h3,h4,h5⟩:=h
 exact ⟨ι2,t,hh,h1,h2,h3,h4,hq _ _ h5⟩
theorem getD_some {tmps:Array Value} {d:Nat} (h:d<tmps.size):tmps[d]?=some (tmps.getD d undef):=by
 simp [Array.getD,h]
theorem ygzm {ops:Array Oper} {t:T} {ι:Env} {a:Act} {o:Oper} {j:Nat} {want:Bool} (hall:ops.toList.all (yz4b N)=true) (ht:TRel ι N t a.tmps) (hg:o.guard=some (j,want)) :
 (∃ b,yreo ops j t=.bool b∧Region.wanted o (yielded ops a.tmps)=(b==want)) ∨
 ((∀ b,yreo ops j t≠.bool b)∧Region.wanted o (yielded ops a.tmps)=false):=by
 have hw:Region.wanted o (yielded ops a.tmps)=(yielded ops a.tmps j==some want):=by simp [Region.wanted,hg]
 rw [hw]
 have hy:yielded ops a.tmps j=match ((ops[j]?).bind (·.dst)).bind (a.tmps[·]?) with | some (.bool b)=>some b | _=>none:=rfl
 rw [hy]
 unfold yreo
 cases hj:(ops[j]?).bind (·.dst) with
 | none=>exact .inr ⟨fun b h=>by simp [undef] at h,rfl⟩
 | some d =>
   have hdN:d<N:=by
    cases hoj:ops[j]? with
    | none=>rw [hoj] at hj;cases hj
    | some oj =>
      rw [hoj] at hj
      have hokj:yz4b N oj=true:=List.all_eq_true.1 hall oj (by simpa using Array.mem_of_getElem? hoj)
      unfold yz4b at hokj
      simp only [Bool.and_eq_true] at hokj
      simp only [Option.bind_some] at hj
      rw [hj] at hokj
      exact y7ee hokj.1.1
   have hv:=ht.2 d hdN
   have hget:=getD_some (tmps:=a.tmps) (d:=d) (by rw [ht.1];exact hdN)
   simp only [Option.bind_some,hget]
   generalize a.tmps.getD d undef=cv at *
   cases htd:t d with
   | bool b=>rw [htd] at hv;obtain rfl:=hv.bool;exact .inl ⟨b,rfl,by simp⟩
   | _ =>
     refine .inr ⟨fun b h=>by simp at h,?_⟩
     have hcv:∀b,cv≠.bool b:=fun b he=>by have:=hv.notBool b he;rw [htd] at this;cases this
     cases cv <;> first | rfl | exact absurd rfl (hcv _)
theorem yyp8 {D:Option (List Deferred)} {ops:Array Oper} {i:Nat} {K:T→H→Prop} {t:T} {h:H} {ι:Env} {a:Act} {w:World} {Q:Exit→Act→World→Prop} (hF:Wide F) (hall:ops.toList.all (yz4b N)=true)
 (hr:HRel P W ι h w) (ht:TRel ι N t a.tmps) (hd:DR D ι (t N) a.defers) (hk:aStep P ops i K t h):wpOpIn F 0 P ops Q i (Con D P W N ι K) a w:=by
 unfold aStep at hk
 unfold wpOpIn
 cases ho:ops[i]? with
 | none=>rw [ho] at hk;exact ⟨ι,t,h,Env.le_refl _,hr,ht,hd,hk⟩
 | some o =>
   rw [ho] at hk
   simp only at hk ⊢
   have hok:yz4b N o=true:=List.all_eq_true.1 hall o (by simpa using Array.mem_of_getElem? ho)
   have hdst:(match o.dst with | some d=>Nat.blt d N | none=>true)=true:=by
    unfold yz4b at hok;simp only [Bool.and_eq_true] at hok;exact hok.1.1
   have hne:Next' P W ι (fun v h=>K (tput t o.dst v) h) fun cv w'=>Con D P W N ι K (a.put o.dst cv) w':=by
    intro v cv ι' h' w' h1 h2 h3 h4
    exact ⟨ι',_,h',h1,h2,(ht.mono h1).put hdst h3,by rw [yrg0 t v hdst,yg5n];exact hd.mono h1,h4⟩
   have hrun:aop P o.op (aev t) h (fun v h=>K (tput t o.dst v) h)→o.wpIn F 0 P a w (Con D P W N ι K) Q:=fun hk=>yfmx hF hok hr ht hk hne
   have hskip:K (tput t o.dst undef) h→(∀ f,o.about P w a.eval=some f→F.fn f)∧Con D P W N ι K (a.put o.dst undef) w:=fun hk=>⟨fun f _=>hF.fn f,hne undef undef ι h w (Env.le_refl _) hr VRel.undef hk⟩
   cases hg:o.guard with
   | none =>
     rw [hg] at hk
     have hw:Region.wanted o (yielded ops a.tmps)=true:=by simp [Region.wanted,hg]
     rw [if_pos hw];exact hrun hk
   | some jw =>
     obtain ⟨j,want⟩:=jw
     rw [hg] at hk
     simp only at hk
     rcases ygzm hall ht hg with ⟨b,hv,hw⟩ | ⟨hv,hw⟩
     ·rw [hv] at hk
      simp only [yy7w] at hk
      cases hbw:(b==want) with
      | true=>rw [hbw,cond_true] at hk;rw [if_pos (by rw [hw,hbw])];exact hrun hk
      | false=>rw [hbw,cond_false] at hk;rw [if_neg (by rw [hw,hbw];simp)];exact hskip hk
     ·rw [if_neg (by rw [hw];simp)]
      refine hskip ?_
      unfold yy7w at hk
      split at hk
      ·rename_i b hb;exact absurd hb (hv b)
      ·exact hk
theorem ye1c {D:Option (List Deferred)} {ops:Array Oper} {K:T→H→Prop} {Q:Exit→Act→World→Prop} (hF:Wide F) (hall:ops.toList.all (yz4b N)=true):∀(is:List Nat) {t:T} {h:H} {ι:Env} {a:Act} {w:World},
 HRel P W ι h w→TRel ι N t a.tmps→DR D ι (t N) a.defers→aOps P ops is K t h→(∀ a w,Con D P W N ι K a w→Q .normal a w)→wpOpsIn F 0 P ops Q is a w
 | [],t,h,ι,a,w,hr,ht,hd,hk,hq=>hq a w ⟨ι,t,h,Env.le_refl _,hr,ht,hd,hk⟩
 | i::is,t,h,ι,a,w,hr,ht,hd,hk,hq=>by
   rw [wpOpsIn_cons]
   refine wpOpIn_mono ?_ (yyp8 hF hall hr ht hd (show aStep P ops i (aOps P ops is K) t h from hk))
   rintro a' w' ⟨ι',t',h',h1,h2,h3,h4,h5⟩
   exact ye1c hF hall is h2 h3 h4 h5 fun a w hc=>hq a w (hc.mono h1)
theorem yp0d {D:Option (List Deferred)} {ops:Array Oper} {K:T→H→Prop} {Q:Exit→Act→World→Prop} (hF:Wide F) (hall:ops.toList.all (yz4b N)=true):∀(fuel:Nat) (listed:Array Bool) {t:T} {h:H} {ι:Env} {a:Act} {w:World},
 HRel P W ι h w→TRel ι N t a.tmps→DR D ι (t N) a.defers→aAny P ops K fuel listed t h→(∀ a w,Con D P W N ι K a w→Q .normal a w)→wpAnyIn F 0 P .any ops Q fuel listed a w
 | 0,listed,t,h,ι,a,w,hr,ht,hd,hk,hq=>⟨hk.1,hq a w ⟨ι,t,h,Env.le_refl _,hr,ht,hd,hk.2⟩⟩
 | fuel+1,listed,t,h,ι,a,w,hr,ht,hd,hk,hq=>by
   refine ⟨fun he=>hq a w ⟨ι,t,h,Env.le_refl _,hr,ht,hd,hk.1 he⟩,fun i hi=>?_⟩
   refine wpOpIn_mono ?_ (yyp8 hF hall hr ht hd (hk.2 i hi))
   rintro a' w' ⟨ι',t',h',h1,h2,h3,h4,h5⟩
   exact yp0d hF hall fuel _ h2 h3 h4 h5 fun a w hc=>hq a w (hc.mono h1)
theorem least {p:Nat→Prop} (h:∃n,p n):∃n,p n∧∀m,p m→n≤m:=by
 obtain ⟨n,hn⟩:=h
 induction n using Nat.strongRecOn with
 | _ n ih =>
   by_cases hex:∃m,m<n∧p m
   ·obtain ⟨m,hm,hp⟩:=hex;exact ih m hm hp
   ·exact ⟨n,hn,fun m hm=>Nat.le_of_not_lt fun hlt=>hex ⟨m,hlt,hm⟩⟩
theorem HRel.away {ι:Env} {h:H} {w w':World} (hr:HRel P W ι h w) {lb:Nat} (hB:W.heap.size≤lb) (hsz:w'.heap.size=w.heap.size) (hkeep:∀c,c≠lb→w'.heap[c]?=w.heap[c]?)
 (hos:w'.os=w.os) (htape:w'.tape=w.tape) (hout:w'.output=w.output) (hno:∀c oc lc,h c=some oc→ι c=some lc→oc.ro=false→lc.b≠lb) (hnm:∀ces clock,w'.heap[lb]?≠some (.map ces clock)):HRel P W ι h w':=by
 refine ⟨hr.nxt,hr.z0,hr.z1,⟨hos.trans hr.below.os,htape.trans hr.below.tape,hout.trans hr.below.output,by rw [hsz];exact hr.below.size,fun k hk=>by rw [hkeep k (by omega)];exact hr.below.block k hk⟩,
  fun b l hb=>by rw [hsz];exact hr.inb b l hb,fun b o hb=>?_,hr.sep⟩
 obtain ⟨l,hl,ho⟩:=hr.obj b o hb
 refine ⟨l,hl,ho.keep (Env.le_refl _) ?_ fun m lm hm=>?_⟩
 ·refine hkeep _ fun he=>?_
  by_cases hx:o.ro=false
  ·exact hno b o l hb hl hx he
  ·cases o with
   | cells cs E m=>cases m with
     | ro =>
       obtain ⟨_,_,_,_,_,_,h3,_⟩:=ho
       have:=h3 rfl;omega
     | _=>simp [AObj.ro] at hx
   | _=>simp [AObj.ro] at hx
 ·by_cases he:lm.b=lb
  ·exact .inr fun ces' clock' hc=>absurd (he▸hc) (hnm _ _)
  ·exact .inl (hkeep _ he)
theorem ypda (l:List Nat):(l.map fun n:Nat=>Value.int .u64 (n:Int)).filterMap (fun | .int _ n=>some n.toNat | _=>none)=l:=by
 induction l with
 | nil=>rfl
 | cons n l ih=>simp only [List.map_cons,List.filterMap_cons,ih];rfl
theorem ywpo (v:Value) (d:Nat):marks (ym1y v d)=d::marks v:=ypda (d::marks v)
theorem ysvk {D:Option (List Deferred)} {c:Code} {t:T} {h:H} {ι:Env} {a:Act} {w:World} {Q:Exit→T→H→Prop}
 (ih:∀{Q:Exit→T→H→Prop} {t:T} {h:H} {ι:Env} {a:Act} {w:World},HRel P W ι h w→TRel ι N t a.tmps→DR D ι (t N) a.defers→awp P N c Q t h→c.wpIn F 0 P (ConE D P W N ι Q) a w)
 (hr:HRel P W ι h w) (ht:TRel ι N t a.tmps) (hd:DR D ι (t N) a.defers) (hk:sloop (fun t h K=>awp P N c (athen K Q) t h) t h):(Code.loop c).wpIn F 0 P (ConE D P W N ι Q) a w:=by
 obtain ⟨I,⟨n,hI⟩,hround⟩:=hk
 let p:Act→World→Nat→Prop:=fun a w n=>∃ι' t h,Env.le ι ι'∧HRel P W ι' h w∧TRel ι' N t a.tmps∧DR D ι' (t N) a.defers∧I n t h
 have hcl:∀a w,∃m,(∃ n,p a w n)→p a w m∧∀k,p a w k→m≤k:=fun a w=>by
  by_cases hx:∃n,p a w n
  ·obtain ⟨m,hm⟩:=least hx;exact ⟨m,fun _=>hm⟩
  ·exact ⟨0,fun h=>absurd h hx⟩
 let μ:Act→World→Nat:=fun a w=>(hcl a w).choose
 have hμ:∀a w,(∃ n,p a w n)→p a w (μ a w)∧∀k,p a w k→μ a w≤k:=fun a w=>(hcl a w).choose_spec
 refine wpIn_loop (fun a w=>∃n,p a w n) μ ⟨n,ι,t,h,Env.le_refl _,hr,ht,hd,hI⟩ ?_
 intro a1 w1 hp
 obtain ⟨⟨ι1,t1,h1,g1,g2,g3,g4,g5⟩,_⟩:=hμ a1 w1 hp
 refine wpIn_mono (ih g2 g3 g4 (hround _ _ _ g5)) ?_
 intro e a2 w2 hc
 cases e with
 | normal =>
   obtain ⟨ι2,t2,h2,k1,k2,k3,k4,m,hm,hI2⟩:=hc
   have hp2:p a2 w2 m:=⟨ι2,t2,h2,Env.le_trans g1 k1,k2,k3,k4,hI2⟩
   exact ⟨⟨m,hp2⟩,Nat.lt_of_le_of_lt ((hμ a2 w2 ⟨m,hp2⟩).2 m hp2) hm⟩
 | exit id=>exact Con.mono g1 hc
 | goto l=>exact Con.mono g1 hc
 | ret=>exact Con.mono g1 hc
 | panic ch=>exact Con.mono g1 hc
 | outgrown=>exact Con.mono g1 hc
theorem y15y {D:Option (List Deferred)} (hD:D=none) {g:Operand} {ps:Array Tmp} {assign body:Code} {t:T} {h:H} {ι:Env} {a:Act} {w:World} {Q:Exit→T→H→Prop} (hF:Wide F) (hro:F.round=none) (hg:yner N g=true)
 (hr:HRel P W ι h w) (ht:TRel ι N t a.tmps) (hd:DR D ι (t N) a.defers) (hk:awp P N (.rangeFunc g ps assign body) Q t h):(Code.rangeFunc g ps assign body).wpIn F 0 P (ConE D P W N ι Q) a w:=by
 subst hD
 simp only [awp] at hk
 obtain ⟨d,h2d,hd1,hhd⟩:=hr.fresh
 -- the block for deferred calls
 have hr1:HRel P W (ι.set d ⟨w.heap.size,0,0⟩) (upd h d .defer) (w.alloc (.deferred (some []))) :=
  hr.new h2d hd1 ⟨hr.below.size,rfl,ydd5 w _⟩
 have hle1:=Env.le_set (ι:=ι) ⟨w.heap.size,0,0⟩ hd1
 obtain ⟨l,h2l,hl1,hhl⟩:=hr1.fresh
 have hld:l≠d:=by rintro rfl;rw [Env.set_same] at hl1;cases hl1
 have hhl':h l=none:=by rw [yrkk _ _ hld] at hhl;exact hhl
 let w1:=w.alloc (.deferred (some []))
 let w2:Nat→World:=fun fn=>w1.alloc (.loop { state:=.ready,pending:=none,fn,tmps:=a.tmps,params:=ps,assign,body,defers:=w.heap.size })
 have hs1:w1.heap.size=w.heap.size+1:=by simp [w1]
 let ι2:=(ι.set d ⟨w.heap.size,0,0⟩).set l ⟨w1.heap.size,0,0⟩
 have hle2:Env.le (ι.set d ⟨w.heap.size,0,0⟩) ι2:=Env.le_set _ hl1
 have hr2:∀fn,HRel P W ι2 (upd (upd h d .defer) l (.loop .ready none t N ps assign body)) (w2 fn):=fun fn =>
  hr1.new h2l hl1 ⟨hr1.below.size,rfl,_,ydd5 w1 _,rfl,rfl,(ht.mono hle1).mono hle2,rfl,rfl,rfl⟩
 have hkk:=hk l d h2l h2d hld hhl' hhd
 have hgv:=ybtl ht hg
 unfold yf8x at hkk
 split at hkk
 ·rename_i f first captured hv
  obtain ⟨hb,hspec⟩:=hkk
  rw [hv] at hgv
  have hc:=hgv.cell rfl
  generalize hce:a.eval g=cg at hc
  cases hc with
  | s hc=>cases hc
  | func f q1 q2 =>
    rename_i first' captured'
    refine wpIn_rangeFunc fun fn _=>⟨w1.heap.size,[{ target:=.collected w.heap.size,args := #[] }],w2 fn,{ target:=.fn (.func f) captured',args:=first' ++ #[.func (.yield w1.heap.size) #[] #[]] },w2 fn,f,first' ++ #[.func (.yield w1.heap.size) #[] #[]]++captured',w2 fn,?_,?_,?_,?_,hF.depth,?_⟩
    ·rw [hro,hs1];exact run_enterLoop_outer fn a.tmps ps assign body
    ·have hcst:∀v,a.eval (.const v)=v:=fun _=>rfl
     simp [resolve,hce,Deferred.ofValue,hcst]
    ·intro f' _;exact hF.fn f'
    ·simp [invoke,ylmb hb]
    ·have hargs:All2 (ARel ι2) (first.toList++[Value.func (.yield l) #[] #[]]++captured.toList) (first' ++ #[Value.func (.yield w1.heap.size) #[] #[]]++captured').toList:=by
      have m1:All2 (ARel ι2) first.toList first'.toList:=q1.mono fun _ _ h=>.c (.s ((h.mono hle1).mono hle2))
      have m2:All2 (ARel ι2) captured.toList captured'.toList:=q2.mono fun _ _ h=>.c (.s ((h.mono hle1).mono hle2))
      have m3:ARel ι2 (.func (.yield l) #[] #[]) (.func (.yield w1.heap.size) #[] #[]):=.c (.yield (Env.set_same _ _ _))
      simpa using (m1.append (.cons m3 .nil)).append m2
     refine hF.calls ((hspec W ι2 (w2 fn) _ (hr2 fn) hargs).mono ?_)
     rintro e w3 ⟨v,cv,ι3,h3,rfl,k1,k2,k3,k4⟩
     have hl3:ι3 l=some ⟨w1.heap.size,0,0⟩:=k1 _ _ (Env.set_same _ _ _)
     have hd3:ι3 d=some ⟨w.heap.size,0,0⟩:=k1 _ _ (hle2 _ _ (Env.set_same _ _ _))
     have hle3:Env.le ι ι3:=Env.le_trans hle1 (Env.le_trans hle2 k1)
     have fin:∀st pend t' N' ps' as' bo',h3 l=some (.loop st pend t' N' ps' as' bo')→st≠.busy→∃w4,(Instr.endLoop w1.heap.size).run P w3=.ok pend w4∧HRel P W ι3 (del h3 l) w4:=by
      intro st pend t' N' ps' as' bo' hh hst
      obtain ⟨hB,_,L,g1,rfl,rfl,_⟩:=k2.obj' hh hl3
      have hlt:=k2.inb l _ hl3
      refine ⟨_,run_endLoop g1 hst,(k2.drop (h':=del h3 l) fun c oc hc=>by unfold del at hc;split at hc;·cases hc
                                                                           ·exact hc).away hB (by simp [World.putObj]) (fun c hc=>by simp [World.putObj,Array.getElem?_setIfInBounds_ne (Ne.symm hc)]) rfl rfl rfl ?_ ?_⟩
      ·intro c oc lc hc hlc hx he
       have hcl:c≠l:=by rintro rfl;rw [yv15] at hc;cases hc
       rw [ybsf _ hcl] at hc
       exact k2.sep c l oc _ lc _ hcl hc hh hlc hl3 hx rfl he
      ·intro ces clock he
       have:(w3.putObj w1.heap.size (.loop { L with state:=.exhausted })).heap[w1.heap.size]?=some (.loop { L with state:=.exhausted }):=ysux _ _ hlt
       rw [this] at he;cases he
     have con:∀(e':Exit) w4,HRel P W ι3 (del h3 l) w4→Q e' (tset t N (ym1y (t N) d)) (del h3 l)→ConE none P W N ι Q e' { a with defers:=[{ target:=.collected w.heap.size,args := #[] }]++a.defers } w4:=by
      intro e' w4 hr4 hq
      refine ⟨ι3,_,_,hle3,hr4,?_,?_,hq⟩
      ·refine ⟨ht.1,fun i hi=>?_⟩
       have:Nat.beq i N=false:=Bool.eq_false_iff.2 fun hq=>by have:=Nat.eq_of_beq_eq_true hq;omega
       simp only [tset,this,cond_false]
       exact (ht.2 i hi).mono hle3
      ·have hb:Nat.beq N N=true:=Nat.beq_refl N
       simp only [tset,hb,cond_true]
       show DRel ι3 (ym1y (t N) d) _
       unfold DRel
       rw [ywpo]
       exact .cons ⟨_,hd3,rfl⟩ (DRel.mono hd hle3)
     split at k4
     ·rename_i hh
      obtain ⟨w4,q3,q4⟩:=fin _ _ _ _ _ _ _ hh (by simp)
      exact ⟨none,w4,q3,con _ _ q4 k4⟩
     ·rename_i hh
      obtain ⟨w4,q3,q4⟩:=fin _ _ _ _ _ _ _ hh (by simp)
      exact ⟨some .ret,w4,q3,wpIn_ret (con _ _ q4 k4)⟩
     ·rename_i id _ _ _ _ _ hh
      obtain ⟨w4,q3,q4⟩:=fin _ _ _ _ _ _ _ hh (by simp)
      exact ⟨some (.exit id),w4,q3,wpIn_exit (con _ _ q4 k4)⟩
     ·exact k4.elim
 ·exact hkk.elim
theorem yx7j {D:Option (List Deferred)} (hm:P.follows .mixedOrders=true) (hF:Wide F) (rd:Bool) (hrd:rd=false→F.round=none∧D=none):∀(c:Code),yk69 N rd c=true →
 ∀{Q:Exit→T→H→Prop} {t:T} {h:H} {ι:Env} {a:Act} {w:World},HRel P W ι h w→TRel ι N t a.tmps→DR D ι (t N) a.defers→awp P N c Q t h→c.wpIn F 0 P (ConE D P W N ι Q) a w:=by
 intro c
 induction c with
 | skip=>intro _ Q t h ι a w hr ht hd hk;exact wpIn_skip ⟨ι,t,h,Env.le_refl _,hr,ht,hd,hk⟩
 | label l=>intro _ Q t h ι a w hr ht hd hk;exact wpIn_label ⟨ι,t,h,Env.le_refl _,hr,ht,hd,hk⟩
 | exit id=>intro _ Q t h ι a w hr ht hd hk;exact wpIn_exit ⟨ι,t,h,Env.le_refl _,hr,ht,hd,hk⟩
 | ret=>intro _ Q t h ι a w hr ht hd hk;exact wpIn_ret ⟨ι,t,h,Env.le_refl _,hr,ht,hd,hk⟩
 | goto l=>intro hok;cases hok
 | refuse s=>intro hok;cases hok
 | scope c ih=>intro hok;cases hok
 | region id ops draw =>
   intro hok Q t h ι a w hr ht hd hk
   cases draw with
   | false=>exact wpIn_region (ye1c hF hok _ hr ht hd hk fun a w hc=>hc)
   | true=>exact wpIn_region_any hm (yp0d hF hok _ _ (hr.drawn _) ht hd hk fun a w hc=>hc)
 | seq x y ihx ihy =>
   intro hok Q t h ι a w hr ht hd hk
   simp only [yk69,Bool.and_eq_true] at hok
   refine wpIn_seq (wpIn_mono (ihx hok.1 hr ht hd hk) ?_)
   intro e a1 w1 hc
   cases e with
   | normal =>
     obtain ⟨ι1,t1,h1,k1,k2,k3,k4,k5⟩:=hc
     exact wpIn_mono (ihy hok.2 k2 k3 k4 k5) fun e a w hc=>Con.mono k1 hc
   | _=>exact hc
 | cond c x y ihx ihy =>
   intro hok Q t h ι a w hr ht hd hk
   simp only [yk69,Bool.and_eq_true] at hok
   have hc:=ybtl ht hok.1.1
   have hk':o_if (aev t c) (awp P N x Q t h) (awp P N y Q t h):=hk
   unfold o_if at hk'
   split at hk'
   ·rename_i b hb
    rw [hb] at hc
    refine wpIn_cond hc.bool ?_
    cases b with
    | true=>exact ihx hok.1.2 hr ht hd hk'
    | false=>exact ihy hok.2 hr ht hd hk'
   ·exact hk'.elim
 | block id c ih =>
   intro hok Q t h ι a w hr ht hd hk
   refine wpIn_block (wpIn_mono (ih hok hr ht hd hk) ?_)
   intro e a1 w1 hc
   cases e with
   | exit j =>
     simp only [ConE,yr2p] at hc
     simp only [Exit.inBlock]
     by_cases hj:j=id
     ·subst hj
      rw [if_pos rfl]
      rw [Nat.beq_refl,cond_true] at hc
      exact hc
     ·rw [if_neg hj]
      have:Nat.beq j id=false:=Bool.eq_false_iff.2 fun hq=>hj (Nat.eq_of_beq_eq_true hq)
      rw [this,cond_false] at hc
      exact hc
   | _=>exact hc
 | loop c ih =>
   intro hok Q t h ι a w hr ht hd hk
   exact ysvk (fun hr ht hd hk=>ih hok hr ht hd hk) hr ht hd hk
 | rangeFunc g ps assign body =>
   intro hok Q t h ι a w hr ht hd hk
   simp only [yk69,Bool.and_eq_true,Bool.not_eq_true'] at hok
   exact y15y (hrd hok.1.1.1.1).2 hF (hrd hok.1.1.1.1).1 hok.1.1.1.2 hr ht hd hk
end
end Go.Proofs.YtnckimioabkheaaGreat.AM
set_option linter.unusedSimpArgs false
set_option linter.unusedVariables false
namespace Go.Proofs.YtnckimioabkheaaGreat.AM
open Go.RowKit
section
variable {P:Program} {W:World}
theorem ymoi {ι:Env} {args:List Value} {cargs:Array Value} {N:Nat} (ha:All2 (ARel ι) args cargs.toList) (hN:args.length≤N) :
 TRel ι N (tinit args) (cargs++Array.replicate (N-cargs.size) undef):=by
 have hl:args.length=cargs.size:=by simpa using ha.length
 refine ⟨by simp;omega,fun i hi=>?_⟩
 unfold tinit
 simp only [List.getD_eq_getElem?_getD,Array.getD_eq_getD_getElem?]
 by_cases hlt:i<args.length
 ·obtain ⟨cv,h1,h2⟩:=ha.get (List.getElem?_eq_getElem hlt)
  have h1':cargs[i]?=some cv:=by simpa using h1
  rw [List.getElem?_eq_getElem hlt,Array.getElem?_append_left (by omega),h1']
  exact .a h2
 ·rw [List.getElem?_eq_none (by omega),Array.getElem?_append_right (by omega)]
  have:(Array.replicate (N-cargs.size) undef)[i-cargs.size]?=some undef:=by
   rw [Array.getElem?_replicate,if_pos (by omega)]
  rw [this]
  exact VRel.undef
theorem yms9 {fn:Func} {rs:List Nat} (hrs:fn.results=(rs.map ResultVar.tmp).toArray) (tmps:Array Value) (w:World) :
 (results fn tmps).run P w=.ok (match rs.map fun r=>tmps.getD r undef with | [v]=>v | vs=>.tuple vs.toArray) w:=by
 unfold results
 have h1:(Array.mapM (fun x:ResultVar=>match x with | .tmp t=>(pure (tmps.getD t undef):Sem Value) | .cell a t=>do loadVar t (← asAddr (tmps.getD a undef))) fn.results).run P w=Result.ok (rs.map fun r=>tmps.getD r undef).toArray w:=by
  rw [Array.mapM_eq_mapM_toList,hrs]
  simp only [List.mapM_map,Function.comp_def]
  simp
 rw [Sem.run_bind]
 refine (congrArg (fun r=>Result.andThen r _) h1).trans ?_
 simp only [Result.andThen_ok,Sem.run_pure]
 cases rs with
 | nil=>simp
 | cons r rs=>cases rs with
   | nil=>simp
   | cons r' rs=>simp
theorem y7hh {fn:Func} {tmps:Array Value} {R:Ending→World→Prop} {ι:Env}:∀(ds:List Nat) (dfs:List Deferred) {h:H} {w:World},All2 (ybk6 ι) ds dfs→HRel P W ι h w→(∀ d∈ds,h d=some .defer)→ds.Nodup →
 (∀ w,HRel P W ι (fun b=>if b∈ds then none else h b) w→LeavesIn Fence.wide 0 P fn tmps R [] .returning w)→LeavesInM Fence.wide 0 P fn tmps R dfs .returning w
 | [],dfs,h,w,hm,hr,_,_,hk=>by
   cases hm
   exact hk w (by simpa using hr)
 | d::ds,dfs,h,w,hm,hr,hd,hn,hk=>by
   cases hm with
   | cons hm hms =>
     rename_i df dfs
     obtain ⟨l,hl,rfl⟩:=hm
     refine ⟨by simp,.inl ⟨l.b,yoko w l.b (.deferred none),rfl,?_,?_⟩⟩
     ·obtain ⟨_,_,h1⟩:=hr.obj' (hd d (by simp)) hl
      exact run_takeDeferred h1
     ·obtain ⟨hB,_,h1⟩:=hr.obj' (hd d (by simp)) hl
      have hnd:=List.nodup_cons.1 hn
      have hlt:=hr.inb d l hl
      have hr':HRel P W ι (del h d) (yoko w l.b (.deferred none)):=by
       refine (hr.drop (h':=del h d) fun c oc hc=>?_).away hB (ynhg _ _ _) (fun c hc=>yp0x _ _ hc) rfl rfl rfl ?_ ?_
       ·unfold del at hc;split at hc
        ·cases hc
        ·exact hc
       ·intro c oc lc hc hlc hx he
        have hcd:c≠d:=by rintro rfl;rw [yv15] at hc;cases hc
        rw [ybsf _ hcd] at hc
        exact hr.sep c d oc _ lc l hcd hc (hd d (by simp)) hlc hl hx rfl he
       ·intro ces clock he
        rw [ysux _ _ hlt] at he;cases he
      refine y7hh ds dfs hms hr' (fun x hx=>?_) hnd.2 fun w' hw'=>hk w' ?_
      ·rw [ybsf _ (by rintro rfl;exact hnd.1 hx)];exact hd x (by simp [hx])
      ·have e:(fun b=>if b∈ds then none else del h d b)=fun b=>if b∈d::ds then none else h b:=by
        funext b
        by_cases hb:b=d
        ·subst hb;simp [yv15]
        ·simp [hb,ybsf _ hb]
       rw [e] at hw';exact hw'
theorem yf14 {ι ι':Env} {N:Nat} {rs:List Nat} {Q:Value→H→Prop} {t:T} {h:H} {tmps:Array Value} {w:World} (hle:Env.le ι ι') (hr:HRel P W ι' h w) (ht:TRel ι' N t tmps) (hN:rs.all (fun r=>Nat.blt r N)=true) (hk:retV rs Q t h) :
 Post P W ι Q (.returned (match rs.map fun r=>tmps.getD r undef with | [v]=>v | vs=>.tuple vs.toArray)) w:=by
 have tup:∀rs:List Nat,rs.all (fun r=>Nat.blt r N)=true→rs.all (fun r=>boxV (t r))=true→All2 (ARel ι') (rs.map t) (rs.map fun r=>tmps.getD r undef):=by
  intro rs
  induction rs with
  | nil=>intro _ _;exact .nil
  | cons r rs ih =>
    intro h1 h2
    simp only [List.all_cons,Bool.and_eq_true] at h1 h2
    exact .cons ((ht.2 r (y7ee h1.1)).toA h2.1) (ih h1.2 h2.2)
 unfold retV at hk
 split at hk
 ·rename_i r
  simp only [List.all_cons,List.all_nil,Bool.and_true] at hN
  exact ⟨t r,_,ι',h,rfl,hle,hr,ht.2 r (y7ee hN),hk⟩
 ·rename_i hns
  cases hb:rs.all (fun r=>boxV (t r)) with
  | false=>rw [hb,cond_false] at hk;exact hk.elim
  | true =>
    rw [hb,cond_true] at hk
    refine ⟨.tuple (rs.map t).toArray,_,ι',h,rfl,hle,hr,?_,hk⟩
    have:=VRel.tuple (ι:=ι') (xs:=(rs.map t).toArray) (ys:=(rs.map fun r=>tmps.getD r undef).toArray) (by simpa using tup rs hN hb)
    cases rs with
    | nil=>exact this
    | cons r rs=>cases rs with
      | nil=>exact absurd rfl (hns r)
      | cons r' rs=>exact this
def yff5 (rs:List Nat) (Q:Value→H→Prop):Exit→T→H→Prop
 | .normal,t,h | .ret,t,h=>retV rs Q t h
 | _,_,_=>False
theorem y4iz (hm:P.follows .mixedOrders=true) {f:FuncId} {fn:Func} {c:Code} {rs:List Nat} {N:Nat} {args:List Value} {h:H} {Q:Value→H→Prop} (hf:P.funcs[f]?=some fn) (hb:fn.body=some c)
 (hrs:fn.results=(rs.map ResultVar.tmp).toArray) (hn:fn.ntmps=N) (hok:yk69 N true c=true) (hrN:rs.all (fun r=>Nat.blt r N)=true) (hlen:args.length≤N) (hk:awp P N c (yff5 rs Q) (tinit args) h):Spec P f args h Q:=by
 intro W ι w cargs hr ha
 subst hn
 refine (callsIn_wide (n:=0)).1 (callsIn_of_wp hf hb trivial ?_)
 refine wpIn_mono (yx7j (D:=some []) hm (.inl rfl) true (fun h=>by cases h) c hok hr (ymoi ha hlen) rfl hk) ?_
 intro e a' w' hc
 have fin:∀t' h' ι',Env.le ι ι'→HRel P W ι' h' w'→TRel ι' fn.ntmps t' a'.tmps→a'.defers=[]→retV rs Q t' h'→a'.defers=[]∧∃v,(results fn a'.tmps).run P w'=.ok v w'∧Post P W ι Q (.returned v) w':=by
  intro t' h' ι' k1 k2 k3 k4 k5
  exact ⟨k4,_,yms9 hrs _ _,yf14 k1 k2 k3 hrN k5⟩
 cases e with
 | normal=>obtain ⟨ι',t',h',k1,k2,k3,k4,k5⟩:=hc;exact fin t' h' ι' k1 k2 k3 k4 k5
 | ret=>obtain ⟨ι',t',h',k1,k2,k3,k4,k5⟩:=hc;exact fin t' h' ι' k1 k2 k3 k4 k5
 | exit id=>obtain ⟨_,_,_,_,_,_,_,k5⟩:=hc;exact k5.elim
 | goto l=>obtain ⟨_,_,_,_,_,_,_,k5⟩:=hc;exact k5.elim
 | panic ch=>obtain ⟨_,_,_,_,_,_,_,k5⟩:=hc;exact k5.elim
 | outgrown=>obtain ⟨_,_,_,_,_,_,_,k5⟩:=hc;exact k5.elim
theorem Spec.mono {f:FuncId} {args:List Value} {h:H} {Q Q':Value→H→Prop} (hs:Spec P f args h Q) (hq:∀v h,Q v h→Q' v h):Spec P f args h Q' :=
 fun W ι w cargs hr ha=>(hs W ι w cargs hr ha).mono fun _ _ ⟨v,cv,ι',h',h1,h2,h3,h4,h5⟩=>⟨v,cv,ι',h',h1,h2,h3,h4,hq _ _ h5⟩
theorem Spec.drop {f:FuncId} {args:List Value} {h:H} {Q:Value→H→Prop} (hs:Spec P f args h fun v h'=>∃h'',(∀ b o,h'' b=some o→h' b=some o)∧Q v h''):Spec P f args h Q :=
 fun W ι w cargs hr ha=>(hs W ι w cargs hr ha).mono fun _ _ ⟨v,cv,ι',_,h1,h2,h3,h4,h'',h5,h6⟩=>⟨v,cv,ι',h'',h1,h2,h3.drop h5,h4,h6⟩
end
end Go.Proofs.YtnckimioabkheaaGreat.AM
