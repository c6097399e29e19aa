/-
  An abstract memory for walks over Go code: blocks by name, no capacities that the tape draws, no order of blocks; and a predicate transformer 'awp' over the loaded code. Here: the definitions.
-/
import Derived.CallsIn
import Derived.OrdersIn
import Derived.Below
import Derived.Laws.Tables
set_option linter.unusedSimpArgs false
set_option linter.unusedVariables false
namespace Go.Proofs.YtjdhldfeflmneaaGreat.AM
open Go.RowKit

/-- How a block of cells is held: 'ro': it was there before (read alone); 'exact': the call's own, no spare room behind it; 'open': the call's own, maybe with spare room that nobody sees. -/
inductive Own where
  | ro | exact | open
  deriving DecidableEq

/-- The keys of a map that are taken: whole numbers of a kind, strings, bools. -/
inductive KK where
  | int (k : IntKind) | str | bool
  deriving DecidableEq

inductive AObj where
  | cells (cs : List Value) (E : TypeId) (m : Own)
  | map (kk : KK) (es : List (Value × Value)) (clock : Nat)
  | iter (m : Option Nat) (left : List Value) (since : Nat) (cur : Option Value)
  | loop (st : LoopState) (pend : Option Code) (t : Nat → Value) (N : Nat) (ps : Array Tmp) (assign body : Code)
  | defer

abbrev H := Nat → Option AObj
abbrev T := Nat → Value

def upd (h : H) (b : Nat) (o : AObj) : H := fun c => if c = b then some o else h c
def del (h : H) (b : Nat) : H := fun c => if c = b then none else h c
def tset (t : T) (d : Nat) (v : Value) : T := fun i => bif Nat.beq i d then v else t i
def tput (t : T) (d : Option Tmp) (v : Value) : T := match d with | some d => tset t d v | none => t

theorem upd_same (h : H) (b : Nat) (o : AObj) : upd h b o b = some o := by simp [upd]
theorem upd_ne (h : H) {b c : Nat} (o : AObj) (hc : c ≠ b) : upd h b o c = h c := by simp [upd, hc]
theorem del_same (h : H) (b : Nat) : del h b b = none := by simp [del]
theorem del_ne (h : H) {b c : Nat} (hc : c ≠ b) : del h b c = h c := by simp [del, hc]

/-- No address within: the value stands for itself. -/
def selfC : Value → Bool
  | .bool _ | .int _ _ | .float _ _ | .complex _ _ _ | .string _ | .nilFunc | .nilIface | .pointer none | .slice none 0 0 | .map none => true
  | .func (.func _) a c => a.size == 0 && c.size == 0
  | _ => false
def selfA : Value → Bool
  | .agg cs => cs.toList.all selfC
  | v => selfC v
def selfV : Value → Bool
  | .tuple vs => vs.toList.all selfA
  | v => selfA v

/-- Values that may be captured, or lie in an interface value: no function, no aggregate. -/
def plainC : Value → Bool
  | .bool _ | .int _ _ | .float _ _ | .complex _ _ _ | .string _ | .nilFunc | .nilIface | .pointer none | .slice none 0 0 | .map none
  | .pointer (some ⟨_, _, none⟩) | .slice (some ⟨_, _, none⟩) _ _ | .map (some _) => true
  | _ => false
def cellV : Value → Bool
  | .agg _ | .tuple _ => false
  | _ => true
def boxV : Value → Bool
  | .tuple _ => false
  | _ => true

def pureRun {α : Type} (P : Program) : Sem α → Option α
  | .pure a => some a
  | .program k => pureRun P (k P)
  | _ => none

def aev (t : T) : Operand → Value
  | .tmp i => t i
  | .const v => v
  | .global _ => undef
  | .func f => .func (.func f) #[] #[]

/-- Cells n of a block from o on. -/
def cellsAt (h : H) (b o n : Nat) : Option (List Value) :=
  match h b with
  | some (.cells cs _ _) => if o + n ≤ cs.length then some ((cs.drop o).take n) else none
  | _ => none
def cellAt (h : H) (b o : Nat) : Option Value :=
  match h b with
  | some (.cells cs _ _) => cs[o]?
  | _ => none
def setL : List Value → Nat → List Value → List Value
  | cs, _, [] => cs
  | cs, o, v :: vs => setL (cs.set o v) (o + 1) vs

/-- Is the type one of aggregates, and how many cells has it? -/
def tySize (P : Program) (t : TypeId) : Option (Bool × Nat) :=
  match P.info? t, P.underlying t with
  | some i, some (.struct _) | some i, some (.array _ _) => some (true, i.size)
  | some i, some _ => some (false, i.size)
  | _, _ => none
def zeroOf (P : Program) (t : TypeId) : Option Value :=
  match (P.info? t).bind (·.zero) with
  | some z => if selfA z then some z else none
  | none => none
def fieldOff (P : Program) (s : TypeId) (f : Nat) : Option (Nat × TypeId) :=
  match P.underlying s with
  | some (.struct fs) => match fs[f]? with
    | some f => some (f.offset, f.type)
    | none => none
  | _ => none

def o_new (cs : List Value) (E : TypeId) (m : Own) (h : H) (K : Nat → H → Prop) : Prop :=
  ∀ b, 2 ≤ b → h b = none → K b (upd h b (.cells cs E m))
def o_newObj (o : AObj) (h : H) (K : Nat → H → Prop) : Prop :=
  ∀ b, 2 ≤ b → h b = none → K b (upd h b o)
def o_load (ag : Bool) (n : Nat) (a : Value) (h : H) (K : Value → Prop) : Prop :=
  match a with
  | .pointer (some ⟨b, o, none⟩) =>
    bif ag then (match cellsAt h b o n with | some l => K (.agg l.toArray) | none => False)
    else (match cellAt h b o with | some v => K v | none => False)
  | _ => False
def o_store (n : Nat) (a v : Value) (h : H) (K : H → Prop) : Prop :=
  match a with
  | .pointer (some ⟨b, o, none⟩) =>
    match h b with
    | some (.cells cs E m) => m ≠ .ro ∧ boxV v = true ∧ v.cells.size = n ∧ o + n ≤ cs.length ∧ K (upd h b (.cells (setL cs o v.cells.toList) E m))
    | _ => False
  | _ => False
def o_guard (c : Value) (want : Bool) (op : (Value → H → Prop) → Prop) (K : Value → H → Prop) (h : H) : Prop :=
  match c with
  | .bool b => bif (b == want) then op K else K undef h
  | _ => K undef h
def o_if (c : Value) (A B : Prop) : Prop :=
  match c with
  | .bool b => bif b then A else B
  | _ => False
def o_pick (c a b : Value) (K : Value → Prop) : Prop :=
  match c with
  | .bool q => K (bif q then a else b)
  | _ => False
/-- What a computation without memory comes to. -/
def o_pure (r : Option Value) (K : Value → Prop) : Prop :=
  match r with
  | some v => bif selfV v then K v else False
  | none => False
def o_nilCheck (x : Value) (K : Value → Prop) : Prop :=
  match x with
  | .pointer (some a) => K (.pointer (some a))
  | .func (.func f) a c => K (.func (.func f) a c)
  | .func (.yield f) a c => K (.func (.yield f) a c)
  | _ => False
def isNil : Value → Option Bool
  | .pointer a => some a.isNone
  | .slice a _ _ => some a.isNone
  | .map a => some a.isNone
  | .nilFunc => some true
  | .func _ _ _ => some false
  | _ => none
/-- No two nil interface values are held against each other. -/
def okEq (P : Program) (op : BinOp) (xt : TypeId) (x y : Value) : Bool :=
  match op with
  | .eql | .neq => (match x, y with
    | .nilIface, .nilIface => false
    | .agg _, .agg _ => !(P.eqGuardType P.depth xt)
    | _, _ => true)
  | _ => true
/-- Numbers and other values without addresses; or '==' and '!=' against nil. -/
def o_bin (P : Program) (op : BinOp) (xt : TypeId) (x y : Value) (K : Value → Prop) : Prop :=
  bif selfV x && selfV y && okEq P op xt x y then o_pure (pureRun P (binOp op xt x y)) K
  else match op, P.underlying xt, x, y with
    | .eql, some (.pointer _), .pointer a, .pointer none | .eql, some (.slice _), .slice a _ _, .slice none _ _ | .eql, some (.map _ _), .map a, .map none => K (.bool a.isNone)
    | .neq, some (.pointer _), .pointer a, .pointer none | .neq, some (.slice _), .slice a _ _, .slice none _ _ | .neq, some (.map _ _), .map a, .map none => K (.bool (!a.isNone))
    | .eql, some (.func _ _ _), .func _ _ _, .nilFunc => K (.bool false)
    | .neq, some (.func _ _ _), .func _ _ _, .nilFunc => K (.bool true)
    | _, _, _, _ => False
def o_un (P : Program) (op : UnOp) (x : Value) (K : Value → Prop) : Prop :=
  bif selfV x then o_pure (pureRun P (Op.unary op x)) K else False
def o_minmax (P : Program) (f : Value → Value → Sem Value) (x y : Value) (K : Value → Prop) : Prop :=
  bif selfV x && selfV y then o_pure (pureRun P (f x y)) K else False
def o_conv (k : IntKind) (x : Value) (K : Value → Prop) : Prop :=
  match x with
  | .int _ n => K (.int k (k.wrap n))
  | _ => False
def o_convStr (x : Value) (K : Value → Prop) : Prop :=
  match x with
  | .string s => K (.string s)
  | _ => False
def o_fieldAddr (off : Nat) (x : Value) (K : Value → Prop) : Prop :=
  match x with
  | .pointer (some ⟨b, o, none⟩) => K (.pointer (some ⟨b, o + off, none⟩))
  | _ => False
def partOf (ag : Bool) (n off : Nat) (cs : Array Value) : Option Value :=
  bif ag then (if off + n ≤ cs.size then some (.agg (cs.extract off (off + n))) else none) else cs[off]?
def o_field (ag : Bool) (n off : Nat) (x : Value) (K : Value → Prop) : Prop :=
  match x with
  | .agg cs => match partOf ag n off cs with
    | some v => K v
    | none => False
  | _ => False
/-- The address of an element: a slice's, or (len given) an array's. -/
def o_indexAddr (len : Option Nat) (size : Nat) (x i : Value) (K : Value → Prop) : Prop :=
  match i, len, x with
  | .int _ i, none, .slice (some ⟨b, o, none⟩) n _ => 0 ≤ i ∧ i < n ∧ K (.pointer (some ⟨b, o + i.toNat * size, none⟩))
  | .int _ i, some n, .pointer (some ⟨b, o, none⟩) => 0 ≤ i ∧ i < n ∧ K (.pointer (some ⟨b, o + i.toNat * size, none⟩))
  | _, _, _ => False
def o_index (str : Bool) (len : Nat) (ag : Bool) (size : Nat) (x i : Value) (K : Value → Prop) : Prop :=
  match i, x with
  | .int _ i, .agg cs => str = false ∧ 0 ≤ i ∧ i < len ∧ (match partOf ag size (i.toNat * size) cs with | some v => K v | none => False)
  | .int _ i, .string s => str = true ∧ 0 ≤ i ∧ (match s[i.toNat]? with | some c => K (.int .u8 c.toNat) | none => False)
  | _, _ => False
def o_extract (x : Value) (i : Nat) (K : Value → Prop) : Prop :=
  match x with
  | .tuple vs => match vs[i]? with
    | some v => K v
    | none => False
  | _ => False
def o_build (P : Program) (t : TypeId) (ps : List (Nat × Value)) (K : Value → Prop) : Prop :=
  bif ps.all (fun p => boxV p.2) then
    match zeroOf P t, P.built t ps with
    | some _, some cs => K (.agg cs)
    | _, _ => False
  else False
/-- A slice literal's cells. -/
def litCells (P : Program) (t : TypeId) (len : Nat) (ps : List (Nat × Value)) : Option (List Value × TypeId) :=
  match P.underlying t with
  | some (.slice e) => match P.info? e, zeroOf P e with
    | some i, some z =>
      bif ps.all (fun p => boxV p.2) && Nat.ble (len * i.size) 16777216 then
        bif Nat.beq (len * i.size) 0 then (bif ps.isEmpty then some ([], e) else none) else
        match Instr.fill (fun j => some (j * i.size, i.size)) ((Array.range (len * i.size)).map (z.cells[· % z.cells.size]!)) ps with
        | some cs => some (cs.toList, e)
        | none => none
      else none
    | _, _ => none
  | _ => none
def o_buildSlice (P : Program) (t : TypeId) (n : Nat) (ps : List (Nat × Value)) (h : H) (K : Value → H → Prop) : Prop :=
  match litCells P t n ps with
  | some (cs, e) => o_new cs e .exact h fun b h => K (.slice (some ⟨b, 0, none⟩) n n) h
  | none => False
def zerosL (z : List Value) : Nat → List Value
  | 0 => []
  | n + 1 => z ++ zerosL z n
def o_makeSlice (z : List Value) (size bytes : Nat) (e : TypeId) (l c : Value) (h : H) (K : Value → H → Prop) : Prop :=
  match l, c with
  | .int _ l, .int _ c => z.length = size ∧ 0 ≤ l ∧ l ≤ c ∧ (bytes : Int) * c ≤ 281474976710656 ∧ c < 9223372036854775808 ∧ 0 < size ∧
      o_new (zerosL z c.toNat) e .exact h fun b h => K (.slice (some ⟨b, 0, none⟩) l.toNat c.toNat) h
  | _, _ => False
/-- A stretch of a slice. (Where it begins at the end of a block with spare room, nothing is known of what is behind: name 1.) -/
def o_slice (size : Nat) (x : Value) (lo hi mx : Option Value) (K : Value → Prop) : Prop :=
  match x, mx with
  | .slice (some ⟨b, o, none⟩) n c, none =>
    ∃ l u : Nat, (match lo with | some (.int _ i) => i = (l : Int) | none => l = 0 | _ => False) ∧ (match hi with | some (.int _ i) => i = (u : Int) | none => u = n | _ => False) ∧
      l ≤ u ∧ u ≤ c ∧ (if l = 0 then K (.slice (some ⟨b, o, none⟩) u c) else if l < c then K (.slice (some ⟨b, o + l * size, none⟩) (u - l) (c - l)) else K (.slice (some ⟨1, 0, none⟩) 0 0))
  | .slice (some ⟨_, _, none⟩) _ _, some (.int _ 0) =>
    (match lo with | some (.int _ i) => i = 0 | none => True | _ => False) ∧ (match hi with | some (.int _ i) => i = 0 | _ => False) ∧ K (.slice (some ⟨0, 0, none⟩) 0 0)
  | .slice none 0 0, none => (match lo with | some (.int _ i) => i = 0 | none => True | _ => False) ∧ (match hi with | some (.int _ i) => i = 0 | none => True | _ => False) ∧ K (.slice none 0 0)
  | .slice none 0 0, some (.int _ 0) => (match lo with | some (.int _ i) => i = 0 | none => True | _ => False) ∧ (match hi with | some (.int _ i) => i = 0 | _ => False) ∧ K (.slice none 0 0)
  | _, _ => False
def o_sliceStr (x : Value) (lo hi : Option Value) (K : Value → Prop) : Prop :=
  match x with
  | .string s =>
    ∃ l u : Nat, (match lo with | some (.int _ i) => i = (l : Int) | none => l = 0 | _ => False) ∧ (match hi with | some (.int _ i) => i = (u : Int) | none => u = s.size | _ => False) ∧
      l ≤ u ∧ u ≤ s.size ∧ K (.string (s.extract l u))
  | _ => False
/-- A stretch of an array in memory. -/
def o_sliceArr (n size : Nat) (x : Value) (lo hi : Option Value) (h : H) (K : Value → Prop) : Prop :=
  match x with
  | .pointer (some ⟨b, o, none⟩) => match h b with
    | some (.cells _ _ m) => m ≠ .open ∧
      ∃ l u : Nat, (match lo with | some (.int _ i) => i = (l : Int) | none => l = 0 | _ => False) ∧ (match hi with | some (.int _ i) => i = (u : Int) | none => u = n | _ => False) ∧
      l ≤ u ∧ u ≤ n ∧ (if l < n then K (.slice (some ⟨b, o + l * size, none⟩) (u - l) (n - l)) else K (.slice (some ⟨1, 0, none⟩) 0 0))
    | _ => False
  | _ => False

/-! ### Maps -/
def kkOf (P : Program) (kt : TypeId) : Option KK :=
  match P.underlying kt with
  | some (.int j) => some (.int j)
  | some .string => some .str
  | some .bool => some .bool
  | _ => none
def kkHas : KK → Value → Bool
  | .int j, .int k _ => j == k
  | .str, .string _ => true
  | .bool, .bool _ => true
  | _, _ => false
def keyEq : Value → Value → Bool
  | .int j a, .int k b => j == k && a == b
  | .string a, .string b => a == b
  | .bool a, .bool b => a == b
  | _, _ => false
def mfind (es : List (Value × Value)) (k : Value) : Option Value :=
  match es with
  | [] => none
  | e :: r => bif keyEq k e.1 then some e.2 else mfind r k
def mset (es : List (Value × Value)) (k v : Value) : List (Value × Value) :=
  match es with
  | [] => [(k, v)]
  | e :: r => bif keyEq k e.1 then (k, v) :: r else e :: mset r k v
def mdel (es : List (Value × Value)) (k : Value) : List (Value × Value) :=
  match es with
  | [] => []
  | e :: r => bif keyEq k e.1 then r else e :: mdel r k
def mhas (es : List (Value × Value)) (k : Value) : Bool := (mfind es k).isSome

def o_lookup (kk : KK) (z x k : Value) (ok : Bool) (h : H) (K : Value → Prop) : Prop :=
  kkHas kk k = true ∧
  match x with
  | .map none => K (bif ok then .tuple #[z, .bool false] else z)
  | .map (some m) => match h m with
    | some (.map kk' es _) => kk' = kk ∧ (match mfind es k with
      | some v => K (bif ok then .tuple #[v, .bool true] else v)
      | none => K (bif ok then .tuple #[z, .bool false] else z))
    | _ => False
  | _ => False
def o_mapUpdate (kk : KK) (m k v : Value) (h : H) (K : H → Prop) : Prop :=
  kkHas kk k = true ∧ boxV v = true ∧
  match m with
  | .map (some b) => match h b with
    | some (.map kk' es c) => kk' = kk ∧ K (upd h b (.map kk (mset es k v) (if mhas es k then c else c + 1)))
    | _ => False
  | _ => False
def o_delete (kk : KK) (m k : Value) (h : H) (K : H → Prop) : Prop :=
  kkHas kk k = true ∧
  match m with
  | .map none => K h
  | .map (some b) => match h b with
    | some (.map kk' es c) => kk' = kk ∧ K (upd h b (.map kk (mdel es k) c))
    | _ => False
  | _ => False
def o_range (x : Value) (h : H) (K : Value → H → Prop) : Prop :=
  match x with
  | .map none => o_newObj (.iter none [] 0 none) h fun b h => K (.pointer (some ⟨b, 0, none⟩)) h
  | .map (some m) => match h m with
    | some (.map _ es c) => o_newObj (.iter (some m) (es.map (·.1)) c none) h fun b h => K (.pointer (some ⟨b, 0, none⟩)) h
    | _ => False
  | _ => False
/-- The next entry of a map that is ranged over: any that is left; over, if none is. -/
def o_next (it : Value) (h : H) (K : Value → H → Prop) : Prop :=
  match it with
  | .pointer (some ⟨b, 0, none⟩) => match h b with
    | some (.iter none _ _ _) => K (.tuple #[.bool false]) h
    | some (.iter (some m) left since _) => match h m with
      | some (.map _ es c) => c = since ∧
          (∀ e ∈ es, left.any (keyEq e.1) = true → K (.tuple #[.bool true, e.1, e.2]) (upd h b (.iter (some m) (left.filter fun k => !keyEq e.1 k) since (some e.1)))) ∧
          ((∀ e ∈ es, left.any (keyEq e.1) = false) → K (.tuple #[.bool false]) h)
      | _ => False
    | _ => False
  | _ => False

/-- The entry that a range over a map stands at. -/
def o_entry (it : Value) (h : H) (K : Value → Prop) : Prop :=
  match it with
  | .pointer (some ⟨b, 0, none⟩) => match h b with
    | some (.iter (some m) _ since (some k)) => match h m with
      | some (.map _ es c) => c = since ∧ (match mfind es k with | some v => K (.tuple #[k, v]) | none => False)
      | _ => False
    | _ => False
  | _ => False
/-- '[]byte' of a literal: the slice itself, of which it is noted that it may have been a string's. -/
def o_mark (x : Value) (h : H) (K : Value → Prop) : Prop :=
  match x with
  | .slice (some ⟨b, o, none⟩) n c => match h b with
    | some (.cells _ _ m) => m ≠ .ro ∧ K (.slice (some ⟨b, o, none⟩) n c)
    | _ => False
  | _ => False

/-! ### append and copy -/
/-- What is appended, or copied: its length and its cells. -/
def srcLen : Value → Option Nat
  | .slice _ n _ => some n
  | .string s => some s.size
  | _ => none
def srcCells (size : Nat) (h : H) : Value → Nat → Option (List Value)
  | .slice none 0 0, 0 => some []
  | .slice (some ⟨b, o, none⟩) _ _, n => if n = 0 then some [] else cellsAt h b o (n * size)
  | .string s, n => some (((s.extract 0 n).data.toList).map fun b => .int .u8 b.toNat)
  | _, _ => none
def o_append (e : TypeId) (size bytes : Nat) (s x : Value) (h : H) (K : Value → H → Prop) : Prop :=
  match s, srcLen x with
  | .slice base len cap, some n => match srcCells size h x n with
    | none => False
    | some new =>
      if len + n ≤ cap then
        (match base with
         | some ⟨b, o, none⟩ => if n = 0 then K (.slice base len cap) h else
            (match h b with
             | some (.cells cs E m) => m ≠ .ro ∧ o + (len + n) * size ≤ cs.length ∧ new.length = n * size ∧ K (.slice base (len + n) cap) (upd h b (.cells (setL cs (o + len * size) new) E m))
             | _ => False)
         | none => n = 0 ∧ K (.slice base len cap) h
         | _ => False)
      else
        (len + n) * bytes ≤ 140737488355328 ∧ len + n < 9223372036854775808 ∧ new.length = n * size ∧ 0 < n ∧
        (match base with
         | none => len = 0 ∧ o_new new e .open h fun b h => K (.slice (some ⟨b, 0, none⟩) n n) h
         | some ⟨b, o, none⟩ =>
           if b = 0 then len = 0 ∧ o_new new e .open h fun b h => K (.slice (some ⟨b, 0, none⟩) n n) h
           else match h b with
             | some (.cells cs E m) => o + len * size ≤ cs.length ∧
                (match m with
                 | .open => E = e ∧ o + cap * size = cs.length ∧ 0 < size ∧
                    ∀ b', 2 ≤ b' → h b' = none → K (.slice (some ⟨b', 0, none⟩) (len + n) (len + n)) (upd (del h b) b' (.cells ((cs.drop o).take (len * size) ++ new) e .open))
                 | _ => o_new ((cs.drop o).take (len * size) ++ new) e .open h fun b h => K (.slice (some ⟨b, 0, none⟩) (len + n) (len + n)) h)
             | _ => False
         | _ => False)
  | _, _ => False
def o_copy (size : Nat) (d x : Value) (h : H) (K : Value → H → Prop) : Prop :=
  match d, srcLen x with
  | .slice base len _, some n => match srcCells size h x (Nat.min n len) with
    | none => False
    | some new =>
      if Nat.min n len = 0 then K (.int .i64 0) h else
      match base with
      | some ⟨b, o, none⟩ => (match h b with
        | some (.cells cs E m) => m ≠ .ro ∧ o + (Nat.min n len) * size ≤ cs.length ∧ new.length = (Nat.min n len) * size ∧ K (.int .i64 (Nat.min n len : Nat)) (upd h b (.cells (setL cs o new) E m))
        | _ => False)
      | _ => False
  | _, _ => False
def o_lenSl (x : Value) (K : Value → Prop) : Prop :=
  match x with
  | .slice _ n _ => K (.int .i64 n)
  | _ => False
def o_lenStr (x : Value) (K : Value → Prop) : Prop :=
  match x with
  | .string s => K (.int .i64 s.size)
  | _ => False
def o_lenMap (x : Value) (h : H) (K : Value → Prop) : Prop :=
  match x with
  | .map none => K (.int .i64 0)
  | .map (some m) => match h m with
    | some (.map _ es _) => K (.int .i64 es.length)
    | _ => False
  | _ => False
/-- The bytes of a slice as a string. -/
def bytesOf : List Value → Option (List UInt8)
  | [] => some []
  | .int .u8 n :: r => (bytesOf r).map (UInt8.ofNat n.toNat :: ·)
  | _ => none
def o_bytesToString (x : Value) (h : H) (K : Value → Prop) : Prop :=
  match x with
  | .slice none 0 0 => K (.string .empty)
  | .slice (some ⟨b, o, none⟩) n _ => if n = 0 then K (.string .empty) else match cellsAt h b o n with
    | some l => (match bytesOf l with | some bs => K (.string ⟨bs.toArray⟩) | none => False)
    | none => False
  | _ => False
def o_stringToBytes (e : TypeId) (x : Value) (h : H) (K : Value → H → Prop) : Prop :=
  match x with
  | .string s => o_new (s.data.toList.map fun b => Value.int .u8 b.toNat) e .open h fun b h => K (.slice (some ⟨b, 0, none⟩) s.size s.size) h
  | _ => False

/-! ### Calls: what a function does, in whatever memory that is told by the abstract one -/
structure Loc where
  b : Nat
  o : Nat
  k : Nat
abbrev Env := Nat → Option Loc
def Env.le (ι ι' : Env) : Prop := ∀ b l, ι b = some l → ι' b = some l

inductive SRel (ι : Env) : Value → Value → Prop
  | bool (b) : SRel ι (.bool b) (.bool b)
  | int (k n) : SRel ι (.int k n) (.int k n)
  | float (k n) : SRel ι (.float k n) (.float k n)
  | complex (k a b) : SRel ι (.complex k a b) (.complex k a b)
  | string (s) : SRel ι (.string s) (.string s)
  | nilFunc : SRel ι .nilFunc .nilFunc
  | nilIface : SRel ι .nilIface .nilIface
  | ptrNil : SRel ι (.pointer none) (.pointer none)
  | sliceNil : SRel ι (.slice none 0 0) (.slice none 0 0)
  | mapNil : SRel ι (.map none) (.map none)
  | ptr {b o l} (h : ι b = some l) : SRel ι (.pointer (some ⟨b, o, none⟩)) (.pointer (some ⟨l.b, l.o + o, none⟩))
  | slice {b o n c l} (h : ι b = some l) : SRel ι (.slice (some ⟨b, o, none⟩) n c) (.slice (some ⟨l.b, l.o + o, none⟩) n (c + l.k))
  | empty0 (a) : SRel ι (.slice (some ⟨0, 0, none⟩) 0 0) (.slice (some a) 0 0)
  | empty1 (a c) : SRel ι (.slice (some ⟨1, 0, none⟩) 0 0) (.slice (some a) 0 c)
  | map {r l} (h : ι r = some l) : SRel ι (.map (some r)) (.map (some l.b))
inductive All2 {α β : Type} (R : α → β → Prop) : List α → List β → Prop
  | nil : All2 R [] []
  | cons {a b l m} (h : R a b) (t : All2 R l m) : All2 R (a :: l) (b :: m)
inductive CRel (ι : Env) : Value → Value → Prop
  | s {v v'} (h : SRel ι v v') : CRel ι v v'
  | func (f) {xs ys xs' ys' : Array Value} (h : All2 (SRel ι) xs.toList xs'.toList) (k : All2 (SRel ι) ys.toList ys'.toList) : CRel ι (.func (.func f) xs ys) (.func (.func f) xs' ys')
  | yield {r l} (h : ι r = some l) : CRel ι (.func (.yield r) #[] #[]) (.func (.yield l.b) #[] #[])
  | iface (t) {v v'} (h : SRel ι v v') : CRel ι (.iface t v) (.iface t v')
inductive ARel (ι : Env) : Value → Value → Prop
  | c {v v'} (h : CRel ι v v') : ARel ι v v'
  | agg {xs ys : Array Value} (h : All2 (CRel ι) xs.toList ys.toList) : ARel ι (.agg xs) (.agg ys)
inductive VRel (ι : Env) : Value → Value → Prop
  | a {v v'} (h : ARel ι v v') : VRel ι v v'
  | tuple {xs ys : Array Value} (h : All2 (ARel ι) xs.toList ys.toList) : VRel ι (.tuple xs) (.tuple ys)

def szOf (P : Program) (E : TypeId) : Nat := match P.info? E with | some i => i.size | none => 0
def AObj.ro : AObj → Bool
  | .cells _ _ .ro => true
  | _ => false
/-- The temporaries below N. (What is kept at N is the abstract side's own: the marks of ranges over functions.) -/
def TRel (ι : Env) (N : Nat) (t : T) (tmps : Array Value) : Prop := tmps.size = N ∧ ∀ i, i < N → VRel ι (t i) (tmps.getD i undef)

def ORel (P : Program) (B : Nat) (ι : Env) (l : Loc) (w : World) : AObj → Prop
  | .cells cs E m => ∃ ccs CE lo hi, w.heap[l.b]? = some (.cells ccs CE (lo, hi)) ∧
      (∀ i v, cs[i]? = some v → ∃ v', ccs[l.o + i]? = some v' ∧ CRel ι v v') ∧
      (m = .ro → l.b < B) ∧ (m ≠ .ro → B ≤ l.b ∧ ∀ i, i < ccs.size → ¬(lo ≤ i ∧ lo ≠ hi)) ∧
      (m ≠ .open → l.k = 0) ∧
      (m = .open → l.o + cs.length + l.k * szOf P E ≤ ccs.size)
  | .map kk es clock => B ≤ l.b ∧ l.o = 0 ∧ ∃ ces, w.heap[l.b]? = some (.map ces clock) ∧
      All2 (fun e ce => ce.key = e.1 ∧ kkHas kk e.1 = true ∧ ARel ι e.2 ce.val) es ces.toList ∧ (∀ ce ∈ ces.toList, ce.born < clock) ∧ (ces.toList.map (·.born)).Nodup ∧
      es.Pairwise fun a b => keyEq a.1 b.1 = false
  | .iter mo left since cur => B ≤ l.b ∧ l.o = 0 ∧ ∃ cm since' seen stepped, w.heap[l.b]? = some (.mapIter cm since' seen stepped) ∧
      match mo with
      | none => cm = none
      | some m => ∃ lm, ι m = some lm ∧ cm = some lm.b ∧ since' = since ∧ stepped = since ∧
          (∀ ces clock, w.heap[lm.b]? = some (.map ces clock) → since ≤ clock ∧
            (clock = since → ∀ ce ∈ ces.toList, (ce.born ∈ seen.toList ↔ left.any (keyEq ce.key) = false))) ∧
          (∀ k, cur = some k → ∃ st, seen.back? = some st ∧ ∀ ces clock, w.heap[lm.b]? = some (.map ces clock) → clock = since → ∀ ce ∈ ces.toList, (ce.born = st ↔ ce.key = k))
  | .loop st pend t N ps assign body => B ≤ l.b ∧ l.o = 0 ∧ ∃ L : Loop, w.heap[l.b]? = some (.loop L) ∧
      L.state = st ∧ L.pending = pend ∧ TRel ι N t L.tmps ∧ L.params = ps ∧ L.assign = assign ∧ L.body = body
  | .defer => B ≤ l.b ∧ l.o = 0 ∧ w.heap[l.b]? = some (.deferred (some []))

structure HRel (P : Program) (W : World) (ι : Env) (h : H) (w : World) : Prop where
  nxt : ∃ n, ∀ b, n ≤ b → ι b = none
  z0 : ι 0 = none
  z1 : ι 1 = none
  below : Below W.heap.size W w
  inb : ∀ b l, ι b = some l → l.b < w.heap.size
  obj : ∀ b o, h b = some o → ∃ l, ι b = some l ∧ ORel P W.heap.size ι l w o
  sep : ∀ b b' o o' l l', b ≠ b' → h b = some o → h b' = some o' → ι b = some l → ι b' = some l' → o.ro = false → o'.ro = false → l.b ≠ l'.b

/-- What a call comes to. -/
def Post (P : Program) (W : World) (ι : Env) (Q : Value → H → Prop) : Ending → World → Prop := fun e w' =>
  ∃ v cv ι' h', e = .returned cv ∧ Env.le ι ι' ∧ HRel P W ι' h' w' ∧ VRel ι' v cv ∧ Q v h'
def Spec (P : Program) (f : FuncId) (args : List Value) (h : H) (Q : Value → H → Prop) : Prop :=
  ∀ (W : World) (ι : Env) (w : World) (cargs : Array Value), HRel P W ι h w → All2 (ARel ι) args cargs.toList → Calls P f cargs w (Post P W ι Q)
/-- A round of a range over a function, called by its yield value. -/
def YSpec (P : Program) (r : Nat) (args : List Value) (h : H) (Q : Value → H → Prop) : Prop :=
  ∀ (W : World) (ι : Env) (w : World) (cargs : Array Value) (l : Loc), HRel P W ι h w → ι r = some l → All2 (ARel ι) args cargs.toList →
    ∃ L : Loop, w.heap[l.b]? = some (.loop L) ∧ L.params.size = cargs.size ∧
      RoundIn Fence.wide 0 P l.b L.fn ((L.params.zip cargs).foldl (fun tmps (t, a) => tmps.setIfInBounds t a) L.tmps) L.assign L.body w (Post P W ι Q)

/-- A function with a body of its own. -/
def hasBody (P : Program) (f : FuncId) : Bool :=
  match P.funcs[f]? with
  | some fn => fn.body.isSome && fn.name != "runtime.NumGoroutine"
  | none => false

def o_call (P : Program) (f : FuncId) (args : List Value) (h : H) (K : Value → H → Prop) : Prop :=
  args.all boxV = true ∧ Spec P f args h K
def o_dyn (P : Program) (fv : Value) (args : List Value) (h : H) (K : Value → H → Prop) : Prop :=
  args.all boxV = true ∧
  match fv with
  | .func (.func f) first captured => hasBody P f = true ∧ Spec P f (first.toList ++ args ++ captured.toList) h K
  | .func (.yield r) a c => a.size = 0 ∧ c.size = 0 ∧ YSpec P r args h K
  | _ => False
def aCall (P : Program) (c : Call) (ρ : Operand → Value) (h : H) (K : Value → H → Prop) : Prop :=
  match c.callee, c.args.toList, c.argTypes.toList with
  | .builtin .len, [x], [t] => (match P.underlying t with
    | some .string => o_lenStr (ρ x) fun v => K v h
    | some (.slice _) => o_lenSl (ρ x) fun v => K v h
    | some (.map _ _) => o_lenMap (ρ x) h fun v => K v h
    | some (.array n _) => K (.int .i64 n) h
    | _ => False)
  | .builtin .append, [s, x], [t, u] => (match P.underlying t, P.underlying u with
    | some (.slice e), some (.slice _) | some (.slice e), some .string => (match P.info? e, zeroOf P e with
      | some i, some z => bif z.cells.size == i.size then o_append e i.size i.bytes (ρ s) (ρ x) h K else False
      | _, _ => False)
    | _, _ => False)
  | .builtin .copy, [d, x], [t, _] => (match P.underlying t with
    | some (.slice e) => (match P.info? e with | some i => o_copy i.size (ρ d) (ρ x) h K | none => False)
    | _ => False)
  | .builtin .delete, [m, k], [t, _] => (match P.underlying t with
    | some (.map kt _) => (match kkOf P kt with | some kk => o_delete kk (ρ m) (ρ k) h fun h => K undef h | none => False)
    | _ => False)
  | .builtin .min, [x, y], _ => o_minmax P Builtin.min2 (ρ x) (ρ y) fun v => K v h
  | .builtin .max, [x, y], _ => o_minmax P Builtin.max2 (ρ x) (ρ y) fun v => K v h
  | .value (.func f), args, _ => bif hasBody P f then o_call P f (args.map ρ) h K else False
  | .value (.tmp i), args, _ => o_dyn P (ρ (.tmp i)) (args.map ρ) h K
  | _, _, _ => False

def aop (P : Program) (op : Op) (ρ : Operand → Value) (h : H) (K : Value → H → Prop) : Prop :=
  match op with
  | .move x | .assign x => K (ρ x) h
  | .pick c a b => o_pick (ρ c) (ρ a) (ρ b) fun v => K v h
  | .alloc E => match zeroOf P E with
    | some z => o_new z.cells.toList E .exact h fun b h => K (.pointer (some ⟨b, 0, none⟩)) h
    | none => False
  | .box E x => boxV (ρ x) = true ∧ o_new (ρ x).cells.toList E .exact h fun b h => K (.pointer (some ⟨b, 0, none⟩)) h
  | .build t ps => o_build P t (ps.toList.map fun p => (p.1, ρ p.2)) fun v => K v h
  | .buildSlice t n ps => o_buildSlice P t n (ps.toList.map fun p => (p.1, ρ p.2)) h K
  | .load t a => match tySize P t with
    | some (ag, n) => o_load ag n (ρ a) h fun v => K v h
    | none => False
  | .store t a x => match tySize P t with
    | some (_, n) => o_store n (ρ a) (ρ x) h fun h => K undef h
    | none => False
  | .nilCheck x => o_nilCheck (ρ x) fun v => K v h
  | .binOp op xt x y _ => o_bin P op xt (ρ x) (ρ y) fun v => K v h
  | .unOp op _ x => o_un P op (ρ x) fun v => K v h
  | .convert src dst x => match P.underlying dst, P.underlying src with
    | some (.int k), some (.int _) => o_conv k (ρ x) fun v => K v h
    | some .string, some .string => o_convStr (ρ x) fun v => K v h
    | some .string, some (.slice e) => (match P.underlying e with | some (.int .u8) => o_bytesToString (ρ x) h fun v => K v h | _ => False)
    | some (.slice e), some .string => (match P.underlying e, P.info? e with | some (.int .u8), some i => bif Nat.beq i.size 1 then o_stringToBytes e (ρ x) h K else False | _, _ => False)
    | some (.slice e), some (.slice _) => (match P.underlying e with | some (.int .u8) => bif Nat.beq src dst then o_mark (ρ x) h fun v => K v h else False | _ => False)
    | _, _ => False
  | .makeInterface t x => match P.underlying t with
    | some (.interface _) | none => False
    | some _ => plainC (ρ x) = true ∧ K (.iface t (ρ x)) h
  | .makeFunc (.func f) first captured => (first.toList.map ρ).all plainC = true ∧ (captured.toList.map ρ).all plainC = true ∧ K (.func (.func f) (first.map ρ) (captured.map ρ)) h
  | .makeMap t r => match P.underlying t, r.map ρ with
    | some (.map kt _), none | some (.map kt _), some (.int _ _) => (match kkOf P kt with | some kk => o_newObj (.map kk [] 0) h fun b h => K (.map (some b)) h | none => False)
    | _, _ => False
  | .makeSlice t l c => match P.underlying t with
    | some (.slice e) => (match P.info? e, zeroOf P e with
      | some i, some z => o_makeSlice z.cells.toList i.size i.bytes e (ρ l) (ρ c) h K
      | _, _ => False)
    | _ => False
  | .slice t x lo hi mx => match P.underlying t with
    | some (.array n e) => (match mx, P.info? e with | none, some i => o_sliceArr n i.size (ρ x) (lo.map ρ) (hi.map ρ) h fun v => K v h | _, _ => False)
    | some (.slice e) => (match P.info? e with | some i => o_slice i.size (ρ x) (lo.map ρ) (hi.map ρ) (mx.map ρ) fun v => K v h | none => False)
    | some .string => (match mx with | none => o_sliceStr (ρ x) (lo.map ρ) (hi.map ρ) fun v => K v h | some _ => False)
    | _ => False
  | .fieldAddr s x f => match fieldOff P s f with
    | some (off, ft) => bif Nat.beq (szOf P ft) 0 then False else o_fieldAddr off (ρ x) fun v => K v h
    | none => False
  | .field s x f => match fieldOff P s f with
    | some (off, ft) => (match tySize P ft with | some (ag, n) => o_field ag n off (ρ x) fun v => K v h | none => False)
    | none => False
  | .indexAddr t x i => match P.underlying t with
    | some (.array n e) => (match P.info? e with | some inf => o_indexAddr (some n) inf.size (ρ x) (ρ i) fun v => K v h | none => False)
    | some (.slice e) => (match P.info? e with | some inf => o_indexAddr none inf.size (ρ x) (ρ i) fun v => K v h | none => False)
    | _ => False
  | .index t x i => match P.underlying t with
    | some (.array n e) => (match tySize P e with | some (ag, sz) => o_index false n ag sz (ρ x) (ρ i) fun v => K v h | none => False)
    | some .string => o_index true 0 false 0 (ρ x) (ρ i) fun v => K v h
    | _ => False
  | .lookup t x k ok => match P.underlying t with
    | some (.map kt e) => (match zeroOf P e, kkOf P kt with | some z, some kk => o_lookup kk z (ρ x) (ρ k) ok h fun v => K v h | _, _ => False)
    | _ => False
  | .mapUpdate t m k x | .insert t m k x => match P.underlying t with
    | some (.map kt _) => (match kkOf P kt with | some kk => o_mapUpdate kk (ρ m) (ρ k) (ρ x) h fun h => K undef h | none => False)
    | _ => False
  | .range t x => match P.underlying t with
    | some (.map _ _) => o_range (ρ x) h K
    | _ => False
  | .next it false => o_next (ρ it) h K
  | .entry it => o_entry (ρ it) h fun v => K v h
  | .extract x i => o_extract (ρ x) i fun v => K v h
  | .call c => aCall P c ρ h K
  | _ => False

def guardVal (ops : Array Oper) (j : Nat) (t : T) : Value :=
  match (ops[j]?).bind (·.dst) with
  | some d => t d
  | none => undef
def aStep (P : Program) (ops : Array Oper) (i : Nat) (K : T → H → Prop) (t : T) (h : H) : Prop :=
  match ops[i]? with
  | none => K t h
  | some o =>
    match o.guard with
    | none => aop P o.op (aev t) h fun v h => K (tput t o.dst v) h
    | some (j, want) => o_guard (guardVal ops j t) want (aop P o.op (aev t) h) (fun v h => K (tput t o.dst v) h) h
def aOps (P : Program) (ops : Array Oper) : List Nat → (T → H → Prop) → T → H → Prop
  | [], K, t, h => K t h
  | i :: is, K, t, h => aStep P ops i (aOps P ops is K) t h
/-- A region that draws its order: in whatever order. -/
def aAny (P : Program) (ops : Array Oper) (K : T → H → Prop) : Nat → Array Bool → T → H → Prop
  | 0, listed, t, h => Region.ready .any ops listed = [] ∧ K t h
  | fuel + 1, listed, t, h => (Region.ready .any ops listed = [] → K t h) ∧
      ∀ i ∈ Region.ready .any ops listed, aStep P ops i (aAny P ops K fuel (listed.setIfInBounds i true)) t h

def athen (K : T → H → Prop) (Q : Exit → T → H → Prop) : Exit → T → H → Prop
  | .normal => K
  | e => Q e
def ablock (id : Nat) (Q : Exit → T → H → Prop) : Exit → T → H → Prop
  | .exit j => bif Nat.beq j id then Q .normal else Q (.exit j)
  | e => Q e
/-- A loop: something that holds at each round's head, with a number that each round lowers. -/
def sloop {S : Type} (body : S → H → (S → H → Prop) → Prop) (s : S) (h : H) : Prop :=
  ∃ I : Nat → S → H → Prop, (∃ n, I n s h) ∧ ∀ n s h, I n s h → body s h fun s' h' => ∃ m, m < n ∧ I m s' h'

/-- The marks that a function's ranges over functions have left: kept at N. -/
def marks (v : Value) : List Nat :=
  match v with
  | .tuple vs => vs.toList.filterMap fun | .int _ n => some n.toNat | _ => none
  | _ => []
def addMark (v : Value) (d : Nat) : Value := .tuple (Value.int .u64 d :: (marks v).map fun n : Nat => Value.int .u64 (n : Int)).toArray

def o_rangeCall (P : Program) (fv y : Value) (h : H) (K : Value → H → Prop) : Prop :=
  match fv with
  | .func (.func f) first captured => hasBody P f = true ∧ Spec P f (first.toList ++ [y] ++ captured.toList) h K
  | _ => False

def awp (P : Program) (N : Nat) : Code → (Exit → T → H → Prop) → T → H → Prop
  | .skip, Q, t, h => Q .normal t h
  | .region _ ops draw, Q, t, h => bif draw then aAny P ops (Q .normal) ops.size (Array.replicate ops.size false) t h
      else aOps P ops (List.range ops.size) (Q .normal) t h
  | .seq a b, Q, t, h => awp P N a (athen (awp P N b Q) Q) t h
  | .cond c x y, Q, t, h => o_if (aev t c) (awp P N x Q t h) (awp P N y Q t h)
  | .block id c, Q, t, h => awp P N c (ablock id Q) t h
  | .loop c, Q, t, h => sloop (fun t h K => awp P N c (athen K Q) t h) t h
  | .exit id, Q, t, h => Q (.exit id) t h
  | .ret, Q, t, h => Q .ret t h
  | .label _, Q, t, h => Q .normal t h
  | .rangeFunc g ps assign body, Q, t, h => ∀ l d, 2 ≤ l → 2 ≤ d → l ≠ d → h l = none → h d = none →
      o_rangeCall P (aev t g) (.func (.yield l) #[] #[]) (upd (upd h d .defer) l (.loop .ready none t N ps assign body)) fun _ h' =>
        match h' l with
        | some (.loop .ready none _ _ _ _ _) => Q .normal (tset t N (addMark (t N) d)) (del h' l)
        | some (.loop .done (some .ret) _ _ _ _ _) => Q .ret (tset t N (addMark (t N) d)) (del h' l)
        | some (.loop .done (some (.exit id)) _ _ _ _ _) => Q (.exit id) (tset t N (addMark (t N) d)) (del h' l)
        | _ => False
  | _, _, _, _ => False

/-- What a function hands back. -/
def retV (rs : List Nat) (Q : Value → H → Prop) (t : T) (h : H) : Prop :=
  match rs with
  | [r] => Q (t r) h
  | rs => bif rs.all (fun r => boxV (t r)) then Q (.tuple (rs.map t).toArray) h else False
def retQ (N : Nat) (rs : List Nat) (Q : Value → H → Prop) (t : T) (h : H) : Prop :=
  match marks (t N) with
  | [] => retV rs Q t h
  | ds => ds.Nodup ∧ (∀ d ∈ ds, h d = some .defer) ∧ retV rs Q t (fun b => if b ∈ ds then none else h b)
def bodyQ (N : Nat) (rs : List Nat) (Q : Value → H → Prop) : Exit → T → H → Prop
  | .normal, t, h | .ret, t, h => retQ N rs Q t h
  | _, _, _ => False
def tinit (args : List Value) : T := fun i => args.getD i undef

/-! ### What the text must be for all this: no name of a package variable, temporaries within the frame -/
def okOperand (N : Nat) : Operand → Bool
  | .tmp i => Nat.blt i N
  | .const v => selfV v
  | .global _ => false
  | .func _ => true
def okOper (N : Nat) (o : Oper) : Bool :=
  (match o.dst with | some d => Nat.blt d N | none => true) && o.op.operands.toList.all (okOperand N) && (match o.op with | .defer _ => false | _ => true)
def okCode (N : Nat) (round : Bool) : Code → Bool
  | .skip | .exit _ | .ret | .label _ => true
  | .region _ ops _ => ops.toList.all (okOper N)
  | .seq a b => okCode N round a && okCode N round b
  | .cond c x y => okOperand N c && okCode N round x && okCode N round y
  | .block _ c | .loop c => okCode N round c
  | .rangeFunc g ps assign body => !round && okOperand N g && ps.toList.all (fun p => Nat.blt p N) && okCode N true assign && okCode N true body
  | _ => false

/-- The temporaries of a round. -/
def tround (N : Nat) (t : T) (ps : Array Tmp) (args : List Value) : T := tset ((ps.toList.zip args).foldl (fun t p => tset t p.1 p.2) t) N undef

end Go.Proofs.YtjdhldfeflmneaaGreat.AM
