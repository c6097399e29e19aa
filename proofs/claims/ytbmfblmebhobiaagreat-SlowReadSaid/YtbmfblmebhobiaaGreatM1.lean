import Derived.CallsIn
import Derived.OrdersIn
import Derived.Below
import Derived.Laws.Tables
import Derived.WalkKit
/-
  An abstract memory for walks over Go code: blocks by name, no capacities that the tape draws, no order of blocks; and a predicate transformer 'awp' over the loaded code. Here: the definitions.
-/
set_option linter.unusedSimpArgs false
set_option linter.unusedVariables false
namespace Go.Proofs.YtbmfblmebhobiaaGreat.AM
open Go.RowKit

/-- How a block of cells is held: 'ro': it was there before (read alone); 'exact': the call's own, no spare room behind it; 'open': the call's own, maybe with spare room that nobody sees. -/
inductive Own where
  | ro | exact | open
  deriving DecidableEq

/-- The keys of a map that are taken: whole numbers of a kind, strings, bools. -/
inductive KK where
  | int (k : IntKind) | str | bool
  deriving DecidableEq

inductive AObj where
  | cells (cs : List Value) (E : TypeId) (m : Own)
  | map (kk : KK) (es : List (Value × Value)) (clock : Nat)
  | iter (m : Option Nat) (left : List Value) (since : Nat) (cur : Option Value)
  | loop (st : LoopState) (pend : Option Code) (t : Nat → Value) (N : Nat) (ps : Array Tmp) (assign body : Code)
  | defer

abbrev H := Nat → Option AObj
abbrev T := Nat → Value

def upd (h : H) (b : Nat) (o : AObj) : H := fun c => if c = b then some o else h c
def del (h : H) (b : Nat) : H := fun c => if c = b then none else h c
def tset (t : T) (d : Nat) (v : Value) : T := fun i => bif Nat.beq i d then v else t i
def tput (t : T) (d : Option Tmp) (v : Value) : T := match d with | some d => tset t d v | none => t

theorem upd_same (h : H) (b : Nat) (o : AObj) : upd h b o b = some o := by simp [upd]
theorem upd_ne (h : H) {b c : Nat} (o : AObj) (hc : c ≠ b) : upd h b o c = h c := by simp [upd, hc]
theorem del_same (h : H) (b : Nat) : del h b b = none := by simp [del]
theorem del_ne (h : H) {b c : Nat} (hc : c ≠ b) : del h b c = h c := by simp [del, hc]

/-- No address within: the value stands for itself. -/
def selfC : Value → Bool
  | .bool _ | .int _ _ | .float _ _ | .complex _ _ _ | .string _ | .nilFunc | .nilIface | .pointer none | .slice none 0 0 | .map none => true
  | .func (.func _) a c => a.size == 0 && c.size == 0
  | _ => false
def selfA : Value → Bool
  | .agg cs => cs.toList.all selfC
  | v => selfC v
def selfV : Value → Bool
  | .tuple vs => vs.toList.all selfA
  | v => selfA v

/-- Values that may be captured, or lie in an interface value: no function, no aggregate. -/
def plainC : Value → Bool
  | .bool _ | .int _ _ | .float _ _ | .complex _ _ _ | .string _ | .nilFunc | .nilIface | .pointer none | .slice none 0 0 | .map none
  | .pointer (some ⟨_, _, none⟩) | .slice (some ⟨_, _, none⟩) _ _ | .map (some _) => true
  | _ => false
def cellV : Value → Bool
  | .agg _ | .tuple _ => false
  | _ => true
def boxV : Value → Bool
  | .tuple _ => false
  | _ => true

def pureRun {α : Type} (P : Program) : Sem α → Option α
  | .pure a => some a
  | .program k => pureRun P (k P)
  | _ => none

def aev (t : T) : Operand → Value
  | .tmp i => t i
  | .const v => v
  | .global _ => undef
  | .func f => .func (.func f) #[] #[]

/-- Cells n of a block from o on. -/
def cellsAt (h : H) (b o n : Nat) : Option (List Value) :=
  match h b with
  | some (.cells cs _ _) => if o + n ≤ cs.length then some ((cs.drop o).take n) else none
  | _ => none
def cellAt (h : H) (b o : Nat) : Option Value :=
  match h b with
  | some (.cells cs _ _) => cs[o]?
  | _ => none
def setL : List Value → Nat → List Value → List Value
  | cs, _, [] => cs
  | cs, o, v :: vs => setL (cs.set o v) (o + 1) vs

/-- Is the type one of aggregates, and how many cells has it? -/
def tySize (P : Program) (t : TypeId) : Option (Bool × Nat) :=
  match P.info? t, P.underlying t with
  | some i, some (.struct _) | some i, some (.array _ _) => some (true, i.size)
  | some i, some _ => some (false, i.size)
  | _, _ => none
def zeroOf (P : Program) (t : TypeId) : Option Value :=
  match (P.info? t).bind (·.zero) with
  | some z => if selfA z then some z else none
  | none => none
def fieldOff (P : Program) (s : TypeId) (f : Nat) : Option (Nat × TypeId) :=
  match P.underlying s with
  | some (.struct fs) => match fs[f]? with
    | some f => some (f.offset, f.type)
    | none => none
  | _ => none

def o_new (cs : List Value) (E : TypeId) (m : Own) (h : H) (K : Nat → H → Prop) : Prop :=
  ∀ b, 2 ≤ b → h b = none → K b (upd h b (.cells cs E m))
def o_newObj (o : AObj) (h : H) (K : Nat → H → Prop) : Prop :=
  ∀ b, 2 ≤ b → h b = none → K b (upd h b o)
def o_load (ag : Bool) (n : Nat) (a : Value) (h : H) (K : Value → Prop) : Prop :=
  match a with
  | .pointer (some ⟨b, o, none⟩) =>
    bif ag then (match cellsAt h b o n with | some l => K (.agg l.toArray) | none => False)
    else (match cellAt h b o with | some v => K v | none => False)
  | _ => False
def o_store (n : Nat) (a v : Value) (h : H) (K : H → Prop) : Prop :=
  match a with
  | .pointer (some ⟨b, o, none⟩) =>
    match h b with
    | some (.cells cs E m) => m ≠ .ro ∧ boxV v = true ∧ v.cells.size = n ∧ o + n ≤ cs.length ∧ K (upd h b (.cells (setL cs o v.cells.toList) E m))
    | _ => False
  | _ => False
def o_guard (c : Value) (want : Bool) (op : (Value → H → Prop) → Prop) (K : Value → H → Prop) (h : H) : Prop :=
  match c with
  | .bool b => bif (b == want) then op K else K undef h
  | _ => K undef h
def o_if (c : Value) (A B : Prop) : Prop :=
  match c with
  | .bool b => bif b then A else B
  | _ => False
def o_pick (c a b : Value) (K : Value → Prop) : Prop :=
  match c with
  | .bool q => K (bif q then a else b)
  | _ => False
/-- What a computation without memory comes to. -/
def o_pure (r : Option Value) (K : Value → Prop) : Prop :=
  match r with
  | some v => bif selfV v then K v else False
  | none => False
def o_nilCheck (x : Value) (K : Value → Prop) : Prop :=
  match x with
  | .pointer (some a) => K (.pointer (some a))
  | .func (.func f) a c => K (.func (.func f) a c)
  | .func (.yield f) a c => K (.func (.yield f) a c)
  | _ => False
def isNil : Value → Option Bool
  | .pointer a => some a.isNone
  | .slice a _ _ => some a.isNone
  | .map a => some a.isNone
  | .nilFunc => some true
  | .func _ _ _ => some false
  | _ => none
/-- No two nil interface values are held against each other. -/
def okEq (P : Program) (op : BinOp) (xt : TypeId) (x y : Value) : Bool :=
  match op with
  | .eql | .neq => (match x, y with
    | .nilIface, .nilIface => false
    | .agg _, .agg _ => !(P.eqGuardType P.depth xt)
    | _, _ => true)
  | _ => true
/-- Numbers and other values without addresses; or '==' and '!=' against nil. -/
def o_bin (P : Program) (op : BinOp) (xt : TypeId) (x y : Value) (K : Value → Prop) : Prop :=
  bif selfV x && selfV y && okEq P op xt x y then o_pure (pureRun P (binOp op xt x y)) K
  else match op, P.underlying xt, x, y with
    | .eql, some (.pointer _), .pointer a, .pointer none | .eql, some (.slice _), .slice a _ _, .slice none _ _ | .eql, some (.map _ _), .map a, .map none => K (.bool a.isNone)
    | .neq, some (.pointer _), .pointer a, .pointer none | .neq, some (.slice _), .slice a _ _, .slice none _ _ | .neq, some (.map _ _), .map a, .map none => K (.bool (!a.isNone))
    | .eql, some (.func _ _ _), .func _ _ _, .nilFunc => K (.bool false)
    | .neq, some (.func _ _ _), .func _ _ _, .nilFunc => K (.bool true)
    | _, _, _, _ => False
def o_un (P : Program) (op : UnOp) (x : Value) (K : Value → Prop) : Prop :=
  bif selfV x then o_pure (pureRun P (Op.unary op x)) K else False
def o_minmax (P : Program) (f : Value → Value → Sem Value) (x y : Value) (K : Value → Prop) : Prop :=
  bif selfV x && selfV y then o_pure (pureRun P (f x y)) K else False
def o_conv (k : IntKind) (x : Value) (K : Value → Prop) : Prop :=
  match x with
  | .int _ n => K (.int k (k.wrap n))
  | _ => False
def o_convStr (x : Value) (K : Value → Prop) : Prop :=
  match x with
  | .string s => K (.string s)
  | _ => False
def o_fieldAddr (off : Nat) (x : Value) (K : Value → Prop) : Prop :=
  match x with
  | .pointer (some ⟨b, o, none⟩) => K (.pointer (some ⟨b, o + off, none⟩))
  | _ => False
def partOf (ag : Bool) (n off : Nat) (cs : Array Value) : Option Value :=
  bif ag then (if off + n ≤ cs.size then some (.agg (cs.extract off (off + n))) else none) else cs[off]?
def o_field (ag : Bool) (n off : Nat) (x : Value) (K : Value → Prop) : Prop :=
  match x with
  | .agg cs => match partOf ag n off cs with
    | some v => K v
    | none => False
  | _ => False
/-- The address of an element: a slice's, or (len given) an array's. -/
def o_indexAddr (len : Option Nat) (size : Nat) (x i : Value) (K : Value → Prop) : Prop :=
  match i, len, x with
  | .int _ i, none, .slice (some ⟨b, o, none⟩) n _ => 0 ≤ i ∧ i < n ∧ K (.pointer (some ⟨b, o + i.toNat * size, none⟩))
  | .int _ i, some n, .pointer (some ⟨b, o, none⟩) => 0 ≤ i ∧ i < n ∧ K (.pointer (some ⟨b, o + i.toNat * size, none⟩))
  | _, _, _ => False
def o_index (str : Bool) (len : Nat) (ag : Bool) (size : Nat) (x i : Value) (K : Value → Prop) : Prop :=
  match i, x with
  | .int _ i, .agg cs => str = false ∧ 0 ≤ i ∧ i < len ∧ (match partOf ag size (i.toNat * size) cs with | some v => K v | none => False)
  | .int _ i, .string s => str = true ∧ 0 ≤ i ∧ (match s[i.toNat]? with | some c => K (.int .u8 c.toNat) | none => False)
  | _, _ => False
def o_extract (x : Value) (i : Nat) (K : Value → Prop) : Prop :=
  match x with
  | .tuple vs => match vs[i]? with
    | some v => K v
    | none => False
  | _ => False
def o_build (P : Program) (t : TypeId) (ps : List (Nat × Value)) (K : Value → Prop) : Prop :=
  bif ps.all (fun p => boxV p.2) then
    match zeroOf P t, P.built t ps with
    | some _, some cs => K (.agg cs)
    | _, _ => False
  else False
/-- A slice literal's cells. -/
def litCells (P : Program) (t : TypeId) (len : Nat) (ps : List (Nat × Value)) : Option (List Value × TypeId) :=
  match P.underlying t with
  | some (.slice e) => match P.info? e, zeroOf P e with
    | some i, some z =>
      bif ps.all (fun p => boxV p.2) && Nat.ble (len * i.size) 16777216 then
        bif Nat.beq (len * i.size) 0 then (bif ps.isEmpty then some ([], e) else none) else
        match Instr.fill (fun j => some (j * i.size, i.size)) ((Array.range (len * i.size)).map (z.cells[· % z.cells.size]!)) ps with
        | some cs => some (cs.toList, e)
        | none => none
      else none
    | _, _ => none
  | _ => none
def o_buildSlice (P : Program) (t : TypeId) (n : Nat) (ps : List (Nat × Value)) (h : H) (K : Value → H → Prop) : Prop :=
  match litCells P t n ps with
  | some (cs, e) => o_new cs e .exact h fun b h => K (.slice (some ⟨b, 0, none⟩) n n) h
  | none => False
def zerosL (z : List Value) : Nat → List Value
  | 0 => []
  | n + 1 => z ++ zerosL z n
def o_makeSlice (z : List Value) (size bytes : Nat) (e : TypeId) (l c : Value) (h : H) (K : Value → H → Prop) : Prop :=
  match l, c with
  | .int _ l, .int _ c => z.length = size ∧ 0 ≤ l ∧ l ≤ c ∧ (bytes : Int) * c ≤ 281474976710656 ∧ c < 9223372036854775808 ∧ 0 < size ∧
      o_new (zerosL z c.toNat) e .exact h fun b h => K (.slice (some ⟨b, 0, none⟩) l.toNat c.toNat) h
  | _, _ => False
/-- A stretch of a slice. (Where it begins at the end of a block with spare room, nothing is known of what is behind: name 1.) -/
def o_slice (size : Nat) (x : Value) (lo hi mx : Option Value) (K : Value → Prop) : Prop :=
  match x, mx with
  | .slice (some ⟨b, o, none⟩) n c, none =>
    ∃ l u : Nat, (match lo with | some (.int _ i) => i = (l : Int) | none => l = 0 | _ => False) ∧ (match hi with | some (.int _ i) => i = (u : Int) | none => u = n | _ => False) ∧
      l ≤ u ∧ u ≤ c ∧ (if l = 0 then K (.slice (some ⟨b, o, none⟩) u c) else if l < c then K (.slice (some ⟨b, o + l * size, none⟩) (u - l) (c - l)) else K (.slice (some ⟨1, 0, none⟩) 0 0))
  | .slice (some ⟨_, _, none⟩) _ _, some (.int _ 0) =>
    (match lo with | some (.int _ i) => i = 0 | none => True | _ => False) ∧ (match hi with | some (.int _ i) => i = 0 | _ => False) ∧ K (.slice (some ⟨0, 0, none⟩) 0 0)
  | .slice none 0 0, none => (match lo with | some (.int _ i) => i = 0 | none => True | _ => False) ∧ (match hi with | some (.int _ i) => i = 0 | none => True | _ => False) ∧ K (.slice none 0 0)
  | .slice none 0 0, some (.int _ 0) => (match lo with | some (.int _ i) => i = 0 | none => True | _ => False) ∧ (match hi with | some (.int _ i) => i = 0 | _ => False) ∧ K (.slice none 0 0)
  | _, _ => False
def o_sliceStr (x : Value) (lo hi : Option Value) (K : Value → Prop) : Prop :=
  match x with
  | .string s =>
    ∃ l u : Nat, (match lo with | some (.int _ i) => i = (l : Int) | none => l = 0 | _ => False) ∧ (match hi with | some (.int _ i) => i = (u : Int) | none => u = s.size | _ => False) ∧
      l ≤ u ∧ u ≤ s.size ∧ K (.string (s.extract l u))
  | _ => False
/-- A stretch of an array in memory. -/
def o_sliceArr (n size : Nat) (x : Value) (lo hi : Option Value) (h : H) (K : Value → Prop) : Prop :=
  match x with
  | .pointer (some ⟨b, o, none⟩) => match h b with
    | some (.cells _ _ m) => m ≠ .open ∧
      ∃ l u : Nat, (match lo with | some (.int _ i) => i = (l : Int) | none => l = 0 | _ => False) ∧ (match hi with | some (.int _ i) => i = (u : Int) | none => u = n | _ => False) ∧
      l ≤ u ∧ u ≤ n ∧ (if l < n then K (.slice (some ⟨b, o + l * size, none⟩) (u - l) (n - l)) else K (.slice (some ⟨1, 0, none⟩) 0 0))
    | _ => False
  | _ => False

/-! ### Maps -/
def kkOf (P : Program) (kt : TypeId) : Option KK :=
  match P.underlying kt with
  | some (.int j) => some (.int j)
  | some .string => some .str
  | some .bool => some .bool
  | _ => none
def kkHas : KK → Value → Bool
  | .int j, .int k _ => j == k
  | .str, .string _ => true
  | .bool, .bool _ => true
  | _, _ => false
def keyEq : Value → Value → Bool
  | .int j a, .int k b => j == k && a == b
  | .string a, .string b => a == b
  | .bool a, .bool b => a == b
  | _, _ => false
def mfind (es : List (Value × Value)) (k : Value) : Option Value :=
  match es with
  | [] => none
  | e :: r => bif keyEq k e.1 then some e.2 else mfind r k
def mset (es : List (Value × Value)) (k v : Value) : List (Value × Value) :=
  match es with
  | [] => [(k, v)]
  | e :: r => bif keyEq k e.1 then (k, v) :: r else e :: mset r k v
def mdel (es : List (Value × Value)) (k : Value) : List (Value × Value) :=
  match es with
  | [] => []
  | e :: r => bif keyEq k e.1 then r else e :: mdel r k
def mhas (es : List (Value × Value)) (k : Value) : Bool := (mfind es k).isSome

def o_lookup (kk : KK) (z x k : Value) (ok : Bool) (h : H) (K : Value → Prop) : Prop :=
  kkHas kk k = true ∧
  match x with
  | .map none => K (bif ok then .tuple #[z, .bool false] else z)
  | .map (some m) => match h m with
    | some (.map kk' es _) => kk' = kk ∧ (match mfind es k with
      | some v => K (bif ok then .tuple #[v, .bool true] else v)
      | none => K (bif ok then .tuple #[z, .bool false] else z))
    | _ => False
  | _ => False
def o_mapUpdate (kk : KK) (m k v : Value) (h : H) (K : H → Prop) : Prop :=
  kkHas kk k = true ∧ boxV v = true ∧
  match m with
  | .map (some b) => match h b with
    | some (.map kk' es c) => kk' = kk ∧ K (upd h b (.map kk (mset es k v) (if mhas es k then c else c + 1)))
    | _ => False
  | _ => False
def o_delete (kk : KK) (m k : Value) (h : H) (K : H → Prop) : Prop :=
  kkHas kk k = true ∧
  match m with
  | .map none => K h
  | .map (some b) => match h b with
    | some (.map kk' es c) => kk' = kk ∧ K (upd h b (.map kk (mdel es k) c))
    | _ => False
  | _ => False
def o_range (x : Value) (h : H) (K : Value → H → Prop) : Prop :=
  match x with
  | .map none => o_newObj (.iter none [] 0 none) h fun b h => K (.pointer (some ⟨b, 0, none⟩)) h
  | .map (some m) => match h m with
    | some (.map _ es c) => o_newObj (.iter (some m) (es.map (·.1)) c none) h fun b h => K (.pointer (some ⟨b, 0, none⟩)) h
    | _ => False
  | _ => False
/-- The next entry of a map that is ranged over: any that is left; over, if none is. -/
def o_next (it : Value) (h : H) (K : Value → H → Prop) : Prop :=
  match it with
  | .pointer (some ⟨b, 0, none⟩) => match h b with
    | some (.iter none _ _ _) => K (.tuple #[.bool false]) h
    | some (.iter (some m) left since _) => match h m with
      | some (.map _ es c) => c = since ∧
          (∀ e ∈ es, left.any (keyEq e.1) = true → K (.tuple #[.bool true, e.1, e.2]) (upd h b (.iter (some m) (left.filter fun k => !keyEq e.1 k) since (some e.1)))) ∧
          ((∀ e ∈ es, left.any (keyEq e.1) = false) → K (.tuple #[.bool false]) h)
      | _ => False
    | _ => False
  | _ => False

/-- The entry that a range over a map stands at. -/
def o_entry (it : Value) (h : H) (K : Value → Prop) : Prop :=
  match it with
  | .pointer (some ⟨b, 0, none⟩) => match h b with
    | some (.iter (some m) _ since (some k)) => match h m with
      | some (.map _ es c) => c = since ∧ (match mfind es k with | some v => K (.tuple #[k, v]) | none => False)
      | _ => False
    | _ => False
  | _ => False
/-- '[]byte' of a literal: the slice itself, of which it is noted that it may have been a string's. -/
def o_mark (x : Value) (h : H) (K : Value → Prop) : Prop :=
  match x with
  | .slice (some ⟨b, o, none⟩) n c => match h b with
    | some (.cells _ _ m) => m ≠ .ro ∧ K (.slice (some ⟨b, o, none⟩) n c)
    | _ => False
  | _ => False

/-! ### append and copy -/
/-- What is appended, or copied: its length and its cells. -/
def srcLen : Value → Option Nat
  | .slice _ n _ => some n
  | .string s => some s.size
  | _ => none
def srcCells (size : Nat) (h : H) : Value → Nat → Option (List Value)
  | .slice none 0 0, 0 => some []
  | .slice (some ⟨b, o, none⟩) _ _, n => if n = 0 then some [] else cellsAt h b o (n * size)
  | .string s, n => some (((s.extract 0 n).data.toList).map fun b => .int .u8 b.toNat)
  | _, _ => none
def o_append (e : TypeId) (size bytes : Nat) (s x : Value) (h : H) (K : Value → H → Prop) : Prop :=
  match s, srcLen x with
  | .slice base len cap, some n => match srcCells size h x n with
    | none => False
    | some new =>
      if len + n ≤ cap then
        (match base with
         | some ⟨b, o, none⟩ => if n = 0 then K (.slice base len cap) h else
            (match h b with
             | some (.cells cs E m) => m ≠ .ro ∧ o + (len + n) * size ≤ cs.length ∧ new.length = n * size ∧ K (.slice base (len + n) cap) (upd h b (.cells (setL cs (o + len * size) new) E m))
             | _ => False)
         | none => n = 0 ∧ K (.slice base len cap) h
         | _ => False)
      else
        (len + n) * bytes ≤ 140737488355328 ∧ len + n < 9223372036854775808 ∧ new.length = n * size ∧ 0 < n ∧
        (match base with
         | none => len = 0 ∧ o_new new e .open h fun b h => K (.slice (some ⟨b, 0, none⟩) n n) h
         | some ⟨b, o, none⟩ =>
           if b = 0 then len = 0 ∧ o_new new e .open h fun b h => K (.slice (some ⟨b, 0, none⟩) n n) h
           else match h b with
             | some (.cells cs E m) => o + len * size ≤ cs.length ∧
                (match m with
                 | .open => E = e ∧ o + cap * size = cs.length ∧ 0 < size ∧
                    ∀ b', 2 ≤ b' → h b' = none → K (.slice (some ⟨b', 0, none⟩) (len + n) (len + n)) (upd (del h b) b' (.cells ((cs.drop o).take (len * size) ++ new) e .open))
                 | _ => o_new ((cs.drop o).take (len * size) ++ new) e .open h fun b h => K (.slice (some ⟨b, 0, none⟩) (len + n) (len + n)) h)
             | _ => False
         | _ => False)
  | _, _ => False
def o_copy (size : Nat) (d x : Value) (h : H) (K : Value → H → Prop) : Prop :=
  match d, srcLen x with
  | .slice base len _, some n => match srcCells size h x (Nat.min n len) with
    | none => False
    | some new =>
      if Nat.min n len = 0 then K (.int .i64 0) h else
      match base with
      | some ⟨b, o, none⟩ => (match h b with
        | some (.cells cs E m) => m ≠ .ro ∧ o + (Nat.min n len) * size ≤ cs.length ∧ new.length = (Nat.min n len) * size ∧ K (.int .i64 (Nat.min n len : Nat)) (upd h b (.cells (setL cs o new) E m))
        | _ => False)
      | _ => False
  | _, _ => False
def o_lenSl (x : Value) (K : Value → Prop) : Prop :=
  match x with
  | .slice _ n _ => K (.int .i64 n)
  | _ => False
def o_lenStr (x : Value) (K : Value → Prop) : Prop :=
  match x with
  | .string s => K (.int .i64 s.size)
  | _ => False
def o_lenMap (x : Value) (h : H) (K : Value → Prop) : Prop :=
  match x with
  | .map none => K (.int .i64 0)
  | .map (some m) => match h m with
    | some (.map _ es _) => K (.int .i64 es.length)
    | _ => False
  | _ => False
/-- The bytes of a slice as a string. -/
def bytesOf : List Value → Option (List UInt8)
  | [] => some []
  | .int .u8 n :: r => (bytesOf r).map (UInt8.ofNat n.toNat :: ·)
  | _ => none
def o_bytesToString (x : Value) (h : H) (K : Value → Prop) : Prop :=
  match x with
  | .slice none 0 0 => K (.string .empty)
  | .slice (some ⟨b, o, none⟩) n _ => if n = 0 then K (.string .empty) else match cellsAt h b o n with
    | some l => (match bytesOf l with | some bs => K (.string ⟨bs.toArray⟩) | none => False)
    | none => False
  | _ => False
def o_stringToBytes (e : TypeId) (x : Value) (h : H) (K : Value → H → Prop) : Prop :=
  match x with
  | .string s => o_new (s.data.toList.map fun b => Value.int .u8 b.toNat) e .open h fun b h => K (.slice (some ⟨b, 0, none⟩) s.size s.size) h
  | _ => False

/-! ### Calls: what a function does, in whatever memory that is told by the abstract one -/
structure Loc where
  b : Nat
  o : Nat
  k : Nat
abbrev Env := Nat → Option Loc
def Env.le (ι ι' : Env) : Prop := ∀ b l, ι b = some l → ι' b = some l

inductive SRel (ι : Env) : Value → Value → Prop
  | bool (b) : SRel ι (.bool b) (.bool b)
  | int (k n) : SRel ι (.int k n) (.int k n)
  | float (k n) : SRel ι (.float k n) (.float k n)
  | complex (k a b) : SRel ι (.complex k a b) (.complex k a b)
  | string (s) : SRel ι (.string s) (.string s)
  | nilFunc : SRel ι .nilFunc .nilFunc
  | nilIface : SRel ι .nilIface .nilIface
  | ptrNil : SRel ι (.pointer none) (.pointer none)
  | sliceNil : SRel ι (.slice none 0 0) (.slice none 0 0)
  | mapNil : SRel ι (.map none) (.map none)
  | ptr {b o l} (h : ι b = some l) : SRel ι (.pointer (some ⟨b, o, none⟩)) (.pointer (some ⟨l.b, l.o + o, none⟩))
  | slice {b o n c l} (h : ι b = some l) : SRel ι (.slice (some ⟨b, o, none⟩) n c) (.slice (some ⟨l.b, l.o + o, none⟩) n (c + l.k))
  | empty0 (a) : SRel ι (.slice (some ⟨0, 0, none⟩) 0 0) (.slice (some a) 0 0)
  | empty1 (a c) : SRel ι (.slice (some ⟨1, 0, none⟩) 0 0) (.slice (some a) 0 c)
  | map {r l} (h : ι r = some l) : SRel ι (.map (some r)) (.map (some l.b))
inductive All2 {α β : Type} (R : α → β → Prop) : List α → List β → Prop
  | nil : All2 R [] []
  | cons {a b l m} (h : R a b) (t : All2 R l m) : All2 R (a :: l) (b :: m)
inductive CRel (ι : Env) : Value → Value → Prop
  | s {v v'} (h : SRel ι v v') : CRel ι v v'
  | func (f) {xs ys xs' ys' : Array Value} (h : All2 (SRel ι) xs.toList xs'.toList) (k : All2 (SRel ι) ys.toList ys'.toList) : CRel ι (.func (.func f) xs ys) (.func (.func f) xs' ys')
  | yield {r l} (h : ι r = some l) : CRel ι (.func (.yield r) #[] #[]) (.func (.yield l.b) #[] #[])
  | iface (t) {v v'} (h : SRel ι v v') : CRel ι (.iface t v) (.iface t v')
inductive ARel (ι : Env) : Value → Value → Prop
  | c {v v'} (h : CRel ι v v') : ARel ι v v'
  | agg {xs ys : Array Value} (h : All2 (CRel ι) xs.toList ys.toList) : ARel ι (.agg xs) (.agg ys)
inductive VRel (ι : Env) : Value → Value → Prop
  | a {v v'} (h : ARel ι v v') : VRel ι v v'
  | tuple {xs ys : Array Value} (h : All2 (ARel ι) xs.toList ys.toList) : VRel ι (.tuple xs) (.tuple ys)

def szOf (P : Program) (E : TypeId) : Nat := match P.info? E with | some i => i.size | none => 0
def AObj.ro : AObj → Bool
  | .cells _ _ .ro => true
  | _ => false
/-- The temporaries below N. (What is kept at N is the abstract side's own: the marks of ranges over functions.) -/
def TRel (ι : Env) (N : Nat) (t : T) (tmps : Array Value) : Prop := tmps.size = N ∧ ∀ i, i < N → VRel ι (t i) (tmps.getD i undef)

def ORel (P : Program) (B : Nat) (ι : Env) (l : Loc) (w : World) : AObj → Prop
  | .cells cs E m => ∃ ccs CE lo hi, w.heap[l.b]? = some (.cells ccs CE (lo, hi)) ∧
      (∀ i v, cs[i]? = some v → ∃ v', ccs[l.o + i]? = some v' ∧ CRel ι v v') ∧
      (m = .ro → l.b < B) ∧ (m ≠ .ro → B ≤ l.b ∧ ∀ i, i < ccs.size → ¬(lo ≤ i ∧ lo ≠ hi)) ∧
      (m ≠ .open → l.k = 0) ∧
      (m = .open → l.o + cs.length + l.k * szOf P E ≤ ccs.size)
  | .map kk es clock => B ≤ l.b ∧ l.o = 0 ∧ ∃ ces, w.heap[l.b]? = some (.map ces clock) ∧
      All2 (fun e ce => ce.key = e.1 ∧ kkHas kk e.1 = true ∧ ARel ι e.2 ce.val) es ces.toList ∧ (∀ ce ∈ ces.toList, ce.born < clock) ∧ (ces.toList.map (·.born)).Nodup ∧
      es.Pairwise fun a b => keyEq a.1 b.1 = false
  | .iter mo left since cur => B ≤ l.b ∧ l.o = 0 ∧ ∃ cm since' seen stepped, w.heap[l.b]? = some (.mapIter cm since' seen stepped) ∧
      match mo with
      | none => cm = none
      | some m => ∃ lm, ι m = some lm ∧ cm = some lm.b ∧ since' = since ∧ stepped = since ∧
          (∀ ces clock, w.heap[lm.b]? = some (.map ces clock) → since ≤ clock ∧
            (clock = since → ∀ ce ∈ ces.toList, (ce.born ∈ seen.toList ↔ left.any (keyEq ce.key) = false))) ∧
          (∀ k, cur = some k → ∃ st, seen.back? = some st ∧ ∀ ces clock, w.heap[lm.b]? = some (.map ces clock) → clock = since → ∀ ce ∈ ces.toList, (ce.born = st ↔ ce.key = k))
  | .loop st pend t N ps assign body => B ≤ l.b ∧ l.o = 0 ∧ ∃ L : Loop, w.heap[l.b]? = some (.loop L) ∧
      L.state = st ∧ L.pending = pend ∧ TRel ι N t L.tmps ∧ L.params = ps ∧ L.assign = assign ∧ L.body = body
  | .defer => B ≤ l.b ∧ l.o = 0 ∧ w.heap[l.b]? = some (.deferred (some []))

structure HRel (P : Program) (W : World) (ι : Env) (h : H) (w : World) : Prop where
  nxt : ∃ n, ∀ b, n ≤ b → ι b = none
  z0 : ι 0 = none
  z1 : ι 1 = none
  below : Below W.heap.size W w
  inb : ∀ b l, ι b = some l → l.b < w.heap.size
  obj : ∀ b o, h b = some o → ∃ l, ι b = some l ∧ ORel P W.heap.size ι l w o
  sep : ∀ b b' o o' l l', b ≠ b' → h b = some o → h b' = some o' → ι b = some l → ι b' = some l' → o.ro = false → o'.ro = false → l.b ≠ l'.b

/-- What a call comes to. -/
def Post (P : Program) (W : World) (ι : Env) (Q : Value → H → Prop) : Ending → World → Prop := fun e w' =>
  ∃ v cv ι' h', e = .returned cv ∧ Env.le ι ι' ∧ HRel P W ι' h' w' ∧ VRel ι' v cv ∧ Q v h'
def Spec (P : Program) (f : FuncId) (args : List Value) (h : H) (Q : Value → H → Prop) : Prop :=
  ∀ (W : World) (ι : Env) (w : World) (cargs : Array Value), HRel P W ι h w → All2 (ARel ι) args cargs.toList → Calls P f cargs w (Post P W ι Q)
/-- A round of a range over a function, called by its yield value. -/
def YSpec (P : Program) (r : Nat) (args : List Value) (h : H) (Q : Value → H → Prop) : Prop :=
  ∀ (W : World) (ι : Env) (w : World) (cargs : Array Value) (l : Loc), HRel P W ι h w → ι r = some l → All2 (ARel ι) args cargs.toList →
    ∃ L : Loop, w.heap[l.b]? = some (.loop L) ∧ L.params.size = cargs.size ∧
      RoundIn Fence.wide 0 P l.b L.fn ((L.params.zip cargs).foldl (fun tmps (t, a) => tmps.setIfInBounds t a) L.tmps) L.assign L.body w (Post P W ι Q)

/-- A function with a body of its own. -/
def hasBody (P : Program) (f : FuncId) : Bool :=
  match P.funcs[f]? with
  | some fn => fn.body.isSome && fn.name != "runtime.NumGoroutine"
  | none => false

def o_call (P : Program) (f : FuncId) (args : List Value) (h : H) (K : Value → H → Prop) : Prop :=
  args.all boxV = true ∧ Spec P f args h K
def o_dyn (P : Program) (fv : Value) (args : List Value) (h : H) (K : Value → H → Prop) : Prop :=
  args.all boxV = true ∧
  match fv with
  | .func (.func f) first captured => hasBody P f = true ∧ Spec P f (first.toList ++ args ++ captured.toList) h K
  | .func (.yield r) a c => a.size = 0 ∧ c.size = 0 ∧ YSpec P r args h K
  | _ => False
def aCall (P : Program) (c : Call) (ρ : Operand → Value) (h : H) (K : Value → H → Prop) : Prop :=
  match c.callee, c.args.toList, c.argTypes.toList with
  | .builtin .len, [x], [t] => (match P.underlying t with
    | some .string => o_lenStr (ρ x) fun v => K v h
    | some (.slice _) => o_lenSl (ρ x) fun v => K v h
    | some (.map _ _) => o_lenMap (ρ x) h fun v => K v h
    | some (.array n _) => K (.int .i64 n) h
    | _ => False)
  | .builtin .append, [s, x], [t, u] => (match P.underlying t, P.underlying u with
    | some (.slice e), some (.slice _) | some (.slice e), some .string => (match P.info? e, zeroOf P e with
      | some i, some z => bif z.cells.size == i.size then o_append e i.size i.bytes (ρ s) (ρ x) h K else False
      | _, _ => False)
    | _, _ => False)
  | .builtin .copy, [d, x], [t, _] => (match P.underlying t with
    | some (.slice e) => (match P.info? e with | some i => o_copy i.size (ρ d) (ρ x) h K | none => False)
    | _ => False)
  | .builtin .delete, [m, k], [t, _] => (match P.underlying t with
    | some (.map kt _) => (match kkOf P kt with | some kk => o_delete kk (ρ m) (ρ k) h fun h => K undef h | none => False)
    | _ => False)
  | .builtin .min, [x, y], _ => o_minmax P Builtin.min2 (ρ x) (ρ y) fun v => K v h
  | .builtin .max, [x, y], _ => o_minmax P Builtin.max2 (ρ x) (ρ y) fun v => K v h
  | .value (.func f), args, _ => bif hasBody P f then o_call P f (args.map ρ) h K else False
  | .value (.tmp i), args, _ => o_dyn P (ρ (.tmp i)) (args.map ρ) h K
  | _, _, _ => False

def aop (P : Program) (op : Op) (ρ : Operand → Value) (h : H) (K : Value → H → Prop) : Prop :=
  match op with
  | .move x | .assign x => K (ρ x) h
  | .pick c a b => o_pick (ρ c) (ρ a) (ρ b) fun v => K v h
  | .alloc E => match zeroOf P E with
    | some z => o_new z.cells.toList E .exact h fun b h => K (.pointer (some ⟨b, 0, none⟩)) h
    | none => False
  | .box E x => boxV (ρ x) = true ∧ o_new (ρ x).cells.toList E .exact h fun b h => K (.pointer (some ⟨b, 0, none⟩)) h
  | .build t ps => o_build P t (ps.toList.map fun p => (p.1, ρ p.2)) fun v => K v h
  | .buildSlice t n ps => o_buildSlice P t n (ps.toList.map fun p => (p.1, ρ p.2)) h K
  | .load t a => match tySize P t with
    | some (ag, n) => o_load ag n (ρ a) h fun v => K v h
    | none => False
  | .store t a x => match tySize P t with
    | some (_, n) => o_store n (ρ a) (ρ x) h fun h => K undef h
    | none => False
  | .nilCheck x => o_nilCheck (ρ x) fun v => K v h
  | .binOp op xt x y _ => o_bin P op xt (ρ x) (ρ y) fun v => K v h
  | .unOp op _ x => o_un P op (ρ x) fun v => K v h
  | .convert src dst x => match P.underlying dst, P.underlying src with
    | some (.int k), some (.int _) => o_conv k (ρ x) fun v => K v h
    | some .string, some .string => o_convStr (ρ x) fun v => K v h
    | some .string, some (.slice e) => (match P.underlying e with | some (.int .u8) => o_bytesToString (ρ x) h fun v => K v h | _ => False)
    | some (.slice e), some .string => (match P.underlying e, P.info? e with | some (.int .u8), some i => bif Nat.beq i.size 1 then o_stringToBytes e (ρ x) h K else False | _, _ => False)
    | some (.slice e), some (.slice _) => (match P.underlying e with | some (.int .u8) => bif Nat.beq src dst then o_mark (ρ x) h fun v => K v h else False | _ => False)
    | _, _ => False
  | .makeInterface t x => match P.underlying t with
    | some (.interface _) | none => False
    | some _ => plainC (ρ x) = true ∧ K (.iface t (ρ x)) h
  | .makeFunc (.func f) first captured => (first.toList.map ρ).all plainC = true ∧ (captured.toList.map ρ).all plainC = true ∧ K (.func (.func f) (first.map ρ) (captured.map ρ)) h
  | .makeMap t r => match P.underlying t, r.map ρ with
    | some (.map kt _), none | some (.map kt _), some (.int _ _) => (match kkOf P kt with | some kk => o_newObj (.map kk [] 0) h fun b h => K (.map (some b)) h | none => False)
    | _, _ => False
  | .makeSlice t l c => match P.underlying t with
    | some (.slice e) => (match P.info? e, zeroOf P e with
      | some i, some z => o_makeSlice z.cells.toList i.size i.bytes e (ρ l) (ρ c) h K
      | _, _ => False)
    | _ => False
  | .slice t x lo hi mx => match P.underlying t with
    | some (.array n e) => (match mx, P.info? e with | none, some i => o_sliceArr n i.size (ρ x) (lo.map ρ) (hi.map ρ) h fun v => K v h | _, _ => False)
    | some (.slice e) => (match P.info? e with | some i => o_slice i.size (ρ x) (lo.map ρ) (hi.map ρ) (mx.map ρ) fun v => K v h | none => False)
    | some .string => (match mx with | none => o_sliceStr (ρ x) (lo.map ρ) (hi.map ρ) fun v => K v h | some _ => False)
    | _ => False
  | .fieldAddr s x f => match fieldOff P s f with
    | some (off, ft) => bif Nat.beq (szOf P ft) 0 then False else o_fieldAddr off (ρ x) fun v => K v h
    | none => False
  | .field s x f => match fieldOff P s f with
    | some (off, ft) => (match tySize P ft with | some (ag, n) => o_field ag n off (ρ x) fun v => K v h | none => False)
    | none => False
  | .indexAddr t x i => match P.underlying t with
    | some (.array n e) => (match P.info? e with | some inf => o_indexAddr (some n) inf.size (ρ x) (ρ i) fun v => K v h | none => False)
    | some (.slice e) => (match P.info? e with | some inf => o_indexAddr none inf.size (ρ x) (ρ i) fun v => K v h | none => False)
    | _ => False
  | .index t x i => match P.underlying t with
    | some (.array n e) => (match tySize P e with | some (ag, sz) => o_index false n ag sz (ρ x) (ρ i) fun v => K v h | none => False)
    | some .string => o_index true 0 false 0 (ρ x) (ρ i) fun v => K v h
    | _ => False
  | .lookup t x k ok => match P.underlying t with
    | some (.map kt e) => (match zeroOf P e, kkOf P kt with | some z, some kk => o_lookup kk z (ρ x) (ρ k) ok h fun v => K v h | _, _ => False)
    | _ => False
  | .mapUpdate t m k x | .insert t m k x => match P.underlying t with
    | some (.map kt _) => (match kkOf P kt with | some kk => o_mapUpdate kk (ρ m) (ρ k) (ρ x) h fun h => K undef h | none => False)
    | _ => False
  | .range t x => match P.underlying t with
    | some (.map _ _) => o_range (ρ x) h K
    | _ => False
  | .next it false => o_next (ρ it) h K
  | .entry it => o_entry (ρ it) h fun v => K v h
  | .extract x i => o_extract (ρ x) i fun v => K v h
  | .call c => aCall P c ρ h K
  | _ => False

def guardVal (ops : Array Oper) (j : Nat) (t : T) : Value :=
  match (ops[j]?).bind (·.dst) with
  | some d => t d
  | none => undef
def aStep (P : Program) (ops : Array Oper) (i : Nat) (K : T → H → Prop) (t : T) (h : H) : Prop :=
  match ops[i]? with
  | none => K t h
  | some o =>
    match o.guard with
    | none => aop P o.op (aev t) h fun v h => K (tput t o.dst v) h
    | some (j, want) => o_guard (guardVal ops j t) want (aop P o.op (aev t) h) (fun v h => K (tput t o.dst v) h) h
def aOps (P : Program) (ops : Array Oper) : List Nat → (T → H → Prop) → T → H → Prop
  | [], K, t, h => K t h
  | i :: is, K, t, h => aStep P ops i (aOps P ops is K) t h
/-- A region that draws its order: in whatever order. -/
def aAny (P : Program) (ops : Array Oper) (K : T → H → Prop) : Nat → Array Bool → T → H → Prop
  | 0, listed, t, h => Region.ready .any ops listed = [] ∧ K t h
  | fuel + 1, listed, t, h => (Region.ready .any ops listed = [] → K t h) ∧
      ∀ i ∈ Region.ready .any ops listed, aStep P ops i (aAny P ops K fuel (listed.setIfInBounds i true)) t h

def athen (K : T → H → Prop) (Q : Exit → T → H → Prop) : Exit → T → H → Prop
  | .normal => K
  | e => Q e
def ablock (id : Nat) (Q : Exit → T → H → Prop) : Exit → T → H → Prop
  | .exit j => bif Nat.beq j id then Q .normal else Q (.exit j)
  | e => Q e
/-- A loop: something that holds at each round's head, with a number that each round lowers. -/
def sloop {S : Type} (body : S → H → (S → H → Prop) → Prop) (s : S) (h : H) : Prop :=
  ∃ I : Nat → S → H → Prop, (∃ n, I n s h) ∧ ∀ n s h, I n s h → body s h fun s' h' => ∃ m, m < n ∧ I m s' h'

/-- The marks that a function's ranges over functions have left: kept at N. -/
def marks (v : Value) : List Nat :=
  match v with
  | .tuple vs => vs.toList.filterMap fun | .int _ n => some n.toNat | _ => none
  | _ => []
def addMark (v : Value) (d : Nat) : Value := .tuple (Value.int .u64 d :: (marks v).map fun n : Nat => Value.int .u64 (n : Int)).toArray

def o_rangeCall (P : Program) (fv y : Value) (h : H) (K : Value → H → Prop) : Prop :=
  match fv with
  | .func (.func f) first captured => hasBody P f = true ∧ Spec P f (first.toList ++ [y] ++ captured.toList) h K
  | _ => False

def awp (P : Program) (N : Nat) : Code → (Exit → T → H → Prop) → T → H → Prop
  | .skip, Q, t, h => Q .normal t h
  | .region _ ops draw, Q, t, h => bif draw then aAny P ops (Q .normal) ops.size (Array.replicate ops.size false) t h
      else aOps P ops (List.range ops.size) (Q .normal) t h
  | .seq a b, Q, t, h => awp P N a (athen (awp P N b Q) Q) t h
  | .cond c x y, Q, t, h => o_if (aev t c) (awp P N x Q t h) (awp P N y Q t h)
  | .block id c, Q, t, h => awp P N c (ablock id Q) t h
  | .loop c, Q, t, h => sloop (fun t h K => awp P N c (athen K Q) t h) t h
  | .exit id, Q, t, h => Q (.exit id) t h
  | .ret, Q, t, h => Q .ret t h
  | .label _, Q, t, h => Q .normal t h
  | .rangeFunc g ps assign body, Q, t, h => ∀ l d, 2 ≤ l → 2 ≤ d → l ≠ d → h l = none → h d = none →
      o_rangeCall P (aev t g) (.func (.yield l) #[] #[]) (upd (upd h d .defer) l (.loop .ready none t N ps assign body)) fun _ h' =>
        match h' l with
        | some (.loop .ready none _ _ _ _ _) => Q .normal (tset t N (addMark (t N) d)) (del h' l)
        | some (.loop .done (some .ret) _ _ _ _ _) => Q .ret (tset t N (addMark (t N) d)) (del h' l)
        | some (.loop .done (some (.exit id)) _ _ _ _ _) => Q (.exit id) (tset t N (addMark (t N) d)) (del h' l)
        | _ => False
  | _, _, _, _ => False

/-- What a function hands back. -/
def retV (rs : List Nat) (Q : Value → H → Prop) (t : T) (h : H) : Prop :=
  match rs with
  | [r] => Q (t r) h
  | rs => bif rs.all (fun r => boxV (t r)) then Q (.tuple (rs.map t).toArray) h else False
def retQ (N : Nat) (rs : List Nat) (Q : Value → H → Prop) (t : T) (h : H) : Prop :=
  match marks (t N) with
  | [] => retV rs Q t h
  | ds => ds.Nodup ∧ (∀ d ∈ ds, h d = some .defer) ∧ retV rs Q t (fun b => if b ∈ ds then none else h b)
def bodyQ (N : Nat) (rs : List Nat) (Q : Value → H → Prop) : Exit → T → H → Prop
  | .normal, t, h | .ret, t, h => retQ N rs Q t h
  | _, _, _ => False
def tinit (args : List Value) : T := fun i => args.getD i undef

/-! ### What the text must be for all this: no name of a package variable, temporaries within the frame -/
def okOperand (N : Nat) : Operand → Bool
  | .tmp i => Nat.blt i N
  | .const v => selfV v
  | .global _ => false
  | .func _ => true
def okOper (N : Nat) (o : Oper) : Bool :=
  (match o.dst with | some d => Nat.blt d N | none => true) && o.op.operands.toList.all (okOperand N) && (match o.op with | .defer _ => false | _ => true)
def okCode (N : Nat) (round : Bool) : Code → Bool
  | .skip | .exit _ | .ret | .label _ => true
  | .region _ ops _ => ops.toList.all (okOper N)
  | .seq a b => okCode N round a && okCode N round b
  | .cond c x y => okOperand N c && okCode N round x && okCode N round y
  | .block _ c | .loop c => okCode N round c
  | .rangeFunc g ps assign body => !round && okOperand N g && ps.toList.all (fun p => Nat.blt p N) && okCode N true assign && okCode N true body
  | _ => false

/-- The temporaries of a round. -/
def tround (N : Nat) (t : T) (ps : Array Tmp) (args : List Value) : T := tset ((ps.toList.zip args).foldl (fun t p => tset t p.1 p.2) t) N undef

end Go.Proofs.YtbmfblmebhobiaaGreat.AM

/-
  The abstract memory and the model's: laws of the relation between them.
-/
set_option linter.unusedSimpArgs false
set_option linter.unusedVariables false
namespace Go.Proofs.YtbmfblmebhobiaaGreat.AM
open Go.RowKit

/-! ### Lists -/
section All2
variable {α β : Type} {R S : α → β → Prop}
theorem All2.mono {l : List α} {m : List β} (h : All2 R l m) (hr : ∀ a b, R a b → S a b) : All2 S l m := by
  induction h with
  | nil => exact .nil
  | cons h _ ih => exact .cons (hr _ _ h) ih
theorem All2.length {l : List α} {m : List β} (h : All2 R l m) : l.length = m.length := by
  induction h with
  | nil => rfl
  | cons _ _ ih => simp [ih]
theorem All2.get {l : List α} {m : List β} (h : All2 R l m) : ∀ {i : Nat} {a : α}, l[i]? = some a → ∃ b, m[i]? = some b ∧ R a b := by
  induction h with
  | nil => intro i a h; simp at h
  | cons h t ih =>
    intro i a hi
    cases i with
    | zero => simp at hi; subst hi; exact ⟨_, rfl, h⟩
    | succ i => simp at hi; simpa using ih hi
theorem All2.get' {l : List α} {m : List β} (h : All2 R l m) : ∀ {i : Nat} {b : β}, m[i]? = some b → ∃ a, l[i]? = some a ∧ R a b := by
  induction h with
  | nil => intro i a h; simp at h
  | cons h t ih =>
    intro i a hi
    cases i with
    | zero => simp at hi; subst hi; exact ⟨_, rfl, h⟩
    | succ i => simp at hi; simpa using ih hi
theorem All2.of_get {l : List α} {m : List β} (hl : l.length = m.length) (h : ∀ (i : Nat) (a : α) (b : β), l[i]? = some a → m[i]? = some b → R a b) : All2 R l m := by
  induction l generalizing m with
  | nil => cases m with
    | nil => exact .nil
    | cons => simp at hl
  | cons x l ih => cases m with
    | nil => simp at hl
    | cons y m =>
      refine .cons (h 0 _ _ rfl rfl) (ih (by simpa using hl) fun i a b ha hb => h (i + 1) a b (by simpa using ha) (by simpa using hb))
theorem All2.append {l l' : List α} {m m' : List β} (h : All2 R l m) (k : All2 R l' m') : All2 R (l ++ l') (m ++ m') := by
  induction h with
  | nil => exact k
  | cons h _ ih => exact .cons h ih
theorem All2.take {l : List α} {m : List β} (n : Nat) (h : All2 R l m) : All2 R (l.take n) (m.take n) := by
  induction h generalizing n with
  | nil => simp; exact .nil
  | cons h _ ih => cases n with
    | zero => exact .nil
    | succ n => exact .cons h (ih n)
theorem All2.drop {l : List α} {m : List β} (n : Nat) (h : All2 R l m) : All2 R (l.drop n) (m.drop n) := by
  induction h generalizing n with
  | nil => simp; exact .nil
  | cons h t ih => cases n with
    | zero => exact .cons h t
    | succ n => exact ih n
theorem All2.set {l : List α} {m : List β} (h : All2 R l m) (i : Nat) {a b} (hab : R a b) : All2 R (l.set i a) (m.set i b) := by
  induction h generalizing i with
  | nil => exact .nil
  | cons h t ih => cases i with
    | zero => exact .cons hab t
    | succ i => exact .cons h (ih i)
theorem All2.map {γ δ : Type} {R' : γ → δ → Prop} {l : List α} {m : List β} (f : α → γ) (g : β → δ) (h : All2 R l m) (hr : ∀ a b, R a b → R' (f a) (g b)) : All2 R' (l.map f) (m.map g) := by
  induction h with
  | nil => exact .nil
  | cons h _ ih => exact .cons (hr _ _ h) ih
theorem All2.refl_of {l : List α} {R : α → α → Prop} (h : ∀ a ∈ l, R a a) : All2 R l l := by
  induction l with
  | nil => exact .nil
  | cons x l ih => exact .cons (h x (by simp)) (ih fun a ha => h a (by simp [ha]))
end All2

/-! ### The values' relation -/
section rel
variable {ι ι' : Env}
theorem Env.le_refl (ι : Env) : Env.le ι ι := fun _ _ h => h
theorem Env.le_trans {a b c : Env} (h : Env.le a b) (k : Env.le b c) : Env.le a c := fun x l hx => k x l (h x l hx)
theorem SRel.mono {v v' : Value} (h : SRel ι v v') (hle : Env.le ι ι') : SRel ι' v v' := by
  cases h with
  | ptr h => exact .ptr (hle _ _ h)
  | slice h => exact .slice (hle _ _ h)
  | map h => exact .map (hle _ _ h)
  | _ => constructor
theorem CRel.mono {v v' : Value} (h : CRel ι v v') (hle : Env.le ι ι') : CRel ι' v v' := by
  cases h with
  | s h => exact .s (h.mono hle)
  | func f h k => exact .func f (h.mono fun _ _ h => h.mono hle) (k.mono fun _ _ h => h.mono hle)
  | yield h => exact .yield (hle _ _ h)
  | iface t h => exact .iface t (h.mono hle)
theorem ARel.mono {v v' : Value} (h : ARel ι v v') (hle : Env.le ι ι') : ARel ι' v v' := by
  cases h with
  | c h => exact .c (h.mono hle)
  | agg h => exact .agg (h.mono fun _ _ h => h.mono hle)
theorem VRel.mono {v v' : Value} (h : VRel ι v v') (hle : Env.le ι ι') : VRel ι' v v' := by
  cases h with
  | a h => exact .a (h.mono hle)
  | tuple h => exact .tuple (h.mono fun _ _ h => h.mono hle)
theorem TRel.mono {N : Nat} {t : T} {tmps : Array Value} (h : TRel ι N t tmps) (hle : Env.le ι ι') : TRel ι' N t tmps := ⟨h.1, fun i hi => (h.2 i hi).mono hle⟩

theorem crel_self {v : Value} (h : selfC v = true) : CRel ι v v := by
  unfold selfC at h
  split at h <;> first
    | exact .s (by constructor)
    | (simp only [Bool.and_eq_true, beq_iff_eq] at h
       obtain ⟨h1, h2⟩ := h
       obtain rfl := Array.eq_empty_of_size_eq_zero h1
       obtain rfl := Array.eq_empty_of_size_eq_zero h2
       exact .func _ .nil .nil)
    | cases h
theorem arel_self {v : Value} (h : selfA v = true) : ARel ι v v := by
  unfold selfA at h
  split at h
  · exact .agg (All2.refl_of fun a ha => crel_self (List.all_eq_true.1 h a ha))
  · exact .c (crel_self h)
theorem vrel_self {v : Value} (h : selfV v = true) : VRel ι v v := by
  unfold selfV at h
  split at h
  · exact .tuple (All2.refl_of fun a ha => arel_self (List.all_eq_true.1 h a ha))
  · exact .a (arel_self h)
theorem crel_eq {v v' : Value} (h : selfC v = true) (k : CRel ι v v') : v' = v := by
  cases k with
  | s k => cases k <;> first | rfl | (simp [selfC] at h)
  | @func f xs ys xs' ys' a b =>
    have h' : (xs.size == 0 && ys.size == 0) = true := h
    simp only [Bool.and_eq_true, beq_iff_eq] at h'
    obtain ⟨e1, e2⟩ := h'
    have h1 := a.length; have h2 := b.length
    simp only [Array.length_toList] at h1 h2
    rw [Array.eq_empty_of_size_eq_zero e1, Array.eq_empty_of_size_eq_zero e2, Array.eq_empty_of_size_eq_zero (xs := xs') (by omega), Array.eq_empty_of_size_eq_zero (xs := ys') (by omega)]
  | yield k => simp [selfC] at h
  | iface t k => simp [selfC] at h
theorem all2_crel_eq {l m : List Value} (k : All2 (CRel ι) l m) (h : l.all selfC = true) : m = l := by
  induction k with
  | nil => rfl
  | cons hab _ ih =>
    simp only [List.all_cons, Bool.and_eq_true] at h
    rw [crel_eq h.1 hab, ih h.2]
theorem arel_eq {v v' : Value} (h : selfA v = true) (k : ARel ι v v') : v' = v := by
  cases k with
  | c k =>
    unfold selfA at h
    split at h
    · cases k with | s k => cases k
    · exact crel_eq h k
  | agg k =>
    rename_i xs ys
    have := all2_crel_eq k h
    rw [show ys = xs from Array.ext' this]
theorem vrel_eq {v v' : Value} (h : selfV v = true) (k : VRel ι v v') : v' = v := by
  cases k with
  | a k =>
    unfold selfV at h
    split at h
    · cases k with | c k => cases k with | s k => cases k
    · exact arel_eq h k
  | tuple k =>
    rename_i xs ys
    have h' : xs.toList.all selfA = true := h
    have : ys.toList = xs.toList := by
      clear h
      generalize xs.toList = l at *
      generalize ys.toList = m at *
      induction k with
      | nil => rfl
      | cons hab _ ih =>
        simp only [List.all_cons, Bool.and_eq_true] at h'
        rw [arel_eq h'.1 hab, ih h'.2]
    rw [Array.ext' this]

theorem VRel.toA {v v' : Value} (h : VRel ι v v') (hb : boxV v = true) : ARel ι v v' := by
  cases h with
  | a h => exact h
  | tuple h => simp [boxV] at hb
theorem ARel.toC {v v' : Value} (h : ARel ι v v') (hb : cellV v = true) : CRel ι v v' := by
  cases h with
  | c h => exact h
  | agg h => simp [cellV] at hb
theorem VRel.cell {v v' : Value} (h : VRel ι v v') (hb : cellV v = true) : CRel ι v v' :=
  (h.toA (by cases v <;> simp_all [cellV, boxV])).toC hb
theorem CRel.toS {v v' : Value} (h : CRel ι v v') (hb : plainC v = true) : SRel ι v v' := by
  cases h with
  | s h => exact h
  | func f a b => simp [plainC] at hb
  | yield h => simp [plainC] at hb
  | iface t h => simp [plainC] at hb
theorem cellV_of_plain {v : Value} (h : plainC v = true) : cellV v = true ∧ boxV v = true := by
  cases v <;> simp_all [plainC, cellV, boxV]
theorem VRel.toS {v v' : Value} (h : VRel ι v v') (hb : plainC v = true) : SRel ι v v' :=
  ((h.toA (cellV_of_plain hb).2).toC (cellV_of_plain hb).1).toS hb
theorem CRel.cellV {v v' : Value} (h : CRel ι v v') : cellV v = true ∧ cellV v' = true := by
  cases h with
  | s h => cases h <;> simp [AM.cellV]
  | _ => simp [AM.cellV]
theorem CRel.one {v v' : Value} (h : CRel ι v v') : v'.oneCell' = true := by
  cases h with
  | s h => cases h <;> rfl
  | _ => rfl
theorem ARel.cells {v v' : Value} (h : ARel ι v v') : All2 (CRel ι) v.cells.toList v'.cells.toList := by
  cases h with
  | agg h => exact h
  | c h =>
    have h1 : v.cells = #[v] := by have := h.cellV.1; cases v <;> simp_all [Value.cells, AM.cellV]
    have h2 : v'.cells = #[v'] := by have := h.cellV.2; cases v' <;> simp_all [Value.cells, AM.cellV]
    rw [h1, h2]
    exact .cons h .nil
theorem ARel.size {v v' : Value} (h : ARel ι v v') : v'.cells.size = v.cells.size := by
  have := h.cells.length
  simpa using this.symm
theorem VRel.undef : VRel ι undef undef := .tuple .nil
theorem VRel.bool {b : Bool} {v' : Value} (h : VRel ι (.bool b) v') : v' = .bool b := vrel_eq rfl h
theorem VRel.int {k : IntKind} {n : Int} {v' : Value} (h : VRel ι (.int k n) v') : v' = .int k n := vrel_eq rfl h
theorem VRel.string {s : ByteArray} {v' : Value} (h : VRel ι (.string s) v') : v' = .string s := vrel_eq rfl h
theorem VRel.ptr {b o : Nat} {v' : Value} (h : VRel ι (.pointer (some ⟨b, o, none⟩)) v') : ∃ l, ι b = some l ∧ v' = .pointer (some ⟨l.b, l.o + o, none⟩) := by
  cases h with | a h => cases h with | c h => cases h with | s h => cases h with | ptr h => exact ⟨_, h, rfl⟩
theorem VRel.agg {cs : Array Value} {v' : Value} (h : VRel ι (.agg cs) v') : ∃ cs', v' = .agg cs' ∧ All2 (CRel ι) cs.toList cs'.toList := by
  cases h with | a h => cases h with
    | agg h => exact ⟨_, rfl, h⟩
    | c h => cases h with | s h => cases h
theorem VRel.tup {vs : Array Value} {v' : Value} (h : VRel ι (.tuple vs) v') : ∃ vs', v' = .tuple vs' ∧ All2 (ARel ι) vs.toList vs'.toList := by
  cases h with
  | tuple h => exact ⟨_, rfl, h⟩
  | a h => cases h with | c h => cases h with | s h => cases h
theorem VRel.notBool {v v' : Value} (h : VRel ι v v') (b : Bool) : v' = .bool b → v = .bool b := by
  intro e; subst e
  cases h with | a h => cases h with | c h => cases h with | s h => cases h; rfl
end rel

/-! ### The memories' relation -/
section mem
variable {P : Program} {W : World} {ι ι' : Env} {h : H} {w w' : World}

theorem HRel.drop {h' : H} (hr : HRel P W ι h w) (hle : ∀ b o, h' b = some o → h b = some o) : HRel P W ι h' w :=
  ⟨hr.nxt, hr.z0, hr.z1, hr.below, hr.inb, fun b o hb => hr.obj b o (hle b o hb),
   fun b b' o o' l l' hne hb hb' => hr.sep b b' o o' l l' hne (hle b o hb) (hle b' o' hb')⟩

theorem ORel.same {B : Nat} {l : Loc} {o : AObj} (hw : w'.heap = w.heap) (h : ORel P B ι l w o) : ORel P B ι l w' o := by
  cases o <;> simp only [ORel, hw] at * <;> exact h
theorem HRel.world (hr : HRel P W ι h w) (hw : w'.heap = w.heap) (h1 : w'.os = w.os) (h2 : w'.tape = w.tape) (h3 : w'.output = w.output) : HRel P W ι h w' :=
  ⟨hr.nxt, hr.z0, hr.z1, ⟨h1.trans hr.below.os, h2.trans hr.below.tape, h3.trans hr.below.output, by rw [hw]; exact hr.below.size, fun k hk => by rw [hw]; exact hr.below.block k hk⟩,
   fun b l hb => by rw [hw]; exact hr.inb b l hb,
   fun b o hb => let ⟨l, hl, ho⟩ := hr.obj b o hb; ⟨l, hl, ho.same hw⟩, hr.sep⟩
theorem HRel.drawn (hr : HRel P W ι h w) (n : Nat) : HRel P W ι h { w with drawn := n } := hr.world rfl rfl rfl rfl

theorem ORel.keep {B : Nat} {l : Loc} {o : AObj} (hle : Env.le ι ι') (hb : w'.heap[l.b]? = w.heap[l.b]?)
    (hm : ∀ m lm, ι m = some lm → w'.heap[lm.b]? = w.heap[lm.b]? ∨ ∀ ces' clock', w'.heap[lm.b]? = some (.map ces' clock') → ∃ ces clock, w.heap[lm.b]? = some (.map ces clock) ∧ clock ≤ clock' ∧
      (clock' = clock → ∀ ce' ∈ ces'.toList, ∃ ce ∈ ces.toList, ce.born = ce'.born ∧ ce.key = ce'.key))
    (h : ORel P B ι l w o) : ORel P B ι' l w' o := by
  cases o with
  | cells cs E m =>
    obtain ⟨ccs, CE, lo, hi, h1, h2, h3⟩ := h
    exact ⟨ccs, CE, lo, hi, hb.trans h1, fun i v hi => let ⟨v', ha, hc⟩ := h2 i v hi; ⟨v', ha, hc.mono hle⟩, h3⟩
  | map kk es c =>
    obtain ⟨h0, h1, ces, h2, h3, h4⟩ := h
    exact ⟨h0, h1, ces, hb.trans h2, h3.mono fun a b ⟨x, y, z⟩ => ⟨x, y, z.mono hle⟩, h4⟩
  | iter mo left since cur =>
    obtain ⟨h0, h1, cm, since', seen, stepped, h2, h3⟩ := h
    refine ⟨h0, h1, cm, since', seen, stepped, hb.trans h2, ?_⟩
    cases mo with
    | none => exact h3
    | some m =>
      obtain ⟨lm, hlm, e1, e2, e3, h4, h7⟩ := h3
      refine ⟨lm, hle _ _ hlm, e1, e2, e3, ?_, fun k hk => ?_⟩
      rotate_left
      · obtain ⟨st, h8, h9⟩ := h7 k hk
        refine ⟨st, h8, fun ces' clock' hc' hcs ce' hce' => ?_⟩
        rcases hm m lm hlm with hs | hs
        · exact h9 ces' clock' (hs ▸ hc') hcs ce' hce'
        · obtain ⟨ces, clock, hc, hle', hsub⟩ := hs ces' clock' hc'
          obtain ⟨h5, _⟩ := h4 ces clock hc
          obtain ⟨ce, hce, hb', hk'⟩ := hsub (by omega) ce' hce'
          rw [← hb', ← hk']
          exact h9 ces clock hc (by omega) ce hce
      intro ces' clock' hc'
      rcases hm m lm hlm with hs | hs
      · exact h4 ces' clock' (hs ▸ hc')
      · obtain ⟨ces, clock, hc, hle', hsub⟩ := hs ces' clock' hc'
        obtain ⟨h5, h6⟩ := h4 ces clock hc
        refine ⟨Nat.le_trans h5 hle', fun he ce' hce' => ?_⟩
        have hcs : clock = since := by omega
        obtain ⟨ce, hce, hb', hk'⟩ := hsub (by omega) ce' hce'
        rw [← hb', ← hk']
        exact h6 hcs ce hce
  | loop st pend t N ps assign body =>
    obtain ⟨h0, h1, L, h2, h3, h4, h5, h6⟩ := h
    exact ⟨h0, h1, L, hb.trans h2, h3, h4, h5.mono hle, h6⟩
  | defer =>
    obtain ⟨h0, h1, h2⟩ := h
    exact ⟨h0, h1, hb.trans h2⟩

/-- One block is laid, or laid anew; nothing else turns. -/
theorem HRel.put (hr : HRel P W ι h w) {b : Nat} {l : Loc} {o : AObj} (hle : Env.le ι ι') (hb : ι' b = some l) (hne : ∀ c, c ≠ b → ι' c = ι c) (h2 : 2 ≤ b)
    (hB : W.heap.size ≤ l.b) (hin : l.b < w'.heap.size) (hsz : w.heap.size ≤ w'.heap.size) (hkeep : ∀ c, c ≠ l.b → c < w.heap.size → w'.heap[c]? = w.heap[c]?)
    (hos : w'.os = w.os) (htape : w'.tape = w.tape) (hout : w'.output = w.output)
    (hsep : ∀ c oc lc, c ≠ b → h c = some oc → ι c = some lc → oc.ro = false → lc.b ≠ l.b)
    (hmap : l.b < w.heap.size → ∀ ces' clock', w'.heap[l.b]? = some (.map ces' clock') → ∃ ces clock, w.heap[l.b]? = some (.map ces clock) ∧ clock ≤ clock' ∧
      (clock' = clock → ∀ ce' ∈ ces'.toList, ∃ ce ∈ ces.toList, ce.born = ce'.born ∧ ce.key = ce'.key))
    (ho : ORel P W.heap.size ι' l w' o) : HRel P W ι' (upd h b o) w' := by
  have hro : ∀ c cs E lc, h c = some (.cells cs E .ro) → ι c = some lc → lc.b < W.heap.size := fun c cs E lc hc hlc => by
    obtain ⟨l', hl', ho'⟩ := hr.obj c _ hc
    obtain rfl : l' = lc := by rw [hlc] at hl'; exact (Option.some.inj hl').symm
    obtain ⟨_, _, _, _, _, _, h3, _⟩ := ho'
    exact h3 rfl
  have hlb : ∀ c oc lc, c ≠ b → h c = some oc → ι c = some lc → lc.b ≠ l.b := fun c oc lc hc hoc hlc he => by
    by_cases hx : oc.ro = false
    · exact hsep c oc lc hc hoc hlc hx he
    · cases oc with
      | cells cs E m => cases m with
        | ro => have := hro c cs E lc hoc hlc; omega
        | _ => simp [AObj.ro] at hx
      | _ => simp [AObj.ro] at hx
  refine ⟨?_, ?_, ?_, ?_, ?_, ?_, ?_⟩
  · obtain ⟨n, hn⟩ := hr.nxt
    refine ⟨max n (b + 1), fun c hc => ?_⟩
    rw [hne c (by omega)]
    exact hn c (by omega)
  · rw [hne 0 (by omega)]; exact hr.z0
  · rw [hne 1 (by omega)]; exact hr.z1
  · refine ⟨hos.trans hr.below.os, htape.trans hr.below.tape, hout.trans hr.below.output, Nat.le_trans hr.below.size hsz, fun k hk => ?_⟩
    have h1 := hr.below.size
    rw [hkeep k (by omega) (by omega)]
    exact hr.below.block k hk
  · intro c lc hc
    by_cases hcb : c = b
    · subst hcb; rw [hb] at hc; cases hc; exact hin
    · rw [hne c hcb] at hc
      exact Nat.lt_of_lt_of_le (hr.inb c lc hc) hsz
  · intro c oc hc
    by_cases hcb : c = b
    · subst hcb; rw [upd_same] at hc; cases hc; exact ⟨l, hb, ho⟩
    · rw [upd_ne _ _ hcb] at hc
      obtain ⟨lc, hlc, hoc⟩ := hr.obj c oc hc
      refine ⟨lc, hle _ _ hlc, hoc.keep hle (hkeep lc.b (hlb c oc lc hcb hc hlc) (hr.inb c lc hlc)) fun m lm hm => ?_⟩
      by_cases hmb : lm.b = l.b
      · rw [hmb]; exact .inr (hmap (hmb ▸ hr.inb m lm hm))
      · exact .inl (hkeep lm.b hmb (hr.inb m lm hm))
  · intro c c' oc oc' lc lc' hcc hc hc' hlc hlc' hoc hoc'
    by_cases hcb : c = b
    · subst hcb
      rw [hb] at hlc; cases hlc
      rw [upd_ne _ _ (Ne.symm hcc)] at hc'
      rw [hne c' (Ne.symm hcc)] at hlc'
      exact Ne.symm (hsep c' oc' lc' (Ne.symm hcc) hc' hlc' hoc')
    · rw [upd_ne _ _ hcb] at hc
      rw [hne c hcb] at hlc
      by_cases hcb' : c' = b
      · subst hcb'
        rw [hb] at hlc'; cases hlc'
        exact hsep c oc lc hcb hc hlc hoc
      · rw [upd_ne _ _ hcb'] at hc'
        rw [hne c' hcb'] at hlc'
        exact hr.sep c c' oc oc' lc lc' hcc hc hc' hlc hlc' hoc hoc'

def Env.set (ι : Env) (b : Nat) (l : Loc) : Env := fun c => if c = b then some l else ι c
theorem Env.set_same (ι : Env) (b : Nat) (l : Loc) : ι.set b l b = some l := by simp [Env.set]
theorem Env.set_ne (ι : Env) {b c : Nat} (l : Loc) (hc : c ≠ b) : ι.set b l c = ι c := by simp [Env.set, hc]
theorem Env.le_set {ι : Env} {b : Nat} (l : Loc) (hb : ι b = none) : Env.le ι (ι.set b l) := fun c lc hc => by
  rw [Env.set_ne]; · exact hc
  · rintro rfl; rw [hb] at hc; cases hc

/-- A name that nothing bears. -/
theorem HRel.fresh (hr : HRel P W ι h w) : ∃ b, 2 ≤ b ∧ ι b = none ∧ h b = none := by
  obtain ⟨n, hn⟩ := hr.nxt
  refine ⟨max n 2, by omega, hn _ (by omega), ?_⟩
  cases hh : h (max n 2) with
  | none => rfl
  | some o =>
    obtain ⟨l, hl, _⟩ := hr.obj _ _ hh
    rw [hn _ (by omega)] at hl; cases hl

theorem alloc_get_lt (w : World) (o : Obj) {k : Nat} (h : k < w.heap.size) : (w.alloc o).heap[k]? = w.heap[k]? := Below.heap_alloc w o k h
theorem alloc_get_new (w : World) (o : Obj) : (w.alloc o).heap[w.heap.size]? = some o := by
  show (w.heap.push o)[w.heap.size]? = some o
  simp

/-- A new block. -/
theorem HRel.new (hr : HRel P W ι h w) {b : Nat} {O : Obj} {o : AObj} {k : Nat} (h2 : 2 ≤ b) (hb : ι b = none)
    (ho : ORel P W.heap.size (ι.set b ⟨w.heap.size, 0, k⟩) ⟨w.heap.size, 0, k⟩ (w.alloc O) o) :
    HRel P W (ι.set b ⟨w.heap.size, 0, k⟩) (upd h b o) (w.alloc O) := by
  refine hr.put (Env.le_set _ hb) (Env.set_same _ _ _) (fun c hc => Env.set_ne _ _ hc) h2 hr.below.size (by simp) (by simp) (fun c _ hc => alloc_get_lt w O hc) rfl rfl rfl ?_ ?_ ho
  · intro c oc lc hc hoc hlc _ he
    have := hr.inb c lc hlc
    simp at he; omega
  · intro hlt; simp at hlt

/-- A block laid anew in its place. -/
theorem HRel.set (hr : HRel P W ι h w) {b : Nat} {l : Loc} {o o' : AObj} (hb : h b = some o) (hl : ι b = some l) (hro : o.ro = false)
    (hsz : w'.heap.size = w.heap.size) (hkeep : ∀ c, c ≠ l.b → w'.heap[c]? = w.heap[c]?) (hos : w'.os = w.os) (htape : w'.tape = w.tape) (hout : w'.output = w.output)
    (hB : W.heap.size ≤ l.b)
    (hmap : ∀ ces' clock', w'.heap[l.b]? = some (.map ces' clock') → ∃ ces clock, w.heap[l.b]? = some (.map ces clock) ∧ clock ≤ clock' ∧
      (clock' = clock → ∀ ce' ∈ ces'.toList, ∃ ce ∈ ces.toList, ce.born = ce'.born ∧ ce.key = ce'.key))
    (ho : ORel P W.heap.size ι l w' o') : HRel P W ι (upd h b o') w' := by
  have h2 : 2 ≤ b := by
    rcases Nat.lt_or_ge b 2 with hlt | hge
    · exfalso
      have h0 := hr.z0; have h1 := hr.z1
      rcases Nat.lt_or_ge b 1 with h' | h'
      · obtain rfl : b = 0 := by omega
        rw [h0] at hl; cases hl
      · obtain rfl : b = 1 := by omega
        rw [h1] at hl; cases hl
    · exact hge
  exact hr.put (Env.le_refl ι) hl (fun _ _ => rfl) h2 hB (by rw [hsz]; exact hr.inb b l hl) (by omega) (fun c hc _ => hkeep c hc) hos htape hout
    (fun c oc lc hc hoc hlc hx => hr.sep c b oc o lc l hc hoc hb hlc hl hx hro) (fun _ => hmap) ho
end mem
end Go.Proofs.YtbmfblmebhobiaaGreat.AM

/-
  The operations in the abstract memory tell what the model's operations do: reading, writing, new blocks.
-/
set_option linter.unusedSimpArgs false
set_option linter.unusedVariables false
namespace Go.Proofs.YtbmfblmebhobiaaGreat.AM
open Go.RowKit

/-- The model's operation goes through, and comes to something that the abstract one takes. -/
def Sim (P : Program) (W : World) (ι : Env) (s : Sem Value) (w : World) (K : Value → H → Prop) : Prop :=
  ∃ cv w' ι' v h', s.run P w = .ok cv w' ∧ Env.le ι ι' ∧ HRel P W ι' h' w' ∧ VRel ι' v cv ∧ K v h'
def SimU (P : Program) (W : World) (ι : Env) (s : Sem Unit) (w : World) (K : H → Prop) : Prop :=
  ∃ w' ι' h', s.run P w = .ok () w' ∧ Env.le ι ι' ∧ HRel P W ι' h' w' ∧ K h'

section
variable {P : Program} {W : World} {ι : Env} {h : H} {w : World}

theorem Sim.quiet {s : Sem Value} {K : Value → H → Prop} {cv v : Value} (hr : HRel P W ι h w) (hs : s.run P w = .ok cv w) (hv : VRel ι v cv) (hk : K v h) : Sim P W ι s w K :=
  ⟨cv, w, ι, v, h, hs, Env.le_refl _, hr, hv, hk⟩

theorem add_none (b o j : Nat) : (⟨b, o, none⟩ : Addr).add j = ⟨b, o + j, none⟩ := by
  unfold Addr.add
  split
  · subst_vars; rfl
  · rfl

theorem pureRun_run {α : Type} (s : Sem α) : ∀ {v : α}, pureRun P s = some v → ∀ w, s.run P w = .ok v w := by
  induction s with
  | pure a => intro v hv w; simp [pureRun] at hv; subst hv; rfl
  | program k ih => intro v hv w; simp only [pureRun] at hv; simp only [Sem.run]; exact ih P hv w
  | _ => intro v hv; simp [pureRun] at hv

theorem run_info {t : TypeId} {i : TypeInfo} (hi : P.info? t = some i) (w : World) : (typeInfo t).run P w = .ok i w := by simp [typeInfo, hi]
theorem run_size {t : TypeId} {i : TypeInfo} (hi : P.info? t = some i) (w : World) : (sizeOf t).run P w = .ok i.size w := by simp [sizeOf, run_info hi]
theorem run_und {t : TypeId} {d : TypeDesc} (hd : P.underlying t = some d) (w : World) : (underlying t).run P w = .ok d w := by simp [underlying, hd]
theorem zeroOf_spec {t : TypeId} {z : Value} (hz : zeroOf P t = some z) : selfA z = true ∧ (P.info? t).bind (·.zero) = some z := by
  unfold zeroOf at hz
  split at hz
  · split at hz
    · rename_i h; cases hz; exact ⟨h, ‹_›⟩
    · cases hz
  · cases hz
theorem run_zero {t : TypeId} {z : Value} (hz : zeroOf P t = some z) (w : World) : (zeroValue t).run P w = .ok z w := by
  have := (zeroOf_spec hz).2
  cases hi : P.info? t with
  | none => rw [hi] at this; cases this
  | some i =>
    rw [hi] at this
    simp only [Option.bind_some] at this
    simp [zeroValue, run_info hi, this]
theorem tySize_spec {t : TypeId} {ag : Bool} {n : Nat} (ht : tySize P t = some (ag, n)) : ∃ i, P.info? t = some i ∧ i.size = n ∧ ∀ w, (isAgg t).run P w = .ok ag w := by
  unfold tySize at ht
  split at ht
  · cases ht; rename_i i fs hi hu; exact ⟨i, hi, rfl, fun w => by simp [isAgg, run_und hu]⟩
  · cases ht; rename_i i a e hi hu; exact ⟨i, hi, rfl, fun w => by simp [isAgg, run_und hu]⟩
  · rename_i i d h1 h2 hi hu
    cases ht; refine ⟨i, hi, rfl, fun w => ?_⟩
    simp only [isAgg, Sem.run_bind, run_und hu, Result.andThen_ok]
    first
      | rfl
      | (split
         · exact absurd rfl (h1 _)
         · exact absurd rfl (h2 _ _)
         · rfl)
  · cases ht

/-! ### Reading cells -/
theorem HRel.obj' (hr : HRel P W ι h w) {b : Nat} {o : AObj} {l : Loc} (hb : h b = some o) (hl : ι b = some l) : ORel P W.heap.size ι l w o := by
  obtain ⟨l', hl', ho⟩ := hr.obj b o hb
  rw [hl] at hl'; cases hl'; exact ho
theorem read_cell (hr : HRel P W ι h w) {b o : Nat} {v : Value} (hc : cellAt h b o = some v) {l : Loc} (hl : ι b = some l) :
    ∃ v', w.cell? ⟨l.b, l.o + o, none⟩ = some v' ∧ CRel ι v v' := by
  unfold cellAt at hc
  split at hc
  · rename_i cs E m hb
    obtain ⟨ccs, CE, lo, hi, h1, h2, _⟩ := hr.obj' hb hl
    obtain ⟨v', h3, h4⟩ := h2 _ _ hc
    exact ⟨v', by simp [World.cell?, h1, h3], h4⟩
  · cases hc
theorem list_build {α β : Type} {R : α → β → Prop} (l : List α) (f : Nat → Option β) : (∀ (i : Nat) (a : α), l[i]? = some a → ∃ b, f i = some b ∧ R a b) →
    ∃ m : List β, All2 R l m ∧ ∀ (i : Nat) (b : β), m[i]? = some b → f i = some b := by
  induction l generalizing f with
  | nil => intro _; exact ⟨[], .nil, fun i b hb => by simp at hb⟩
  | cons x l ih =>
    intro hl
    obtain ⟨b, hb, hr⟩ := hl 0 x rfl
    obtain ⟨m, h1, h2⟩ := ih (fun i => f (i + 1)) (fun i a ha => hl (i + 1) a (by simpa using ha))
    refine ⟨b :: m, .cons hr h1, fun i c hc => ?_⟩
    cases i with
    | zero => simp at hc; subst hc; exact hb
    | succ i => exact h2 i c (by simpa using hc)
theorem read_cells (hr : HRel P W ι h w) {b o n : Nat} {vs : List Value} (hc : cellsAt h b o n = some vs) {l : Loc} (hl : ι b = some l) :
    ∃ vs' : List Value, All2 (CRel ι) vs vs' ∧ vs.length = n ∧ ∀ (j : Nat) (u : Value), vs'[j]? = some u → w.cell? ((⟨l.b, l.o + o, none⟩ : Addr).add j) = some u := by
  unfold cellsAt at hc
  split at hc
  · rename_i cs E m hb
    split at hc
    · rename_i hlen
      cases hc
      obtain ⟨ccs, CE, lo, hi, h1, h2, _⟩ := hr.obj' hb hl
      obtain ⟨m, hm1, hm2⟩ := list_build (R := CRel ι) ((cs.drop o).take n) (fun j => ccs[l.o + (o + j)]?) (fun i a ha => by
        have ha' : cs[o + i]? = some a := by
          rw [List.getElem?_take] at ha
          split at ha
          · simpa using ha
          · cases ha
        exact h2 _ _ ha')
      refine ⟨m, hm1, by simp; omega, fun j u hu => ?_⟩
      rw [add_none, Nat.add_assoc]
      simp only [World.cell?, h1, Option.isSome_none, Bool.false_eq_true, if_false]
      exact hm2 j u hu
    · cases hc
  · cases hc

theorem sim_load {t : TypeId} {ag : Bool} {n : Nat} {a ca : Value} {K : Value → H → Prop} (ht : tySize P t = some (ag, n)) (hr : HRel P W ι h w) (ha : VRel ι a ca)
    (hk : o_load ag n a h fun v => K v h) : Sim P W ι (Instr.loadAt t ca) w K := by
  obtain ⟨i, hi, hn, hag⟩ := tySize_spec ht
  unfold o_load at hk
  split at hk
  · rename_i b o
    obtain ⟨l, hl, rfl⟩ := ha.ptr
    cases ag with
    | true =>
      simp only [cond_true] at hk
      split at hk
      · rename_i vs hvs
        obtain ⟨vs', h1, h2, h3⟩ := read_cells hr hvs hl
        refine Sim.quiet (cv := .agg vs'.toArray) (v := .agg vs.toArray) hr ?_ (.a (.agg h1)) hk
        have := run_loadCells_list (P := P) w ⟨l.b, l.o + o, none⟩ vs' h3
        rw [← h1.length, h2] at this
        simp [Instr.loadAt, Instr.sureAddr, loadVar, hag, run_size hi, hn, this]
      · exact hk.elim
    | false =>
      simp only [cond_false] at hk
      split at hk
      · rename_i v hv
        obtain ⟨v', h1, h2⟩ := read_cell hr hv hl
        exact Sim.quiet (cv := v') (v := v) hr (by simp [Instr.loadAt, Instr.sureAddr, loadVar, hag, h1]) (.a (.c h2)) hk
      · exact hk.elim
  · exact hk.elim

/-! ### Writing cells -/
def setBlk (w : World) (b : Nat) (O : Obj) : World := { w with heap := w.heap.setIfInBounds b O }
theorem setBlk_same (w : World) {b : Nat} (O : Obj) (hb : b < w.heap.size) : (setBlk w b O).heap[b]? = some O := by simp [setBlk, hb]
theorem setBlk_ne (w : World) {b c : Nat} (O : Obj) (hc : c ≠ b) : (setBlk w b O).heap[c]? = w.heap[c]? := by
  simp [setBlk, Array.getElem?_setIfInBounds_ne (Ne.symm hc)]
theorem setBlk_size (w : World) (b : Nat) (O : Obj) : (setBlk w b O).heap.size = w.heap.size := by simp [setBlk]
theorem setBlk_twice (w : World) (b : Nat) (O O' : Obj) : setBlk (setBlk w b O) b O' = setBlk w b O' := by simp [setBlk]
theorem setCell_blk {b o : Nat} {ccs : Array Value} {CE : TypeId} {fz : Nat × Nat} (v : Value) (hb : w.heap[b]? = some (.cells ccs CE fz)) :
    w.setCell ⟨b, o, none⟩ v = setBlk w b (.cells (ccs.setIfInBounds o v) CE fz) := by
  have hlt : b < w.heap.size := (Array.getElem?_eq_some_iff.1 hb).1
  simp only [World.setCell, setBlk]
  congr 1
  apply Array.ext_getElem?
  intro i
  rw [Array.getElem?_modify, Array.getElem?_setIfInBounds]
  by_cases hi : b = i
  · subst hi; simp only [if_true, hb, Option.map_some, hlt]; simp
  · simp [hi]
theorem run_storeCells_blk (P : Program) (b o : Nat) (CE : TypeId) (lo hi : Nat) : ∀ (vs : List Value) (i : Nat) (ccs : Array Value) (w : World),
    w.heap[b]? = some (.cells ccs CE (lo, hi)) → o + i + vs.length ≤ ccs.size → (∀ j, j < ccs.size → ¬(lo ≤ j ∧ j < hi)) → (∀ v ∈ vs, v.oneCell' = true) →
    (storeCells ⟨b, o, none⟩ vs i).run P w = .ok () (if vs = [] then w else setBlk w b (.cells (setL ccs.toList (o + i) vs).toArray CE (lo, hi)))
  | [], i, ccs, w, _, _, _, _ => by simp [storeCells]
  | v :: vs, i, ccs, w, hb, hlen, hfz, h1 => by
    simp only [List.length_cons] at hlen
    have hlt : b < w.heap.size := (Array.getElem?_eq_some_iff.1 hb).1
    have hc : w.cell? ⟨b, o + i, none⟩ = some (ccs[o + i]'(by omega)) := by simp [World.cell?, hb]
    have hf : w.frozen? ⟨b, o + i, none⟩ = false := by
      simp only [World.frozen?, hb]
      have := hfz (o + i) (by omega)
      simp only [Bool.and_eq_false_iff, decide_eq_false_iff_not]
      omega
    have hs := setCell_blk (o := o + i) v hb
    have hb' : (setBlk w b (.cells (ccs.setIfInBounds (o + i) v) CE (lo, hi))).heap[b]? = some (.cells (ccs.setIfInBounds (o + i) v) CE (lo, hi)) := setBlk_same w _ hlt
    have ih := run_storeCells_blk P b o CE lo hi vs (i + 1) (ccs.setIfInBounds (o + i) v) (setBlk w b (.cells (ccs.setIfInBounds (o + i) v) CE (lo, hi))) hb' (by simp; omega) (by simpa using hfz) (fun u hu => h1 u (by simp [hu]))
    simp only [storeCells, Sem.run_bind, add_none, run_store P w ⟨b, o + i, none⟩ v _ (h1 v (by simp)), hc, hf, Bool.false_eq_true, if_false, Result.andThen_ok, hs, ih]
    congr 1
    rw [if_neg (by simp : ¬(v :: vs = []))]
    by_cases he : vs = []
    · subst he
      have e : ccs.setIfInBounds (o + i) v = (ccs.toList.set (o + i) v).toArray := by apply Array.ext'; simp
      simp [setL, e]
    · simp [he, setBlk_twice, setL, Nat.add_assoc]

theorem length_setL (vs : List Value) : ∀ (cs : List Value) (o : Nat), (setL cs o vs).length = cs.length := by
  induction vs with
  | nil => intro cs o; rfl
  | cons v vs ih => intro cs o; simp [setL, ih]
theorem get_setL (vs : List Value) : ∀ (cs : List Value) (o i : Nat), o + vs.length ≤ cs.length → (setL cs o vs)[i]? = if o ≤ i ∧ i < o + vs.length then vs[i - o]? else cs[i]? := by
  induction vs with
  | nil => intro cs o i _; simp [setL]; intro h1 h2; omega
  | cons v vs ih =>
    intro cs o i hl
    simp only [List.length_cons] at hl
    simp only [setL, ih (cs.set o v) (o + 1) i (by simp; omega), List.length_cons]
    by_cases h1 : o + 1 ≤ i ∧ i < o + 1 + vs.length
    · rw [if_pos h1, if_pos (by omega), show i - o = (i - (o + 1)) + 1 by omega]; simp
    · rw [if_neg h1]
      by_cases h2 : i = o
      · subst h2; rw [if_pos (by omega)]; simp; rw [List.getElem?_set]; simp; omega
      · rw [if_neg (by omega), List.getElem?_set]; simp [Ne.symm h2]

theorem orel_setL {B : Nat} {l : Loc} {cs vs vs' : List Value} {E : TypeId} {m : Own} {o : Nat} {ccs : Array Value} {CE : TypeId} {lo hi : Nat} {w' : World}
    (h2 : ∀ (i : Nat) (v : Value), cs[i]? = some v → ∃ v', ccs[l.o + i]? = some v' ∧ CRel ι v v')
    (h3 : (m = .ro → l.b < B) ∧ (m ≠ .ro → B ≤ l.b ∧ ∀ i, i < ccs.size → ¬(lo ≤ i ∧ lo ≠ hi)) ∧ (m ≠ .open → l.k = 0) ∧ (m = .open → l.o + cs.length + l.k * szOf P E ≤ ccs.size))
    (hv : All2 (CRel ι) vs vs') (hlen : o + vs.length ≤ cs.length) (hlen' : l.o + o + vs.length ≤ ccs.size)
    (hw : w'.heap[l.b]? = some (.cells (setL ccs.toList (l.o + o) vs').toArray CE (lo, hi))) :
    ORel P B ι l w' (.cells (setL cs o vs) E m) := by
  have hvl := hv.length
  refine ⟨_, CE, lo, hi, hw, ?_, h3.1, fun hm => ⟨(h3.2.1 hm).1, fun i hi => (h3.2.1 hm).2 i (by simpa [length_setL] using hi)⟩, h3.2.2.1, fun hm => by rw [length_setL]; simpa [length_setL] using h3.2.2.2 hm⟩
  intro i v hi'
  rw [get_setL _ _ _ _ hlen] at hi'
  simp only [List.getElem?_toArray]
  rw [get_setL _ _ _ _ (by simp; omega)]
  by_cases hin : o ≤ i ∧ i < o + vs.length
  · rw [if_pos hin] at hi'
    obtain ⟨v', ha, hc⟩ := hv.get hi'
    refine ⟨v', ?_, hc⟩
    rw [if_pos (by omega), show l.o + i - (l.o + o) = i - o by omega]
    exact ha
  · rw [if_neg hin] at hi'
    obtain ⟨v', ha, hc⟩ := h2 i v hi'
    refine ⟨v', ?_, hc⟩
    rw [if_neg (by omega)]
    simpa using ha

/-- Cells are written. -/
theorem put_cells (hr : HRel P W ι h w) {b o : Nat} {cs vs vs' : List Value} {E : TypeId} {m : Own} {l : Loc} (hb : h b = some (.cells cs E m)) (hl : ι b = some l) (hm : m ≠ .ro)
    (hv : All2 (CRel ι) vs vs') (hlen : o + vs.length ≤ cs.length) :
    ∃ w', (storeCells ⟨l.b, l.o + o, none⟩ vs').run P w = .ok () w' ∧ HRel P W ι (upd h b (.cells (setL cs o vs) E m)) w' := by
  obtain ⟨ccs, CE, lo, hi, h1, h2, h3⟩ := hr.obj' hb hl
  have hlt : l.b < w.heap.size := (Array.getElem?_eq_some_iff.1 h1).1
  by_cases h0 : vs = []
  · subst h0
    cases hv
    have e : upd h b (.cells (setL cs o []) E m) = h := by
      funext c; unfold upd; split
      · subst_vars; exact hb.symm
      · rfl
    exact ⟨w, by simp [storeCells], by rw [e]; exact hr⟩
  have hlen' : l.o + o + vs.length ≤ ccs.size := by
    have hpos : 0 < vs.length := List.length_pos_iff.2 h0
    have : cs[o + vs.length - 1]? = some (cs[o + vs.length - 1]'(by omega)) := List.getElem?_eq_getElem _
    obtain ⟨v', hv', _⟩ := h2 _ _ this
    have := (Array.getElem?_eq_some_iff.1 hv').1
    omega
  have hrun := run_storeCells_blk P l.b (l.o + o) CE lo hi vs' 0 ccs w h1 (by rw [← hv.length]; omega) (fun j hj hq => (h3.2.1 hm).2 j hj ⟨hq.1, by omega⟩) (fun v hv' => by
    obtain ⟨i, hi', hget⟩ := List.mem_iff_getElem.1 hv'
    obtain ⟨u, _, hu⟩ := hv.get' (show vs'[i]? = some v by rw [List.getElem?_eq_getElem hi', hget])
    exact hu.one)
  refine ⟨_, hrun, ?_⟩
  have he : vs' ≠ [] := by intro he; subst he; cases hv; exact h0 rfl
  rw [if_neg he]
  · refine hr.set hb hl (by cases m <;> first | rfl | exact absurd rfl hm) (setBlk_size _ _ _) (fun c hc => setBlk_ne _ _ hc) rfl rfl rfl (h3.2.1 hm).1 ?_ ?_
    · intro ces' clock' hc; rw [setBlk_same _ _ hlt] at hc; cases hc
    · exact orel_setL (P := P) h2 h3 hv hlen hlen' (by rw [setBlk_same _ _ hlt, Nat.add_zero])

end
end Go.Proofs.YtbmfblmebhobiaaGreat.AM

/-
  The operations in the abstract memory tell what the model's operations do: stores, new blocks, addresses, parts, numbers.
-/
set_option linter.unusedSimpArgs false
set_option linter.unusedVariables false
namespace Go.Proofs.YtbmfblmebhobiaaGreat.AM
open Go.RowKit
section
variable {P : Program} {W : World} {ι : Env} {h : H} {w : World}

theorem sim_store {t : TypeId} {ag : Bool} {n : Nat} {a ca v cv : Value} {K : H → Prop} (ht : tySize P t = some (ag, n)) (hr : HRel P W ι h w) (ha : VRel ι a ca) (hv : VRel ι v cv)
    (hk : o_store n a v h K) : SimU P W ι (Instr.storeAt t ca cv) w K := by
  obtain ⟨i, hi, hn, _⟩ := tySize_spec ht
  unfold o_store at hk
  split at hk
  · rename_i b o
    obtain ⟨l, hl, rfl⟩ := ha.ptr
    split at hk
    · rename_i cs E m hb
      obtain ⟨hm, hbox, hsz, hlen, hk⟩ := hk
      have hva := hv.toA hbox
      have hsz' := hva.size
      obtain ⟨w', hs, hr'⟩ := put_cells (P := P) hr hb hl hm hva.cells (o := o) (by simpa [hsz] using hlen)
      exact ⟨w', ι, _, by simp [Instr.storeAt, Instr.sureAddr, storeVar, run_size hi, hn, hsz', hsz, hs], Env.le_refl _, hr', hk⟩
    · exact hk.elim
  · exact hk.elim

/-! ### New blocks -/
theorem orel_new {B : Nat} {cs cs' rest : List Value} {E : TypeId} {m : Own} {k b : Nat} (hm : m ≠ .ro) (hB : B ≤ b) {ι' : Env}
    (hc : All2 (CRel ι') cs cs') (hk : m ≠ .open → k = 0) (hk' : m = .open → rest.length = k * szOf P E) {w' : World} (hw : w'.heap[b]? = some (.cells (cs' ++ rest).toArray E (0, 0))) :
    ORel P B ι' ⟨b, 0, k⟩ w' (.cells cs E m) := by
  have hl := hc.length
  refine ⟨_, E, 0, 0, hw, ?_, fun he => absurd he hm, fun _ => ⟨hB, fun i _ => by omega⟩, hk, fun he => ?_⟩
  · intro i v hi
    obtain ⟨v', h1, h2⟩ := hc.get hi
    refine ⟨v', ?_, h2⟩
    have hlt : i < cs'.length := (List.getElem?_eq_some_iff.1 h1).1
    simp only [Nat.zero_add, List.getElem?_toArray]
    rw [List.getElem?_append_left hlt]; exact h1
  · have := hk' he
    simp; omega

/-- A new block of cells, maybe with spare room behind it. -/
theorem sim_new (hr : HRel P W ι h w) {cs cs' rest : List Value} {E : TypeId} {m : Own} {k : Nat} (hm : m ≠ .ro) (hc : All2 (CRel ι) cs cs') (hk : m ≠ .open → k = 0) (hk' : m = .open → rest.length = k * szOf P E)
    {K : Nat → H → Prop} (ho : o_new cs E m h K) :
    ∃ b ι', Env.le ι ι' ∧ ι' b = some ⟨w.heap.size, 0, k⟩ ∧ HRel P W ι' (upd h b (.cells cs E m)) (w.alloc (.cells (cs' ++ rest).toArray E)) ∧ K b (upd h b (.cells cs E m)) := by
  obtain ⟨b, h2, hb, hhb⟩ := hr.fresh
  refine ⟨b, ι.set b ⟨w.heap.size, 0, k⟩, Env.le_set _ hb, Env.set_same _ _ _, ?_, ho b h2 hhb⟩
  refine hr.new h2 hb ?_
  exact orel_new hm hr.below.size (hc.mono fun _ _ h => h.mono (Env.le_set _ hb)) hk hk' (alloc_get_new w _)

theorem sim_newRow {s : Sem Value} (hr : HRel P W ι h w) {cs cs' : List Value} {E : TypeId} {m : Own} (hm : m ≠ .ro) (hc : All2 (CRel ι) cs cs') {K : Value → H → Prop} {f : Addr → Value} {g : Nat → Value}
    (hs : s.run P w = .ok (f ⟨w.heap.size, 0, none⟩) (w.alloc (.cells cs'.toArray E))) (hfg : ∀ b (ι' : Env), Env.le ι ι' → ι' b = some ⟨w.heap.size, 0, 0⟩ → VRel ι' (g b) (f ⟨w.heap.size, 0, none⟩))
    (ho : o_new cs E m h fun b h => K (g b) h) : Sim P W ι s w K := by
  obtain ⟨b, ι', h1, h2, h3, h4⟩ := sim_new (rest := []) (k := 0) hr hm hc (fun _ => rfl) (fun _ => by simp) ho
  refine ⟨_, _, ι', g b, _, hs, h1, ?_, hfg b ι' h1 h2, h4⟩
  simpa using h3

theorem sim_newObj (hr : HRel P W ι h w) {O : Obj} {o : AObj} {K : Nat → H → Prop}
    (ho' : ∀ b, ORel P W.heap.size (ι.set b ⟨w.heap.size, 0, 0⟩) ⟨w.heap.size, 0, 0⟩ (w.alloc O) o ∨ ι b ≠ none) (ho : o_newObj o h K) :
    ∃ b ι', Env.le ι ι' ∧ ι' b = some ⟨w.heap.size, 0, 0⟩ ∧ HRel P W ι' (upd h b o) (w.alloc O) ∧ K b (upd h b o) := by
  obtain ⟨b, h2, hb, hhb⟩ := hr.fresh
  refine ⟨b, ι.set b ⟨w.heap.size, 0, 0⟩, Env.le_set _ hb, Env.set_same _ _ _, ?_, ho b h2 hhb⟩
  exact hr.new h2 hb ((ho' b).resolve_right (by simp [hb]))

theorem vrel_ptr_new {ι' : Env} {b n k : Nat} (hb : ι' b = some ⟨n, 0, k⟩) : VRel ι' (.pointer (some ⟨b, 0, none⟩)) (.pointer (some ⟨n, 0, none⟩)) := by
  have := SRel.ptr (o := 0) hb
  exact .a (.c (.s this))
theorem vrel_slice_new {ι' : Env} {b n k len : Nat} (hb : ι' b = some ⟨n, 0, k⟩) : VRel ι' (.slice (some ⟨b, 0, none⟩) len len) (.slice (some ⟨n, 0, none⟩) len (len + k)) := by
  have := SRel.slice (o := 0) (n := len) (c := len) hb
  exact .a (.c (.s this))

theorem sim_alloc {E : TypeId} {z : Value} {K : Value → H → Prop} (hz : zeroOf P E = some z) (hr : HRel P W ι h w)
    (hk : o_new z.cells.toList E .exact h fun b h => K (.pointer (some ⟨b, 0, none⟩)) h) : Sim P W ι (Instr.alloc E true (.tuple #[])) w K := by
  have hc : All2 (CRel ι) z.cells.toList z.cells.toList := (arel_self (ι := ι) (zeroOf_spec hz).1).cells
  refine sim_newRow (cs' := z.cells.toList) (f := fun a => .pointer (some a)) (g := fun b => .pointer (some ⟨b, 0, none⟩)) hr (by simp) hc ?_ (fun b ι' _ hb => vrel_ptr_new hb) hk
  simp [Instr.alloc, run_zero hz, newVar, newRow]
theorem sim_box {E : TypeId} {v cv : Value} {K : Value → H → Prop} (hr : HRel P W ι h w) (hv : VRel ι v cv) (hbox : boxV v = true)
    (hk : o_new v.cells.toList E .exact h fun b h => K (.pointer (some ⟨b, 0, none⟩)) h) : Sim P W ι (Instr.box E cv) w K := by
  refine sim_newRow (cs' := cv.cells.toList) (f := fun a => .pointer (some a)) (g := fun b => .pointer (some ⟨b, 0, none⟩)) hr (by simp) (hv.toA hbox).cells ?_ (fun b ι' _ hb => vrel_ptr_new hb) hk
  simp [Instr.box, newVar, newRow]

/-! ### Addresses, parts -/
theorem sim_nilCheck_run {x cx : Value} {K : Value → H → Prop} (hx : VRel ι x cx) (hk : o_nilCheck x fun v => K v h) :
    ∃ v, VRel ι v cx ∧ K v h ∧ (∀ m a b, cx ≠ .func (.method m) a b) ∧ cx ≠ .pointer none ∧ cx ≠ .nilIface ∧ cx ≠ .nilFunc := by
  unfold o_nilCheck at hk
  split at hk
  · refine ⟨_, hx, hk, ?_⟩
    have hc := hx.cell rfl
    cases hc with
    | s hx => cases hx; simp
  · refine ⟨_, hx, hk, ?_⟩
    have hc := hx.cell rfl
    cases hc with
    | s hx => cases hx
    | func f a b => simp
  · refine ⟨_, hx, hk, ?_⟩
    have hc := hx.cell rfl
    cases hc with
    | s hx => cases hx
    | yield a => simp
  · exact hk.elim

theorem fieldOff_spec {s : TypeId} {f off : Nat} {ft : TypeId} (hf : fieldOff P s f = some (off, ft)) :
    ∃ fs fd, P.underlying s = some (.struct fs) ∧ fs[f]? = some fd ∧ fd.offset = off ∧ fd.type = ft := by
  unfold fieldOff at hf
  split at hf
  · rename_i fs hu
    split at hf
    · rename_i fd hfd
      cases hf
      exact ⟨fs, fd, hu, hfd, rfl, rfl⟩
    · cases hf
  · cases hf
theorem sim_fieldAddr {s : TypeId} {f off : Nat} {ft : TypeId} {x cx : Value} {K : Value → H → Prop} (hf : fieldOff P s f = some (off, ft)) (hne : szOf P ft ≠ 0) (hr : HRel P W ι h w) (hx : VRel ι x cx)
    (hk : o_fieldAddr off x fun v => K v h) : Sim P W ι (Instr.fieldAt s cx f) w K := by
  obtain ⟨fs, fd, hu, hfd, rfl, rfl⟩ := fieldOff_spec hf
  unfold o_fieldAddr at hk
  split at hk
  · rename_i b o
    obtain ⟨l, hl, rfl⟩ := hx.ptr
    cases hi : P.info? fd.type with
    | none => simp [szOf, hi] at hne
    | some i =>
      have hi0 : i.size ≠ 0 := by simpa [szOf, hi] using hne
      refine Sim.quiet (cv := .pointer (some ⟨l.b, l.o + o + fd.offset, none⟩)) hr ?_ ?_ hk
      · simp [Instr.fieldAt, run_und hu, hfd, Instr.sureAddr, fieldPlace, run_size hi, hi0, add_none]
      · have := SRel.ptr (ι := ι) (o := o + fd.offset) hl
        rw [← Nat.add_assoc] at this
        exact .a (.c (.s this))
  · exact hk.elim

theorem all2_extract {xs ys : Array Value} {R : Value → Value → Prop} (h : All2 R xs.toList ys.toList) (a b : Nat) : All2 R (xs.extract a b).toList (ys.extract a b).toList := by
  simp only [Array.toList_extract]
  exact (h.drop _).take _
theorem part_rel {ag : Bool} {n off : Nat} {xs ys : Array Value} {v : Value} {t : TypeId} (ht : tySize P t = some (ag, n)) (h : All2 (CRel ι) xs.toList ys.toList) (hp : partOf ag n off xs = some v) (w : World) :
    ∃ cv, (part t ys off).run P w = .ok cv w ∧ VRel ι v cv := by
  obtain ⟨i, hi, hn, hag⟩ := tySize_spec ht
  have hlen : ys.size = xs.size := by simpa using h.length.symm
  unfold partOf at hp
  cases ag with
  | true =>
    simp only [cond_true] at hp
    split at hp
    · cases hp
      exact ⟨_, by simp [part, hag, run_size hi, hn], .a (.agg (all2_extract h _ _))⟩
    · cases hp
  | false =>
    simp only [cond_false] at hp
    obtain ⟨cv, h1, h2⟩ := h.get (i := off) (a := v) (by simpa using hp)
    have h1' : ys[off]? = some cv := by simpa using h1
    exact ⟨cv, by simp [part, hag, h1'], .a (.c h2)⟩
theorem sim_field {s : TypeId} {f off : Nat} {ft : TypeId} {ag : Bool} {n : Nat} {x cx : Value} {K : Value → H → Prop} (hf : fieldOff P s f = some (off, ft)) (ht : tySize P ft = some (ag, n)) (hr : HRel P W ι h w) (hx : VRel ι x cx)
    (hk : o_field ag n off x fun v => K v h) : Sim P W ι (Instr.field s cx f) w K := by
  obtain ⟨fs, fd, hu, hfd, rfl, rfl⟩ := fieldOff_spec hf
  unfold o_field at hk
  split at hk
  · obtain ⟨ys, rfl, hys⟩ := hx.agg
    split at hk
    · rename_i v hv
      obtain ⟨cv, h1, h2⟩ := part_rel ht hys hv w
      exact Sim.quiet hr (by simp [Instr.field, run_und hu, hfd, asAgg, h1]) h2 hk
    · exact hk.elim
  · exact hk.elim

theorem VRel.slice {b o n c : Nat} {v' : Value} (h : VRel ι (.slice (some ⟨b, o, none⟩) n c) v') :
    (∃ l, ι b = some l ∧ v' = .slice (some ⟨l.b, l.o + o, none⟩) n (c + l.k)) ∨ (n = 0 ∧ c = 0 ∧ b = 0 ∧ o = 0 ∧ ∃ a, v' = .slice (some a) 0 0) ∨ (n = 0 ∧ c = 0 ∧ b = 1 ∧ o = 0 ∧ ∃ a c', v' = .slice (some a) 0 c') := by
  cases h with | a h => cases h with | c h => cases h with | s h => cases h with
    | slice h => exact .inl ⟨_, h, rfl⟩
    | empty0 a => exact .inr (.inl ⟨rfl, rfl, rfl, rfl, a, rfl⟩)
    | empty1 a c => exact .inr (.inr ⟨rfl, rfl, rfl, rfl, a, c, rfl⟩)

theorem sim_indexAddr_slice {t e : TypeId} {x cx i ci : Value} {K : Value → H → Prop} {inf : TypeInfo} (hu : P.underlying t = some (.slice e)) (hi : P.info? e = some inf) (hr : HRel P W ι h w) (hx : VRel ι x cx) (hix : VRel ι i ci)
    (hk : o_indexAddr none inf.size x i fun v => K v h) : Sim P W ι (Instr.indexAt t cx ci) w K := by
  unfold o_indexAddr at hk
  split at hk
  · rename_i k j b o n c _
    obtain rfl := hix.int
    obtain ⟨h0, h1, hk⟩ := hk
    rcases hx.slice with ⟨l, hl, rfl⟩ | ⟨rfl, _⟩ | ⟨rfl, _⟩
    · refine Sim.quiet (cv := .pointer (some ⟨l.b, l.o + o + j.toNat * inf.size, none⟩)) hr ?_ ?_ hk
      · simp [Instr.indexAt, asIntOf, run_und hu, h0, h1, run_size hi, add_none]
      · have := SRel.ptr (ι := ι) (o := o + j.toNat * inf.size) hl
        rw [← Nat.add_assoc] at this
        exact .a (.c (.s this))
    · omega
    · omega
  · simp_all
  · exact hk.elim
theorem sim_indexAddr_array {t e : TypeId} {n : Nat} {x cx i ci : Value} {K : Value → H → Prop} {inf : TypeInfo} (hu : P.underlying t = some (.array n e)) (hi : P.info? e = some inf) (hr : HRel P W ι h w) (hx : VRel ι x cx) (hix : VRel ι i ci)
    (hk : o_indexAddr (some n) inf.size x i fun v => K v h) : Sim P W ι (Instr.indexAt t cx ci) w K := by
  unfold o_indexAddr at hk
  split at hk
  · simp_all
  · rename_i k j n' b o he
    have he' : n = n' := by simpa using he
    subst he'
    obtain rfl := hix.int
    obtain ⟨h0, h1, hk⟩ := hk
    obtain ⟨l, hl, rfl⟩ := hx.ptr
    refine Sim.quiet (cv := .pointer (some ⟨l.b, l.o + o + j.toNat * inf.size, none⟩)) hr ?_ ?_ hk
    · simp [Instr.indexAt, asIntOf, run_und hu, h0, h1, run_size hi, add_none, Instr.sureAddr]
    · have := SRel.ptr (ι := ι) (o := o + j.toNat * inf.size) hl
      rw [← Nat.add_assoc] at this
      exact .a (.c (.s this))
  · exact hk.elim

theorem sim_index_array {t e : TypeId} {n sz : Nat} {ag : Bool} {x cx i ci : Value} {K : Value → H → Prop} (hu : P.underlying t = some (.array n e)) (ht : tySize P e = some (ag, sz)) (hr : HRel P W ι h w) (hx : VRel ι x cx) (hix : VRel ι i ci)
    (hk : o_index false n ag sz x i fun v => K v h) : Sim P W ι (Instr.index t cx ci) w K := by
  obtain ⟨inf, hi, hn, hag⟩ := tySize_spec ht
  unfold o_index at hk
  split at hk
  · rename_i k j cs
    obtain rfl := hix.int
    obtain ⟨ys, rfl, hys⟩ := hx.agg
    obtain ⟨_, h0, h1, hk⟩ := hk
    split at hk
    · rename_i v hv
      obtain ⟨cv, h2, h3⟩ := part_rel ht hys hv w
      exact Sim.quiet hr (by simp [Instr.index, asIntOf, run_und hu, h0, h1, run_size hi, hn, h2]) h3 hk
    · exact hk.elim
  · exact absurd hk.1 (by simp)
  · exact hk.elim
theorem sim_index_string {t : TypeId} {n sz : Nat} {ag : Bool} {x cx i ci : Value} {K : Value → H → Prop} (hu : P.underlying t = some .string) (hr : HRel P W ι h w) (hx : VRel ι x cx) (hix : VRel ι i ci)
    (hk : o_index true n ag sz x i fun v => K v h) : Sim P W ι (Instr.index t cx ci) w K := by
  unfold o_index at hk
  split at hk
  · exact absurd hk.1 (by simp)
  · rename_i k j s
    obtain rfl := hix.int
    obtain rfl := hx.string
    obtain ⟨_, h0, hk⟩ := hk
    split at hk
    · rename_i c hc
      exact Sim.quiet hr (by simp [Instr.index, asIntOf, run_und hu, h0, hc]) (vrel_self rfl) hk
    · exact hk.elim
  · exact hk.elim

theorem sim_extract {x cx : Value} {i : Nat} {K : Value → H → Prop} (hr : HRel P W ι h w) (hx : VRel ι x cx) (hk : o_extract x i fun v => K v h) : Sim P W ι (Instr.extract cx i) w K := by
  unfold o_extract at hk
  split at hk
  · rename_i vs
    obtain ⟨vs', rfl, hvs⟩ := hx.tup
    split at hk
    · rename_i v hv
      obtain ⟨cv, h1, h2⟩ := hvs.get (i := i) (a := v) (by simpa using hv)
      have h1' : vs'[i]? = some cv := by simpa using h1
      exact Sim.quiet hr (by simp [Instr.extract, h1']) (.a h2) hk
    · exact hk.elim
  · exact hk.elim

/-! ### Numbers -/
theorem sim_pure {s : Sem Value} {K : Value → H → Prop} (hr : HRel P W ι h w) (hk : o_pure (pureRun P s) fun v => K v h) : Sim P W ι s w K := by
  unfold o_pure at hk
  split at hk
  · rename_i v hv
    cases hs : selfV v with
    | true => rw [hs, cond_true] at hk; exact Sim.quiet hr (pureRun_run _ hv w) (vrel_self hs) hk
    | false => rw [hs, cond_false] at hk; exact hk.elim
  · exact hk.elim
theorem VRel.ptrAny {a : Option Addr} {v' : Value} (h : VRel ι (.pointer a) v') : ∃ a', v' = .pointer a' ∧ a'.isNone = a.isNone := by
  have hc := h.cell rfl
  cases hc with | s hc => cases hc <;> exact ⟨_, rfl, rfl⟩
theorem VRel.sliceAny {a : Option Addr} {n c : Nat} {v' : Value} (h : VRel ι (.slice a n c) v') : ∃ a' n' c', v' = .slice a' n' c' ∧ n' = n ∧ a'.isNone = a.isNone := by
  have hc := h.cell rfl
  cases hc with | s hc => cases hc <;> exact ⟨_, _, _, rfl, rfl, rfl⟩
theorem VRel.mapAny {a : Option Nat} {v' : Value} (h : VRel ι (.map a) v') : ∃ a', v' = .map a' ∧ a'.isNone = a.isNone := by
  have hc := h.cell rfl
  cases hc with | s hc => cases hc <;> exact ⟨_, rfl, rfl⟩
theorem VRel.funcAny {f : Fn} {a b : Array Value} {v' : Value} (h : VRel ι (.func f a b) v') : ∃ f' a' b', v' = .func f' a' b' := by
  have hc := h.cell rfl
  cases hc with
  | s hc => cases hc
  | func f a b => exact ⟨_, _, _, rfl⟩
  | yield a => exact ⟨_, _, _, rfl⟩
theorem sim_bin {op : BinOp} {xt : TypeId} {xo yo : Operand} {x y cx cy : Value} {K : Value → H → Prop} (hr : HRel P W ι h w) (hx : VRel ι x cx) (hy : VRel ι y cy)
    (hk : o_bin P op xt x y fun v => K v h) : Sim P W ι (do eqGuard op xt xo yo cx cy; binOp op xt cx cy) w K := by
  unfold o_bin at hk
  cases hs : (selfV x && selfV y && okEq P op xt x y) with
  | true =>
    rw [hs, cond_true] at hk
    simp only [Bool.and_eq_true] at hs
    obtain rfl := vrel_eq hs.1.1 hx
    obtain rfl := vrel_eq hs.1.2 hy
    have hg : ∀ w, (eqGuard op xt xo yo cx cy).run P w = .ok () w := by
      intro w
      have h3 := hs.2
      unfold okEq at h3
      unfold eqGuard
      cases op with
      | eql =>
        simp only at h3
        split at h3
        · cases h3
        · simp only [Bool.not_eq_true'] at h3
          simp [h3]
        · simp
      | neq =>
        simp only at h3
        split at h3
        · cases h3
        · simp only [Bool.not_eq_true'] at h3
          simp [h3]
        · simp
      | _ => rfl
    have hp : Sim P W ι (binOp op xt cx cy) w K := sim_pure hr hk
    obtain ⟨cv, w', ι', v, h', q1, q2⟩ := hp
    exact ⟨cv, w', ι', v, h', by simp only [Sem.run_bind, hg, Result.andThen_ok, q1], q2⟩
  | false =>
    rw [hs, cond_false] at hk
    have eqg : ∀ (o : BinOp) (a b : Value), (∀ cs, a ≠ .agg cs) → a ≠ .nilIface → ((eqGuard o xt xo yo a b).run P w = .ok () w) := by
      intro o a b h1 h2
      cases a <;> first
        | exact absurd rfl h2
        | exact absurd rfl (h1 _)
        | (cases o <;> rfl)
    have hall : ∀ (d : TypeDesc) (a b : Value) (r : Bool), (∀ cs, a ≠ .agg cs) → a ≠ .nilIface → (Op.equalIn (9999 + 1) xt a b).run P w = .ok r w →
        ((binOp .eql xt a b) = (do pure (.bool (← Op.equal xt a b)))) → ((binOp .neq xt a b) = (do pure (.bool (!(← Op.equal xt a b))))) →
        ((do eqGuard .eql xt xo yo a b; binOp .eql xt a b : Sem Value).run P w = .ok (.bool r) w) ∧ ((do eqGuard .neq xt xo yo a b; binOp .neq xt a b : Sem Value).run P w = .ok (.bool (!r)) w) := by
      intro d a b r h1 h2 he e1 e2
      have he' : (Op.equal xt a b).run P w = .ok r w := he
      rw [e1, e2]
      simp only [Sem.run_bind, eqg _ _ _ h1 h2, Result.andThen_ok, he', Sem.run_pure, and_self]
    split at hk
    all_goals first
      | exact hk.elim
      | (rename_i hu
         obtain ⟨a', rfl, ha'⟩ := hx.ptrAny
         obtain rfl : cy = .pointer none := vrel_eq rfl hy
         have he : (Op.equalIn (9999 + 1) xt (.pointer a') (.pointer none)).run P w = .ok a'.isNone w := by
           rw [Op.equalIn]; simp only [Sem.run_bind, run_und hu, Result.andThen_ok]; cases a' <;> rfl
         have hb := hall (.pointer 0) (.pointer a') (.pointer none) _ (by simp) (by simp) he rfl rfl
         rw [ha'] at hb
         first
           | exact Sim.quiet hr hb.1 (vrel_self rfl) hk
           | exact Sim.quiet hr hb.2 (vrel_self rfl) hk)
      | (rename_i hu
         obtain ⟨a', n1, c', rfl, _, ha'⟩ := hx.sliceAny
         obtain ⟨b', n2, d', rfl, _, hb'⟩ := hy.sliceAny
         obtain rfl : b' = none := by simpa using hb'
         have he : ∀ n m, (Op.equalIn (9999 + 1) xt (.slice a' n c') (.slice none m d')).run P w = .ok a'.isNone w := fun n m => by
           rw [Op.equalIn]; simp only [Sem.run_bind, run_und hu, Result.andThen_ok]; cases a' <;> rfl
         have hb := hall (.pointer 0) (.slice a' n1 c') (.slice none n2 d') _ (by simp) (by simp) (he _ _) rfl rfl
         rw [ha'] at hb
         first
           | exact Sim.quiet hr hb.1 (vrel_self rfl) hk
           | exact Sim.quiet hr hb.2 (vrel_self rfl) hk)
      | (rename_i hu
         obtain ⟨a', rfl, ha'⟩ := hx.mapAny
         obtain rfl : cy = .map none := vrel_eq rfl hy
         have he : (Op.equalIn (9999 + 1) xt (.map a') (.map none)).run P w = .ok a'.isNone w := by
           rw [Op.equalIn]; simp only [Sem.run_bind, run_und hu, Result.andThen_ok]; cases a' <;> rfl
         have hb := hall (.pointer 0) (.map a') (.map none) _ (by simp) (by simp) he rfl rfl
         rw [ha'] at hb
         first
           | exact Sim.quiet hr hb.1 (vrel_self rfl) hk
           | exact Sim.quiet hr hb.2 (vrel_self rfl) hk)
      | (rename_i hu
         obtain ⟨f', a', b', rfl⟩ := hx.funcAny
         obtain rfl : cy = .nilFunc := vrel_eq rfl hy
         have he : (Op.equalIn (9999 + 1) xt (.func f' a' b') .nilFunc).run P w = .ok false w := by
           rw [Op.equalIn]; simp only [Sem.run_bind, run_und hu, Result.andThen_ok]; rfl
         have hb := hall (.pointer 0) (.func f' a' b') .nilFunc _ (by simp) (by simp) he rfl rfl
         first
           | exact Sim.quiet hr hb.1 (vrel_self rfl) hk
           | exact Sim.quiet hr hb.2 (vrel_self rfl) hk)
end
end Go.Proofs.YtbmfblmebhobiaaGreat.AM

