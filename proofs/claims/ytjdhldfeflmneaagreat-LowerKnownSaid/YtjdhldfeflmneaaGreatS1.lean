/-
  Summaries of functions with long loops, for the executor: what they do, a page at a time.
-/
import Derived.Test.YtjdhldfeflmneaaGreatX6
set_option linter.unusedSimpArgs false
set_option linter.unusedVariables false
namespace Go.Proofs.YtjdhldfeflmneaaGreat.AM
noncomputable section

/-- A value's number. -/
def natC (x : XA) : Option Nat := match x with | .c (.int _ (.ofNat n)) => some n | _ => none
def ptrC (x : XA) : Option (Nat × Nat) := match x with | .c (.pointer (some ⟨b, o, none⟩)) => some (b, o) | _ => none
def mapC (v : Value) : Option Nat := match v with | .map (some m) => some m | _ => none
def cellE (eh : EH) (b o : Nat) : Option Value := match eh.get b with | some (.cells r _ _) => r.get o | _ => none

/-! ### mem: within, where no page of the stretch is there -/
def outside (addr last : Nat) : List (Value × XA) → Bool
  | [] => true
  | e :: l => (match e.1 with | .int .u32 (.ofNat k) => Nat.blt k 4294967296 && (Nat.blt k addr || Nat.ble last k) | _ => false) && outside addr last l
def s_within (args : List XA) (eh : EH) (n : Nat) : Res :=
  match args with
  | [m, .c (.int .u32 (.ofNat addr)), .c (.int .u64 (.ofNat many))] => (match ptrC m with
    | some (mb, mo) => (match cellE eh mb (mo + 1) with
      | some (.map (some pm)) => (match eh.get pm with
        | some (.map (.int .u32) es _) => bif outside addr (addr + many * 256) es && Nat.blt (addr + many * 256) 18446744073709551616 && Nat.blt (many * 256) 18446744073709551616 then some (.a (.c (.slice none 0 0)), eh, n) else none
        | _ => none)
      | _ => none)
    | none => none)
  | _ => none

/-! ### mem: write -/
/-- A byte, or more, of one page; the page's number of changes behind the first. -/
structure WP where
  mb : Nat
  mo : Nat
  bb : Nat
  bo : Nat
  len : Nat
def w_page (p : WP) (eh : EH) (a : Nat) : Option (Nat × Nat) :=
  match cellE eh p.mb (p.mo + 1) with
  | some (.map (some pm)) => (match eh.get pm with
    | some (.map (.int .u32) es _) => (match xfind es (.int .u32 (.ofNat (Nat.sub a (Nat.mod a 256)))) with
      | some (.c (.pointer (some ⟨pb, po, none⟩))) => some (pb, po)
      | _ => none)
    | _ => none)
  | _ => none
def w_first (p : WP) (eh : EH) (a i : Nat) : Option EH :=
  match w_page p eh a, cellE eh p.bb (p.bo + i) with
  | some (pb, po), some v => (match eh.get pb with
    | some (.cells r E w) => bif notRo w && Nat.blt (po + Nat.mod a 256) r.size && Nat.blt a 4294967296 then
        some (eh.set pb (.cells (r.set (po + Nat.mod a 256) v) E w)) else none
    | _ => none)
  | _, _ => none
def w_gen (p : WP) (eh : EH) (a : Nat) : Option EH :=
  match cellE eh p.mb (p.mo + 2) with
  | some (.map (some gm)) => (match eh.get gm with
    | some (.map (.int .u32) gs c) => (match xfind gs (.int .u32 (.ofNat (Nat.sub a (Nat.mod a 256)))) with
      | some (.c (.int .u32 x)) => some (eh.set gm (.map (.int .u32) (xset gs (.int .u32 (.ofNat (Nat.sub a (Nat.mod a 256)))) (.c (.int .u32 (wrapF .u32 (x + 1))))) c))
      | _ => none)
    | _ => none)
  | _ => none
def w_rest (p : WP) (eh : EH) (a i cnt : Nat) : Option EH :=
  bif Nat.beq cnt 0 then some eh else
  match w_page p eh a, eh.get p.bb with
  | some (pb, po), some (.cells br _ _) => (match eh.get pb with
    | some (.cells r E w) => bif notRo w && !Nat.beq pb p.mb && !Nat.beq pb p.bb && Nat.ble (po + Nat.mod a 256 + cnt) r.size && Nat.ble (p.bo + i + cnt) br.size then
        some (eh.set pb (.cells (r.splice (po + Nat.mod a 256) ((br.drop (p.bo + i)).take cnt)) E w)) else none
    | _ => none)
  | _, _ => none
def minN (a b : Nat) : Nat := bc (Nat.ble a b) a b
/-- The bytes from i on, at a: a page at a time. -/
def w_run (p : WP) : Nat → EH → Nat → Nat → Option EH
  | 0, eh, a, i => bif Nat.beq i p.len then some eh else none
  | f + 1, eh, a, i => bif Nat.beq i p.len then some eh else
    match w_first p eh a i with
    | some eh => (match w_gen p eh a with
      | some eh => (match w_rest p eh (a + 1) (i + 1) (minN (p.len - i) (256 - Nat.mod a 256) - 1) with
        | some eh => w_run p f eh (a + minN (p.len - i) (256 - Nat.mod a 256)) (i + minN (p.len - i) (256 - Nat.mod a 256))
        | none => none)
      | none => none)
    | none => none
def isTrueX : XV → Bool
  | .a (.c (.bool b)) => b
  | _ => false
def s_write (C : CallF) (fAll : Nat) (args : List XA) (eh : EH) (n : Nat) : Res :=
  match args with
  | [m, .c (.int .u32 (.ofNat addr)), .c (.slice (some ⟨bb, bo, none⟩) len cap), .c (.int .i64 (.ofNat most)), need] => (match ptrC m with
    | some (mb, mo) => bif Nat.ble len most && Nat.blt 0 len && Nat.ble (addr + len) 4294967296 then (match C fAll [m, .c (.int .u32 (.ofNat addr)), .c (.int .i64 (.ofNat len)), need] eh n with
      | some (v, eh, n) => bif isTrueX v then (match w_run ⟨mb, mo, bb, bo, len⟩ (len / 256 + 2) eh addr 0 with
        | some eh => some (.a (.c (.int .i64 0)), eh, n)
        | none => none) else none
      | none => none) else none
    | none => none)
  | _ => none

/-! ### tinctureref3: put -/
/-- The first page from an address on: its place. -/
def p_at (r : R) (lo cnt base : Nat) : Nat → Nat → Option Nat
  | 0, _ => none
  | f + 1, k => bif Nat.blt k cnt then (match r.get (lo + 258 * k) with
    | some (.int .u32 (.ofNat x)) => bif Nat.blt x base then p_at r lo cnt base f (k + 1) else some k
    | _ => none) else none
def p_mem (p : WP) (eh : EH) : Option (Nat × Nat × Nat) :=
  match cellE eh p.mb (p.mo + 1) with
  | some (.slice (some ⟨lb, lo, none⟩) cnt _) => some (lb, lo, cnt)
  | _ => none
def p_first (p : WP) (eh : EH) (a i : Nat) : Option (EH × Nat) :=
  match p_mem p eh, cellE eh p.bb (p.bo + i) with
  | some (lb, lo, cnt), some v => (match eh.get lb with
    | some (.cells r E w) => (match p_at r lo cnt (Nat.sub a (Nat.mod a 256)) 5000 0 with
      | some k => bif notRo w && Nat.blt (lo + 258 * k + 2 + Nat.mod a 256) r.size && Nat.blt cnt 1000000 && Nat.blt a 4294967296 && !Nat.beq lb p.mb && !Nat.beq lb p.bb then
          some (eh.set lb (.cells (r.set (lo + 258 * k + 2 + Nat.mod a 256) v) E w), k) else none
      | none => none)
    | _ => none)
  | _, _ => none
/-- The first with a base, among the numbers of changes. -/
def p_find (r : R) (go cnt base : Nat) : Nat → Nat → Option Nat
  | 0, _ => none
  | f + 1, k => bif Nat.blt k cnt then (match r.get (go + 2 * k) with
    | some (.int .u32 (.ofNat x)) => bif Nat.beq x base then some k else p_find r go cnt base f (k + 1)
    | _ => none) else none
def p_gen (p : WP) (eh : EH) (a : Nat) : Option EH :=
  match cellE eh p.mb (p.mo + 2) with
  | some (.slice (some ⟨gb, go, none⟩) cnt _) => (match eh.get gb with
    | some (.cells r E w) => (match p_find r go cnt (Nat.sub a (Nat.mod a 256)) 5000 0 with
      | some k => (match r.get (go + 2 * k + 1) with
        | some (.int .u32 x) => bif notRo w && Nat.blt cnt 1000000 && Nat.blt a 4294967296 && Nat.blt (go + 2 * k + 1) r.size && !Nat.beq gb p.mb && !Nat.beq gb p.bb then some (eh.set gb (.cells (r.set (go + 2 * k + 1) (.int .u32 (wrapF .u32 (x + 1)))) E w)) else none
        | _ => none)
      | none => none)
    | _ => none)
  | _ => none
def p_rest (p : WP) (eh : EH) (a i cnt : Nat) : Option EH :=
  bif Nat.beq cnt 0 then some eh else
  match p_mem p eh, eh.get p.bb with
  | some (lb, lo, num), some (.cells br _ _) => (match eh.get lb with
    | some (.cells r E w) => (match p_at r lo num (Nat.sub a (Nat.mod a 256)) 5000 0 with
      | some k => bif notRo w && Nat.blt num 1000000 && !Nat.beq lb p.mb && !Nat.beq lb p.bb && Nat.ble (lo + 258 * k + 2 + Nat.mod a 256 + cnt) r.size && Nat.ble (p.bo + i + cnt) br.size then
          some (eh.set lb (.cells (r.splice (lo + 258 * k + 2 + Nat.mod a 256) ((br.drop (p.bo + i)).take cnt)) E w)) else none
      | none => none)
    | _ => none)
  | _, _ => none
def p_run (p : WP) : Nat → EH → Nat → Nat → Option EH
  | 0, eh, a, i => bif Nat.beq i p.len then some eh else none
  | f + 1, eh, a, i => bif Nat.beq i p.len then some eh else
    match p_first p eh a i with
    | some (eh, k) => (match p_gen p eh a with
      | some eh => (match p_rest p eh (a + 1) (i + 1) (minN (p.len - i) (256 - Nat.mod a 256) - 1) with
        | some eh => p_run p f eh (a + minN (p.len - i) (256 - Nat.mod a 256)) (i + minN (p.len - i) (256 - Nat.mod a 256))
        | none => none)
      | none => none)
    | none => none
def s_put (args : List XA) (eh : EH) (n : Nat) : Res :=
  match args with
  | [m, .c (.int .u32 (.ofNat addr)), .c (.slice (some ⟨bb, bo, none⟩) len cap)] => (match ptrC m with
    | some (mb, mo) => bif Nat.blt 0 len && Nat.ble (addr + len) 4294967296 then (match p_run ⟨mb, mo, bb, bo, len⟩ (len / 256 + 2) eh addr 0 with
        | some eh => some (.tup [], eh, n)
        | none => none) else none
    | none => none)
  | _ => none
end
end Go.Proofs.YtjdhldfeflmneaaGreat.AM
