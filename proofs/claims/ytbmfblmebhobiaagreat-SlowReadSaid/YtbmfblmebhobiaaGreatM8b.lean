import Derived.Test.YtbmfblmebhobiaaGreatM8
import Derived.Test.YtbmfblmebhobiaaGreatM4
/-
  The executor in small pieces, made of recursors, for the kernel: the same as the executor.
-/
set_option linter.unusedSimpArgs false
set_option linter.unusedVariables false
namespace Go.Proofs.YtbmfblmebhobiaaGreat.AM
noncomputable section

def ob {α β : Type} (x : Option α) (f : α → Option β) : Option β := @Option.rec α (fun _ => Option β) none f x
theorem ob_eq {α β : Type} (x : Option α) (f : α → Option β) : ob x f = match x with | some v => f v | none => none := by cases x <;> rfl
def xva {β : Type} (v : XV) (f : XA → Option β) : Option β := @XV.rec (fun _ => Option β) f (fun _ => none) none v
def asIntV {β : Type} (v : Value) (f : IntKind → Int → β) (d : β) : β := match v with | .int k n => f k n | _ => d
def constG (v : Value) : Option XV := bc (selfV v) (some (XV.ofV v)) none
def cInt (k : IntKind) (n : Int) : Option XV := some (.a (.c (.int k n)))
def k_const (v : Value) : Option XV := asIntV v cInt (constG v)
def funcX (f : FuncId) : Option XV := some (.a (.c (.func (.func f) #[] #[])))
def k_evO (t : XT) (x : Operand) : Option XV := @Operand.rec (fun _ => Option XV) (XT.get t) k_const (fun _ => none) funcX x
theorem k_evO_eq (t : XT) (x : Operand) : k_evO t x = evO t x := by
  cases x with
  | const v =>
    cases v <;> first | rfl | (simp only [evO, k_evO, k_const, asIntV, constG]; cases selfV _ <;> rfl)
  | _ => rfl
def k_b1 {β : Type} (t : XT) (x : Operand) (f : XA → Option β) : Option β := ob (k_evO t x) fun v => xva v f
theorem k_b1_eq {β : Type} (t : XT) (x : Operand) (f : XA → Option β) : k_b1 t x f = b1 t x f := by
  simp only [k_b1, b1, evA, k_evO_eq]
  cases evO t x with
  | none => rfl
  | some v => cases v <;> rfl
def k_b2 {β : Type} (t : XT) (x y : Operand) (f : XA → XA → Option β) : Option β := k_b1 t x fun v => k_b1 t y (f v)
theorem k_b2_eq {β : Type} (t : XT) (x y : Operand) (f : XA → XA → Option β) : k_b2 t x y f = b2 t x y f := by
  simp only [k_b2, k_b1_eq, b1, b2]
def k_evAs (t : XT) (l : List Operand) : Option (List XA) := @List.rec Operand (fun _ => Option (List XA)) (some []) (fun x _ ih => k_b1 t x fun v => ob ih fun r => some (v :: r)) l
theorem k_evAs_eq (t : XT) : ∀ l, k_evAs t l = evAs t l
  | [] => rfl
  | x :: l => by
    show (k_b1 t x fun v => ob (k_evAs t l) fun r => some (v :: r)) = _
    rw [k_evAs_eq t l, k_b1_eq]
    simp only [b1, evAs, ob_eq]
    cases evA t x <;> try rfl
    cases evAs t l <;> rfl
def k_evP (t : XT) (l : List (Nat × Operand)) : Option (List (Nat × XA)) := @List.rec (Nat × Operand) (fun _ => Option (List (Nat × XA))) (some []) (fun p _ ih => k_b1 t p.2 fun v => ob ih fun r => some ((p.1, v) :: r)) l
theorem k_evP_eq (t : XT) : ∀ l, k_evP t l = evP t l
  | [] => rfl
  | x :: l => by
    show (k_b1 t x.2 fun v => ob (k_evP t l) fun r => some ((x.1, v) :: r)) = _
    rw [k_evP_eq t l, k_b1_eq]
    simp only [b1, evP, ob_eq]
    cases evA t x.2 <;> try rfl
    cases evP t l <;> rfl
def k_rV (x : Option XV) (eh : EH) (n : Nat) : Res := @Option.rec XV (fun _ => Res) none (fun v => some (v, eh, n)) x
theorem k_rV_eq (x : Option XV) (eh : EH) (n : Nat) : k_rV x eh n = rV x eh n := by cases x <;> rfl
def k_rH (x : Option EH) (n : Nat) : Res := @Option.rec EH (fun _ => Res) none (fun eh => some (uX, eh, n)) x
theorem k_rH_eq (x : Option EH) (n : Nat) : k_rH x n = rH x n := by cases x <;> rfl

/-! ### The operations -/
section
variable (P : Program) (C : CallF) (Y : YieldF) (t : XT) (eh : EH) (n : Nat)
def ko_move (x : Operand) : Res := k_rV (k_evO t x) eh n
def asBoolX {β : Type} (v : XA) (f : Bool → Option β) : Option β := match v with | .c (.bool q) => f q | _ => none
def ko_pick2 (a b : Operand) (q : Bool) : Res := k_rV (k_evO t (bc q a b)) eh n
def ko_pick (c a b : Operand) : Res := k_b1 t c fun v => asBoolX v (ko_pick2 t eh n a b)
def ko_box (E : TypeId) (x : Operand) : Res := k_b1 t x fun x => e_box E x eh n
def ko_build (ty : TypeId) (ps : Array (Nat × Operand)) : Res := ob (k_evP t ps.toList) fun l => k_rV (e_build P ty l) eh n
def ko_buildSlice (ty : TypeId) (m : Nat) (ps : Array (Nat × Operand)) : Res := ob (k_evP t ps.toList) fun l => e_buildSlice P ty m l eh n
def ko_load2 (a : Operand) (p : Bool × Nat) : Res := k_rV (k_b1 t a fun a => e_load p.1 p.2 a eh) eh n
def ko_load (ty : TypeId) (a : Operand) : Res := ob (tySize P ty) (ko_load2 t eh n a)
def ko_store2 (a x : Operand) (p : Bool × Nat) : Res := k_rH (k_b2 t a x fun a x => e_store p.2 a x eh) n
def ko_store (ty : TypeId) (a x : Operand) : Res := ob (tySize P ty) (ko_store2 t eh n a x)
def ko_nilCheck (x : Operand) : Res := k_rV (k_b1 t x e_nilCheck) eh n
def kn (k : IntKind) : Nat := @IntKind.rec (fun _ => Nat) 0 1 2 3 4 5 6 7 k
def fi (k : IntKind) (a b : Int) (op : BinOp) (D : Option XV) : Option XV := match fastInt op k a b with | some v => some (.a (.c v)) | none => D
def k_int (op : BinOp) (k : IntKind) (a : Int) (D : Option XV) (k' : IntKind) (b : Int) : Option XV := bc (Nat.beq (kn k) (kn k')) (fi k a b op D) D
def asIntX {β : Type} (x : XA) (f : IntKind → Int → β) (d : β) : β := match x with | .c (.int k n) => f k n | _ => d
def k_bin (op : BinOp) (xt : TypeId) (x y : XA) : Option XV := asIntX x (fun k a => asIntX y (k_int op k a (e_binG P op xt x y)) (e_binT P op xt x y)) (e_binT P op xt x y)
theorem kn_eq (k k' : IntKind) : Nat.beq (kn k) (kn k') = (k == k') := by cases k <;> cases k' <;> rfl
theorem k_bin_eq (op : BinOp) (xt : TypeId) (x y : XA) : k_bin P op xt x y = e_bin P op xt x y := by
  unfold e_bin
  split
  · rename_i k a k' b
    simp only [k_bin, asIntX, k_int, kn_eq, fi]
    cases k == k' <;> rfl
  · rename_i hn
    unfold k_bin asIntX
    split
    · rename_i k a
      split
      · rename_i k' b; exact absurd rfl (hn k a k' b rfl)
      · rfl
    · rfl
def ko_bin (op : BinOp) (xt : TypeId) (x y : Operand) (yt : TypeId) : Res := k_rV (k_b2 t x y fun x y => k_bin P op xt x y) eh n
def ko_un (op : UnOp) (ty : TypeId) (x : Operand) : Res := k_rV (k_b1 t x (e_un P op)) eh n
def ko_convert (src dst : TypeId) (x : Operand) : Res := match P.underlying dst, P.underlying src with
    | some (.int k), some (.int _) => k_rV (k_b1 t x (e_conv k)) eh n
    | some .string, some .string => k_rV (k_b1 t x e_convStr) eh n
    | some .string, some (.slice e) => (match P.underlying e with | some (.int .u8) => k_rV (k_b1 t x fun x => e_bytesToString x eh) eh n | _ => none)
    | some (.slice e), some .string => (match P.underlying e, P.info? e with | some (.int .u8), some i => bif Nat.beq i.size 1 then k_b1 t x fun x => e_stringToBytes e x eh n else none | _, _ => none)
    | some (.slice e), some (.slice _) => (match P.underlying e with | some (.int .u8) => bif Nat.beq src dst then k_rV (k_b1 t x fun x => e_mark x eh) eh n else none | _ => none)
    | _, _ => none
def ko_makeInterface (ty : TypeId) (x : Operand) : Res := k_rV (k_b1 t x (e_makeInterface P ty)) eh n
def ko_makeFunc (f : Fn) (first captured : Array Operand) : Res := ob (k_evAs t first.toList) fun a => ob (k_evAs t captured.toList) fun c => k_rV (e_makeFunc f a c) eh n
def ko_makeMap (ty : TypeId) (r : Option Operand) : Res := match evOpt t r with | some r => e_makeMap P ty r eh n | none => none
def ko_makeSlice (ty : TypeId) (l c : Operand) : Res := match P.underlying ty with
    | some (.slice e) => k_b2 t l c fun l c => e_makeSlice P e l c eh n
    | _ => none
def ko_slice (ty : TypeId) (x : Operand) (lo hi mx : Option Operand) : Res := match evOpt t lo, evOpt t hi, evOpt t mx with
    | some lo, some hi, some mx => (match P.underlying ty with
      | some (.array m e) => (match mx, P.info? e with | none, some i => k_rV (k_b1 t x fun x => e_sliceArr m i.size x lo hi eh) eh n | _, _ => none)
      | some (.slice e) => (match P.info? e with | some i => k_rV (k_b1 t x fun x => e_slice i.size x lo hi mx) eh n | none => none)
      | some .string => (match mx with | none => k_rV (k_b1 t x fun x => e_sliceStr x lo hi) eh n | some _ => none)
      | _ => none)
    | _, _, _ => none
def ko_fieldAddr2 (x : Operand) (p : Nat × TypeId) : Res := bc (Nat.beq (szOf P p.2) 0) none (k_rV (k_b1 t x (e_fieldAddr p.1)) eh n)
def ko_fieldAddr (s : TypeId) (x : Operand) (f : Nat) : Res := ob (fieldOff P s f) (ko_fieldAddr2 P t eh n x)
def ko_field (s : TypeId) (x : Operand) (f : Nat) : Res := match fieldOff P s f with
    | some (off, ft) => (match tySize P ft with | some (ag, k) => k_rV (k_b1 t x (e_field ag k off)) eh n | none => none)
    | none => none
def ko_indexAddr (ty : TypeId) (x i : Operand) : Res := match P.underlying ty with
    | some (.array m e) => (match P.info? e with | some inf => k_rV (k_b2 t x i fun x i => e_indexAddr (some m) inf.size x i) eh n | none => none)
    | some (.slice e) => (match P.info? e with | some inf => k_rV (k_b2 t x i fun x i => e_indexAddr none inf.size x i) eh n | none => none)
    | _ => none
def ko_index (ty : TypeId) (x i : Operand) : Res := match P.underlying ty with
    | some (.array m e) => (match tySize P e with | some (ag, sz) => k_rV (k_b2 t x i fun x i => e_index false m ag sz x i) eh n | none => none)
    | some .string => k_rV (k_b2 t x i fun x i => e_index true 0 false 0 x i) eh n
    | _ => none
def ko_lookup (ty : TypeId) (x k : Operand) (ok : Bool) : Res := match P.underlying ty with
    | some (.map kt e) => (match zeroX P e, kkOf P kt with | some z, some kk => k_rV (k_b2 t x k fun x k => e_lookup kk z x k ok eh) eh n | _, _ => none)
    | _ => none
def ko_mapUpdate (ty : TypeId) (m k x : Operand) : Res := match P.underlying ty with
    | some (.map kt _) => (match kkOf P kt with | some kk => k_rH (k_b1 t x fun x => k_b2 t m k fun m k => e_mapUpdate kk m k x eh) n | none => none)
    | _ => none
def ko_range (ty : TypeId) (x : Operand) : Res := match P.underlying ty with
    | some (.map _ _) => k_b1 t x fun x => e_range x eh n
    | _ => none
def ko_next2 (it : Operand) : Res := k_b1 t it fun it => e_next it eh n
def ko_next (it : Operand) (s : Bool) : Res := bc s none (ko_next2 t eh n it)
def ko_entry (it : Operand) : Res := k_rV (k_b1 t it fun it => e_entry it eh) eh n
def ko_extract (x : Operand) (i : Nat) : Res := ob (k_evO t x) fun v => k_rV (e_extract v i) eh n
def ko_callF (args : Array Operand) (f : FuncId) : Res := bc (hasBody P f) (ob (k_evAs t args.toList) fun l => C f l eh n) none
def ko_callT (args : Array Operand) (i : Tmp) : Res := k_b1 t (.tmp i) fun f => ob (k_evAs t args.toList) fun l => e_dyn P C Y f l eh n
def ko_call (c : Call) : Res := match c.callee with
  | .value (.func f) => ko_callF P C t eh n c.args f
  | .value (.tmp i) => ko_callT P C Y t eh n c.args i
  | .builtin b => e_builtin P b c.args.toList c.argTypes.toList t eh n
  | _ => none
def k_op (op : Op) : Res := @Op.rec (fun _ => Res)
  (ko_move t eh n) (ko_move t eh n) (ko_pick t eh n) (fun E => e_alloc P E eh n) (ko_box t eh n) (ko_build P t eh n) (ko_buildSlice P t eh n) (ko_mapUpdate P t eh n) (ko_load P t eh n) (ko_store P t eh n)
  (fun _ => none) (fun _ => none) (ko_nilCheck t eh n) (ko_bin P t eh n) (ko_un P t eh n) (ko_convert P t eh n) (fun _ _ => none) (ko_makeInterface P t eh n) (ko_makeFunc t eh n) (ko_makeMap P t eh n) (fun _ _ => none)
  (ko_makeSlice P t eh n) (ko_slice P t eh n) (ko_fieldAddr P t eh n) (ko_field P t eh n) (ko_indexAddr P t eh n) (ko_index P t eh n) (ko_lookup P t eh n) (ko_mapUpdate P t eh n) (fun _ _ _ => none) (fun _ _ _ _ => none)
  (ko_range P t eh n) (ko_next t eh n) (ko_entry t eh n) (fun _ _ _ _ => none) (ko_extract t eh n) (ko_call P C Y t eh n) (fun _ => none) (fun _ => none) (fun _ => none) (fun _ _ => none) (fun _ _ _ => none) (fun _ _ => none) op
theorem k_op_eq (op : Op) : k_op P C Y t eh n op = e_op P C Y op t eh n := by
  cases op <;> try rfl
  · simp only [k_op, e_op, ko_move, k_rV_eq, k_evO_eq]
    try rfl
  · simp only [k_op, e_op, ko_move, k_rV_eq, k_evO_eq]
    try rfl
  · rename_i c a b
    simp only [k_op, e_op, ko_pick, ko_pick2, k_rV_eq, k_evO_eq, k_b1_eq, b1]
    cases evA t c with
    | none => rfl
    | some v =>
      cases v with
      | agg r => rfl
      | c v => cases v <;> first | rfl | (rename_i q; cases q <;> simp only [asBoolX, ko_pick2, k_rV_eq, k_evO_eq, bc_true, bc_false, cond_true, cond_false])
  · simp only [k_op, e_op, ko_box, k_b1_eq]
    try rfl
  · rename_i ty ps
    simp only [k_op, e_op, ko_build, k_evP_eq, ob_eq, k_rV_eq]
    cases evP t ps.toList <;> rfl
  · rename_i ty m ps
    simp only [k_op, e_op, ko_buildSlice, k_evP_eq, ob_eq]
    cases evP t ps.toList <;> rfl
  · simp only [k_op, e_op, ko_mapUpdate, k_rH_eq, k_b1_eq, k_b2_eq]
    try rfl
  · rename_i ty a
    simp only [k_op, e_op, ko_load, ko_load2, ob_eq, k_rV_eq, k_b1_eq]
    cases tySize P ty <;> rfl
  · rename_i ty a x
    simp only [k_op, e_op, ko_store, ko_store2, ob_eq, k_rH_eq, k_b2_eq]
    cases tySize P ty <;> rfl
  · simp only [k_op, e_op, ko_nilCheck, k_rV_eq, k_b1_eq]
    try rfl
  · simp only [k_op, e_op, ko_bin, k_rV_eq, k_b2_eq, k_bin_eq]
    try rfl
  · simp only [k_op, e_op, ko_un, k_rV_eq, k_b1_eq]
    try rfl
  · simp only [k_op, e_op, ko_convert, k_rV_eq, k_b1_eq]
    try rfl
  · simp only [k_op, e_op, ko_makeInterface, k_rV_eq, k_b1_eq]
    try rfl
  · rename_i f a c
    simp only [k_op, e_op, ko_makeFunc, k_rV_eq, k_evAs_eq, ob_eq]
    cases evAs t a.toList <;> cases evAs t c.toList <;> rfl
  · simp only [k_op, e_op, ko_makeSlice, k_b2_eq]
    try rfl
  · simp only [k_op, e_op, ko_slice, k_rV_eq, k_b1_eq]
    try rfl
  · rename_i s x f
    simp only [k_op, e_op, ko_fieldAddr, ko_fieldAddr2, ob_eq, k_rV_eq, k_b1_eq]
    cases fieldOff P s f with
    | none => rfl
    | some p => simp only; cases Nat.beq (szOf P p.2) 0 <;> rfl
  · simp only [k_op, e_op, ko_field, k_rV_eq, k_b1_eq]
    try rfl
  · simp only [k_op, e_op, ko_indexAddr, k_rV_eq, k_b2_eq]
    try rfl
  · simp only [k_op, e_op, ko_index, k_rV_eq, k_b2_eq]
    try rfl
  · simp only [k_op, e_op, ko_lookup, k_rV_eq, k_b2_eq]
    try rfl
  · simp only [k_op, e_op, ko_mapUpdate, k_rH_eq, k_b1_eq, k_b2_eq]
    try rfl
  · simp only [k_op, e_op, ko_range, k_b1_eq]
    try rfl
  · rename_i it s
    cases s
    · simp only [k_op, e_op, ko_next, ko_next2, bc_false, k_b1_eq]
    · rfl
  · simp only [k_op, e_op, ko_entry, k_rV_eq, k_b1_eq]
    try rfl
  · rename_i x i
    simp only [k_op, e_op, ko_extract, k_rV_eq, k_evO_eq, ob_eq]
    cases evO t x <;> rfl
  · rename_i c
    simp only [k_op, e_op, ko_call, e_call, ko_callF, ko_callT, k_b1_eq, k_evAs_eq, ob_eq]
    obtain ⟨callee, args, tys⟩ := c
    cases callee with
    | value x =>
      cases x with
      | func f =>
        simp only
        cases hasBody P f
        · rfl
        · cases evAs t args.toList <;> rfl
      | tmp i =>
        simp only [b1]
        cases evA t (.tmp i) with
        | none => rfl
        | some f => cases evAs t args.toList <;> rfl
      | const v => rfl
      | global g => rfl
    | invoke r m => rfl
    | builtin b => rfl
end

/-! ### Regions -/
abbrev KK3 := XT → EH → Nat → Option (XT × EH × Nat)
def k_xput (t : XT) (d : Option Tmp) (v : XV) : XT := @Option.rec Tmp (fun _ => XT) t (fun d => XT.set t d v) d
def k_fin (t : XT) (dst : Option Tmp) (k : KK3) (r : XV × EH × Nat) : Option (XT × EH × Nat) := @Prod.rec XV (EH × Nat) (fun _ => Option (XT × EH × Nat)) (fun v q => @Prod.rec EH Nat (fun _ => Option (XT × EH × Nat)) (k (k_xput t dst v)) q) r
def k_run (P : Program) (C : CallF) (Y : YieldF) (t : XT) (h : EH) (n : Nat) (k : KK3) (dst : Option Tmp) (op : Op) : Option (XT × EH × Nat) := ob (k_op P C Y t h n op) (k_fin t dst k)
def k_gv (ops : Array Oper) (j : Nat) (t : XT) : Option XV := gv ops j t
def k_guard (P : Program) (C : CallF) (Y : YieldF) (ops : Array Oper) (t : XT) (h : EH) (n : Nat) (k : KK3) (dst : Option Tmp) (op : Op) (j : Nat) (want : Bool) : Option (XT × EH × Nat) :=
  match gv ops j t with
  | some (.a (.c (.bool b))) => bc (b == want) (k_run P C Y t h n k dst op) (k (k_xput t dst uX) h n)
  | some (.tup _) => k (k_xput t dst uX) h n
  | _ => none
def k_step2 (P : Program) (C : CallF) (Y : YieldF) (ops : Array Oper) (t : XT) (h : EH) (n : Nat) (k : KK3) (dst : Option Tmp) (op : Op) (g : Option (Nat × Bool)) : Option (XT × EH × Nat) :=
  @Option.rec (Nat × Bool) (fun _ => Option (XT × EH × Nat)) (k_run P C Y t h n k dst op) (fun p => k_guard P C Y ops t h n k dst op p.1 p.2) g
def k_step (P : Program) (C : CallF) (Y : YieldF) (ops : Array Oper) (o : Oper) (k : KK3) (t : XT) (h : EH) (n : Nat) : Option (XT × EH × Nat) :=
  @Oper.rec (fun _ => Option (XT × EH × Nat)) (fun dst op _ _ _ g => k_step2 P C Y ops t h n k dst op g) o
def k_ops (P : Program) (C : CallF) (Y : YieldF) (ops : Array Oper) (l : List Oper) : KK3 := @List.rec Oper (fun _ => KK3) (fun t h n => some (t, h, n)) (fun o _ ih => k_step P C Y ops o ih) l
theorem k_xput_eq (t : XT) (d : Option Tmp) (v : XV) : k_xput t d v = xput t d v := by cases d <;> rfl
theorem k_run_eq (P : Program) (C : CallF) (Y : YieldF) (t : XT) (h : EH) (n : Nat) (k : KK3) (dst : Option Tmp) (op : Op) :
    k_run P C Y t h n k dst op = match (match e_op P C Y op t h n with | some (v, h, n) => some (xput t dst v, h, n) | none => none) with | some (t, h, n) => k t h n | none => none := by
  simp only [k_run, k_op_eq, ob_eq]
  cases e_op P C Y op t h n with
  | none => rfl
  | some r => simp only [k_fin, k_xput_eq]
theorem k_step_eq (P : Program) (C : CallF) (Y : YieldF) (ops : Array Oper) (o : Oper) (k : KK3) (t : XT) (h : EH) (n : Nat) :
    k_step P C Y ops o k t h n = match e_step P C Y ops o t h n with | some (t, h, n) => k t h n | none => none := by
  obtain ⟨dst, op, ty, pos, after, g⟩ := o
  simp only [k_step, k_step2, e_step]
  cases g with
  | none =>
    simp only [k_run_eq]
    cases e_op P C Y op t h n <;> rfl
  | some p =>
    obtain ⟨j, want⟩ := p
    simp only [k_guard]
    split
    · rename_i b hb
      rw [hb]
      simp only
      cases b == want
      · simp only [bc_false, cond_false, k_xput_eq]
      · simp only [bc_true, cond_true, k_run_eq]
        cases e_op P C Y op t h n <;> rfl
    · rename_i l hb
      rw [hb]
      simp only [k_xput_eq]
    · rename_i h1 h2
      split
      · rename_i t' h' n' he
        exfalso
        split at he
        · rename_i b hb; exact h1 b hb
        · rename_i l hb; exact h2 l hb
        · cases he
      · rfl
theorem k_ops_eq (P : Program) (C : CallF) (Y : YieldF) (ops : Array Oper) : ∀ (l : List Oper) (t : XT) (h : EH) (n : Nat), k_ops P C Y ops l t h n = e_ops P C Y ops l t h n
  | [], t, h, n => rfl
  | o :: l, t, h, n => by
    show k_step P C Y ops o (k_ops P C Y ops l) t h n = _
    rw [k_step_eq, e_ops]
    cases e_step P C Y ops o t h n with
    | none => rfl
    | some r => exact k_ops_eq P C Y ops l _ _ _

/-! ### Regions that draw their order -/
abbrev VF := Oper → XT → EH → Nat → Res
def k_valg (P : Program) (C : CallF) (Y : YieldF) (ops : Array Oper) (t : XT) (h : EH) (n : Nat) (op : Op) (p : Nat × Bool) : Res :=
  match gv ops p.1 t with
  | some (.a (.c (.bool b))) => bc (b == p.2) (k_op P C Y t h n op) (some (uX, h, n))
  | some (.tup _) => some (uX, h, n)
  | _ => none
def k_val (P : Program) (C : CallF) (Y : YieldF) (ops : Array Oper) : VF := fun o t h n =>
  @Oper.rec (fun _ => Res) (fun _ op _ _ _ g => @Option.rec (Nat × Bool) (fun _ => Res) (k_op P C Y t h n op) (k_valg P C Y ops t h n op) g) o
theorem k_val_eq (P : Program) (C : CallF) (Y : YieldF) (ops : Array Oper) : k_val P C Y ops = fun o t h n => e_val P C Y ops o t h n := by
  funext o t h n
  obtain ⟨dst, op, ty, pos, after, g⟩ := o
  unfold k_val e_val
  cases g with
  | none => exact k_op_eq P C Y t h n op
  | some p =>
    obtain ⟨j, w⟩ := p
    simp only [k_valg]
    split
    · rename_i b hb
      rw [hb]
      simp only [k_op_eq]
      cases b == w <;> rfl
    · rename_i l hb
      rw [hb]
    · rename_i h1 h2
      split
      · rename_i b hb; exact absurd hb (h1 b)
      · rename_i l hb; exact absurd hb (h2 l)
      · rfl
abbrev SnR := Option (List Snap × XT × EH × Nat)
abbrev SnF := XT → EH → Nat → SnR
def snap4 (p : Nat × Nat) (o : Oper) (t1 : XT) (h : EH) (n : Nat) (v : XV) (h' : EH) (n' : Nat) (q : List Snap × XT × EH × Nat) : SnR := some (⟨p.1, p.2, o, t1, h, n, v, h', n'⟩ :: q.1, q.2)
def snap3 (V : VF) (ih : SnF) (p : Nat × Nat) (o : Oper) (t t1 : XT) (h : EH) (n : Nat) (r : XV × EH × Nat) : SnR :=
  @Prod.rec XV (EH × Nat) (fun _ => SnR) (fun v q => @Prod.rec EH Nat (fun _ => SnR) (fun h' n' => ob (ih (k_xput t o.dst v) h' n') (snap4 p o t1 h n v h' n')) q) r
def snap2 (V : VF) (ops : Array Oper) (ih : SnF) (p : Nat × Nat) (t : XT) (h : EH) (n : Nat) (o : Oper) : SnR := ob (V o (onlyT t (o.looksAt ops)) h n) (snap3 V ih p o t (onlyT t (o.looksAt ops)) h n)
def snapsG (V : VF) (ops : Array Oper) (l : List (Nat × Nat)) : SnF := @List.rec (Nat × Nat) (fun _ => SnF) (fun t h n => some ([], t, h, n)) (fun p _ ih t h n => ob (opAt ops p.1) (snap2 V ops ih p t h n)) l
def valSameG (V : VF) (P : Program) (s g : Snap) : Bool :=
  bc (pureOp P s.o.op) true (match V s.o s.t g.eh' g.n' with
    | some (v, _, _) => eqXV v s.v
    | none => false)
def dynG (V : VF) (P : Program) (pm : Nat → Nat) : List Snap → Bool
  | [] => true
  | s :: l => (bc (Nat.beq s.k 0) (l.all (fun g => Nat.beq g.k 0 || bitAt (pm g.i) s.i || valSameG V P s g)) true) && dynG V P pm l
def any2 (V : VF) (P : Program) (ops : Array Oper) (r : List Snap × XT × EH × Nat) : Option (XT × EH × Nat) := bc (dynG V P (nthN (pmL ops)) r.1) (some r.2) none
def k_any (V : VF) (P : Program) (ops : Array Oper) (t : XT) (h : EH) (n : Nat) : Option (XT × EH × Nat) :=
  bc (statOk P ops (planX P ops) (nthN (pmL ops))) (ob (snapsG V ops (planX P ops) t h n) (any2 V P ops)) none
section
variable (P : Program) (C : CallF) (Y : YieldF) (ops : Array Oper)
theorem snapsG_eq : ∀ (l : List (Nat × Nat)) (t : XT) (h : EH) (n : Nat), snapsG (fun o t h n => e_val P C Y ops o t h n) ops l t h n = e_snaps P C Y ops l t h n
  | [], t, h, n => rfl
  | p :: l, t, h, n => by
    show ob (opAt ops p.1) (snap2 _ ops (snapsG _ ops l) p t h n) = _
    simp only [e_snaps, ob_eq]
    cases opAt ops p.1 with
    | none => rfl
    | some o =>
      simp only [snap2, ob_eq]
      cases e_val P C Y ops o (onlyT t (o.looksAt ops)) h n with
      | none => rfl
      | some r =>
        obtain ⟨v, h', n'⟩ := r
        simp only [snap3, ob_eq, k_xput_eq, snapsG_eq l]
        cases e_snaps P C Y ops l (xput t o.dst v) h' n' <;> rfl
theorem dynG_eq (pm : Nat → Nat) : ∀ (l : List Snap), dynG (fun o t h n => e_val P C Y ops o t h n) P pm l = dynOk P C Y ops pm l
  | [] => rfl
  | s :: l => by
    have hv : ∀ g, valSameG (fun o t h n => e_val P C Y ops o t h n) P s g = valSame P C Y ops s g := by
      intro g
      unfold valSameG valSame
      cases pureOp P s.o.op <;> rfl
    simp only [dynG, dynOk, dynG_eq pm l, hv]
    cases Nat.beq s.k 0 <;> rfl
theorem k_any_eq (t : XT) (h : EH) (n : Nat) : k_any (k_val P C Y ops) P ops t h n = e_any P C Y ops t h n := by
  unfold k_any e_any
  rw [k_val_eq]
  cases statOk P ops (planX P ops) (nthN (pmL ops))
  · rfl
  · rw [bc_true, cond_true, snapsG_eq, ob_eq]
    cases e_snaps P C Y ops (planX P ops) t h n with
    | none => rfl
    | some r =>
      simp only [any2, dynG_eq]
      cases dynOk P C Y ops (nthN (pmL ops)) r.1 <;> rfl
end

/-! ### Calls and code -/
abbrev RR := Option (XE × XS)
def k_targs (args : List XA) : Nat → XT → XT := @List.rec XA (fun _ => Nat → XT → XT) (fun _ t => t) (fun x _ ih i t => ih (Nat.add i (nat_lit 1)) (XT.set t i (.a x))) args
theorem k_targs_eq : ∀ (args : List XA) (i : Nat) (t : XT), k_targs args i t = targs i args t
  | [], i, t => rfl
  | x :: l, i, t => k_targs_eq l (i + 1) (t.set i (.a x))
def k_exits (P : Program) (rs : List ResultVar) (r : XE × XS) : Res := @Prod.rec XE XS (fun _ => Res) (fun e s => @XE.rec (fun _ => Res) (xret P rs s) (xret P rs s) (fun _ => none) e) r
def k_xbody (P : Program) (run : RunF) (mask : Nat) (fn : Func) (c : Code) (args : List XA) (eh : EH) (n : Nat) : Res :=
  bc (okBody fn c) (bc (Nat.ble args.length fn.ntmps) (ob (run fn.ntmps c ⟨k_targs args 0 (XT.new mask), eh, n, []⟩) (k_exits P fn.results.toList)) none) none
theorem k_xbody_eq (P : Program) (run : RunF) (mask : Nat) (fn : Func) (c : Code) (args : List XA) (eh : EH) (n : Nat) : k_xbody P run mask fn c args eh n = xbody P run mask fn c args eh n := by
  unfold k_xbody xbody
  cases okBody fn c
  · rfl
  · rw [bc_true, Bool.true_and]
    cases Nat.ble args.length fn.ntmps
    · rfl
    · rw [bc_true, cond_true, k_targs_eq, ob_eq]
      cases run fn.ntmps c ⟨targs 0 args (XT.new mask), eh, n, []⟩ with
      | none => rfl
      | some r =>
        obtain ⟨e, s⟩ := r
        cases e <;> rfl
def k_call (P : Program) (S : CallF) (M : Nat → Nat) (run : RunF) : CallF := fun g args eh n =>
  @Option.rec _ (fun _ => Res) (ob (P.funcs[g]?) fun fn => ob fn.body fun c => k_xbody P run (M g) fn c args eh n) some (S g args eh n)
theorem k_call_eq (P : Program) (S : CallF) (M : Nat → Nat) (run : RunF) : k_call P S M run = xcall P S M run := by
  funext g args eh n
  unfold k_call xcall
  cases S g args eh n with
  | some r => rfl
  | none =>
    simp only [ob_eq, k_xbody_eq]
    cases P.funcs[g]? with
    | none => rfl
    | some fn =>
      simp only
      cases fn.body <;> rfl
section
variable (P : Program) (S : CallF) (M : Nat → Nat) (run : RunF) (N : Nat) (s : XS)
def kc_reg2 (ms : List Nat) (r : XT × EH × Nat) : RR := @Prod.rec XT (EH × Nat) (fun _ => RR) (fun t q => @Prod.rec EH Nat (fun _ => RR) (fun h n => some (.normal, ⟨t, h, n, ms⟩)) q) r
def kc_region (id : Nat) (ops : Array Oper) (draw : Bool) : RR :=
  bc (!draw || drawOk P ops) (ob (k_ops P (k_call P S M run) (xyield P run) ops ops.toList s.t.flush s.h s.n) (kc_reg2 s.ms)) (ob (k_any (k_val P (k_call P S M run) (xyield P run) ops) P ops s.t.flush s.h s.n) (kc_reg2 s.ms))
def kc_seq2 (b : Code) (r : XE × XS) : RR := @Prod.rec XE XS (fun _ => RR) (fun e s => @XE.rec (fun _ => RR) (run N b s) (some (.ret, s)) (fun j => some (.exit j, s)) e) r
def kc_seq (a b : Code) (_ _ : RR) : RR := ob (run N a s) (kc_seq2 run N b)
def kc_cond (c : Operand) (x y : Code) (_ _ : RR) : RR := k_b1 s.t c fun v => asBoolX v fun b => run N (bc b x y) s
def kc_block2 (id : Nat) (r : XE × XS) : RR := @Prod.rec XE XS (fun _ => RR) (fun e s => @XE.rec (fun _ => RR) (some (.normal, s)) (some (.ret, s)) (fun j => bc (Nat.beq j id) (some (.normal, s)) (some (.exit j, s))) e) r
def kc_block (id : Nat) (c : Code) (_ : RR) : RR := ob (run N c s) (kc_block2 id)
def kc_loop (c : Code) (_ : RR) : RR := ob (run N c s) (kc_seq2 run N (.loop c))
def kc_range2 (n0 : Nat) (t : XT) (ms : List Nat) (r : XV × EH × Nat) : RR := match r with
  | (_, eh, n) => (match eh.get (n0 + 1) with
            | some (.loop .ready none _ _ _ _ _) => some (.normal, ⟨t.set N .any, eh.set (n0 + 1) .dead, n, n0 :: ms⟩)
            | some (.loop .done (some .ret) _ _ _ _ _) => some (.ret, ⟨t.set N .any, eh.set (n0 + 1) .dead, n, n0 :: ms⟩)
            | some (.loop .done (some (.exit id)) _ _ _ _ _) => some (.exit id, ⟨t.set N .any, eh.set (n0 + 1) .dead, n, n0 :: ms⟩)
            | _ => none)
def kc_rangeFunc (g : Operand) (ps : Array Tmp) (assign body : Code) (_ _ : RR) : RR := match evA s.t g with
      | some (.c (.func (.func fid) ⟨first⟩ ⟨captured⟩)) => bc (hasBody P fid)
          (ob (k_call P S M run fid (first.map .c ++ [.c (.func (.yield (s.n + 1)) #[] #[])] ++ captured.map .c) ((s.h.set s.n .defer).set (s.n + 1) (.loop .ready none s.t N ps assign body)) (s.n + 2)) (kc_range2 N s.n s.t s.ms)) none
      | _ => none
def k_code (c : Code) : RR := @Code.rec (fun _ => RR) (some (.normal, s)) (kc_region P S M run s) (kc_seq run N s) (kc_cond run N s) (kc_block run N s) (kc_loop run N s) (kc_rangeFunc P S M run N s)
  (fun id => some (.exit id, s)) (fun _ _ => none) (fun _ => some (.normal, s)) (fun _ => none) (some (.ret, s)) (fun _ => none) c
end
def kev (P : Program) (S : CallF) (M : Nat → Nat) (f : Nat) : RunF := @Nat.rec (fun _ => RunF) (fun _ _ _ => none) (fun _ run N c s => k_code P S M run N s c) f
theorem kev_eq (P : Program) (S : CallF) (M : Nat → Nat) : ∀ f, kev P S M f = ev P S M f
  | 0 => rfl
  | f + 1 => by
    have ih := kev_eq P S M f
    funext N c s
    show k_code P S M (kev P S M f) N s c = _
    rw [ih]
    cases c <;> try rfl
    · rename_i id ops draw
      simp only [k_code, kc_region, ev, k_call_eq, k_ops_eq, k_any_eq, ob_eq]
      cases (!draw || drawOk P ops)
      · rw [bc_false, cond_false]
        cases e_any P (xcall P S M (ev P S M f)) (xyield P (ev P S M f)) ops s.t.flush s.h s.n <;> rfl
      · rw [bc_true, cond_true]
        cases e_ops P (xcall P S M (ev P S M f)) (xyield P (ev P S M f)) ops ops.toList s.t.flush s.h s.n <;> rfl
    · rename_i a b
      simp only [k_code, kc_seq, ev, ob_eq]
      cases ev P S M f N a s with
      | none => rfl
      | some r => obtain ⟨e, s⟩ := r; cases e <;> rfl
    · rename_i c x y
      simp only [k_code, kc_cond, ev, k_b1_eq, b1]
      cases evA s.t c with
      | none => rfl
      | some v =>
        cases v with
        | agg r => rfl
        | c v => cases v <;> first | rfl | (rename_i b; cases b <;> rfl)
    · rename_i id c
      simp only [k_code, kc_block, ev, ob_eq]
      cases ev P S M f N c s with
      | none => rfl
      | some r =>
        obtain ⟨e, s⟩ := r
        cases e <;> try rfl
        rename_i j
        simp only [kc_block2]
        cases Nat.beq j id <;> rfl
    · rename_i c
      simp only [k_code, kc_loop, ev, ob_eq]
      cases ev P S M f N c s with
      | none => rfl
      | some r => obtain ⟨e, s⟩ := r; cases e <;> rfl
    · rename_i g ps assign body
      simp only [k_code, kc_rangeFunc, ev, k_call_eq, ob_eq]
      split
      · rename_i fid first captured hg
        rw [hg]
        simp only
        cases hasBody P fid
        · rfl
        · rw [bc_true, cond_true]
          split
          · rename_i v hv
            rw [hv]
            rfl
          · rename_i hv
            rw [hv]
      · rename_i hn
        split
        · rename_i fid first captured hg; exact absurd hg (hn fid first captured)
        · rfl
end
end Go.Proofs.YtbmfblmebhobiaaGreat.AM

/-
  A function run by the executor from nothing: its contract.
-/
set_option linter.unusedSimpArgs false
set_option linter.unusedVariables false
namespace Go.Proofs.YtbmfblmebhobiaaGreat.AM
section
variable {P : Program}
def ρ0 : Ren := fun b => if b = 0 then some (0, undefT) else if b = 1 then some (1, undefT) else none
theorem XSim.start (h : H) : XSim h ρ0 2 .nil h where
  z0 := ⟨undefT, rfl⟩
  z1 := ⟨undefT, rfl⟩
  two b b' t hb he := by
    unfold ρ0 at he
    rw [if_neg (by omega), if_neg (by omega)] at he
    cases he
  top b hb := by
    unfold ρ0
    rw [if_neg (by omega), if_neg (by omega)]
  n2 := Nat.le_refl 2
  obj b o hb _ := by rw [Tr.get_nil] at hb; cases hb
  inj b c o o' x t t' hb := by rw [Tr.get_nil] at hb; cases hb
  fr c o hc := hc
  fsep b o x t hb := by rw [Tr.get_nil] at hb; cases hb
/-- The executor's answer is 'true'. -/
def isTrueR : Res → Nat
  | some (.a (.c (.bool true)), _, n) => n
  | some _ => 1
  | none => 0
def okT (r : Res) : Bool := Nat.blt 1 (isTrueR r)
theorem okT_some {r : Res} (h : okT r = true) : ∃ eh n, r = some (.a (.c (.bool true)), eh, n) := by
  unfold okT isTrueR at h
  split at h
  · exact ⟨_, _, rfl⟩
  · cases h
  · cases h
noncomputable def runE (P : Program) (S : CallF) (M : Nat → Nat) (fuel f : Nat) : Res := k_call P S M (kev P S M fuel) f [] .nil 2
/-- A function that the executor finds true, at arguments without addresses. -/
noncomputable def runEA (P : Program) (S : CallF) (M : Nat → Nat) (fuel f : Nat) (args : List XA) : Res := k_call P S M (kev P S M fuel) f args .nil 2
theorem spec_trueA (hm : P.follows .mixedOrders = true) {S : CallF} {M : Nat → Nat} (hS : CallOk P S) {fuel f : Nat} {args : List XA} {args' : List Value} (he : okT (runEA P S M fuel f args) = true) (ha : All2 (RA ρ0) args args') (h : H) : Spec P f args' h fun v h' => v = .bool true ∧ Sub h h' := by
  obtain ⟨eh, n, hr⟩ := okT_some he
  unfold runEA at hr
  rw [kev_eq, k_call_eq] at hr
  refine (xcall_ok hm hS (ev_ok hm hS fuel) f args .nil 2 _ hr h ρ0 h args' (XSim.start h) ha).mono ?_
  rintro v h' ⟨ρ', _, hs, hv⟩
  refine ⟨?_, fun b o hb => hs.fr b o hb⟩
  cases hv with | a hv => exact hv.toC.self_eq rfl
/-- A function without arguments that the executor finds true. -/
theorem spec_true (hm : P.follows .mixedOrders = true) {S : CallF} {M : Nat → Nat} (hS : CallOk P S) {fuel f : Nat} (he : okT (runE P S M fuel f) = true) (h : H) : Spec P f [] h fun v h' => v = .bool true ∧ Sub h h' := by
  obtain ⟨eh, n, hr⟩ := okT_some he
  unfold runE at hr
  rw [kev_eq, k_call_eq] at hr
  refine (xcall_ok hm hS (ev_ok hm hS fuel) f [] .nil 2 _ hr h ρ0 h [] (XSim.start h) .nil).mono ?_
  rintro v h' ⟨ρ', _, hs, hv⟩
  refine ⟨?_, fun b o hb => hs.fr b o hb⟩
  cases hv with | a hv => exact hv.toC.self_eq rfl
end
end Go.Proofs.YtbmfblmebhobiaaGreat.AM

