/-
  The executor's operations put together: an operation of a region, calls by what is known of callees.
-/
import Derived.Test.YtjdhldfeflmneaaGreatX3
set_option linter.unusedSimpArgs false
set_option linter.unusedVariables false
namespace Go.Proofs.YtjdhldfeflmneaaGreat.AM
noncomputable section

def evO (t : XT) : Operand → Option XV
  | .tmp i => t.get i
  | .const (.int k n) => some (.a (.c (.int k n)))
  | .const v => bif selfV v then some (XV.ofV v) else none
  | .func f => some (.a (.c (.func (.func f) #[] #[])))
  | .global _ => none
def evA (t : XT) (x : Operand) : Option XA :=
  match evO t x with
  | some (.a x) => some x
  | _ => none
def evAs (t : XT) : List Operand → Option (List XA)
  | [] => some []
  | x :: l => match evA t x with
    | some v => (match evAs t l with | some r => some (v :: r) | none => none)
    | none => none
def evP (t : XT) : List (Nat × Operand) → Option (List (Nat × XA))
  | [] => some []
  | p :: l => match evA t p.2 with
    | some v => (match evP t l with | some r => some ((p.1, v) :: r) | none => none)
    | none => none
/-- An operand that may be missing: none: it is not known. -/
def evOpt (t : XT) : Option Operand → Option (Option XA)
  | none => some none
  | some x => match evA t x with
    | some v => some (some v)
    | none => none

section
variable {P : Program} {F : H} {ρ : Ren} {n : Nat} {eh : EH} {h : H}
theorem evO_ok {t : XT} {T : T} (ht : TR ρ t T) : ∀ {x : Operand} {v : XV}, evO t x = some v → RV ρ v (aev T x) := by
  intro x v he
  unfold evO at he
  split at he
  · exact ht _ _ he
  · cases he; exact .a (.c (.of_self rfl))
  · rename_i u _
    cases hs : selfV u
    · rw [hs] at he; cases he
    · rw [hs] at he; cases he; exact RV.ofV hs
  · cases he; exact .a (.c (.func _ .nil .nil))
  · cases he
theorem evA_ok {t : XT} {T : T} (ht : TR ρ t T) {x : Operand} {v : XA} (he : evA t x = some v) : RA ρ v (aev T x) := by
  unfold evA at he
  split at he
  · rename_i u hu
    cases he
    have := evO_ok ht hu
    cases this; assumption
  · cases he
theorem evAs_ok {t : XT} {T : T} (ht : TR ρ t T) : ∀ {l : List Operand} {r : List XA}, evAs t l = some r → All2 (RA ρ) r (l.map (aev T))
  | [], r, he => by cases he; exact .nil
  | x :: l, r, he => by
    simp only [evAs] at he
    split at he
    · rename_i v hv
      split at he
      · rename_i r' hr
        cases he
        exact .cons (evA_ok ht hv) (evAs_ok ht hr)
      · cases he
    · cases he
theorem evP_ok {t : XT} {T : T} (ht : TR ρ t T) : ∀ {l : List (Nat × Operand)} {r : List (Nat × XA)}, evP t l = some r → All2 (fun a b => b.1 = a.1 ∧ RA ρ a.2 b.2) r (l.map fun p => (p.1, aev T p.2))
  | [], r, he => by cases he; exact .nil
  | x :: l, r, he => by
    simp only [evP] at he
    split at he
    · rename_i v hv
      split at he
      · rename_i r' hr
        cases he
        exact .cons ⟨rfl, evA_ok ht hv⟩ (evP_ok ht hr)
      · cases he
    · cases he
theorem evOpt_ok {t : XT} {T : T} (ht : TR ρ t T) {x : Option Operand} {r : Option XA} (he : evOpt t x = some r) : ROpt ρ r (x.map (aev T)) := by
  unfold evOpt at he
  split at he
  · cases he; exact .none
  · split at he
    · rename_i v hv
      cases he; exact .some (evA_ok ht hv)
    · cases he

abbrev CallF := FuncId → List XA → EH → Nat → Res
abbrev YieldF := Nat → List XA → EH → Nat → Res
def CPost (F : H) (ρ : Ren) (r : XV × EH × Nat) : Value → H → Prop := fun v' h' => ∃ ρ', ρ.le ρ' ∧ XSim F ρ' r.2.2 r.2.1 h' ∧ RV ρ' r.1 v'
def CallOk (P : Program) (C : CallF) : Prop := ∀ f args eh n r, C f args eh n = some r → ∀ F ρ h args', XSim F ρ n eh h → All2 (RA ρ) args args' → Spec P f args' h (CPost F ρ r)
def YieldOk (P : Program) (Y : YieldF) : Prop := ∀ b args eh n r, Y b args eh n = some r → ∀ F ρ h args' b' t, XSim F ρ n eh h → ρ b = some (b', t) → All2 (RA ρ) args args' → YSpec P b' args' h (CPost F ρ r)
theorem CPost.good {r : XV × EH × Nat} {K : Value → H → Prop} (hk : Good F ρ r K) : ∀ v h, CPost F ρ r v h → K v h := fun v h ⟨ρ', h1, h2, h3⟩ => hk ρ' v h h1 h2 h3
theorem all_box {l : List XA} {m : List Value} (h : All2 (RA ρ) l m) : m.all boxV = true := by
  induction h with
  | nil => rfl
  | cons h _ ih => simp only [List.all_cons, h.boxV, ih, Bool.and_self]
theorem rs_ra {l m : List Value} (h : All2 (RS ρ) l m) : All2 (RA ρ) (l.map .c) m := by
  induction h with
  | nil => exact .nil
  | cons h _ ih => exact .cons (.c (.s h)) ih

def rV (x : Option XV) (eh : EH) (n : Nat) : Res := match x with | some v => some (v, eh, n) | none => none
def uX : XV := .tup []
def rH (x : Option EH) (n : Nat) : Res := match x with | some eh => some (uX, eh, n) | none => none
theorem undef_rv : RV ρ uX undef := .tup .nil
theorem rV_ok {x : Option XV} {r : XV × EH × Nat} (he : rV x eh n = some r) : ∃ v, x = some v ∧ r = (v, eh, n) := by
  unfold rV at he
  cases x with
  | none => cases he
  | some v => cases he; exact ⟨v, rfl, rfl⟩
theorem rH_ok {x : Option EH} {r : XV × EH × Nat} (he : rH x n = some r) : ∃ e, x = some e ∧ r = (uX, e, n) := by
  unfold rH at he
  cases x with
  | none => cases he
  | some v => cases he; exact ⟨v, rfl, rfl⟩
def b1 {α : Type} (t : XT) (x : Operand) (f : XA → Option α) : Option α := match evA t x with | some v => f v | none => none
def b2 {α : Type} (t : XT) (x y : Operand) (f : XA → XA → Option α) : Option α := match evA t x with | some v => (match evA t y with | some w => f v w | none => none) | none => none
theorem b1_ok {α : Type} {t : XT} {x : Operand} {f : XA → Option α} {r : α} (he : b1 t x f = some r) : ∃ v, evA t x = some v ∧ f v = some r := by
  unfold b1 at he
  split at he
  · exact ⟨_, by assumption, he⟩
  · cases he
theorem b2_ok {α : Type} {t : XT} {x y : Operand} {f : XA → XA → Option α} {r : α} (he : b2 t x y f = some r) : ∃ v w, evA t x = some v ∧ evA t y = some w ∧ f v w = some r := by
  unfold b2 at he
  split at he
  · split at he
    · exact ⟨_, _, by assumption, by assumption, he⟩
    · cases he
  · cases he
def e_dyn (P : Program) (C : CallF) (Y : YieldF) (f : XA) (args : List XA) (eh : EH) (n : Nat) : Res :=
  match f with
  | .c (.func (.func f) ⟨first⟩ ⟨captured⟩) => bif hasBody P f then C f (first.map .c ++ args ++ captured.map .c) eh n else none
  | .c (.func (.yield r) ⟨[]⟩ ⟨[]⟩) => Y r args eh n
  | _ => none
def e_builtin (P : Program) (b : Builtin) (args : List Operand) (tys : List TypeId) (t : XT) (eh : EH) (n : Nat) : Res :=
  match b, args, tys with
  | .len, [x], [ty] => (match P.underlying ty with
    | some .string => rV (b1 t x e_lenStr) eh n
    | some (.slice _) => rV (b1 t x e_lenSl) eh n
    | some (.map _ _) => rV (b1 t x fun x => e_lenMap x eh) eh n
    | some (.array m _) => some (.a (.c (.int .i64 (.ofNat m))), eh, n)
    | _ => none)
  | .append, [s, x], [ty, u] => (match P.underlying ty, P.underlying u with
    | some (.slice e), some (.slice _) | some (.slice e), some .string => (match P.info? e, zeroX P e with
      | some i, some z => bif Nat.beq z.cellsR.size i.size then b2 t s x fun s x => e_append e i.size i.bytes s x eh n else none
      | _, _ => none)
    | _, _ => none)
  | .copy, [d, x], [ty, _] => (match P.underlying ty with
    | some (.slice e) => (match P.info? e with | some i => b2 t d x fun d x => e_copy i.size d x eh n | none => none)
    | _ => none)
  | .delete, [m, k], [ty, _] => (match P.underlying ty with
    | some (.map kt _) => (match kkOf P kt with | some kk => rH (b2 t m k fun m k => e_delete kk m k eh) n | none => none)
    | _ => none)
  | .min, [x, y], _ => rV (b2 t x y (e_minmax P Builtin.min2)) eh n
  | .max, [x, y], _ => rV (b2 t x y (e_minmax P Builtin.max2)) eh n
  | _, _, _ => none
def e_call (P : Program) (C : CallF) (Y : YieldF) (c : Call) (t : XT) (eh : EH) (n : Nat) : Res :=
  match c.callee with
  | .value (.func f) => bif hasBody P f then (match evAs t c.args.toList with | some l => C f l eh n | none => none) else none
  | .value (.tmp i) => b1 t (.tmp i) fun f => (match evAs t c.args.toList with | some l => e_dyn P C Y f l eh n | none => none)
  | .builtin b => e_builtin P b c.args.toList c.argTypes.toList t eh n
  | _ => none
theorem e_dyn_ok {C : CallF} {Y : YieldF} (hC : CallOk P C) (hY : YieldOk P Y) {f : XA} {args : List XA} {f' : Value} {args' : List Value} {r : XV × EH × Nat} {K : Value → H → Prop} (hs : XSim F ρ n eh h) (hf : RA ρ f f') (ha : All2 (RA ρ) args args')
    (he : e_dyn P C Y f args eh n = some r) (hk : Good F ρ r K) : o_dyn P f' args' h K := by
  unfold e_dyn at he
  refine ⟨all_box ha, ?_⟩
  split at he
  · rename_i f first captured
    cases hb : hasBody P f
    · rw [hb] at he; cases he
    · rw [hb, cond_true] at he
      have key : ∀ xs ys, All2 (RS ρ) first xs → All2 (RS ρ) captured ys → Spec P f (xs ++ args' ++ ys) h K := fun xs ys h1 h2 =>
        (hC _ _ _ _ _ he F ρ h _ hs (((rs_ra h1).append ha).append (rs_ra h2))).mono (CPost.good hk)
      have hc := hf.toC
      cases hc with
      | s hc => cases hc with
        | self hself =>
          simp [selfC] at hself
          obtain ⟨rfl, rfl⟩ := hself
          exact ⟨hb, key [] [] .nil .nil⟩
      | func _ h1 h2 => exact ⟨hb, key _ _ h1 h2⟩
  · rename_i b
    have hc := hf.toC
    cases hc with
    | s hc => cases hc with | self hself => simp [selfC] at hself
    | yield hb =>
      refine ⟨rfl, rfl, ?_⟩
      exact (hY _ _ _ _ _ he F ρ h _ _ _ hs hb ha).mono (CPost.good hk)
  · cases he
theorem e_call_ok {C : CallF} {Y : YieldF} (hC : CallOk P C) (hY : YieldOk P Y) {c : Call} {t : XT} {T : T} {r : XV × EH × Nat} {K : Value → H → Prop} (hs : XSim F ρ n eh h) (ht : TR ρ t T)
    (he : e_call P C Y c t eh n = some r) (hk : Good F ρ r K) : aCall P c (aev T) h K := by
  have hv : ∀ {x : XV}, r = (x, eh, n) → ∀ u, RV ρ x u → K u h := by
    intro x hr u hu
    subst hr
    exact hk.here hs hu
  unfold e_call at he
  unfold aCall
  split at he
  · rename_i f hcal
    rw [hcal]
    cases hb : hasBody P f
    · rw [hb] at he; cases he
    · rw [hb, cond_true] at he
      split at he
      · rename_i l hl
        have ha := evAs_ok ht hl
        show (bif hasBody P f then o_call P f (c.args.toList.map (aev T)) h K else False)
        rw [hb, cond_true]
        exact ⟨all_box ha, (hC _ _ _ _ _ he F ρ h _ hs ha).mono (CPost.good hk)⟩
      · cases he
  · rename_i i hcal
    rw [hcal]
    obtain ⟨f, h1, h2⟩ := b1_ok he
    split at h2
    · rename_i l hl
      exact e_dyn_ok hC hY hs (evA_ok ht h1) (evAs_ok ht hl) h2 hk
    · cases h2
  rotate_left
  · cases he
  rename_i b hcal
  rw [hcal]
  unfold e_builtin at he
  split at he
  · rename_i x ty hargs htys
    rw [hargs, htys]
    simp only
    split at he <;> rename_i hu
    · obtain ⟨v, h1, hr⟩ := rV_ok he
      obtain ⟨a, h2, h3⟩ := b1_ok h1
      simp only [hu]; exact e_lenStr_ok (evA_ok ht h2) h3 (hv hr)
    · obtain ⟨v, h1, hr⟩ := rV_ok he
      obtain ⟨a, h2, h3⟩ := b1_ok h1
      simp only [hu]; exact e_lenSl_ok (evA_ok ht h2) h3 (hv hr)
    · obtain ⟨v, h1, hr⟩ := rV_ok he
      obtain ⟨a, h2, h3⟩ := b1_ok h1
      simp only [hu]; exact e_lenMap_ok hs (evA_ok ht h2) h3 (hv hr)
    · simp only [hu]
      cases he
      exact hv rfl _ (.a (.c (.of_self rfl)))
    · cases he
  · rename_i s x ty u hargs htys
    rw [hargs, htys]
    simp only
    have fin : ∀ e, (match P.info? e, zeroX P e with
        | some i, some z => bif Nat.beq z.cellsR.size i.size then b2 t s x fun s x => e_append e i.size i.bytes s x eh n else none
        | _, _ => none) = some r → (match P.info? e, zeroOf P e with
        | some i, some z => bif z.cells.size == i.size then o_append e i.size i.bytes (aev T s) (aev T x) h K else False
        | _, _ => False) := by
      intro e he
      split at he
      · rename_i i z hi hz
        obtain ⟨z', h1, h2⟩ := zeroX_ok (ρ := ρ) hz
        cases hb : Nat.beq z.cellsR.size i.size
        · rw [hb] at he; cases he
        · rw [hb, cond_true] at he
          have hb := Nat.eq_of_beq_eq_true hb
          obtain ⟨a, b, g1, g2, g3⟩ := b2_ok he
          have hl := h2.cells.length
          rw [R.size_eq] at hb
          simp only [hi, h1]
          have : (z'.cells.size == i.size) = true := by simp only [Array.length_toList] at hl; rw [beq_iff_eq]; omega
          rw [this, cond_true]
          exact e_append_ok hs (evA_ok ht g1) (evA_ok ht g2) g3 hk
      · cases he
    split at he
    · rename_i e _ h1 h2; simp only [h1, h2]; exact fin e he
    · rename_i e h1 h2; simp only [h1, h2]; exact fin e he
    · cases he
  · rename_i d x ty u hargs htys
    rw [hargs, htys]
    simp only
    split at he
    · rename_i e hu
      split at he
      · rename_i i hi
        obtain ⟨a, b, g1, g2, g3⟩ := b2_ok he
        simp only [hu, hi]
        exact e_copy_ok hs (evA_ok ht g1) (evA_ok ht g2) g3 hk
      · cases he
    · cases he
  · rename_i m k ty u hargs htys
    rw [hargs, htys]
    simp only
    split at he
    · rename_i kt _ hu
      split at he
      · rename_i kk hkk
        obtain ⟨e, h1, rfl⟩ := rH_ok he
        obtain ⟨a, b, g1, g2, g3⟩ := b2_ok h1
        simp only [hu, hkk]
        exact e_delete_ok hs (evA_ok ht g1) (evA_ok ht g2) g3 fun h' hs' => hk _ _ _ (Ren.le_refl ρ) hs' undef_rv
      · cases he
    · cases he
  · rename_i x y hargs
    rw [hargs]
    simp only
    obtain ⟨v, h1, hr⟩ := rV_ok he
    obtain ⟨a, b, g1, g2, g3⟩ := b2_ok h1
    exact e_minmax_ok (evA_ok ht g1) (evA_ok ht g2) g3 (hv hr)
  · rename_i x y hargs
    rw [hargs]
    simp only
    obtain ⟨v, h1, hr⟩ := rV_ok he
    obtain ⟨a, b, g1, g2, g3⟩ := b2_ok h1
    exact e_minmax_ok (evA_ok ht g1) (evA_ok ht g2) g3 (hv hr)
  · cases he

def e_op (P : Program) (C : CallF) (Y : YieldF) (op : Op) (t : XT) (eh : EH) (n : Nat) : Res :=
  match op with
  | .move x | .assign x => rV (evO t x) eh n
  | .pick c a b => (match evA t c with
    | some (.c (.bool q)) => rV (evO t (bif q then a else b)) eh n
    | _ => none)
  | .alloc E => e_alloc P E eh n
  | .box E x => b1 t x fun x => e_box E x eh n
  | .build ty ps => (match evP t ps.toList with | some l => rV (e_build P ty l) eh n | none => none)
  | .buildSlice ty m ps => (match evP t ps.toList with | some l => e_buildSlice P ty m l eh n | none => none)
  | .load ty a => (match tySize P ty with | some (ag, k) => rV (b1 t a fun a => e_load ag k a eh) eh n | none => none)
  | .store ty a x => (match tySize P ty with | some (_, k) => rH (b2 t a x fun a x => e_store k a x eh) n | none => none)
  | .nilCheck x => rV (b1 t x e_nilCheck) eh n
  | .binOp op xt x y _ => rV (b2 t x y fun x y => e_bin P op xt x y) eh n
  | .unOp op _ x => rV (b1 t x (e_un P op)) eh n
  | .convert src dst x => (match P.underlying dst, P.underlying src with
    | some (.int k), some (.int _) => rV (b1 t x (e_conv k)) eh n
    | some .string, some .string => rV (b1 t x e_convStr) eh n
    | some .string, some (.slice e) => (match P.underlying e with | some (.int .u8) => rV (b1 t x fun x => e_bytesToString x eh) eh n | _ => none)
    | some (.slice e), some .string => (match P.underlying e, P.info? e with | some (.int .u8), some i => bif Nat.beq i.size 1 then b1 t x fun x => e_stringToBytes e x eh n else none | _, _ => none)
    | some (.slice e), some (.slice _) => (match P.underlying e with | some (.int .u8) => bif Nat.beq src dst then rV (b1 t x fun x => e_mark x eh) eh n else none | _ => none)
    | _, _ => none)
  | .makeInterface ty x => rV (b1 t x (e_makeInterface P ty)) eh n
  | .makeFunc f first captured => (match evAs t first.toList, evAs t captured.toList with
    | some a, some c => rV (e_makeFunc f a c) eh n
    | _, _ => none)
  | .makeMap ty r => (match evOpt t r with | some r => e_makeMap P ty r eh n | none => none)
  | .makeSlice ty l c => (match P.underlying ty with
    | some (.slice e) => b2 t l c fun l c => e_makeSlice P e l c eh n
    | _ => none)
  | .slice ty x lo hi mx => (match evOpt t lo, evOpt t hi, evOpt t mx with
    | some lo, some hi, some mx => (match P.underlying ty with
      | some (.array m e) => (match mx, P.info? e with | none, some i => rV (b1 t x fun x => e_sliceArr m i.size x lo hi eh) eh n | _, _ => none)
      | some (.slice e) => (match P.info? e with | some i => rV (b1 t x fun x => e_slice i.size x lo hi mx) eh n | none => none)
      | some .string => (match mx with | none => rV (b1 t x fun x => e_sliceStr x lo hi) eh n | some _ => none)
      | _ => none)
    | _, _, _ => none)
  | .fieldAddr s x f => (match fieldOff P s f with
    | some (off, ft) => bif Nat.beq (szOf P ft) 0 then none else rV (b1 t x (e_fieldAddr off)) eh n
    | none => none)
  | .field s x f => (match fieldOff P s f with
    | some (off, ft) => (match tySize P ft with | some (ag, k) => rV (b1 t x (e_field ag k off)) eh n | none => none)
    | none => none)
  | .indexAddr ty x i => (match P.underlying ty with
    | some (.array m e) => (match P.info? e with | some inf => rV (b2 t x i fun x i => e_indexAddr (some m) inf.size x i) eh n | none => none)
    | some (.slice e) => (match P.info? e with | some inf => rV (b2 t x i fun x i => e_indexAddr none inf.size x i) eh n | none => none)
    | _ => none)
  | .index ty x i => (match P.underlying ty with
    | some (.array m e) => (match tySize P e with | some (ag, sz) => rV (b2 t x i fun x i => e_index false m ag sz x i) eh n | none => none)
    | some .string => rV (b2 t x i fun x i => e_index true 0 false 0 x i) eh n
    | _ => none)
  | .lookup ty x k ok => (match P.underlying ty with
    | some (.map kt e) => (match zeroX P e, kkOf P kt with | some z, some kk => rV (b2 t x k fun x k => e_lookup kk z x k ok eh) eh n | _, _ => none)
    | _ => none)
  | .mapUpdate ty m k x | .insert ty m k x => (match P.underlying ty with
    | some (.map kt _) => (match kkOf P kt with | some kk => rH (b1 t x fun x => b2 t m k fun m k => e_mapUpdate kk m k x eh) n | none => none)
    | _ => none)
  | .range ty x => (match P.underlying ty with
    | some (.map _ _) => b1 t x fun x => e_range x eh n
    | _ => none)
  | .next it false => b1 t it fun it => e_next it eh n
  | .entry it => rV (b1 t it fun it => e_entry it eh) eh n
  | .extract x i => (match evO t x with | some v => rV (e_extract v i) eh n | none => none)
  | .call c => e_call P C Y c t eh n
  | _ => none

set_option maxHeartbeats 1000000 in
theorem e_op_ok {C : CallF} {Y : YieldF} (hC : CallOk P C) (hY : YieldOk P Y) {op : Op} {t : XT} {T : T} {r : XV × EH × Nat} {K : Value → H → Prop} (hs : XSim F ρ n eh h) (ht : TR ρ t T)
    (he : e_op P C Y op t eh n = some r) (hk : Good F ρ r K) : aop P op (aev T) h K := by
  have hv : ∀ {x : XV}, r = (x, eh, n) → ∀ u, RV ρ x u → K u h := by
    intro x hr u hu
    subst hr
    exact hk.here hs hu
  have hh : ∀ {e : EH}, r = (uX, e, n) → ∀ h', XSim F ρ n e h' → K undef h' := by
    intro e hr h' hs'
    subst hr
    exact hk _ _ _ (Ren.le_refl ρ) hs' undef_rv
  unfold e_op at he
  unfold aop
  split at he
  · obtain ⟨v, h1, hr⟩ := rV_ok he; exact hv hr _ (evO_ok ht h1)
  · obtain ⟨v, h1, hr⟩ := rV_ok he; exact hv hr _ (evO_ok ht h1)
  · rename_i c a b
    split at he
    · rename_i q hq
      obtain ⟨v, h1, hr⟩ := rV_ok he
      have h2 := (evA_ok ht hq).toC.self_eq rfl
      show o_pick (aev T c) (aev T a) (aev T b) fun v => K v h
      rw [h2, pick_bool]
      cases q
      · exact hv hr _ (evO_ok ht h1)
      · exact hv hr _ (evO_ok ht h1)
    · cases he
  · exact e_alloc_ok hs he hk
  · obtain ⟨a, h1, h2⟩ := b1_ok he; exact e_box_ok hs (evA_ok ht h1) h2 hk
  · split at he
    · rename_i l hl
      obtain ⟨v, h1, hr⟩ := rV_ok he
      exact e_build_ok (evP_ok ht hl) h1 (hv hr)
    · cases he
  · split at he
    · rename_i l hl
      exact e_buildSlice_ok hs (evP_ok ht hl) he hk
    · cases he
  · split at he
    · rename_i ag k hty
      obtain ⟨v, h1, hr⟩ := rV_ok he
      obtain ⟨a, h2, h3⟩ := b1_ok h1
      simp only [hty]; exact e_load_ok hs (evA_ok ht h2) h3 (hv hr)
    · cases he
  · split at he
    · rename_i ag k hty
      obtain ⟨v, h1, hr⟩ := rH_ok he
      obtain ⟨a, b, h2, h3, h4⟩ := b2_ok h1
      simp only [hty]; exact e_store_ok hs (evA_ok ht h2) (evA_ok ht h3) h4 (hh hr)
    · cases he
  · obtain ⟨v, h1, hr⟩ := rV_ok he
    obtain ⟨a, h2, h3⟩ := b1_ok h1
    exact e_nilCheck_ok (evA_ok ht h2) h3 (hv hr)
  · obtain ⟨v, h1, hr⟩ := rV_ok he
    obtain ⟨a, b, h2, h3, h4⟩ := b2_ok h1
    exact e_bin_ok (evA_ok ht h2) (evA_ok ht h3) h4 (hv hr)
  · obtain ⟨v, h1, hr⟩ := rV_ok he
    obtain ⟨a, h2, h3⟩ := b1_ok h1
    exact e_un_ok (evA_ok ht h2) h3 (hv hr)
  · split at he
    · rename_i hd hsr
      obtain ⟨v, h1, hr⟩ := rV_ok he
      obtain ⟨a, h2, h3⟩ := b1_ok h1
      simp only [hd, hsr]; exact e_conv_ok (evA_ok ht h2) h3 (hv hr)
    · rename_i hd hsr
      obtain ⟨v, h1, hr⟩ := rV_ok he
      obtain ⟨a, h2, h3⟩ := b1_ok h1
      simp only [hd, hsr]; exact e_convStr_ok (evA_ok ht h2) h3 (hv hr)
    · rename_i hd hsr
      split at he
      · rename_i hu
        obtain ⟨v, h1, hr⟩ := rV_ok he
        obtain ⟨a, h2, h3⟩ := b1_ok h1
        simp only [hd, hsr, hu]; exact e_bytesToString_ok hs (evA_ok ht h2) h3 (hv hr)
      · cases he
    · rename_i hd hsr
      split at he
      · rename_i i hu hi
        cases hb : Nat.beq i.size 1
        · rw [hb] at he; cases he
        · rw [hb, cond_true] at he
          obtain ⟨a, h2, h3⟩ := b1_ok he
          simp only [hd, hsr, hu, hi, hb, cond_true]; exact e_stringToBytes_ok hs (evA_ok ht h2) h3 hk
      · cases he
    · rename_i hd hsr
      split at he
      · rename_i hu
        cases hb : Nat.beq _ _
        · rw [hb] at he; cases he
        · rw [hb, cond_true] at he
          obtain ⟨v, h1, hr⟩ := rV_ok he
          obtain ⟨a, h2, h3⟩ := b1_ok h1
          simp only [hd, hsr, hu, hb, cond_true]; exact e_mark_ok hs (evA_ok ht h2) h3 (hv hr)
      · cases he
    · cases he
  · rename_i ty x
    obtain ⟨v, h1, hr⟩ := rV_ok he
    obtain ⟨a, h2, h3⟩ := b1_ok h1
    have ha := evA_ok ht h2
    simp only
    cases hu : P.underlying ty with
    | none => simp only [e_makeInterface, hu] at h3; cases h3
    | some d =>
      cases a with
      | agg q => simp only [e_makeInterface, hu] at h3; cases d <;> cases h3
      | c a =>
        cases hp : plainC a
        · simp only [e_makeInterface, hu] at h3; cases d <;> simp [hp] at h3
        · simp only [e_makeInterface, hu] at h3
          obtain ⟨g1, g2⟩ := plainC_rs ha.toC hp
          cases d <;> simp [hp] at h3 <;> exact ⟨g2, hv hr _ (h3 ▸ .a (.c (.iface _ g1)))⟩
  · rename_i f first captured
    split at he
    · rename_i a c ha hc
      obtain ⟨v, h1, hr⟩ := rV_ok he
      cases f <;> simp only [e_makeFunc] at h1 <;> try (cases h1; done)
      split at h1
      · rename_i p q hp hq
        cases h1
        obtain ⟨g1, g2⟩ := plainXs_ok (evAs_ok ht ha) hp
        obtain ⟨g3, g4⟩ := plainXs_ok (evAs_ok ht hc) hq
        refine ⟨g1, g3, hv hr _ (.a (.c (.func _ ?_ ?_)))⟩
        · simpa using g2
        · simpa using g4
      · cases h1
    · cases he
  · split at he
    · rename_i r' hr
      exact e_makeMap_ok hs (evOpt_ok ht hr) he hk
    · cases he
  · split at he
    · rename_i e hu
      obtain ⟨a, b, h2, h3, h4⟩ := b2_ok he
      simp only [hu]; exact e_makeSlice_ok hs (evA_ok ht h2) (evA_ok ht h3) h4 hk
    · cases he
  · rename_i ty x lo hi mx
    split at he
    · rename_i lo' hi' mx' hlo hhi hmx
      split at he
      · rename_i m e hu
        split at he
        · rename_i i hi2
          obtain ⟨v, h1, hr⟩ := rV_ok he
          obtain ⟨a, h2, h3⟩ := b1_ok h1
          have hm := evOpt_ok ht hmx
          simp only [hu]
          cases mx with
          | some mx => cases hm
          | none =>
          simp only [hi2]
          exact e_sliceArr_ok hs (evA_ok ht h2) (evOpt_ok ht hlo) (evOpt_ok ht hhi) h3 (hv hr)
        · cases he
      · rename_i e hu
        split at he
        · rename_i i hi2
          obtain ⟨v, h1, hr⟩ := rV_ok he
          obtain ⟨a, h2, h3⟩ := b1_ok h1
          simp only [hu, hi2]
          exact e_slice_ok hs (evA_ok ht h2) (evOpt_ok ht hlo) (evOpt_ok ht hhi) (evOpt_ok ht hmx) h3 (hv hr)
        · cases he
      · rename_i hu
        split at he
        · obtain ⟨v, h1, hr⟩ := rV_ok he
          obtain ⟨a, h2, h3⟩ := b1_ok h1
          have hm := evOpt_ok ht hmx
          simp only [hu]
          cases mx with
          | some mx => cases hm
          | none =>
          exact e_sliceStr_ok (evA_ok ht h2) (evOpt_ok ht hlo) (evOpt_ok ht hhi) h3 (hv hr)
        · cases he
      · cases he
    · cases he
  · split at he
    · rename_i off ft hf
      cases hb : Nat.beq (szOf P ft) 0
      · rw [hb, cond_false] at he
        obtain ⟨v, h1, hr⟩ := rV_ok he
        obtain ⟨a, h2, h3⟩ := b1_ok h1
        simp only [hf, hb, cond_false]; exact e_fieldAddr_ok (evA_ok ht h2) h3 (hv hr)
      · rw [hb] at he; cases he
    · cases he
  · split at he
    · rename_i off ft hf
      split at he
      · rename_i ag k hty
        obtain ⟨v, h1, hr⟩ := rV_ok he
        obtain ⟨a, h2, h3⟩ := b1_ok h1
        simp only [hf, hty]; exact e_field_ok (evA_ok ht h2) h3 (hv hr)
      · cases he
    · cases he
  · split at he
    · rename_i m e hu
      split at he
      · rename_i i hi
        obtain ⟨v, h1, hr⟩ := rV_ok he
        obtain ⟨a, b, h2, h3, h4⟩ := b2_ok h1
        simp only [hu, hi]; exact e_indexAddr_ok (evA_ok ht h2) (evA_ok ht h3) h4 (hv hr)
      · cases he
    · rename_i e hu
      split at he
      · rename_i i hi
        obtain ⟨v, h1, hr⟩ := rV_ok he
        obtain ⟨a, b, h2, h3, h4⟩ := b2_ok h1
        simp only [hu, hi]; exact e_indexAddr_ok (evA_ok ht h2) (evA_ok ht h3) h4 (hv hr)
      · cases he
    · cases he
  · split at he
    · rename_i m e hu
      split at he
      · rename_i ag sz hty
        obtain ⟨v, h1, hr⟩ := rV_ok he
        obtain ⟨a, b, h2, h3, h4⟩ := b2_ok h1
        simp only [hu, hty]; exact e_index_ok (evA_ok ht h2) (evA_ok ht h3) h4 (hv hr)
      · cases he
    · rename_i hu
      obtain ⟨v, h1, hr⟩ := rV_ok he
      obtain ⟨a, b, h2, h3, h4⟩ := b2_ok h1
      simp only [hu]; exact e_index_ok (evA_ok ht h2) (evA_ok ht h3) h4 (hv hr)
    · cases he
  · split at he
    · rename_i kt e hu
      split at he
      · rename_i z kk hz hkk
        obtain ⟨v, h1, hr⟩ := rV_ok he
        obtain ⟨a, b, h2, h3, h4⟩ := b2_ok h1
        obtain ⟨z', g1, g2⟩ := zeroX_ok (ρ := ρ) hz
        simp only [hu, hkk, g1]; exact e_lookup_ok hs g2 (evA_ok ht h2) (evA_ok ht h3) h4 (hv hr)
      · cases he
    · cases he
  · split at he
    · rename_i kt e hu
      split at he
      · rename_i kk hkk
        obtain ⟨v, h1, hr⟩ := rH_ok he
        obtain ⟨a, h2, h3⟩ := b1_ok h1
        obtain ⟨c, d, h4, h5, h6⟩ := b2_ok h3
        simp only [hu, hkk]; exact e_mapUpdate_ok hs (evA_ok ht h4) (evA_ok ht h5) (evA_ok ht h2) h6 (hh hr)
      · cases he
    · cases he
  · split at he
    · rename_i kt e hu
      split at he
      · rename_i kk hkk
        obtain ⟨v, h1, hr⟩ := rH_ok he
        obtain ⟨a, h2, h3⟩ := b1_ok h1
        obtain ⟨c, d, h4, h5, h6⟩ := b2_ok h3
        simp only [hu, hkk]; exact e_mapUpdate_ok hs (evA_ok ht h4) (evA_ok ht h5) (evA_ok ht h2) h6 (hh hr)
      · cases he
    · cases he
  · split at he
    · rename_i hu
      obtain ⟨a, h2, h3⟩ := b1_ok he
      simp only [hu]; exact e_range_ok hs (evA_ok ht h2) h3 hk
    · cases he
  · obtain ⟨a, h2, h3⟩ := b1_ok he
    exact e_next_ok hs (evA_ok ht h2) h3 hk
  · obtain ⟨v, h1, hr⟩ := rV_ok he
    obtain ⟨a, h2, h3⟩ := b1_ok h1
    exact e_entry_ok hs (evA_ok ht h2) h3 (hv hr)
  · split at he
    · rename_i v hv'
      obtain ⟨u, h1, hr⟩ := rV_ok he
      exact e_extract_ok (evO_ok ht hv') h1 (hv hr)
    · cases he
  · exact e_call_ok hC hY hs ht he hk
  · cases he
end
end
end Go.Proofs.YtjdhldfeflmneaaGreat.AM
