/-
  Regions that draw their order, for the executor: the operations are run in one order, and it is looked at that each other order comes to the same.
-/
import Derived.Test.YtjdhldfeflmneaaGreatX4
set_option linter.unusedSimpArgs false
set_option linter.unusedVariables false
namespace Go.Proofs.YtjdhldfeflmneaaGreat.AM
noncomputable section

def gv (ops : Array Oper) (j : Nat) (t : XT) : Option XV :=
  match ops with
  | ⟨l⟩ => match l[j]? with
    | some o => (match o.dst with | some d => t.get d | none => some uX)
    | none => some uX
def xput (t : XT) (d : Option Tmp) (v : XV) : XT := match d with | some d => t.set d v | none => t
def e_val (P : Program) (C : CallF) (Y : YieldF) (ops : Array Oper) (o : Oper) (t : XT) (h : EH) (n : Nat) : Res :=
  match o.guard with
  | none => e_op P C Y o.op t h n
  | some (j, want) => (match gv ops j t with
    | some (.a (.c (.bool b))) => bif b == want then e_op P C Y o.op t h n else some (uX, h, n)
    | some (.tup _) => some (uX, h, n)
    | _ => none)

section
variable {P : Program} {C : CallF} {Y : YieldF} {ops : Array Oper}
theorem gv_ok {ρ : Ren} {ops : Array Oper} {j : Nat} {t : XT} {T : T} {x : XV} (ht : TR ρ t T) (he : gv ops j t = some x) : RV ρ x (guardVal ops j T) := by
  obtain ⟨l⟩ := ops
  unfold gv at he
  unfold guardVal
  simp only at he
  have e : ((⟨l⟩ : Array Oper)[j]?) = l[j]? := by simp
  rw [e]
  cases hl : l[j]? with
  | none => rw [hl] at he; cases he; exact .tup .nil
  | some o =>
    rw [hl] at he
    simp only [Option.bind_some] at he ⊢
    cases hd : o.dst with
    | none => rw [hd] at he; cases he; exact .tup .nil
    | some d => rw [hd] at he; exact ht _ _ he
theorem TR.put {ρ : Ren} {t : XT} {T : T} (ht : TR ρ t T) {d : Option Tmp} {x : XV} {v : Value} (hv : RV ρ x v) : TR ρ (xput t d x) (tput T d v) := by
  cases d with
  | none => exact ht
  | some d =>
    intro i u hu
    simp only [xput, XT.get_set] at hu
    simp only [tput, tset]
    by_cases e : i = d
    · subst e
      rw [if_pos rfl] at hu; cases hu
      rw [Nat.beq_refl, cond_true]; exact hv
    · rw [if_neg e] at hu
      have : Nat.beq i d = false := Bool.eq_false_iff.2 fun h => e (Nat.eq_of_beq_eq_true h)
      rw [this, cond_false]; exact ht _ _ hu
theorem tput_N {T : T} {N : Nat} {d : Option Tmp} {v : Value} (hd : (match d with | some d => Nat.blt d N | none => true) = true) : tput T d v N = T N := by
  cases d with
  | none => rfl
  | some d =>
    have := blt_iff.1 hd
    simp only [tput, tset]
    have : Nat.beq N d = false := Bool.eq_false_iff.2 fun h => by have := Nat.eq_of_beq_eq_true h; omega
    rw [this, cond_false]
/-- One operation, with its guard. -/
theorem e_val_ok (hC : CallOk P C) (hY : YieldOk P Y) {i : Nat} {o : Oper} {t : XT} {T : T} {eh : EH} {n : Nat} {h : H} {F : H} {ρ : Ren} {r : XV × EH × Nat} {K : AM.T → H → Prop}
    (ho : ops[i]? = some o) (hs : XSim F ρ n eh h) (ht : TR ρ t T) (he : e_val P C Y ops o t eh n = some r)
    (hk : ∀ ρ' v' h', ρ.le ρ' → XSim F ρ' r.2.2 r.2.1 h' → RV ρ' r.1 v' → K (tput T o.dst v') h') : aStep P ops i K T h := by
  have hop : e_op P C Y o.op t eh n = some r → aop P o.op (aev T) h fun v h => K (tput T o.dst v) h := fun hv => e_op_ok hC hY hs ht hv fun ρ' v' h' hl hs' hv' => hk ρ' v' h' hl hs' hv'
  have hskip : r = (uX, eh, n) → K (tput T o.dst undef) h := by
    intro hr
    subst hr
    exact hk ρ undef h (Ren.le_refl ρ) hs undef_rv
  unfold aStep
  rw [ho]
  simp only
  unfold e_val at he
  split at he
  · rename_i hg
    simp only [hg]
    exact hop he
  · rename_i j want hg
    simp only [hg]
    split at he
    · rename_i b hb
      have hgv := gv_ok ht hb
      cases hgv with
      | a hgv =>
        have e := hgv.toC.self_eq rfl
        rw [e]
        unfold o_guard
        simp only
        cases hbw : b == want
        · rw [hbw, cond_false] at he
          rw [cond_false]
          cases he; exact hskip rfl
        · rw [hbw, cond_true] at he
          rw [cond_true]
          exact hop he
    · rename_i l hb
      cases he
      have hgv := gv_ok ht hb
      generalize guardVal ops j T = gvv at hgv
      cases hgv with
      | tup hgv => exact hskip rfl
    · cases he

/-! ### Temporaries that an operation looks at -/
def onlyL (t : XT) : List Tmp → List (Nat × XV)
  | [] => []
  | d :: l => match t.get d with
    | some v => (d, v) :: onlyL t l
    | none => onlyL t l
def bigMask : Nat := 2 ^ 4096 - 1
def onlyT (t : XT) (l : List Tmp) : XT := ⟨bigMask, onlyL t l, .nil⟩
theorem onlyL_get {t : XT} {d : Nat} {v : XV} : ∀ {l : List Tmp}, assocGet (onlyL t l) d = some v → d ∈ l ∧ t.get d = some v
  | [], h => by simp [onlyL, assocGet_nil] at h
  | x :: l, h => by
    simp only [onlyL] at h
    split at h
    · rename_i u hu
      rw [assocGet_cons] at h
      cases hb : Nat.beq x d
      · rw [hb, bc_false] at h
        obtain ⟨h1, h2⟩ := onlyL_get h
        exact ⟨.tail _ h1, h2⟩
      · rw [hb, bc_true] at h; cases h
        have := Nat.eq_of_beq_eq_true hb
        subst this
        exact ⟨.head _, hu⟩
    · obtain ⟨h1, h2⟩ := onlyL_get h
      exact ⟨.tail _ h1, h2⟩
theorem onlyT_get {t : XT} {d : Nat} {v : XV} {l : List Tmp} (h : (onlyT t l).get d = some v) : d ∈ l ∧ t.get d = some v := by
  simp only [onlyT, XT.get, XT.sel] at h
  cases hb : bitAt bigMask d
  · rw [hb] at h; cases h
  · rw [hb] at h; exact onlyL_get h

/-! ### Kinds of operations -/
def lightOp (P : Program) (op : Op) : Bool :=
  match op with
  | .move _ | .assign _ | .pick _ _ _ | .nilCheck _ | .binOp _ _ _ _ _ | .unOp _ _ _ | .fieldAddr _ _ _ | .field _ _ _ | .indexAddr _ _ _ | .index _ _ _ | .extract _ _
  | .load _ _ | .lookup _ _ _ _ | .build _ _ | .makeInterface _ _ | .makeFunc _ _ _ | .slice _ _ _ _ _ | .entry _ => true
  | .convert s d _ => (match P.underlying d, P.underlying s with
    | some (.int _), some (.int _) => true
    | some .string, _ => true
    | _, _ => false)
  | .call c => (match c.callee with
    | .builtin .len | .builtin .min | .builtin .max => true
    | _ => false)
  | _ => false
/-- No memory is looked at. -/
def pureOp (P : Program) (op : Op) : Bool :=
  match op with
  | .move _ | .assign _ | .pick _ _ _ | .nilCheck _ | .binOp _ _ _ _ _ | .unOp _ _ _ | .fieldAddr _ _ _ | .field _ _ _ | .indexAddr _ _ _ | .index _ _ _ | .extract _ _
  | .build _ _ | .makeInterface _ _ | .makeFunc _ _ _ => true
  | .convert s d _ => (match P.underlying d, P.underlying s with
    | some (.int _), some (.int _) => true
    | _, _ => false)
  | _ => false
/-- The making of a block: of which cells, and what is handed back. -/
def floatOp (P : Program) (op : Op) (t : XT) : Option (R × TypeId × (Nat → XV)) :=
  match op with
  | .alloc E => (match zeroX P E with | some z => some (z.cellsR, E, fun n => .a (.c (.pointer (some ⟨n, 0, none⟩)))) | none => none)
  | .box E x => b1 t x fun x => some (x.cellsR, E, fun n => .a (.c (.pointer (some ⟨n, 0, none⟩))))
  | .buildSlice ty m ps => (match evP t ps.toList with
    | some l => (match litR P ty m l with | some (r, e) => some (r, e, fun n => .a (.c (.slice (some ⟨n, 0, none⟩) m m))) | none => none)
    | none => none)
  | _ => none
theorem rV_light {x : Option XV} {eh : EH} {n : Nat} {r : XV × EH × Nat} (he : rV x eh n = some r) : r.2.1 = eh ∧ r.2.2 = n := by
  obtain ⟨v, _, rfl⟩ := rV_ok he; exact ⟨rfl, rfl⟩
theorem e_op_light {op : Op} {t : XT} {eh : EH} {n : Nat} {r : XV × EH × Nat} (hl : lightOp P op = true) (he : e_op P C Y op t eh n = some r) : r.2.1 = eh ∧ r.2.2 = n := by
  cases op <;> simp only [lightOp, Bool.false_eq_true] at hl <;> simp only [e_op] at he
  · exact rV_light he
  · exact rV_light he
  · split at he
    · exact rV_light he
    · cases he
  · split at he
    · exact rV_light he
    · cases he
  · split at he
    · exact rV_light he
    · cases he
  · exact rV_light he
  · exact rV_light he
  · exact rV_light he
  · split at he
    · exact rV_light he
    · exact rV_light he
    · split at he
      · exact rV_light he
      · cases he
    · rename_i hd hsr
      simp only [hd, hsr, Bool.false_eq_true] at hl
    · rename_i hd hsr
      simp only [hd, hsr, Bool.false_eq_true] at hl
    · cases he
  · exact rV_light he
  · split at he
    · exact rV_light he
    · cases he
  · split at he
    · split at he
      · split at he
        · exact rV_light he
        · cases he
      · split at he
        · exact rV_light he
        · cases he
      · split at he
        · exact rV_light he
        · cases he
      · cases he
    · cases he
  · split at he
    · rename_i off ft hf
      cases hb : Nat.beq (szOf P ft) 0
      · rw [hb, cond_false] at he; exact rV_light he
      · rw [hb] at he; cases he
    · cases he
  · split at he
    · split at he
      · exact rV_light he
      · cases he
    · cases he
  · split at he
    · split at he
      · exact rV_light he
      · cases he
    · split at he
      · exact rV_light he
      · cases he
    · cases he
  · split at he
    · split at he
      · exact rV_light he
      · cases he
    · exact rV_light he
    · cases he
  · split at he
    · split at he
      · exact rV_light he
      · cases he
    · cases he
  · exact rV_light he
  · split at he
    · exact rV_light he
    · cases he
  · rename_i c
    unfold e_call at he
    split at he <;> rename_i hc
    · simp only [hc, Bool.false_eq_true] at hl
    · simp only [hc, Bool.false_eq_true] at hl
    · rename_i b
      simp only [hc] at hl
      unfold e_builtin at he
      split at he <;> try (exact absurd hl (by decide))
      · split at he
        · exact rV_light he
        · exact rV_light he
        · exact rV_light he
        · cases he; exact ⟨rfl, rfl⟩
        · cases he
      · exact rV_light he
      · exact rV_light he
      · cases he
    · cases he
theorem rV_at {x : Option XV} {eh : EH} {n : Nat} {r : XV × EH × Nat} (he : rV x eh n = some r) (eh2 : EH) (n2 : Nat) : rV x eh2 n2 = some (r.1, eh2, n2) := by
  obtain ⟨v, rfl, rfl⟩ := rV_ok he; rfl
theorem e_op_pure {op : Op} {t : XT} {eh : EH} {n : Nat} {r : XV × EH × Nat} (hl : pureOp P op = true) (he : e_op P C Y op t eh n = some r) (eh2 : EH) (n2 : Nat) : e_op P C Y op t eh2 n2 = some (r.1, eh2, n2) := by
  cases op <;> simp only [pureOp, Bool.false_eq_true] at hl <;> simp only [e_op] at he ⊢
  · exact rV_at he _ _
  · exact rV_at he _ _
  · split at he
    · exact rV_at he _ _
    · cases he
  · split at he
    · exact rV_at he _ _
    · cases he
  · exact rV_at he _ _
  · exact rV_at he _ _
  · exact rV_at he _ _
  · split at hl
    · rename_i hd hs
      simp only [hd, hs] at he ⊢
      exact rV_at he _ _
    · cases hl
  · exact rV_at he _ _
  · split at he
    · exact rV_at he _ _
    · cases he
  · split at he
    · rename_i off ft hf
      cases hb : Nat.beq (szOf P ft) 0
      · rw [hb, cond_false] at he; simp only [hb, cond_false]; exact rV_at he _ _
      · rw [hb] at he; cases he
    · cases he
  · split at he
    · split at he
      · exact rV_at he _ _
      · cases he
    · cases he
  · split at he
    · split at he
      · exact rV_at he _ _
      · cases he
    · split at he
      · exact rV_at he _ _
      · cases he
    · cases he
  · split at he
    · split at he
      · exact rV_at he _ _
      · cases he
    · exact rV_at he _ _
    · cases he
  · split at he
    · exact rV_at he _ _
    · cases he
theorem e_op_float {op : Op} {t : XT} {eh : EH} {n : Nat} {r : XV × EH × Nat} {q : R × TypeId × (Nat → XV)} (hf : floatOp P op t = some q) (he : e_op P C Y op t eh n = some r) :
    r = (q.2.2 n, eh.set n (.cells q.1 q.2.1 .exact), n + 1) := by
  cases op <;> simp only [floatOp] at hf <;> try (cases hf; done)
  · simp only [e_op, e_alloc] at he
    split at hf
    · rename_i z hz
      cases hf
      rw [hz] at he; cases he; rfl
    · cases hf
  · simp only [e_op] at he
    obtain ⟨a, h1, h2⟩ := b1_ok he
    obtain ⟨b, h3, h4⟩ := b1_ok hf
    rw [h1] at h3; cases h3
    cases h4; cases h2; rfl
  · simp only [e_op] at he
    split at hf
    · rename_i l hl
      rw [hl] at he
      split at hf
      · rename_i rr e hr
        cases hf
        simp only [e_buildSlice, hr] at he
        cases he; rfl
      · cases hf
    · cases hf
/-- What the making of a block comes to over the abstract memory. -/
theorem floatOp_ok {op : Op} {t : XT} {T : T} {ρ : Ren} {q : R × TypeId × (Nat → XV)} {h : H} {K : Value → H → Prop} (ht : TR ρ t T) (hf : floatOp P op t = some q)
    (hk : ∀ cs, All2 (RC ρ) q.1.toL cs → ∀ b, 2 ≤ b → h b = none → ∀ v, (∀ ρ' n τ, ρ' n = some (b, τ) → RV ρ' (q.2.2 n) v) → K v (upd h b (.cells cs q.2.1 .exact))) : aop P op (aev T) h K := by
  cases op <;> simp only [floatOp] at hf <;> try (cases hf; done)
  · split at hf
    · rename_i z hz
      cases hf
      obtain ⟨z', h1, h2⟩ := zeroX_ok (ρ := ρ) hz
      simp only [aop, h1]
      exact fun b hb2 hb => hk _ h2.cells b hb2 hb _ fun ρ' n τ hn => .a (.c (.s (.ptr hn)))
    · cases hf
  · obtain ⟨x, h1, h2⟩ := b1_ok hf
    cases h2
    have hx := evA_ok ht h1
    exact ⟨hx.boxV, fun b hb2 hb => hk _ hx.cells b hb2 hb _ fun ρ' n τ hn => .a (.c (.s (.ptr hn)))⟩
  · split at hf
    · rename_i l hl
      split at hf
      · rename_i rr e hr
        cases hf
        obtain ⟨cs, h1, h2⟩ := litR_ok (evP_ok ht hl) hr
        simp only [aop, o_buildSlice, h1]
        exact fun b hb2 hb => hk _ h2 b hb2 hb _ fun ρ' n τ hn => .a (.c (.s (.slice hn)))
      · cases hf
    · cases hf
end
end
end Go.Proofs.YtjdhldfeflmneaaGreat.AM
