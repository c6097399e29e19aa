import Derived.Test.YtcohcmlidmaaoaaGreatM8b
/-
  A call that was run once, from its arguments alone: what it came to serves wherever the same arguments come, under other names.
-/
set_option linter.unusedSimpArgs false
set_option linter.unusedVariables false
namespace Go.Proofs.YtcohcmlidmaaoaaGreat.AM
noncomputable section
/-! ### Names turned -/
def renS (θ : Nat → Nat) : Value → Value
  | .pointer (some ⟨b, o, none⟩) => .pointer (some ⟨θ b, o, none⟩)
  | .slice (some ⟨b, o, none⟩) n c => .slice (some ⟨θ b, o, none⟩) n c
  | .map (some b) => .map (some (θ b))
  | v => v
section
variable {ρ ρ' : Ren} {θ : Nat → Nat} (hθ : ∀ b x, ρ b = some x → ρ' (θ b) = some x)
include hθ
end
abbrev AS := List (Nat × Nat)
def bindN (nL : Nat) (a : AS) (b c : Nat) : Option AS :=
  match assocGet a b with
  | some c' => bc (Nat.beq c' c) (some a) none
  | none => bc (Nat.blt b nL) (some ((b, c) :: a)) none
def AS.lo (a : AS) (nL : Nat) : Prop := ∀ b c, assocGet a b = some c → b < nL
def matchS (nL : Nat) (a : AS) (v w : Value) : Option AS :=
  match v, w with
  | .pointer (some ⟨b, o, none⟩), .pointer (some ⟨c, o', none⟩) => bc (Nat.beq o o') (bindN nL a b c) none
  | .slice (some ⟨b, o, none⟩) n k, .slice (some ⟨c, o', none⟩) n' k' => bc (Nat.beq o o') (bc (Nat.beq n n') (bc (Nat.beq k k') (bindN nL a b c) none) none) none
  | .map (some b), .map (some c) => bindN nL a b c
  | .map none, .map none => some a
  | v, w => bc (sameC v w) (some a) none
def matchL (nL : Nat) : AS → List Value → List Value → Option AS
  | a, [], [] => some a
  | a, v :: l, w :: m => (match matchS nL a v w with | some a => matchL nL a l m | none => none)
  | _, _, _ => none
def matchA (nL : Nat) (a : AS) (x y : XA) : Option AS :=
  match x, y with
  | .c v, .c w => matchS nL a v w
  | .agg r, .agg s => matchL nL a r.toL s.toL
  | _, _ => none
def ownEq (a b : Own) : Bool := match a, b with | .ro, .ro | .exact, .exact | .open, .open => true | _, _ => false
def matchEs (nL : Nat) : AS → List (Value × XA) → List (Value × XA) → Option AS
  | a, [], [] => some a
  | a, v :: l, w :: m => bc (keyEqF v.1 w.1) (match matchA nL a v.2 w.2 with | some a => matchEs nL a l m | none => none) none
  | _, _, _ => none
def matchO (nL : Nat) (a : AS) (o o' : EO) : Option AS :=
  match o, o' with
  | .cells r E m, .cells r' E' m' => bc (Nat.beq E E') (bc (ownEq m m') (matchL nL a r.toL r'.toL) none) none
  | .map kk es c, .map kk' es' c' => bc (kkEq kk kk') (bc (Nat.beq c c') (matchEs nL a es es') none) none
  | _, _ => none
structure LQ where
  f : Nat
  args : List XA
  inp : List (Nat × EO)
  n : Nat
  v : XV
  objs : List (Nat × EO)
  n' : Nat
def mkEH : List (Nat × EO) → EH
  | [] => .nil
  | p :: l => (mkEH l).set p.1 p.2
def pickR (r : Res) (bs : List Nat) : Option (XV × List (Option EO) × Nat) := match r with | some (v, eh, n) => some (v, bs.map fun b => eh.get b, n) | none => none
structure LQ.Ok (C : CallF) (q : LQ) : Prop where
  two' : Nat.ble 2 q.n = true
  nm : q.inp.map (·.1) = List.range' 2 (q.n - 2)
  run : pickR (C q.f q.args (mkEH q.inp) q.n) (q.objs.map (·.1)) = some (q.v, q.objs.map (fun p => some p.2), q.n')
theorem mkEH_get {c : Nat} {o : EO} : ∀ {l : List (Nat × EO)}, (mkEH l).get c = some o → (c, o) ∈ l
  | [], h => by rw [mkEH, Tr.get_nil] at h; cases h
  | p :: l, h => by
    rw [mkEH, Tr.get_set] at h
    split at h
    · rename_i he
      cases h; subst he; exact .head _
    · exact .tail _ (mkEH_get h)
def orR (a : Res) (b : Res) : Res := @Option.rec (XV × EH × Nat) (fun _ => Res) b (fun r => some r) a
def orS (S S' : CallF) : CallF := fun g args eh n => orR (S g args eh n) (S' g args eh n)
theorem orS_ok {P : Program} {S S' : CallF} (h : CallOk P S) (h' : CallOk P S') : CallOk P (orS S S') := by
  intro f args eh n r he
  unfold orS at he
  cases hs : S f args eh n with
  | none => rw [hs] at he; exact h' f args eh n r he
  | some x => rw [hs] at he; exact h f args eh n r (hs.trans he)
abbrev I (k : IntKind) (z : Int) : Value := .int k z
abbrev Pt (b o : Nat) : Value := .pointer (some ⟨b, o, none⟩)
abbrev Ls (b o n c : Nat) : Value := .slice (some ⟨b, o, none⟩) n c
end
end Go.Proofs.YtcohcmlidmaaoaaGreat.AM
/-
  maps.Clone over the abstract memory, and for the executor.
-/
namespace Go.Proofs.YtcohcmlidmaaoaaGreat.AM
open Go.RowKit
section
variable {P : Program}
end
end Go.Proofs.YtcohcmlidmaaoaaGreat.AM
/-
  A loop that copies the pages of a map into another map: in whatever order they come; for the executor.
-/
namespace Go.Proofs.YtcohcmlidmaaoaaGreat.AM
noncomputable section
section
variable {F : H} {ρ : Ren} {n : Nat} {eh : EH} {h : H}
theorem XSim.name (hs : XSim F ρ n eh h) {b' : Nat} (h2 : 2 ≤ b') (τ : LObj) : ρ.le (fun b => if b = n then some (b', τ) else ρ b) ∧ XSim F (fun b => if b = n then some (b', τ) else ρ b) (n + 1) eh h := by
  have hn := hs.top n (Nat.le_refl n)
  have hle : ρ.le (fun b => if b = n then some (b', τ) else ρ b) := by
    intro b x hx
    have : b ≠ n := by rintro rfl; rw [hn] at hx; cases hx
    simp only [if_neg this]; exact hx
  have h22 := hs.n2
  have low : ∀ b o, eh.get b = some o → isDead o = false → b ≠ n := by
    rintro b o hb hd rfl
    obtain ⟨b', t, o', h1, _⟩ := hs.obj b o hb hd
    rw [hn] at h1; cases h1
  refine ⟨hle, ⟨?_, ?_, ?_, ?_, by omega, ?_, ?_, hs.fr, ?_⟩⟩
  · obtain ⟨t, ht⟩ := hs.z0; exact ⟨t, hle _ _ ht⟩
  · obtain ⟨t, ht⟩ := hs.z1; exact ⟨t, hle _ _ ht⟩
  · intro b c t hb2 hc
    by_cases e : b = n
    · simp only [if_pos e, Option.some.injEq, Prod.mk.injEq] at hc; omega
    · simp only [if_neg e] at hc; exact hs.two _ _ _ hb2 hc
  · intro b hb
    simp only [if_neg (show b ≠ n by omega)]
    exact hs.top b (by omega)
  · intro b q hq hqd
    obtain ⟨c, t, p, h1, h3, h4⟩ := hs.obj b q hq hqd
    exact ⟨c, t, p, hle _ _ h1, h3, h4.mono hle⟩
  · intro b c q q' x t t' hq hqd hq' hqd' hx hx'
    simp only [if_neg (low _ _ hq hqd)] at hx
    simp only [if_neg (low _ _ hq' hqd')] at hx'
    exact hs.inj _ _ _ _ _ _ _ hq hqd hq' hqd' hx hx'
  · intro b q x t hq hqd hx
    simp only [if_neg (low _ _ hq hqd)] at hx
    exact hs.fsep _ _ _ _ hq hqd hx
theorem XSim.put (hs : XSim F ρ n eh h) {b b' : Nat} {τ : LObj} {o : EO} {o' : AObj} (hb : ρ b = some (b', τ)) (hh : h b' = some o') (ho : RO ρ τ o o') (hF : F b' = none)
    (hinj : ∀ c p t, c ≠ b → eh.get c = some p → isDead p = false → ρ c = some (b', t) → False) : XSim F ρ n (eh.set b o) h := by
  refine ⟨hs.z0, hs.z1, hs.two, hs.top, hs.n2, ?_, ?_, hs.fr, ?_⟩
  · intro c p hp hpd
    rw [Tr.get_set] at hp
    by_cases e : c = b
    · rw [if_pos e] at hp; cases hp
      subst e
      exact ⟨b', τ, o', hb, hh, ho⟩
    · rw [if_neg e] at hp
      exact hs.obj c p hp hpd
  · intro c d p r x t t' hp hpd hr hrd hx hx'
    rw [Tr.get_set] at hp hr
    by_cases e : c = b <;> by_cases e' : d = b
    · omega
    · rw [if_neg e'] at hr
      subst e
      rw [hb] at hx; cases hx
      exact (hinj _ _ _ e' hr hrd hx').elim
    · rw [if_neg e] at hp
      subst e'
      rw [hb] at hx'; cases hx'
      exact (hinj _ _ _ e hp hpd hx).elim
    · rw [if_neg e] at hp
      rw [if_neg e'] at hr
      exact hs.inj _ _ _ _ _ _ _ hp hpd hr hrd hx hx'
  · intro c p x t hp hpd hx
    rw [Tr.get_set] at hp
    by_cases e : c = b
    · subst e
      rw [hb] at hx; cases hx; exact hF
    · rw [if_neg e] at hp; exact hs.fsep _ _ _ _ hp hpd hx
end
theorem nilp {a : Addr} {K : Value → Prop} : o_nilCheck (.pointer (some a)) K = K (.pointer (some a)) := rfl
theorem filter_less {l : List Value} {p : Value → Bool} (h : l.any p = true) : (l.filter fun k => !p k).length < l.length := by
  induction l with
  | nil => cases h
  | cons a l ih =>
    simp only [List.any_cons, Bool.or_eq_true] at h
    simp only [List.filter_cons]
    cases hp : p a
    · rw [hp] at h
      simp only [Bool.not_false, if_true, List.length_cons]
      have := ih (by simpa using h)
      omega
    · simp only [Bool.not_true, if_false, List.length_cons]
      exact Nat.lt_succ_of_le (List.length_filter_le _ _)
def cellX (eh : EH) (b o : Nat) : Option Value := match eh.get b with | some (.cells r _ _) => r.get o | _ => none
section
variable {F : H} {ρ : Ren} {n : Nat} {eh : EH} {h : H}
theorem cellX_of {b b' o : Nat} {t : LObj} {v : Value} (hs : XSim F ρ n eh h) (hb : ρ b = some (b', t)) (he : cellX eh b o = some v) : ∃ v', AM.cellAt h b' o = some v' ∧ RC ρ v v' := by
  unfold cellX at he
  split at he
  · rename_i r E w hg
    obtain ⟨cs, h1, h2⟩ := hs.cells hg hb
    rw [R.get_eq] at he
    obtain ⟨v', h3, h4⟩ := h2.get he
    exact ⟨v', by rw [cellAt_of h1]; exact h3, h4⟩
  · cases he
theorem RM.dist {es : List (Value × XA)} {es' : List (Value × Value)} (h : RM ρ es es') : Dist es' := by
  obtain ⟨_, _, _, h⟩ := h
  exact h
end
end
end Go.Proofs.YtcohcmlidmaaoaaGreat.AM
